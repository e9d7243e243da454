import Derived.Test.YtoeakcfbnkndbaaX2
import Derived.Test.YtoeakcfbnkndbaaO
namespace Go.Proofs.Ytoeakcfbnkndbaa
open Go.RowKit Go.Maps

theorem flat_at : ∀ (pr : List Int) (i f : Nat), i < pr.length → f < 13 → (pr.flatMap pcells)[i * 13 + f]? = (pcells (pr.getD i 0))[f]?
  | [], i, f, hi, _ => by simp at hi
  | p :: r, 0, f, _, hf => by
    rw [List.flatMap_cons, List.getElem?_append_left (by simp [pcells]; omega)]
    simp
  | p :: r, i + 1, f, hi, hf => by
    rw [List.flatMap_cons, List.getElem?_append_right (by simp [pcells]; omega)]
    have e : (i + 1) * 13 + f - (pcells p).length = i * 13 + f := by simp [pcells]; omega
    rw [e, flat_at r i f (by simpa using hi) hf]
    simp

/-- Processes that nobody has started. -/
def ps0 (pr : List Int) : Nat → PC := fun i => ⟨pr.getD i 0, 0, 0, 0, 0⟩

theorem pcells_at (p : Int) (f : Nat) (hf : f < 13) : (pcells p)[f]? = some ((⟨p, 0, 0, 0, 0⟩ : PC).at f) := by
  match f, hf with
  | 0, _ => rfl
  | 1, _ => rfl
  | 2, _ => rfl
  | 3, _ => rfl
  | 4, _ => rfl
  | 5, _ => rfl
  | 6, _ => rfl
  | 7, _ => rfl
  | 8, _ => rfl
  | 9, _ => rfl
  | 10, _ => rfl
  | 11, _ => rfl
  | 12, _ => rfl

theorem TabAt.tbl {w w' : World} {pr : List Int} (h : TabAt w w' pr pr.length) (h0 : 0 < pr.length) : ∃ tb cap, Tbl w' w.heap.size tb cap pr.length (praw (ps0 pr)) ∧ w.heap.size < tb ∧ tb < w'.heap.size := by
  obtain ⟨v, hT, ho, hbel⟩ := h
  rcases ho.2 with ⟨_, hn⟩ | ⟨g, cap, cur, rfl, hB, hg, hc, hm, hs, ht⟩
  · omega
  · refine ⟨g, cap, ⟨hT, ⟨cur, hg, ?_⟩, by omega⟩, by omega, (Array.getElem?_eq_some_iff.1 hg).1⟩
    intro k u hk
    unfold tc at hk
    split at hk
    · rename_i hlt
      cases hk
      rw [List.take_length] at ht
      have h1 := flat_at pr (k / 13) (k % 13) (by omega) (by omega)
      rw [show k / 13 * 13 + k % 13 = k by omega, ← ht, List.getElem?_take, pcells_at _ _ (by omega)] at h1
      rw [if_pos (by omega)] at h1
      rw [← Array.getElem?_toList, h1]
      rfl
    · cases hk

set_option maxRecDepth 100000 in
set_option maxHeartbeats 800000 in
theorem rnew_any (w : World) : Calls Try.prog 20 #[] w fun e w' => e = .returned (.pointer (some ⟨w.heap.size, 0, none⟩)) ∧ Below w.heap.size w w' ∧ Blk w' w.heap.size 93 (lcells (fun _ => .slice none 0 0) 0) ∧ w.heap.size < w'.heap.size := by
  go_enter Try.func20, Try.ntmps20
  go_wp2
  go_ret
  refine ⟨rfl, Upd.toBelow (by with_reducible (repeat (first | refine Upd.alloc ?_ _ | refine Upd.drew ?_ | exact Upd.refl _ _))), ⟨(List.replicate 64 (Value.slice none 0 0) ++ [Value.int .u64 0]).toArray, heap_alloc_new w _, ?_⟩, by simp⟩
  intro k v hk
  unfold lcells at hk
  rw [List.getElem?_toArray]
  by_cases e : k < 64
  · rw [if_pos e] at hk
    rw [List.getElem?_append_left (by simpa using e), List.getElem?_replicate, if_pos e, hk]
  · rw [if_neg e] at hk
    by_cases e2 : k = 64
    · subst e2
      simpa using hk
    · rw [if_neg e2] at hk
      cases hk

set_option maxRecDepth 100000 in
set_option maxHeartbeats 800000 in
theorem qnew_any (w : World) : Calls Try.prog 21 #[] w fun e w' => e = .returned (.pointer (some ⟨w.heap.size, 0, none⟩)) ∧ Below w.heap.size w w' ∧ Blk w' w.heap.size 96 qcells ∧ w.heap.size < w'.heap.size := by
  go_enter Try.func21, Try.ntmps21
  go_wp2
  go_ret
  refine ⟨rfl, Upd.toBelow (by with_reducible (repeat (first | refine Upd.alloc ?_ _ | refine Upd.drew ?_ | exact Upd.refl _ _))), ⟨_, heap_alloc_new w _, ?_⟩, by simp⟩
  intro k v hk
  unfold qcells at hk
  by_cases e : k = 0
  · subst e; simpa using hk
  · simp [e] at hk

/-- No ids yet. -/
def nilV : Nat → Value := fun _ => .slice none 0 0
def nilX : Nat → List Int := fun _ => []

theorem fam_nil (w : World) (B : Nat) : Fam w B nilV nilX := ⟨fun p _ => World.ownsRow_nil _ _ _ _, fun p q k _ _ h => by simp [nilV, Value.ownBlock] at h⟩

theorem rdy_nil {w : World} {B R : Nat} (h : Blk w R 93 (lcells (fun _ => .slice none 0 0) 0)) (hB : R < B) : Rdy w B R nilV nilX 0 :=
  ⟨h, fam_nil w B, fun p => by simp [nilX], hB⟩

/-- A new dispatcher, whatever is made behind it. -/
def NewDis (w : World) (pr : List Int) (e : Ending) (w' : World) : Prop :=
  ∃ D T tb cap R Q, e = .returned (.tuple #[.pointer (some ⟨D, 0, none⟩), .int .i64 0]) ∧ Below w.heap.size w w' ∧
    w.heap.size ≤ D ∧ w.heap.size ≤ T ∧ w.heap.size ≤ tb ∧ w.heap.size ≤ R ∧ w.heap.size ≤ Q ∧
    ∀ w'' B, Below w'.heap.size w' w'' → w'.heap.size ≤ B → B ≤ w''.heap.size → Dis w'' ⟨D, T, tb, cap, R, Q, pr.length, B⟩ nilV nilX (ps0 pr) 0

set_option maxRecDepth 100000 in
set_option maxHeartbeats 800000 in
theorem dnew_ok {w : World} {g c : Nat} {pr : List Int} (h : Attrs w g pr) (h0 : 0 < pr.length) (hl : pr.length ≤ 16) (hok : fineP pr) :
    Calls Try.prog 6 #[.slice (some ⟨g, 0, none⟩) pr.length c] w (NewDis w pr) := by
  have HP : Hid (Calls Try.prog 19 #[.slice (some ⟨g, 0, none⟩) pr.length c] w fun e w' => e = .returned (.tuple #[.pointer (some ⟨w.heap.size, 0, none⟩), .int .i64 0]) ∧ TabAt w w' pr pr.length) :=
    Lib.hid ((pnew_any (c := c) h h0 hl pr.length (Nat.le_refl _) hok (fun hh => absurd hh (Nat.lt_irrefl _))).mono (fun e w' hh => by
      rcases hh with ⟨_, h1, h2⟩ | ⟨h1, _⟩
      · exact ⟨h1, h2⟩
      · omega))
  clear hok h
  go_enter Try.func6, Try.ntmps6
  go_wp2_with (first
    | (go_at_call 19; refine HP.out.mono ?_; rintro e w1 ⟨rfl, ht⟩)
    | (go_at_call 20; refine (rnew_any _).mono ?_; rintro e w2 ⟨rfl, hb2, hR, hR2⟩)
    | (go_at_call 21; refine (qnew_any _).mono ?_; rintro e w3 ⟨rfl, hb3, hQ, hQ2⟩))
  go_ret2
  obtain ⟨tb, cap, htb, l1, l2⟩ := ht.tbl h0
  obtain ⟨_, _, _, hb1⟩ := ht
  have s1 := hb1.size
  have s2 := hb2.size
  have s3 := hb3.size
  have hb4 : Below w3.heap.size w3 (w3.alloc (.cells #[.pointer (some ⟨w.heap.size, 0, none⟩), .pointer (some ⟨w1.heap.size, 0, none⟩), .pointer (some ⟨w2.heap.size, 0, none⟩)] 68)) := Upd.toBelow ((Upd.refl _ _).alloc _)
  refine ⟨w3.heap.size, w.heap.size, tb, cap, w1.heap.size, w2.heap.size, rfl, ?_, by omega, by omega, by omega, by omega, by omega, ?_⟩
  · exact Upd.toBelow ((((Upd.below NoB hb1).trans (Upd.below _ hb2)).trans (Upd.below _ hb3)).alloc _)
  · intro w'' B hbw hB hB2
    simp only [World.size_alloc] at hB
    refine ⟨?_, ?_, rdy_nil ?_ ?_, ?_, ?_, ?_, ?_, ?_, hB2, ?_⟩
    · refine Blk.below ⟨_, heap_alloc_new w3 _, ?_⟩ hbw
      intro k v hk
      unfold dcells at hk
      by_cases k0 : k = 0
      · subst k0; simpa using hk
      · by_cases k1 : k = 1
        · subst k1; simpa using hk
        · by_cases k2 : k = 2
          · subst k2; simpa using hk
          · simp [k0, k1, k2] at hk
    · exact (((htb.below hb2).below hb3).below hb4).below hbw
    · exact ((hR.below hb3).below hb4).below hbw
    · show w1.heap.size < B; omega
    · exact (hQ.below hb4).below hbw
    · show w3.heap.size < B; omega
    · show w.heap.size < B; omega
    · show tb < B; omega
    · show w2.heap.size < B; omega
    · refine ⟨?_, ?_, ?_, ?_, ?_, ?_⟩ <;> dsimp only <;> omega

set_option maxRecDepth 100000 in
theorem dnew_bad {w : World} {g c : Nat} {pr : List Int} (h : Attrs w g pr) (h0 : 0 < pr.length) (hl : pr.length ≤ 16) (hbad : ¬ fineP pr) :
    Calls Try.prog 6 #[.slice (some ⟨g, 0, none⟩) pr.length c] w fun e w' => e = .returned (.tuple #[.pointer none, .int .i64 2]) ∧ Below w.heap.size w w' := by
  rcases all_or_first (fun j => 1 ≤ pr.getD j 0 ∧ pr.getD j 0 ≤ 63) pr.length with h1 | ⟨p, h1, h2, h3⟩
  · exact absurd h1 hbad
  · have HP : Hid (Calls Try.prog 19 #[.slice (some ⟨g, 0, none⟩) pr.length c] w fun e w' => e = .returned (.tuple #[.pointer none, .int .i64 2]) ∧ Below w.heap.size w w') :=
      Lib.hid ((pnew_any (c := c) h h0 hl p (by omega) h2 (fun _ => h3)).mono (fun e w' hh => by
        rcases hh with ⟨h1, _⟩ | ⟨_, h1, h2⟩
        · omega
        · exact ⟨h1, h2⟩))
    clear hbad h h2 h3
    go_enter Try.func6, Try.ntmps6
    go_wp2_with (go_at_call 19; refine HP.out.mono ?_; rintro e w1 ⟨rfl, hb1⟩)
    go_ret2
    exact ⟨rfl, hb1⟩

/-- The dispatcher of nobody. -/
def Dis0 (w : World) (D R : Nat) : Prop := w.cell? ⟨D, 1, none⟩ = some (.pointer (some ⟨R, 0, none⟩)) ∧ Rdy w w.heap.size R nilV nilX 0

set_option maxRecDepth 100000 in
theorem pnew_none (w : World) (c : Nat) : Calls Try.prog 19 #[.slice none 0 c] w fun e w' => e = .returned (.tuple #[.pointer (some ⟨w.heap.size, 0, none⟩), .int .i64 0]) ∧ Below w.heap.size w w' := by
  go_enter Try.func19, Try.ntmps19
  go_wp2_with fail
  refine wp_loop_rounds 1 ?_
  rw [rounds_succ]
  go_wp2
  go_ret2
  exact ⟨rfl, Upd.toBelow ((Upd.refl _ _).alloc _)⟩

set_option maxRecDepth 100000 in
theorem dnew_none (w : World) (c : Nat) :
    Calls Try.prog 6 #[.slice none 0 c] w fun e w' => Below w.heap.size w w' ∧ ∃ D R, e = .returned (.tuple #[.pointer (some ⟨D, 0, none⟩), .int .i64 0]) ∧ Dis0 w' D R := by
  go_enter Try.func6, Try.ntmps6
  go_wp2_with (first
    | (go_at_call 19; refine (pnew_none _ _).mono ?_; rintro e w1 ⟨rfl, hb1⟩)
    | (go_at_call 20; refine (rnew_any _).mono ?_; rintro e w2 ⟨rfl, hb2, hR, hR2⟩)
    | (go_at_call 21; refine (qnew_any _).mono ?_; rintro e w3 ⟨rfl, hb3, hQ, hQ2⟩))
  go_ret2
  have s1 := hb1.size
  have s2 := hb2.size
  have s3 := hb3.size
  have hb4 : Below w3.heap.size w3 (w3.alloc (.cells #[.pointer (some ⟨w.heap.size, 0, none⟩), .pointer (some ⟨w1.heap.size, 0, none⟩), .pointer (some ⟨w2.heap.size, 0, none⟩)] 68)) := Upd.toBelow ((Upd.refl _ _).alloc _)
  refine ⟨Upd.toBelow ((((Upd.below NoB hb1).trans (Upd.below _ hb2)).trans (Upd.below _ hb3)).alloc _), w3.heap.size, w1.heap.size, rfl, ?_, rdy_nil ((hR.below hb3).below hb4) (by simp; omega)⟩
  have e := heap_alloc_new w3 (.cells #[.pointer (some ⟨w.heap.size, 0, none⟩), .pointer (some ⟨w1.heap.size, 0, none⟩), .pointer (some ⟨w2.heap.size, 0, none⟩)] 68)
  simp only [World.cell?]
  rw [e]
  rfl

end Go.Proofs.Ytoeakcfbnkndbaa

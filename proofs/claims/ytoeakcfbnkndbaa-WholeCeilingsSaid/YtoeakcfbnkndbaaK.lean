import Derived.Test.YtoeakcfbnkndbaaJ
namespace Go.Proofs.Ytoeakcfbnkndbaa
open Go.RowKit

/-- A function with another value at one place. -/
def fset {α : Type} (V : Nat → α) (p : Nat) (v : α) : Nat → α := fun q => if q = p then v else V q

theorem fset_same {α : Type} (V : Nat → α) (p : Nat) (v : α) : fset V p v p = v := if_pos rfl
theorem fset_other {α : Type} (V : Nat → α) {p q : Nat} (v : α) (h : q ≠ p) : fset V p v q = V q := if_neg h

section
variable {w w' : World} {B R : Nat} {V : Nat → Value} {X : Nat → List Int} {s : Nat}

theorem own_same {v : Value} {n : Nat} {xs : List Value} (h : w.ownsRow B 3 1 v n xs) (hb : ∀ k, v.ownBlock = some k → w'.heap[k]? = w.heap[k]?) : w'.ownsRow B 3 1 v n xs := by
  refine ⟨h.1, ?_⟩
  rcases h.2 with hn | ⟨g, cap, cur, rfl, hB, hg, rest⟩
  · exact Or.inl hn
  · exact Or.inr ⟨g, cap, cur, rfl, hB, (hb g rfl).trans hg, rest⟩

theorem Fam.put (h : Fam w B V X) {p : Nat} (hp : p < 80) {v' : Value} {xs' : List Int} (ho : w'.ownsRow B 3 1 v' xs'.length (ints xs')) (hu : Upd (fun b => (V p).ownBlock = some b) w w')
    (hb : ∀ k, v'.ownBlock = some k → (V p).ownBlock = some k ∨ w.heap.size ≤ k) : Fam w' B (fset V p v') (fset X p xs') := by
  have hlt : ∀ q k, q < 80 → (V q).ownBlock = some k → k < w.heap.size := fun q k hq hk => ((h.own q hq).lt k hk).2
  constructor
  · intro q hq
    by_cases e : q = p
    · subst e; rw [fset_same, fset_same]; exact ho
    · rw [fset_other V v' e, fset_other X xs' e]
      refine own_same (h.own q hq) (fun k hk => hu.block k (hlt q k hq hk) (fun hk2 => e (h.apart q p k hq hp hk hk2)))
  · intro q r k hq hr h1 h2
    by_cases e : q = p
    · by_cases e2 : r = p
      · rw [e, e2]
      · subst e
        rw [fset_same] at h1
        rw [fset_other V v' e2] at h2
        rcases hb k h1 with h3 | h3
        · exact h.apart q r k hq hr h3 h2
        · have := hlt r k hr h2; omega
    · by_cases e2 : r = p
      · subst e2
        rw [fset_same] at h2
        rw [fset_other V v' e] at h1
        rcases hb k h2 with h3 | h3
        · exact h.apart q r k hq hr h1 h3
        · have := hlt q k hq h1; omega
      · rw [fset_other V v' e] at h1
        rw [fset_other V v' e2] at h2
        exact h.apart q r k hq hr h1 h2

theorem Fam.upd {F : Nat → Prop} (h : Fam w B V X) (hu : Upd F w w') (hF : ∀ k, B ≤ k → ¬ F k) : Fam w' B V X :=
  ⟨fun p hp => own_same (h.own p hp) (fun k hk => hu.block k ((h.own p hp).lt k hk).2 (hF k ((h.own p hp).lt k hk).1)), h.apart⟩

theorem Fam.alloc (h : Fam w B V X) (o : Obj) : Fam (w.alloc o) B V X := h.upd ((Upd.refl NoB w).alloc o) (fun _ _ hf => hf)

theorem Rdy.lt (h : Rdy w B R V X s) : s < 2 ^ 64 := Nat.lt_pow_two_of_testBit s (fun i hi => by rw [h.bits i]; simp; omega)

theorem Rdy.upd {F : Nat → Prop} (h : Rdy w B R V X s) (hu : Upd F w w') (hF : ∀ k, B ≤ k → ¬ F k) (hR : ¬ F R) : Rdy w' B R V X s :=
  ⟨h.blk.upd hu hR, h.fam.upd hu hF, h.bits, h.low⟩

/-- A row has been written, and noted. -/
theorem Rdy.noted {w1 w2 : World} (h : Rdy w B R V X s) {p : Nat} (hp : p < 64) {a : Option Addr} {c : Nat} {xs' : List Int} (ho : w1.ownsRow B 3 1 (.slice a xs'.length c) xs'.length (ints xs'))
    (hu : Upd (fun b => (V p).ownBlock = some b) w w1) (hb : ∀ k, (Value.slice a xs'.length c).ownBlock = some k → (V p).ownBlock = some k ∨ w.heap.size ≤ k)
    (h2 : Blk w2 R 93 (lcells (fset V p (.slice a xs'.length c)) (nbits xs'.length s p))) (hu2 : Upd (· = R) w1 w2) :
    Rdy w2 B R (fset V p (.slice a xs'.length c)) (fset X p xs') (nbits xs'.length s p) ∧ Upd (fun b => b = R ∨ B ≤ b) w w2 := by
  refine ⟨⟨h2, (h.fam.put (by omega) ho hu hb).upd hu2 (fun k hk e => by have := h.low; omega), ?_, h.low⟩, ?_⟩
  · intro q
    unfold nbits
    split
    · rename_i h0
      rw [clr_bit hp h.lt, h.bits]
      by_cases e : q = p
      · subst e; rw [fset_same, List.eq_nil_of_length_eq_zero h0]; simp
      · rw [fset_other X xs' e]; simp [e]
    · rename_i h0
      rw [sbit_bit hp h.lt, h.bits]
      by_cases e : q = p
      · subst e
        rw [fset_same]
        have : xs'.isEmpty = false := by cases xs' with
          | nil => simp at h0
          | cons a l => rfl
        simp [hp, this]
      · rw [fset_other X xs' e]; simp [e]
  · refine Upd.next (hu.mono ?_) hu2 (fun k _ e => Or.inl e)
    intro k hk hf
    exact Or.inr ((h.fam.own p (by omega)).lt k hf).1

end

set_option maxRecDepth 100000 in
set_option maxHeartbeats 400000 in
/-- check: an id that isn't there may come. -/
theorem check_any {w : World} {B R : Nat} {V : Nat → Value} {X : Nat → List Int} {s : Nat} (h : Rdy w B R V X s) (id : Int) (h0 : 0 ≤ id) (p : Nat) (hp : p < 64) (hno : ∀ q, q < 64 → id ∉ X q) :
    Calls Try.prog 72 #[.pointer (some ⟨R, 0, none⟩), .int .i64 id, .int .i64 p] w fun e w' => e = .returned (.int .i64 0) ∧ w = w' := by
  have b1 : decide (id < 0) = false := by simp; omega
  have b2 : decide ((p : Int) < 0) = false := by simp
  have b3 : decide (64 ≤ (p : Int)) = false := by simp; omega
  go_enter Try.func72, Try.ntmps72
  go_wp2_with (go_at_call 51; refine (prio_none h id hno).mono ?_; rintro e w1 ⟨rfl, rfl⟩)
  go_ret
  exact ⟨rfl, rfl⟩

/-- The list's rows are others now. -/
def Moved (w : World) (B R : Nat) (V : Nat → Value) (X' : Nat → List Int) (w' : World) : Prop :=
  ∃ V' s', Rdy w' B R V' X' s' ∧ (∀ q, 64 ≤ q → V' q = V q) ∧ Upd (fun b => b = R ∨ B ≤ b) w w'

theorem Rdy.moved {w w1 w2 : World} {B R : Nat} {V : Nat → Value} {X : Nat → List Int} {s : Nat} (h : Rdy w B R V X s) {p : Nat} (hp : p < 64) {a : Option Addr} {n c : Nat} {xs' : List Int} (hn : xs'.length = n)
    (ho : w1.ownsRow B 3 1 (.slice a n c) n (ints xs'))
    (hu : Upd (fun b => (V p).ownBlock = some b) w w1) (hb : ∀ k, (Value.slice a n c).ownBlock = some k → (V p).ownBlock = some k ∨ w.heap.size ≤ k)
    (h2 : Blk w2 R 93 (lcells (fun q => if q = p then .slice a n c else V q) (nbits n s p))) (hu2 : Upd (· = R) w1 w2) : Moved w B R V (fset X p xs') w2 := by
  subst hn
  obtain ⟨h3, h4⟩ := h.noted hp ho hu hb h2 hu2
  exact ⟨_, _, h3, fun q hq => fset_other V _ (by omega), h4⟩

/-- A row's block lies from B on; the list's own does not. -/
theorem Rdy.keep {w w1 : World} {B R : Nat} {V : Nat → Value} {X : Nat → List Int} {s : Nat} (h : Rdy w B R V X s) {p : Nat} (hp : p < 64) (hu : Upd (fun b => (V p).ownBlock = some b) w w1) : Blk w1 R 93 (lcells V s) :=
  h.blk.upd hu (fun e => by have := ((h.fam.own p (by omega)).lt R e).1; have := h.low; omega)

set_option maxRecDepth 100000 in
set_option maxHeartbeats 400000 in
/-- Put: an id comes, behind all of its row. -/
theorem put_any {w : World} {B R : Nat} {V : Nat → Value} {X : Nat → List Int} {s : Nat} (h : Rdy w B R V X s) (hBw : B ≤ w.heap.size) (id : Int) (h0 : 0 ≤ id) (p : Nat) (hp : p < 64) (hno : ∀ q, q < 64 → id ∉ X q) (hs : (X p).length ≤ 1000) :
    Calls Try.prog 60 #[.pointer (some ⟨R, 0, none⟩), .int .i64 id, .int .i64 p] w fun e w' => e = .returned (.int .i64 0) ∧ Moved w B R V (fset X p (X p ++ [id])) w' := by
  obtain ⟨a, c, w1, hrun, hown, hup, hbl⟩ := append_row ((h.fam.own p (by omega)).alloc (.cells #[.int .i64 id] 3)) hs (by simp; omega) w.heap.size 1 id (by simp) 89 Try.underlying89
  have c1 := h.cell hp
  have hup2 : Upd (fun b => (V p).ownBlock = some b) w w1 := ((Upd.refl _ _).alloc _).trans hup
  have hbl2 : ∀ k, (Value.slice a ((X p).length + 1) c).ownBlock = some k → (V p).ownBlock = some k ∨ w.heap.size ≤ k := fun k hk => (hbl k hk).imp (fun h => h) (fun h => by simp at h; omega)
  have hnote := note_any (h.keep hp hup2) p hp a ((X p).length + 1) c h.lt (by unfold maxLen; omega)
  have FIN := Lib.hid (fun (w2 : World) (h2 : Blk w2 R 93 _) (hu2 : Upd (· = R) w1 w2) => h.moved (xs' := X p ++ [id]) hp (by simp) hown hup2 hbl2 h2 hu2)
  clear hown hup hup2 hbl hbl2
  go_enter Try.func60, Try.ntmps60
  go_wp2_with (first
    | (go_at_call 72; refine (check_any h id h0 p hp hno).mono ?_; rintro e w1 ⟨rfl, rfl⟩)
    | (at_builtin; refine Lib.wpList_append_run _ rfl _ _ _ _ rfl _ _ rfl rfl _ _ (hrun _) ?_)
    | (go_at_call 53; refine hnote.mono ?_; rintro e w2 ⟨rfl, hb2, hu2⟩))
  go_ret
  exact ⟨rfl, FIN.out _ hb2 hu2⟩

set_option maxRecDepth 100000 in
set_option maxHeartbeats 400000 in
/-- Front: an id comes, ahead of all of its row. -/
theorem front_any {w : World} {B R : Nat} {V : Nat → Value} {X : Nat → List Int} {s : Nat} (h : Rdy w B R V X s) (hBw : B ≤ w.heap.size) (id : Int) (h0 : 0 ≤ id) (p : Nat) (hp : p < 64) (hno : ∀ q, q < 64 → id ∉ X q) (hs : (X p).length ≤ 1000) :
    Calls Try.prog 69 #[.pointer (some ⟨R, 0, none⟩), .int .i64 id, .int .i64 p] w fun e w' => e = .returned (.int .i64 0) ∧ Moved w B R V (fset X p (id :: X p)) w' := by
  have c1 := h.cell hp
  have hins := insert_row ((h.fam.own p (by omega)).alloc (.cells #[.int .i64 id] 3)) hs (by simp; omega) w.heap.size id (heap_alloc_new w _) (fun e => by have := ((h.fam.own p (by omega)).lt _ e).2; omega)
  have FIN := Lib.hid (fun (a : Option Addr) (c : Nat) (w1 w2 : World) (hown : w1.ownsRow B 3 1 (.slice a ((X p).length + 1) c) ((X p).length + 1) (ints (id :: X p)))
    (hup : Upd (fun b => (V p).ownBlock = some b) (w.alloc (.cells #[.int .i64 id] 3)) w1) (hbl : ∀ k, (Value.slice a ((X p).length + 1) c).ownBlock = some k → (V p).ownBlock = some k ∨ (w.alloc (.cells #[.int .i64 id] 3)).heap.size ≤ k)
    (h2 : Blk w2 R 93 _) (hu2 : Upd (· = R) w1 w2) =>
      h.moved (xs' := id :: X p) hp (by simp) hown (((Upd.refl _ _).alloc _).trans hup) (fun k hk => (hbl k hk).imp (fun h => h) (fun h => by simp at h; omega)) h2 hu2)
  have NOTE := Lib.hid (fun (a : Option Addr) (c : Nat) (w1 : World) (hup : Upd (fun b => (V p).ownBlock = some b) (w.alloc (.cells #[.int .i64 id] 3)) w1) =>
    note_any (h.keep hp (((Upd.refl _ _).alloc _).trans hup)) p hp a ((X p).length + 1) c h.lt (by unfold maxLen; omega))
  go_enter Try.func69, Try.ntmps69
  go_wp2_with (first
    | (go_at_call 72; refine (check_any h id h0 p hp hno).mono ?_; rintro e w1 ⟨rfl, rfl⟩)
    | (go_at_call 77; refine hins.mono ?_; rintro e w1 ⟨a, c, rfl, hown, hup, hbl⟩)
    | (go_at_call 53; refine (NOTE.out _ _ _ hup).mono ?_; rintro e w2 ⟨rfl, hb2, hu2⟩))
  go_ret
  exact ⟨rfl, FIN.out _ _ _ _ hown hup hbl hb2 hu2⟩

end Go.Proofs.Ytoeakcfbnkndbaa

import Derived.Test.YtoeakcfbnkndbaaX3
namespace Go.Proofs.Ytoeakcfbnkndbaa
open Go.RowKit Go.Maps

set_option maxRecDepth 100000 in
set_option maxHeartbeats 400000 in
/-- holds. -/
theorem holds_any {w : World} {a : Option Addr} {c : Nat} {xs : List Int} (h : Ints w a xs) (hl : xs.length ≤ 1000) (x : Int) :
    Calls Try.prog 14 #[.slice a xs.length c, .int .i64 x] w fun e w' => e = .returned (.bool (decide (x ∈ xs))) ∧ w = w' := by
  go_enter Try.func14, Try.ntmps14
  go_wp2_with fail
  go_loopg [5] xs.length (fun g s5 wr => ∃ j : Nat, j + g = xs.length ∧ s5 = .int .i64 j ∧ (∀ t, t < j → xs.getD t 0 ≠ x) ∧ w = wr)
  case atStart => exact ⟨0, by omega, rfl, by intro t ht; omega, rfl⟩
  case round =>
    obtain ⟨j, hjg, rfl, hno, rfl⟩ := hrel
    cases gk with
    | zero =>
      have hj : ¬ ((j : Int) < (xs.length : Int)) := by omega
      have HN := Lib.hid hno
      clear hno
      go_wp2
      go_ret
      refine ⟨?_, rfl⟩
      have e : decide (x ∈ xs) = false := by
        simp only [decide_eq_false_iff_not]
        intro hm
        obtain ⟨t, ht, e⟩ := List.mem_iff_getElem.1 hm
        refine HN.out t (by omega) ?_
        rw [List.getD, List.getElem?_eq_getElem ht]
        exact e
      rw [e]
      rfl
    | succ g =>
      have hj : (j : Int) < (xs.length : Int) := by omega
      obtain ⟨b, off, rfl, hc⟩ := h.resolve_left (fun e => by rw [e] at hjg; simp at hjg)
      have hcj := hc j (by omega)
      obtain ⟨y, hy⟩ : ∃ y, y = xs.getD j 0 := ⟨_, rfl⟩
      rw [← hy] at hcj
      have HN := Lib.hid hno
      clear hno hc h
      by_cases e : y = x
      · have b1 : (y == x) = true := by simp [e]
        have HY := Lib.hid hy
        have HE := Lib.hid e
        clear hy e
        go_wp2
        go_ret
        refine ⟨?_, rfl⟩
        have e : decide (x ∈ xs) = true := by
          simp only [decide_eq_true_eq]
          rw [← HE.out, HY.out, List.getD, List.getElem?_eq_getElem (by omega : j < xs.length)]
          exact List.getElem_mem _
        rw [e]
        rfl
      · have b1 : (y == x) = false := by simp [e]
        have HY := Lib.hid hy
        have HE := Lib.hid e
        clear hy e
        go_wp2
        go_roundg g
        case measure => omega
        case rel =>
          refine ⟨j + 1, by omega, by go_num, ?_, rfl⟩
          intro t ht
          by_cases e : t = j
          · subst e; rw [← HY.out]; exact HE.out
          · exact HN.out t (by omega)

set_option maxRecDepth 100000 in
/-- raise: one has the priority that its locks ask for. -/
theorem lraise_any {w : World} {LA : LkAt} {cv : Value} {cs : List Int} {k : Nat} {own : Nat → Option Int} {A : At} {V : Nat → Value} {X X' : Nat → List Int} {ps ps' : Nat → PC} {s : Nat}
    (hL : Lck w LA cv cs k own) (hD : Dis w A V X ps s) (i : Int)
    (H : ∀ w1, Dis w1 A V X ps s → Calls Try.prog 26 #[.pointer (some ⟨A.D, 0, none⟩), .int .i64 i, .int .i64 (upOf cs own i)] w1 fun e w' => e = .returned (.int .i64 0) ∧ Dis.To w1 A V X' ps' w') :
    Calls Try.prog 11 #[.pointer (some ⟨LA.L, 0, none⟩), .pointer (some ⟨A.D, 0, none⟩), .int .i64 i] w fun e w' => e = .returned (.bool true) ∧ Dis.To w A V X' ps' w' := by
  have HH := Lib.hid H
  clear H
  generalize hup : upOf cs own i = up at *
  have HR := raised_any hL i
  rw [hup] at HR
  have HR := Lib.hid HR
  clear hup
  go_enter Try.func11, Try.ntmps11
  go_wp2_with (first
    | (go_at_call 15; refine HR.out.mono ?_; rintro e w1 ⟨rfl, hb1⟩)
    | (go_at_call 26; refine (HH.out _ (hD.below hb1)).mono ?_; rintro e w2 ⟨rfl, V', s', hd, hv, hu⟩))
  go_ret
  exact ⟨rfl, V', s', hd, hv, (Upd.below _ hb1).trans hu⟩

/-- Processes' priorities, at their places among the workers. -/
def Prios (w : World) (a : Option Addr) (pr : List Int) : Prop :=
  pr = [] ∨ ∃ b off, a = some ⟨b, off, none⟩ ∧ ∀ j, j < pr.length → w.cell? ⟨b, off + j * 3, none⟩ = some (.int .i64 (pr.getD j 0))

theorem Prios.below {w w' : World} {a : Option Addr} {cs : List Int} (h : Prios w a cs) (hb : Below w.heap.size w w') : Prios w' a cs := by
  rcases h with h | ⟨b, off, rfl, hc⟩
  · exact Or.inl h
  · refine Or.inr ⟨b, off, rfl, fun j hj => ?_⟩
    have h1 := hc j hj
    have h2 := World.block_lt_of_cell? w ⟨b, off + j * 3, none⟩ h1
    rw [hb.cell h2]; exact h1

/-- Of all less urgent ones than some priority one at most is raised to it. -/
def OneUp (pr : List Int) (cs : List Int) (own : Nat → Option Int) : Prop :=
  ∀ i j : Nat, i < j → j < pr.length → ∀ p : Int, pr.getD i 0 < p → p ≤ upOf cs own i → pr.getD j 0 < p → p ≤ upOf cs own j → False

set_option maxRecDepth 100000 in
set_option maxHeartbeats 800000 in
theorem above_any {w : World} {LA : LkAt} {cv : Value} {cs : List Int} {k : Nat} {own : Nat → Option Int} {a : Option Addr} {c : Nat} {pr : List Int} (hL : Lck w LA cv cs k own) (hP : Prios w a pr) (hn : pr.length ≤ 16) (h1 : OneUp pr cs own) :
    Calls Try.prog 8 #[.pointer (some ⟨LA.L, 0, none⟩), .slice a pr.length c] w fun e w' => e = .returned (.bool true) ∧ Below w.heap.size w w' := by
  have HL := Lib.hid hL
  have HP := Lib.hid hP
  have H1 := Lib.hid h1
  clear hL hP h1
  go_enter Try.func8, Try.ntmps8
  go_wp2_with fail
  go_loopg [5] 63 (fun g s5 wr => ∃ p : Nat, p + g = 64 ∧ 1 ≤ p ∧ s5 = .int .i64 p ∧ Below w.heap.size w wr)
  case atStart => exact ⟨1, by omega, by omega, rfl, Below.refl _ _⟩
  case round =>
    obtain ⟨p, hpg, hp1, rfl, hb⟩ := hrel
    cases gk with
    | zero =>
      have hj : ¬ ((p : Int) ≤ 63) := by omega
      go_wp2
      go_ret
      exact ⟨rfl, hb⟩
    | succ g =>
      have hj : (p : Int) ≤ 63 := by omega
      go_wp2_with fail
      go_loopg [6, 7] pr.length (fun gg s6 s7 wr => ∃ (j : Nat) (n : Int), j + gg = pr.length ∧ s7 = .int .i64 j ∧ s6 = .int .i64 n ∧ (n = 0 ∨ (n = 1 ∧ ∃ i : Nat, i < j ∧ pr.getD i 0 < (p : Int) ∧ (p : Int) ≤ upOf cs own i)) ∧ Below w.heap.size w wr)
      case atStart => exact ⟨0, 0, by omega, rfl, rfl, Or.inl rfl, hb⟩
      case round =>
        obtain ⟨j, n, hjg, rfl, rfl, hcnt, hb2⟩ := hrel
        cases gk with
        | zero =>
          have hj2 : ¬ ((j : Int) < (pr.length : Int)) := by omega
          have b1 : decide (1 < n) = false := by
            simp only [decide_eq_false_iff_not]
            omega
          have HC := Lib.hid hcnt
          clear hcnt
          go_wp2
          go_roundg g
          case measure => omega
          case rel => exact ⟨p + 1, by omega, by omega, by go_num, hb2⟩
        | succ gg =>
          have hj2 : (j : Int) < (pr.length : Int) := by omega
          have hR := raised_any (HL.out.below hb2) j
          have hP2 := HP.out.below hb2
          obtain ⟨b, off, rfl, hc⟩ := hP2.resolve_left (fun e => by rw [e] at hjg; simp at hjg)
          have hcj := hc j (by omega)
          have hltb := World.block_lt_of_cell? _ _ hcj
          have hn01 : 0 ≤ n ∧ n ≤ 1 := by omega
          have HC := Lib.hid hcnt
          have h1j := fun (i : Nat) (hi : i < j) => H1.out i j hi (by omega) (p : Int)
          obtain ⟨y, hy⟩ : ∃ y, y = pr.getD j 0 := ⟨_, rfl⟩
          obtain ⟨up, hu⟩ : ∃ up, up = upOf cs own (j : Int) := ⟨_, rfl⟩
          rw [← hy] at hcj
          rw [← hu] at hR
          have HY := Lib.hid hy
          have HU := Lib.hid hu
          have HJ := Lib.hid h1j
          clear hcnt hc hP2 hy hu h1j
          have hR := Lib.hid hR
          by_cases c1 : y < (p : Int)
          · have d1 : decide (y < (p : Int)) = true := by simp [c1]
            by_cases c2 : (p : Int) ≤ up
            · have d2 : decide ((p : Int) ≤ up) = true := by simp [c2]
              have hn0 : n = 0 := by
                rcases HC.out with e | ⟨_, i, hi, h2, h3⟩
                · exact e
                · exact (HJ.out i hi h2 h3 (by rw [← HY.out]; exact c1) (by rw [← HU.out]; exact c2)).elim
              subst hn0
              have HC1 := Lib.hid c1
              have HC2 := Lib.hid c2
              clear c1 c2 HC
              go_wp2_with (go_at_call 15; refine hR.out.mono ?_; rintro e w1 ⟨rfl, hb3⟩; have hcj1 := (hb3.cell (p := ⟨b, off + j * 3, none⟩) hltb).trans hcj)
              go_roundg gg
              case measure => omega
              case rel =>
                refine ⟨j + 1, 1, by omega, by go_num, rfl, Or.inr ⟨rfl, j, by omega, ?_, ?_⟩, Upd.toBelow ((Upd.below NoB hb2).trans (Upd.below _ hb3))⟩
                · rw [← HY.out]; exact HC1.out
                · rw [← HU.out]; exact HC2.out
            · have d2 : decide ((p : Int) ≤ up) = false := by simp; omega
              clear c1 c2
              go_wp2_with (go_at_call 15; refine hR.out.mono ?_; rintro e w1 ⟨rfl, hb3⟩; have hcj1 := (hb3.cell (p := ⟨b, off + j * 3, none⟩) hltb).trans hcj)
              go_roundg gg
              case measure => omega
              case rel =>
                refine ⟨j + 1, n, by omega, by go_num, rfl, ?_, Upd.toBelow ((Upd.below NoB hb2).trans (Upd.below _ hb3))⟩
                rcases HC.out with e | ⟨e, i, hi, h2, h3⟩
                · exact Or.inl e
                · exact Or.inr ⟨e, i, by omega, h2, h3⟩
          · have d1 : decide (y < (p : Int)) = false := by simp; omega
            clear c1
            go_wp2_with (go_at_call 15; refine hR.out.mono ?_; rintro e w1 ⟨rfl, hb3⟩; have hcj1 := (hb3.cell (p := ⟨b, off + j * 3, none⟩) hltb).trans hcj)
            go_roundg gg
            case measure => omega
            case rel =>
              refine ⟨j + 1, n, by omega, by go_num, rfl, ?_, Upd.toBelow ((Upd.below NoB hb2).trans (Upd.below _ hb3))⟩
              rcases HC.out with e | ⟨e, i, hi, h2, h3⟩
              · exact Or.inl e
              · exact Or.inr ⟨e, i, by omega, h2, h3⟩

end Go.Proofs.Ytoeakcfbnkndbaa

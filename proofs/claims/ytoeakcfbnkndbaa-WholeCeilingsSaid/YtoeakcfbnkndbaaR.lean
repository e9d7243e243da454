import Derived.Test.YtoeakcfbnkndbaaQ
namespace Go.Proofs.Ytoeakcfbnkndbaa
open Go.RowKit Go.Maps

/-- The locks below m that one has. -/
def heldN (own : Nat → Option Int) (id : Int) (m : Nat) : List Nat := (List.range m).filter (fun l => own l == some id)
def heldL (own : Nat → Option Int) (id : Int) (m : Nat) : List Int := (heldN own id m).map (fun (l : Nat) => (l : Int))

theorem heldL_len (own : Nat → Option Int) (id : Int) (m : Nat) : (heldL own id m).length ≤ m := by
  unfold heldL heldN
  rw [List.length_map]
  exact Nat.le_trans (List.length_filter_le _ _) (by simp)

theorem heldL_yes {own : Nat → Option Int} {id : Int} {m : Nat} (h : own m = some id) : heldL own id (m + 1) = heldL own id m ++ [(m : Int)] := by
  unfold heldL heldN
  rw [List.range_succ, List.filter_append, List.map_append]
  simp [h]

theorem heldL_no {own : Nat → Option Int} {id : Int} {m : Nat} (h : own m ≠ some id) : heldL own id (m + 1) = heldL own id m := by
  unfold heldL heldN
  rw [List.range_succ, List.filter_append, List.map_append]
  simp [h]

section
variable {w : World} {A : LkAt} {cv : Value} {cs : List Int} {k : Nat} {own : Nat → Option Int}

set_option maxRecDepth 100000 in
set_option maxHeartbeats 800000 in
theorem held_any (h : Lck w A cv cs k own) (id : Int) :
    Calls Try.prog 33 #[.pointer (some ⟨A.L, 0, none⟩), .int .i64 id] w fun e w' =>
      ∃ a c, e = .returned (.slice a (heldL own id cs.length).length c) ∧ w'.ownsRow w.heap.size 3 1 (.slice a (heldL own id cs.length).length c) (heldL own id cs.length).length (ints (heldL own id cs.length)) ∧ Below w.heap.size w w' := by
  have c0 := h.c0
  obtain ⟨a0, c0', hcv, _⟩ := h.form
  rw [hcv] at c0
  have hfew := h.few
  obtain ⟨m, hm⟩ : ∃ m, m = cs.length := ⟨_, rfl⟩
  rw [← hm] at c0 hfew ⊢
  have HM := Lib.hid hm
  clear hm hcv
  go_enter Try.func33, Try.ntmps33
  go_wp2_with fail
  go_loopg [5, 16] m (fun g s5 s16 wr => ∃ j : Nat, j + g = m ∧ s16 = .int .i64 j ∧ wr.ownsRow w.heap.size 3 1 s5 (heldL own id j).length (ints (heldL own id j)) ∧ Below w.heap.size w wr)
  case atStart => exact ⟨0, by omega, rfl, World.ownsRow_nil _ _ _ _, Below.refl _ _⟩
  case round =>
    obtain ⟨j, hjg, rfl, hown, hbel⟩ := hrel
    have hL := h.below hbel
    have hroom := hbel.size
    cases gk with
    | zero =>
      have hj : ¬ ((j : Int) < (m : Int)) := by omega
      have hjm : j = m := by omega
      subst hjm
      obtain ⟨a, c, hv⟩ : ∃ a c, u5 = .slice a (heldL own id j).length c := by
        rcases hown.2 with ⟨hv, hn⟩ | ⟨g, c, cur, hv, _⟩
        · exact ⟨none, 0, by rw [hv, hn]⟩
        · exact ⟨_, c, hv⟩
      go_wp2
      go_ret
      subst hv
      exact ⟨a, c, rfl, hown, hbel⟩
    | succ g =>
      have hj : (j : Int) < (m : Int) := by omega
      have HO := owner_any hL j (by omega)
      cases hol : own j with
      | none =>
        rw [hol] at HO
        have HO := Lib.hid HO
        have HREL := Lib.hid (And.intro (heldL_no (own := own) (id := id) (m := j) (by rw [hol]; simp)) (And.intro hown hbel))
        clear hol hown hbel hL
        go_wp2_with (go_at_call 31; refine HO.out.mono ?_; rintro e w1 ⟨rfl, rfl⟩; simp only [Option.getD, Option.isSome])
        go_roundg g
        case measure => omega
        case rel => exact ⟨j + 1, by omega, by go_num, by rw [HREL.out.1]; exact HREL.out.2.1, HREL.out.2.2⟩
      | some x =>
        rw [hol] at HO
        have HO := Lib.hid HO
        by_cases hx : x = id
        · subst hx
          have hlen := heldL_len own x j
          obtain ⟨a, c, w1, hrun, hown1, hup, hbl⟩ := append_row (hown.alloc (.cells #[.int .i64 (j : Int)] 3)) (by omega) (by simp; omega) wr.heap.size 1 (j : Int) (by simp) 22 Try.underlying22
          have hbel1 : Below w.heap.size w w1 := hbel.trans (Below.trans ((Below.refl _ _).alloc hbel.size _) ⟨hup.os, hup.tape, hup.output, hup.size, fun b hb => hup.block b (by simp; omega) (fun hf => by have := (hown.lt b hf).1; omega)⟩)
          have HREL := Lib.hid (And.intro (heldL_yes hol) (And.intro hown1 hbel1))
          have b4 : (x == x) = true := by simp
          clear hol hown hbel hL hown1 hup hbl hbel1
          go_wp2_with (first
            | (go_at_call 31; refine HO.out.mono ?_; rintro e w1 ⟨rfl, rfl⟩; simp only [Option.getD, Option.isSome])
            | (at_builtin; refine Lib.wpList_append_run _ rfl _ _ _ _ rfl _ _ rfl rfl _ _ (hrun _) ?_))
          go_roundg g
          case measure => omega
          case rel => exact ⟨j + 1, by omega, by go_num, by rw [HREL.out.1, List.length_append]; exact HREL.out.2.1, HREL.out.2.2⟩
        · have b4 : (x == id) = false := by simp [hx]
          have HREL := Lib.hid (And.intro (heldL_no (own := own) (id := id) (m := j) (by rw [hol]; simp [hx])) (And.intro hown hbel))
          clear hol hown hbel hL hx
          go_wp2_with (go_at_call 31; refine HO.out.mono ?_; rintro e w1 ⟨rfl, rfl⟩; simp only [Option.getD, Option.isSome])
          go_roundg g
          case measure => omega
          case rel => exact ⟨j + 1, by omega, by go_num, by rw [HREL.out.1]; exact HREL.out.2.1, HREL.out.2.2⟩

end

end Go.Proofs.Ytoeakcfbnkndbaa

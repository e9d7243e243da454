import Derived.Test.YtoeakcfbnkndbaaBase
namespace Go.Proofs.Ytoeakcfbnkndbaa
open Go.RowKit

/-- A process by value. -/
def PC.agg (p : PC) : Value := .agg #[.int .i64 p.prio, .int .i64 0, .int .i64 0, .int .i64 0, .int .i64 0, .int .i64 p.state, .bool false, .int .i64 p.base, .int .i64 p.raised, .int .i64 0, .int .i64 p.begin, .int .i64 0, .bool false]

set_option maxHeartbeats 400000 in
theorem look_any {T tb cap n : Nat} {ps : Nat → PC} {i : Nat} {w : World} (h : Tbl w T tb cap n (praw ps)) (hi : i < n) :
    Calls Try.prog 71 #[.pointer (some ⟨T, 0, none⟩), .int .i64 i] w fun e w' => e = .returned (ps i).agg ∧ Below w.heap.size w w' := by
  have hT := h.slice
  have hTs := h.root.lt
  have htb := h.row.lt
  obtain ⟨c0, c1, c2, c3, c4, c5, c6, c7, c8, c9, c10, c11, c12⟩ := h.cells hi
  have hb1 : decide ((i : Int) < 0) = false := by simp
  have hb2 : decide (n ≤ i) = false := by simp; omega
  generalize ps i = p at *
  clear h
  go_enter Try.func71, Try.ntmps71
  go_wp2
  exact bodyPost_ret (v := p.agg) (by simp [results, Try.results71, go_sem, PC.agg]) rfl ⟨rfl, Upd.toBelow (by with_reducible (repeat (first | refine Upd.alloc ?_ _ | refine Upd.drew ?_ | refine Upd.setEq ?_ | refine Upd.setNew ?_ (by simp) | exact Upd.refl _ _)))⟩

set_option maxHeartbeats 400000 in
theorem state_any {T tb cap n : Nat} {ps : Nat → PC} {i : Nat} {w : World} (h : Tbl w T tb cap n (praw ps)) (hi : i < n) :
    Calls Try.prog 59 #[.pointer (some ⟨T, 0, none⟩), .int .i64 i] w fun e w' => e = .returned (.int .i64 (ps i).state) ∧ Below w.heap.size w w' := by
  go_enter Try.func59, Try.ntmps59
  go_wp2_with (go_at_call 71; refine (look_any h hi).mono ?_; rintro e w1 ⟨rfl, hb⟩; unfold PC.agg)
  go_ret
  exact ⟨rfl, Upd.toBelow (Upd.trans (Upd.below _ hb) (by with_reducible (repeat (first | refine Upd.alloc ?_ _ | refine Upd.drew ?_ | refine Upd.setEq ?_ | refine Upd.setNew ?_ (by simp) | exact Upd.refl _ _))))⟩

/-- Its own priority. -/
def PC.bas (p : PC) : Int := if p.state = 0 then p.prio else p.base

set_option maxHeartbeats 400000 in
theorem base_any {T tb cap n : Nat} {ps : Nat → PC} {i : Nat} {w : World} (h : Tbl w T tb cap n (praw ps)) (hi : i < n) :
    Calls Try.prog 73 #[.pointer (some ⟨T, 0, none⟩), .int .i64 i] w fun e w' => e = .returned (.int .i64 (ps i).bas) ∧ Below w.heap.size w w' := by
  by_cases hs : (ps i).state = 0
  · have h1 : ((ps i).state != 0) = false := by simp [hs]
    have HS := Lib.hid hs
    clear hs
    go_enter Try.func73, Try.ntmps73
    go_wp2_with (first | (go_at_call 71; refine (look_any h hi).mono ?_; rintro e w1 ⟨rfl, hb⟩; unfold PC.agg) | go_in)
    go_ret
    exact ⟨by unfold PC.bas; rw [if_pos HS.out]; rfl, Upd.toBelow (Upd.trans (Upd.below _ hb) (by with_reducible (repeat (first | refine Upd.alloc ?_ _ | refine Upd.drew ?_ | refine Upd.setEq ?_ | refine Upd.setNew ?_ (by simp) | exact Upd.refl _ _))))⟩
  · have h1 : ((ps i).state != 0) = true := by simp [hs]
    have HS := Lib.hid hs
    clear hs
    go_enter Try.func73, Try.ntmps73
    go_wp2_with (first | (go_at_call 71; refine (look_any h hi).mono ?_; rintro e w1 ⟨rfl, hb⟩; unfold PC.agg) | go_in)
    go_ret
    exact ⟨by unfold PC.bas; rw [if_neg HS.out]; rfl, Upd.toBelow (Upd.trans (Upd.below _ hb) (by with_reducible (repeat (first | refine Upd.alloc ?_ _ | refine Upd.drew ?_ | refine Upd.setEq ?_ | refine Upd.setNew ?_ (by simp) | exact Upd.refl _ _))))⟩

/-- The priority that counts. -/
def PC.cur (p : PC) : Int := max p.bas p.raised

set_option maxHeartbeats 400000 in
theorem until_any {T tb cap n : Nat} {ps : Nat → PC} {i : Nat} {w : World} (h : Tbl w T tb cap n (praw ps)) (hi : i < n) (h3 : (ps i).state ≠ 3) (h2 : (ps i).state ≠ 2) :
    Calls Try.prog 62 #[.pointer (some ⟨T, 0, none⟩), .int .i64 i] w fun e w' => e = .returned (.tuple #[.int .i64 0, .bool false]) ∧ Below w.heap.size w w' := by
  have h1 : ((ps i).state == 3) = false := by simp [h3]
  have h4 : ((ps i).state == 2) = false := by simp [h2]
  clear h2 h3
  go_enter Try.func62, Try.ntmps62
  go_wp2_with (first | (go_at_call 71; refine (look_any h hi).mono ?_; rintro e w1 ⟨rfl, hb⟩; unfold PC.agg))
  go_ret2
  exact ⟨rfl, Upd.toBelow (Upd.trans (Upd.below _ hb) (by with_reducible (repeat (first | refine Upd.alloc ?_ _ | refine Upd.drew ?_ | refine Upd.setEq ?_ | refine Upd.setNew ?_ (by simp) | exact Upd.refl _ _))))⟩

end Go.Proofs.Ytoeakcfbnkndbaa

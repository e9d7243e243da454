import Derived.Test.YtoeakcfbnkndbaaC
import Derived.Test.YtoeakcfbnkndbaaL
import Derived.Deep.RegionHeld3
namespace Go.Proofs.Ytoeakcfbnkndbaa
open Go.RowKit

/-- Timers without ids. -/
def qcells : Nat → Option Value := fun k => if k = 0 then some (.slice none 0 0) else none

set_option maxRecDepth 100000 in
set_option maxHeartbeats 400000 in
theorem find_any {w : World} {Q : Nat} (h : Blk w Q 96 qcells) (id : Int) :
    Calls Try.prog 74 #[.pointer (some ⟨Q, 0, none⟩), .int .i64 id] w fun e w' => e = .returned (.int .i64 (-1)) ∧ Below w.heap.size w w' := by
  have c0 : w.cell? ⟨Q, 0, none⟩ = some (.slice none 0 0) := h.cell rfl
  have hlt := h.lt
  go_enter Try.func74, Try.ntmps74
  go_wp2
  refine wp_loop_rounds 1 ?_
  rw [rounds_succ]
  go_wp2
  go_ret
  exact ⟨rfl, Upd.toBelow (by with_reducible (repeat (first | refine Upd.alloc ?_ _ | refine Upd.drew ?_ | refine Upd.setEq ?_ | refine Upd.setNew ?_ (by simp) | exact Upd.refl _ _)))⟩

set_option maxRecDepth 100000 in
set_option maxHeartbeats 400000 in
theorem at_any {w : World} {Q : Nat} (h : Blk w Q 96 qcells) (id : Int) :
    Calls Try.prog 63 #[.pointer (some ⟨Q, 0, none⟩), .int .i64 id] w fun e w' => e = .returned (.tuple #[.int .i64 0, .bool false]) ∧ Below w.heap.size w w' := by
  go_enter Try.func63, Try.ntmps63
  go_wp2_with (go_at_call 74; refine (find_any h id).mono ?_; rintro e w1 ⟨rfl, hb⟩)
  go_ret2
  exact ⟨rfl, hb⟩

set_option maxRecDepth 100000 in
set_option maxHeartbeats 400000 in
theorem tdrop_any {w : World} {Q : Nat} (h : Blk w Q 96 qcells) (id : Int) :
    Calls Try.prog 64 #[.pointer (some ⟨Q, 0, none⟩), .int .i64 id] w fun e w' => e = .returned (.bool false) ∧ Below w.heap.size w w' := by
  go_enter Try.func64, Try.ntmps64
  go_wp2_with (go_at_call 74; refine (find_any h id).mono ?_; rintro e w1 ⟨rfl, hb⟩)
  go_ret
  exact ⟨rfl, hb⟩

end Go.Proofs.Ytoeakcfbnkndbaa

import Derived.Test.YtoeakcfbnkndbaaW
namespace Go.Proofs.Ytoeakcfbnkndbaa
open Go.RowKit Go.Maps

theorem in_any (w : World) (x lo hi : Int) : Calls Try.prog 58 #[.int .i64 x, .int .i64 lo, .int .i64 hi] w fun e w' => e = .returned (.bool (decide (lo ≤ x) && decide (x ≤ hi))) ∧ w = w' := by
  by_cases h : lo ≤ x
  · have hd : decide (lo ≤ x) = true := by simp [h]
    rw [hd]
    go_enter Try.func58, Try.ntmps58
    go_wp2
    go_ret
    exact ⟨by simp, rfl⟩
  · have hd : decide (lo ≤ x) = false := by simp; omega
    rw [hd]
    go_enter Try.func58, Try.ntmps58
    go_wp2
    go_ret
    exact ⟨rfl, rfl⟩

set_option maxRecDepth 100000 in
set_option maxHeartbeats 800000 in
theorem may_any (w : World) (p : Int) :
    Calls Try.prog 35 #[.agg #[.int .i64 p, .int .i64 0, .int .i64 0, .int .i64 0, .int .i64 0]] w fun e w' => e = .returned (.bool (decide (1 ≤ p) && decide (p ≤ 63))) ∧ Below w.heap.size w w' := by
  go_enter Try.func35, Try.ntmps35
  go_wp2_with fail
  go_loopg [15] 4 (fun g s15 wr => ∃ j : Nat, j + g = 4 ∧ s15 = .int .i64 j ∧ (∀ k, k < 4 → wr.cell? ⟨w.heap.size + 1, k, none⟩ = some (.int .i64 0)) ∧ wr.cell? ⟨w.heap.size, 0, none⟩ = some (.int .i64 p) ∧ Below w.heap.size w wr)
  case atStart =>
    refine ⟨0, rfl, rfl, ?_, ?_, Upd.toBelow (((Upd.refl _ _).alloc _).alloc _)⟩
    · intro k hk
      have e := heap_alloc_new (w.alloc (.cells #[.int .i64 p, .int .i64 0, .int .i64 0, .int .i64 0, .int .i64 0] 30)) (.cells #[.int .i64 0, .int .i64 0, .int .i64 0, .int .i64 0] 3)
      simp only [World.size_alloc] at e
      simp only [World.cell?]
      rw [e]
      match k, hk with
      | 0, _ => rfl
      | 1, _ => rfl
      | 2, _ => rfl
      | 3, _ => rfl
    · have e := heap_alloc_new w (.cells #[.int .i64 p, .int .i64 0, .int .i64 0, .int .i64 0, .int .i64 0] 30)
      simp only [World.cell?]
      rw [Below.heap_alloc _ _ _ (by simp), e]
      rfl
  case round =>
    obtain ⟨j, hjg, rfl, hz, hpc, hbel⟩ := hrel
    cases gk with
    | zero =>
      have hj : ¬ ((j : Int) < 4) := by omega
      go_wp2_with (go_at_call 58; refine (in_any _ _ _ _).mono ?_; rintro e w1 ⟨rfl, rfl⟩)
      go_ret
      exact ⟨rfl, hbel⟩
    | succ g =>
      have hj : (j : Int) < 4 := by omega
      have hzj := hz j (by omega)
      go_wp2_with (go_at_call 58; refine (in_any _ _ _ _).mono ?_; rintro e w1 ⟨rfl, rfl⟩)
      go_roundg g
      case measure => omega
      case rel => exact ⟨j + 1, by omega, by go_num, hz, hpc, hbel⟩

end Go.Proofs.Ytoeakcfbnkndbaa

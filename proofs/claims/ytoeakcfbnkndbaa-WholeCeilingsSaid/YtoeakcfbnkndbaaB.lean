import Derived.Test.YtoeakcfbnkndbaaA
namespace Go.Proofs.Ytoeakcfbnkndbaa
open Go.RowKit

theorem run_f88_2 (a0 a1 a2 a3 a4 a5 a6 a7 a8 a9 a10 a11 a12 : Value) (w : World) :
    (Instr.field 88 (.agg #[a0, a1, a2, a3, a4, a5, a6, a7, a8, a9, a10, a11, a12]) 2).run Try.prog w = .ok (.agg #[a6, a7, a8, a9]) w := by kernel_rfl
theorem run_f84_2 (a b c d : Value) (w : World) : (Instr.field 84 (.agg #[a, b, c, d]) 2).run Try.prog w = .ok c w := by kernel_rfl

set_option maxRecDepth 100000 in
set_option maxHeartbeats 400000 in
theorem current_any {T tb cap n : Nat} {ps : Nat → PC} {i : Nat} {w : World} (h : Tbl w T tb cap n (praw ps)) (hi : i < n) :
    Calls Try.prog 61 #[.pointer (some ⟨T, 0, none⟩), .int .i64 i] w fun e w' => e = .returned (.int .i64 (ps i).cur) ∧ Below w.heap.size w w' := by
  have f1 := run_f88_2
  have f2 := run_f84_2
  go_enter Try.func61, Try.ntmps61
  go_wp2_with fail
  refine (base_any h hi).mono ?_; rintro e w1 ⟨rfl, hb⟩
  go_wp2_with fail
  refine (look_any (h.below hb) hi).mono ?_; rintro e w2 ⟨rfl, hb2⟩; unfold PC.agg
  go_wp2
  go_ret
  exact ⟨rfl, hb.trans (hb2.mono hb.size)⟩

set_option maxRecDepth 100000 in
set_option maxHeartbeats 800000 in
theorem start_any {T tb cap n : Nat} {ps : Nat → PC} {i : Nat} {w : World} (h : Tbl w T tb cap n (praw ps)) (hi : i < n) (hs : (ps i).state = 0) (now : Int) (h0 : 0 ≤ now) (h1 : now ≤ 1099511627776) :
    Calls Try.prog 23 #[.pointer (some ⟨T, 0, none⟩), .int .i64 i, .int .i64 now] w fun e w' =>
      e = .returned (.int .i64 0) ∧ Tbl w' T tb cap n (praw (pset ps i ⟨(ps i).prio, 1, (ps i).prio, 0, now⟩)) ∧ Upd (· = tb) w w' := by
  have hT := h.slice
  have hTs := h.root.lt
  have htb := h.row.lt
  have hfz := h.row.free
  have hne := h.ne
  obtain ⟨c0, c1, c2, c3, c4, c5, c6, c7, c8, c9, c10, c11, c12⟩ := h.cells hi
  rw [hs] at c5
  have hb1 : decide ((i : Int) < 0) = false := by simp
  have hb2 : decide (n ≤ i) = false := by simp; omega
  have H := Lib.hid h
  generalize hp : ps i = p at *
  clear h hs
  have HP := Lib.hid hp
  clear hp
  have t1 : T < w.heap.size + 1 := by omega
  have t2 : T < w.heap.size + 1 + 1 := by omega
  have t3 : T < w.heap.size + 1 + 1 + 1 := by omega
  have u1 : tb < w.heap.size + 1 := by omega
  have u2 : tb < w.heap.size + 1 + 1 := by omega
  have u3 : tb < w.heap.size + 1 + 1 + 1 := by omega
  go_enter Try.func23, Try.ntmps23
  go_wp2
  go_end0
  go_wp2
  go_end0
  go_wp2
  go_ret
  have H1 := H.out.set (i := i) (f := 6) (k := i * 13 + 6) rfl hi (by omega) (.bool false)
  have H2 := H1.set (i := i) (f := 7) (k := i * 13 + 6 + 1) rfl hi (by omega) (.int .i64 p.prio)
  have H3 := H2.set (i := i) (f := 8) (k := i * 13 + 6 + 2) rfl hi (by omega) (.int .i64 0)
  have H4 := H3.set (i := i) (f := 9) (k := i * 13 + 6 + 3) rfl hi (by omega) (.int .i64 0)
  have H5 := H4.set (i := i) (f := 5) (k := i * 13 + 5) rfl hi (by omega) (.int .i64 1)
  have H6 := H5.set (i := i) (f := 10) (k := i * 13 + 10) rfl hi (by omega) (.int .i64 now)
  have H7 := H6.set (i := i) (f := 11) (k := i * 13 + 10 + 1) rfl hi (by omega) (.int .i64 0)
  have H8 := H7.set (i := i) (f := 12) (k := i * 13 + 10 + 2) rfl hi (by omega) (.bool false)
  refine ⟨rfl, (((H8.alloc _).alloc _).alloc _).congr ?_, (by with_reducible (repeat (first | refine Upd.alloc ?_ _ | refine Upd.drew ?_ | refine Upd.setEq ?_ | refine Upd.setNew ?_ (by simp) | exact Upd.refl _ _)))⟩
  have hp := HP.out
  clear H H1 H2 H3 H4 H5 H6 H7 H8
  intro j f hj hf
  by_cases hji : j = i
  · subst hji
    have h13 : f = 0 ∨ f = 1 ∨ f = 2 ∨ f = 3 ∨ f = 4 ∨ f = 5 ∨ f = 6 ∨ f = 7 ∨ f = 8 ∨ f = 9 ∨ f = 10 ∨ f = 11 ∨ f = 12 := by omega
    rcases h13 with rfl | rfl | rfl | rfl | rfl | rfl | rfl | rfl | rfl | rfl | rfl | rfl | rfl <;> simp [praw, pset, PC.at, hp]
  · simp [praw, pset, hji]

end Go.Proofs.Ytoeakcfbnkndbaa

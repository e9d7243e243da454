import Derived.Test.YtoeakcfbnkndbaaB
namespace Go.Proofs.Ytoeakcfbnkndbaa
open Go.RowKit

set_option maxRecDepth 100000 in
set_option maxHeartbeats 800000 in
theorem raise_any {T tb cap n : Nat} {ps : Nat → PC} {i : Nat} {w : World} (h : Tbl w T tb cap n (praw ps)) (hi : i < n) (hs : (ps i).state ≠ 0) (up : Int) (h0 : 0 ≤ up) (h1 : up ≤ 63) :
    Calls Try.prog 46 #[.pointer (some ⟨T, 0, none⟩), .int .i64 i, .int .i64 up] w fun e w' =>
      e = .returned (.int .i64 0) ∧ Tbl w' T tb cap n (praw (pset ps i ⟨(ps i).prio, (ps i).state, (ps i).base, up, (ps i).begin⟩)) ∧ Upd (· = tb) w w' := by
  have hst : ((ps i).state != 0) = true := by simp [hs]
  clear hs
  have hT := h.slice
  have hTs := h.root.lt
  have htb := h.row.lt
  have hfz := h.row.free
  have hne := h.ne
  obtain ⟨c0, c1, c2, c3, c4, c5, c6, c7, c8, c9, c10, c11, c12⟩ := h.cells hi
  have hb1 : decide ((i : Int) < 0) = false := by simp
  have hb2 : decide (n ≤ i) = false := by simp; omega
  have H := Lib.hid h
  generalize hp : ps i = p at *
  clear h
  have HP := Lib.hid hp
  clear hp
  have t1 : T < w.heap.size + 1 := by omega
  have t2 : T < w.heap.size + 1 + 1 := by omega
  have t3 : T < w.heap.size + 1 + 1 + 1 := by omega
  have t4 : T < w.heap.size + 1 + 1 + 1 + 1 := by omega
  have u1 : tb < w.heap.size + 1 := by omega
  have u2 : tb < w.heap.size + 1 + 1 := by omega
  have u3 : tb < w.heap.size + 1 + 1 + 1 := by omega
  have u4 : tb < w.heap.size + 1 + 1 + 1 + 1 := by omega
  go_enter Try.func46, Try.ntmps46
  go_wp2
  go_end0
  go_wp2
  go_ret
  have H1 := H.out.set (i := i) (f := 8) (k := i * 13 + 6 + 2) rfl hi (by omega) (.int .i64 up)
  have hp := HP.out
  subst hp
  refine ⟨rfl, ((H1.alloc _).alloc _).congr ?_, (by with_reducible (repeat (first | refine Upd.alloc ?_ _ | refine Upd.drew ?_ | refine Upd.setEq ?_ | refine Upd.setNew ?_ (by simp) | exact Upd.refl _ _)))⟩
  intro j f hj hf
  by_cases hji : j = i
  · subst hji
    have h13 : f = 0 ∨ f = 1 ∨ f = 2 ∨ f = 3 ∨ f = 4 ∨ f = 5 ∨ f = 6 ∨ f = 7 ∨ f = 8 ∨ f = 9 ∨ f = 10 ∨ f = 11 ∨ f = 12 := by omega
    rcases h13 with rfl | rfl | rfl | rfl | rfl | rfl | rfl | rfl | rfl | rfl | rfl | rfl | rfl <;> simp [praw, pset, PC.at]
  · simp [praw, pset, hji]

set_option maxRecDepth 100000 in
set_option maxHeartbeats 800000 in
theorem done_any {T tb cap n : Nat} {ps : Nat → PC} {i : Nat} {w : World} (h : Tbl w T tb cap n (praw ps)) (hi : i < n) (hs : (ps i).state = 1) (now : Int) (h0 : 0 ≤ now) (h1 : now ≤ 1099511627776) :
    Calls Try.prog 27 #[.pointer (some ⟨T, 0, none⟩), .int .i64 i, .int .i64 now] w fun e w' =>
      e = .returned (.tuple #[.int .i64 (-1), .int .i64 0]) ∧ Tbl w' T tb cap n (praw (pset ps i ⟨(ps i).prio, 0, 0, 0, 0⟩)) ∧ Upd (· = tb) w w' := by
  have hT := h.slice
  have hTs := h.root.lt
  have htb := h.row.lt
  have hfz := h.row.free
  have hne := h.ne
  obtain ⟨c0, c1, c2, c3, c4, c5, c6, c7, c8, c9, c10, c11, c12⟩ := h.cells hi
  rw [hs] at c5
  clear hs
  have hb1 : decide ((i : Int) < 0) = false := by simp
  have hb2 : decide (n ≤ i) = false := by simp; omega
  have H := Lib.hid h
  generalize hp : ps i = p at *
  clear h
  have HP := Lib.hid hp
  clear hp
  have t1 : T < w.heap.size + 1 := by omega
  have t2 : T < w.heap.size + 1 + 1 := by omega
  have t3 : T < w.heap.size + 1 + 1 + 1 := by omega
  have t4 : T < w.heap.size + 1 + 1 + 1 + 1 := by omega
  have u1 : tb < w.heap.size + 1 := by omega
  have u2 : tb < w.heap.size + 1 + 1 := by omega
  have u3 : tb < w.heap.size + 1 + 1 + 1 := by omega
  have u4 : tb < w.heap.size + 1 + 1 + 1 + 1 := by omega
  go_enter Try.func27, Try.ntmps27
  go_wp2
  go_end0
  go_wp2
  refine bodyPost_ret (results_none rfl _ _ _) rfl ?_
  go_wp2
  refine bodyPost_ret (v := .tuple #[.int .i64 (-1), .int .i64 0]) (by simp [results, Try.results27, go_sem]) rfl ?_
  have H1 := H.out.set (i := i) (f := 0) (k := i * 13) rfl hi (by omega) (.int .i64 p.prio)
  have H2 := H1.set (i := i) (f := 1) (k := i * 13 + 1) rfl hi (by omega) (.int .i64 0)
  have H3 := H2.set (i := i) (f := 2) (k := i * 13 + 2) rfl hi (by omega) (.int .i64 0)
  have H4 := H3.set (i := i) (f := 3) (k := i * 13 + 3) rfl hi (by omega) (.int .i64 0)
  have H5 := H4.set (i := i) (f := 4) (k := i * 13 + 4) rfl hi (by omega) (.int .i64 0)
  have H6 := H5.set (i := i) (f := 5) (k := i * 13 + 5) rfl hi (by omega) (.int .i64 0)
  have H7 := H6.set (i := i) (f := 6) (k := i * 13 + 6) rfl hi (by omega) (.bool false)
  have H8 := H7.set (i := i) (f := 7) (k := i * 13 + 7) rfl hi (by omega) (.int .i64 0)
  have H9 := H8.set (i := i) (f := 8) (k := i * 13 + 8) rfl hi (by omega) (.int .i64 0)
  have H10 := H9.set (i := i) (f := 9) (k := i * 13 + 9) rfl hi (by omega) (.int .i64 0)
  have H11 := H10.set (i := i) (f := 10) (k := i * 13 + 10) rfl hi (by omega) (.int .i64 0)
  have H12 := H11.set (i := i) (f := 11) (k := i * 13 + 11) rfl hi (by omega) (.int .i64 0)
  have H13 := H12.set (i := i) (f := 12) (k := i * 13 + 12) rfl hi (by omega) (.bool false)
  refine ⟨rfl, (((H13.alloc _).alloc _).alloc _).congr ?_, (by with_reducible (repeat (first | refine Upd.alloc ?_ _ | refine Upd.drew ?_ | refine Upd.setEq ?_ | refine Upd.setNew ?_ (by simp) | exact Upd.refl _ _)))⟩
  clear H H1 H2 H3 H4 H5 H6 H7 H8 H9 H10 H11 H12 H13
  intro j f hj hf
  by_cases hji : j = i
  · subst hji
    have h13 : f = 0 ∨ f = 1 ∨ f = 2 ∨ f = 3 ∨ f = 4 ∨ f = 5 ∨ f = 6 ∨ f = 7 ∨ f = 8 ∨ f = 9 ∨ f = 10 ∨ f = 11 ∨ f = 12 := by omega
    rcases h13 with rfl | rfl | rfl | rfl | rfl | rfl | rfl | rfl | rfl | rfl | rfl | rfl | rfl <;> simp [praw, pset, PC.at]
  · simp [praw, pset, hji]

end Go.Proofs.Ytoeakcfbnkndbaa

import Derived.Test.YtoeakcfbnkndbaaZE
namespace Go.Proofs.Ytoeakcfbnkndbaa
open Go.RowKit Go.Maps

/-- What the law answers. -/
def Yes (w0 : World) (e : Ending) (w' : World) : Prop := e = .returned (.bool true) ∧ Below w0.heap.size w0 w'

theorem below_two {w0 w w' : World} (h : Below w0.heap.size w0 w) (hb : Below w.heap.size w w') : Below w0.heap.size w0 w' := below_trans h (Upd.below _ hb)

set_option maxRecDepth 1000000 in
set_option maxHeartbeats 4000000 in
/-- The end. -/
theorem end56 {w0 w : World} {a : Act} (h1 : a.defers = []) (h2 : a.tmps.size = 306) (hb : Below w0.heap.size w0 w) : Code.wp Try.prog (Code.r (Code.r c16)) (bodyPost Try.prog Try.f3 (Yes w0)) a w := by
  obtain ⟨u, ha, hu⟩ := frame_open h1 h2
  subst ha
  clear hu h1 h2
  have HB := Lib.hid hb
  clear hb
  conv => arg 2; whnf
  go_wp2_with (go_at_call 4; refine (awake_any _).mono ?_; rintro e w1 ⟨rfl, hb1⟩)
  go_ret
  exact ⟨rfl, below_two HB.out hb1⟩

theorem Try.info44 : (Try.prog.info? 44).map (fun i => (i.zero, i.size, i.bytes)) = some (some (.agg #[.int .i64 0, .slice none 0 0, .bool false]), 3, 40) := by kernel_rfl

/-- The workers' own block, as it is made. -/
theorem made_workers (w : World) (n : Nat) : Blk (w.alloc (.cells (madeCells #[.int .i64 0, .slice none 0 0, .bool false] (n * 3)) 44)) w.heap.size 44 (wcells n (fun _ => 0) nilV (fun _ => false)) := by
  refine ⟨_, heap_alloc_new w _, ?_⟩
  intro k v hk
  unfold wcells at hk
  split at hk
  · rename_i hlt
    cases hk
    have h3 : k % 3 = 0 ∨ k % 3 = 1 ∨ k % 3 = 2 := by omega
    unfold madeCells
    rw [Array.getElem?_map, Array.getElem?_range, if_pos hlt]
    rcases h3 with e | e | e <;> simp [e, nilV]
  · cases hk

theorem make_workers (n : Nat) (hn : n ≤ 5) (w : World) : (Instr.makeSlice 38 (.int .i64 (n : Int)) (.int .i64 (n : Int))).run Try.prog w = .ok (.slice (some ⟨w.heap.size, 0, none⟩) n n) (w.alloc (.cells (madeCells #[.int .i64 0, .slice none 0 0, .bool false] (n * 3)) 44)) := by
  obtain ⟨i0, hi0, hz0, hzs, hzb⟩ := info_parts Try.info44
  have hr := run_make (P := Try.prog) w 38 44 i0 _ Try.underlying38 hi0 hz0 .i64 .i64 n n (by omega) (Int.le_refl _) (by rw [hzb]; omega) (by omega)
  rw [hzs] at hr
  simp only [Int.toNat_natCast] at hr
  exact hr

end Go.Proofs.Ytoeakcfbnkndbaa

import Derived.Test.YtoeakcfbnkndbaaH
namespace Go.Proofs.Ytoeakcfbnkndbaa
open Go.RowKit

set_option maxRecDepth 100000 in
set_option maxHeartbeats 1600000 in
/-- slices.Insert at 0: a row of some, no room: a new row. -/
theorem ins_grow {w : World} (g n c vb : Nat) (cs vs : List Value) (hn : 0 < n) (hnc : n ≤ c) (hroom : c < n + 1) (hbig : (n + 1) * 8 ≤ 140737488355328) (hcl : cs.length = n) (hvl : vs.length = 1)
    (hcs : ∀ j v, cs[j]? = some v → w.cell? ⟨g, j, none⟩ = some v)
    (hvs : ∀ j v, vs[j]? = some v → w.cell? ⟨vb, j, none⟩ = some v) (h1c : ∀ v ∈ cs, v.oneCell' = true) (h1v : ∀ v ∈ vs, v.oneCell' = true) :
    Calls Try.prog 77 #[.slice (some ⟨g, 0, none⟩) n c, .int .i64 0, .slice (some ⟨vb, 0, none⟩) 1 1] w fun e w' =>
      ∃ G ROW, n + 1 ≤ G ∧ G ≤ maxLen ∧ Array.size ROW = G ∧ e = .returned (.slice (some ⟨w.heap.size, 0, none⟩) (n + 1) G) ∧
      w' = (((w.alloc (.cells ROW 3)).drew.setCells w.heap.size 0 vs).drew).setCells w.heap.size 1 cs := by
  obtain ⟨i0, hi0, hz0, hzs, hzb⟩ := info_parts Try.info3
  have hz2 : ¬ ((0 : Int) = (n : Int)) := by omega
  have hz3 : (c : Int) < (n : Int) + 1 := by omega
  have hbw : g < w.heap.size := World.block_lt_of_cell? w ⟨g, 0, none⟩ (hcs 0 _ (List.getElem?_eq_getElem (by omega)))
  have hvw : vb < w.heap.size := World.block_lt_of_cell? w ⟨vb, 0, none⟩ (hvs 0 _ (List.getElem?_eq_getElem (by omega)))
  have hold : (Builtin.firstCells i0.size 0 (.slice (some ⟨g, 0, none⟩) 0 c)).run Try.prog w.drew = .ok ([] : List Value).toArray w.drew := by
    rw [hzs]
    exact run_firstCells_some w.drew 1 0 ⟨g, 0, none⟩ 0 c [] rfl (fun j v hj => by simp at hj)
  have hrz : ∀ ty, (Builtin.append_ #[89, 3] ty #[.slice (some ⟨g, 0, none⟩) 0 c, .int .i64 ((n : Int) + 1)]).run Try.prog w =
      .ok (.slice (some ⟨w.heap.size, 0, none⟩) (n + 1) (grownCap w (n + 1) c 3)) (w.drew.alloc (.cells (#[] ++ Builtin.zeroCells (Value.int .i64 0).cells (n + 1) ++ Builtin.zeroCells (Value.int .i64 0).cells (grownCap w (n + 1) c 3 - (n + 1))) 3)) := fun ty => by
    have h := Lib.run_append_grow_zeros w 89 3 ty 3 i0 _ .i64 .i64 Try.underlying89 Try.underlying3 hi0 hz0 (some ⟨g, 0, none⟩) 0 c [] hold (n + 1) (by omega) (by omega) (by omega) (by omega) (by rw [hzb]; omega) (by rw [hzb, Nat.zero_add]; exact growslice_fits hroom hbig)
    rw [Nat.zero_add] at h
    have e1 : ((n + 1 : Nat) : Int) = (n : Int) + 1 := by omega
    rw [e1] at h
    exact h
  obtain ⟨G, hG⟩ : ∃ G, G = grownCap w (n + 1) c 3 := ⟨_, rfl⟩
  obtain ⟨ROW, hROW⟩ : ∃ ROW : Array Value, ROW = #[] ++ Builtin.zeroCells (Value.int .i64 0).cells (n + 1) ++ Builtin.zeroCells (Value.int .i64 0).cells (G - (n + 1)) := ⟨_, rfl⟩
  rw [← hG] at hrz
  rw [← hROW] at hrz
  have hGn : n + 1 ≤ G := by rw [hG]; exact grownCap_ge w _ _ _
  have hG63 : G ≤ maxLen := by rw [hG]; exact grownCap_le_maxLen w (n + 1) c 3 (by unfold maxLen; omega)
  have hRl : ROW.size = G := by
    rw [hROW]
    simp [Builtin.zeroCells, Value.cells]
    omega
  have HR := Lib.hid hRl
  have HG := Lib.hid hG63
  unfold maxLen at hG63
  obtain ⟨W1, hW1⟩ : ∃ W1, W1 = w.drew.alloc (.cells ROW 3) := ⟨_, rfl⟩
  rw [← hW1] at hrz
  have hN : ∀ j, j < n + 1 → (W1.cell? ⟨w.heap.size, j, none⟩).isSome = true := fun j hj => by
    rw [hW1, World.cell?_alloc_at (w := w.drew) ROW _ w.heap.size j rfl, Array.getElem?_eq_getElem (by omega)]; rfl
  have hNf : ∀ j, W1.frozen? ⟨w.heap.size, j, none⟩ = false := fun j => by rw [hW1]; exact World.frozen?_alloc_at (w := w.drew) ROW _ w.heap.size j rfl
  have hOb : ∀ j v, w.cell? ⟨g, j, none⟩ = some v → W1.cell? ⟨g, j, none⟩ = some v := fun j v h => by rw [hW1, World.cell?_alloc_past (w := w.drew) _ g j hbw]; exact h
  have hOv : ∀ j v, w.cell? ⟨vb, j, none⟩ = some v → W1.cell? ⟨vb, j, none⟩ = some v := fun j v h => by rw [hW1, World.cell?_alloc_past (w := w.drew) _ vb j hvw]; exact h
  have hcpA : ∀ (W : World), (∀ x, W.cell? x = W1.cell? x) → (∀ x, W.frozen? x = W1.frozen? x) → ∀ ty dc, (Builtin.copy_ #[89, 22] ty #[.slice (some ⟨w.heap.size, 0, none⟩) (n + 1) dc, .slice (some ⟨vb, 0, none⟩) 1 1]).run Try.prog W = .ok (goInt vs.length) (W.setCells w.heap.size 0 vs) := fun W hWc hWf ty dc =>
    run_copy_cells W _ _ ty 3 w.heap.size 0 (n + 1) dc ⟨vb, 0, none⟩ 1 1 vs Try.underlying89 Try.size3 (by rw [hvl]; simp only [Nat.min_def]; split <;> omega)
      (fun j v hj => by rw [Addr.add_lit, Nat.zero_add, hWc]; exact hOv _ v (hvs j v hj))
      (fun j hj => by rw [hWc, Nat.zero_add]; exact hN _ (by omega)) (fun j hj => by rw [hWf]; exact hNf _) h1v
  have hbN : g ≠ w.heap.size := by omega
  have hcpB : ∀ (W : World), (∀ x, W.cell? x = (W1.setCells w.heap.size 0 vs).cell? x) → (∀ x, W.frozen? x = (W1.setCells w.heap.size 0 vs).frozen? x) → ∀ ty dc sc, (Builtin.copy_ #[89, 89] ty #[.slice (some ⟨w.heap.size, 1, none⟩) n dc, .slice (some ⟨g, 0, none⟩) n sc]).run Try.prog W = .ok (goInt cs.length) (W.setCells w.heap.size 1 cs) := fun W hWc hWf ty dc sc =>
    run_copy_cells W _ _ ty 3 w.heap.size 1 n dc ⟨g, 0, none⟩ n sc cs Try.underlying89 Try.size3 (by rw [hcl]; simp only [Nat.min_def]; split <;> omega)
      (fun j v hj => by
        rw [Addr.add_lit, Nat.zero_add, hWc, World.cell?_setCells_out _ _ _ _ _ (fun h _ => absurd h hbN)]
        exact hOb _ v (hcs j v hj))
      (fun j hj => by rw [hWc]; exact isSome_setCells' _ _ _ _ (fun t ht => by rw [Nat.zero_add]; exact hN _ (by omega)) _ (hN _ (by omega)))
      (fun j hj => by rw [hWf, World.frozen?_setCells]; exact hNf _) h1c
  subst hW1
  have hE1 : ∀ x, ((w.alloc (.cells ROW 3)).drew).cell? x = (w.drew.alloc (.cells ROW 3)).cell? x := fun x => rfl
  have hE2 : ∀ x, ((w.alloc (.cells ROW 3)).drew).frozen? x = (w.drew.alloc (.cells ROW 3)).frozen? x := fun x => rfl
  have hF1 : ∀ x, (((w.alloc (.cells ROW 3)).drew.setCells w.heap.size 0 vs).drew).cell? x = ((w.drew.alloc (.cells ROW 3)).setCells w.heap.size 0 vs).cell? x := fun x => rfl
  have hF2 : ∀ x, (((w.alloc (.cells ROW 3)).drew.setCells w.heap.size 0 vs).drew).frozen? x = ((w.drew.alloc (.cells ROW 3)).setCells w.heap.size 0 vs).frozen? x := fun x => rfl
  have hw1 : IntKind.i64.wrap 1 = 1 := rfl
  have hb3 : (1 : Int) ≤ (n : Int) + 1 := by omega
  have hb4 : ¬ (c = 1 + n) := by omega
  have hb5 : (0 : Int) ≤ (n : Int) + 1 := by omega
  have hb6 : ¬ (c = 0) := by omega
  have hb7 : ¬ (G = 0) := by omega
  have hb8 : ¬ (G = 1) := by omega
  have hb9 : (0 : Int) ≤ (n : Int) := by omega
  clear hold hROW hG hRl hcs hvs hN hNf hOb hOv
  go_enter Try.func77, Try.ntmps77
  go_wp2_with (first
    | (at_builtin; refine Lib.wpList_append_run _ rfl _ _ _ _ rfl _ _ rfl rfl _ _ (hrz _) ?_)
    | (at_builtin; refine wpList_copy_eq _ rfl _ _ 89 22 rfl _ _ rfl rfl (hcpA _ hE1 hE2 _ _) ?_))
  go_region_law (refine step_copy_eq rfl _ _ 89 89 rfl (.slice (some ⟨w.heap.size, 1, none⟩) n (G - 1)) (.slice (some ⟨g, 0, none⟩) n c) (by simp [Act.eval, Act.put]) (by simp [Act.eval, Act.put]) (hcpB _ hF1 hF2 3 (G - 1) c) ?_)
  go_wp2
  go_ret
  exact ⟨G, ROW, hGn, HG.out, HR.out, rfl, rfl⟩

end Go.Proofs.Ytoeakcfbnkndbaa

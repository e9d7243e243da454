import Derived.Test.YtoeakcfbnkndbaaY
namespace Go.Proofs.Ytoeakcfbnkndbaa
open Go.RowKit Go.Maps

/-- An append whose run is known, at a step of a region that draws. -/
theorem step_append_run {P : Program} {w : World} {ops : Array Oper} {o : Oper} {a : Act} {K : Act → World → Prop} {Q : Exit → Act → World → Prop} {E : Prop} (hgd : o.guard = none) (s x : Operand) (t : TypeId)
    (ho : o.op = .call { callee := .builtin .append, args := #[s, x], argTypes := #[t, t] })
    (v u : Value) (hs : a.eval s = v) (hx : a.eval x = u) (v' : Value) (w' : World) (hr : (Builtin.append_ #[t, t] o.type #[v, u]).run P w = .ok v' w') (h : K (a.put o.dst v') w') :
    if Region.wanted o (yielded ops a.tmps) = true then Oper.wp P o a w K Q else E := by
  have hw : Region.wanted o (yielded ops a.tmps) = true := by simp [Region.wanted, hgd]
  rw [if_pos hw]
  unfold Oper.wp execOp
  simp only [ho, resolve, invoke, builtin, Sem.run_bind, Sem.run_pure, Result.andThen_ok, List.map_toArray, List.map_cons, List.map_nil, hs, hx, hr]
  exact h

/-- Some ids appended to a row. -/
theorem append_some {w : World} {B : Nat} {v : Value} {xs ys : List Int} (ho : w.ownsRow B 3 1 v xs.length (ints xs)) (hs : xs.length + ys.length ≤ 1000) (hBw : B ≤ w.heap.size) (ad : Addr) (c1 : Nat)
    (hcv : ∀ j u, (ints ys)[j]? = some u → w.cell? (ad.add j) = some u) (t : TypeId) (ht : Try.prog.underlying t = some (.slice 3)) :
    ∃ v' w1, (∀ ty, (Builtin.append_ #[t, t] ty #[v, .slice (some ad) ys.length c1]).run Try.prog w = .ok v' w1) ∧
      w1.ownsRow B 3 1 v' (xs.length + ys.length) (ints (xs ++ ys)) ∧ w.grownBy w1 v.ownBlock := by
  have h1v : ∀ u ∈ ints ys, u.oneCell' = true := by
    intro u hu
    simp only [ints, List.mem_map] at hu
    obtain ⟨x, _, rfl⟩ := hu
    rfl
  obtain ⟨i0, hi0, hz0, hzs, hzb⟩ := info_parts Try.info3
  obtain ⟨v', w1, hrun, hown, hgrow, _⟩ := run_append_own (P := Try.prog) w B t 0 3 i0 _ 1 8 ht hi0 hz0 hzs hzb rfl (by omega) v xs.length (ints xs) ho ad ys.length c1 (ints ys) (by simp [ints]) hcv h1v
    (by unfold maxLen; omega) (by omega) hBw
  have happ : ints xs ++ ints ys = ints (xs ++ ys) := by simp [ints]
  rw [happ] at hown
  exact ⟨v', w1, fun _ => hrun, hown, hgrow⟩

/-- What give leaves. -/
def Gave (LA : LkAt) (cv : Value) (cs : List Int) (k : Nat) (own' : Nat → Option Int) (wb o : Nat) (xs' : List Int) (w w' : World) : Prop :=
  ∃ w1 w2 v2, Lck w1 LA cv cs k own' ∧ Upd (· = LA.mb) w w1 ∧ Below w1.heap.size w1 w2 ∧ w2.ownsRow w1.heap.size 3 1 v2 xs'.length (ints xs') ∧ w' = w2.setCell ⟨wb, o, none⟩ v2

/-- The cells of a stretch of a row. -/
theorem stretch_cells {W : World} {g k0 : Nat} {xs ys : List Int} (hc : ∀ j, j < xs.length → W.cell? ⟨g, j, none⟩ = some (.int .i64 (xs.getD j 0))) (hy : ∀ j y, ys[j]? = some y → xs[k0 + j]? = some y) :
    ∀ j u, (ints ys)[j]? = some u → W.cell? ((⟨g, k0, none⟩ : Addr).add j) = some u := by
  intro j u hu
  simp only [ints, List.getElem?_map, Option.map_eq_some_iff] at hu
  obtain ⟨y, hy1, rfl⟩ := hu
  have h2 := hy j y hy1
  obtain ⟨hlt, h3⟩ := List.getElem?_eq_some_iff.1 h2
  have h4 := hc (k0 + j) hlt
  rw [List.getD, h2] at h4
  rw [Addr.add_lit]
  exact h4

/-- The two appends of give: all but the one at k0, in new memory. -/
theorem two_appends {w1 : World} {B g c k0 : Nat} {xs : List Int} (hrow : w1.ownsRow B 3 1 (.slice (some ⟨g, 0, none⟩) xs.length c) xs.length (ints xs)) (hxs : xs.length ≤ 100) (hk0 : k0 < xs.length) (A : Addr)
    (hA : (if c = k0 + 1 then some (⟨g, 0, none⟩ : Addr) else some ⟨g, k0 + 1, none⟩) = some A) :
    ∃ v1 W1 v2 W2, (∀ ty, (Builtin.append_ #[22, 22] ty #[.slice (some ⟨w1.heap.size, 0, none⟩) 0 0, .slice (some ⟨g, 0, none⟩) k0 c]).run Try.prog (w1.alloc (.cells #[] 3)).drew = .ok v1 W1) ∧
      (∀ ty, (Builtin.append_ #[22, 22] ty #[v1, .slice (some A) (xs.length - (k0 + 1)) (c - (k0 + 1))]).run Try.prog W1 = .ok v2 W2) ∧
      Below w1.heap.size w1 W1 ∧ Below w1.heap.size w1 W2 ∧ W2.ownsRow w1.heap.size 3 1 v2 (xs.eraseIdx k0).length (ints (xs.eraseIdx k0)) := by
  have own0 : ((w1.alloc (.cells #[] 3)).drew).ownsRow w1.heap.size 3 1 (.slice (some ⟨w1.heap.size, 0, none⟩) 0 0) ([] : List Int).length (ints []) :=
    ⟨rfl, Or.inr ⟨w1.heap.size, 0, #[], rfl, Nat.le_refl _, heap_alloc_new w1 _, by simp, by simp, rfl, rfl⟩⟩
  have hg : g < w1.heap.size := (hrow.lt g rfl).2
  have cells : ∀ W, Below w1.heap.size w1 W → ∀ j, j < xs.length → W.cell? ⟨g, j, none⟩ = some (.int .i64 (xs.getD j 0)) := by
    intro W hW j hj
    obtain ⟨g2, e2, hrc⟩ := own_cells hrow rfl hj
    cases e2
    rw [← hrc]
    exact hW.cell (p := ⟨g, j, none⟩) hg
  have b0 : Below w1.heap.size w1 (w1.alloc (.cells #[] 3)).drew := Upd.toBelow (((Upd.refl NoB w1).alloc _).drew)
  have l1 : (xs.take k0).length = k0 := by simp; omega
  have l2 : (xs.drop (k0 + 1)).length = xs.length - (k0 + 1) := by simp
  obtain ⟨v1, W1, hr1, ho1, hg1⟩ := append_some (ys := xs.take k0) own0 (by simp; omega) (by simp [World.drew]) ⟨g, 0, none⟩ c
    (stretch_cells (cells _ b0) (fun j y hy => by
      rw [List.getElem?_take] at hy
      split at hy
      · simpa using hy
      · cases hy)) 22 Try.underlying22
  have u1 : Upd NoB w1 W1 := (((Upd.refl NoB w1).alloc _).drew).grown hg1 (fun k hk => Or.inr (by cases hk; exact Nat.le_refl _))
  simp only [List.nil_append, List.length_nil, Nat.zero_add] at ho1
  have hA2 : ∀ j u, (ints (xs.drop (k0 + 1)))[j]? = some u → W1.cell? (A.add j) = some u := by
    split at hA
    · have e : xs.drop (k0 + 1) = [] := by
        rcases hrow.2 with ⟨h, _⟩ | ⟨g2, c2, cur, h, _, _, hc, _⟩
        · cases h
        · cases h
          exact List.drop_eq_nil_of_le (by omega)
      intro j u hu
      rw [e] at hu
      simp [ints] at hu
    · cases hA
      exact stretch_cells (cells _ u1.toBelow) (fun j y hy => by
        rw [List.getElem?_drop] at hy
        exact hy)
  obtain ⟨v2, W2, hr2, ho2, hg2⟩ := append_some (ys := xs.drop (k0 + 1)) ho1 (by simp; omega) u1.size A (c - (k0 + 1)) hA2 22 Try.underlying22
  have u2 : Upd NoB w1 W2 := u1.grown hg2 (fun k hk => Or.inr (ho1.lt k hk).1)
  rw [l1] at hr1
  rw [l2] at hr2
  refine ⟨v1, W1, v2, W2, hr1, hr2, u1.toBelow, u2.toBelow, ?_⟩
  have e : xs.take k0 ++ xs.drop (k0 + 1) = xs.eraseIdx k0 := (List.eraseIdx_eq_take_drop_succ xs k0).symm
  rw [← List.length_append, e] at ho2
  exact ho2

set_option maxRecDepth 100000 in
set_option maxHeartbeats 4000000 in
theorem lgive_any {w : World} {LA : LkAt} {cv : Value} {cs : List Int} {k : Nat} {own : Nat → Option Int} (hL : Lck w LA cv cs k own) {wb o g c B : Nat} {xs : List Int}
    (hcell : w.cell? ⟨wb, o + 1, none⟩ = some (.slice (some ⟨g, 0, none⟩) xs.length c)) (hfz : w.frozen? ⟨wb, o + 1, none⟩ = false) (hrow : w.ownsRow B 3 1 (.slice (some ⟨g, 0, none⟩) xs.length c) xs.length (ints xs))
    (hxs : xs.length ≤ 100) (id : Int) (k0 : Nat) (hk0 : k0 < xs.length) (l : Nat) (hl : l < cs.length) (hxl : xs.getD k0 0 = (l : Int)) (ho : own l = some id) (h1 : wb ≠ LA.mb) (h2 : g ≠ LA.mb) :
    Calls Try.prog 10 #[.pointer (some ⟨LA.L, 0, none⟩), .pointer (some ⟨wb, o, none⟩), .int .i64 id, .int .i64 k0] w fun e w' => e = .returned (.bool true) ∧ Gave LA cv cs k (fset own l none) wb (o + 1) (xs.eraseIdx k0) w w' := by
  have HG := Lib.hid (give_any hL id l hl ho)
  have hrc := own_cells hrow rfl hk0
  obtain ⟨g2, e2, hrc⟩ := hrc
  cases e2
  rw [hxl] at hrc
  have HR := Lib.hid hrow
  clear hL hrow
  have hwb := World.block_lt_of_cell? w _ hcell
  have hg := World.block_lt_of_cell? w _ hrc
  obtain ⟨A, hA⟩ : ∃ A : Addr, (if c = k0 + 1 then some (⟨g, 0, none⟩ : Addr) else some ⟨g, k0 + 1, none⟩) = some A := by
    split
    · exact ⟨_, rfl⟩
    · exact ⟨_, rfl⟩
  have AP := Lib.hid (fun (w1 : World) (hr1 : w1.ownsRow B 3 1 (.slice (some ⟨g, 0, none⟩) xs.length c) xs.length (ints xs)) => two_appends (k0 := k0) hr1 hxs hk0 A hA)
  generalize hn : xs.length = n at *
  have hk0' : (k0 : Int) < (n : Int) := by omega
  have hlen2 : n ≤ c := by
    rcases HR.out.2 with ⟨h, _⟩ | ⟨g2, c2, cur, h, _, _, hc, _⟩
    · cases h
    · cases h; exact hc
  have hwr : IntKind.i64.wrap ((k0 : Int) + 1) = (k0 : Int) + 1 := by rw [IntKind.wrap_i64]; omega
  have hp0 : (0 : Int) ≤ ((k0 : Int) + 1) := by omega
  have hp1 : ((k0 : Int) + 1) ≤ (n : Int) := by omega
  have hp2 : ((k0 : Int) + 1).toNat = k0 + 1 := by omega
  have hkn : k0 ≤ n := by omega
  have hkc : k0 ≤ c := by omega
  have HGC := Lib.hid (fun (w1 : World) (hu1 : Upd (· = LA.mb) w w1) => World.cell?_of_block (a := ⟨wb, o + 1, none⟩) (hu1.block wb hwb h1))
  have HGF := Lib.hid (fun (w1 : World) (hu1 : Upd (· = LA.mb) w w1) => World.frozen?_of_block (a := ⟨wb, o + 1, none⟩) (hu1.block wb hwb h1))
  have HGR := Lib.hid (fun (w1 : World) (hu1 : Upd (· = LA.mb) w w1) => own_same' HR.out (w' := w1) (fun k hk => by cases hk; exact hu1.block g hg h2))
  clear h1 h2
  go_enter Try.func10, Try.ntmps10
  go_wp2_with (go_at_call 25; refine HG.out.mono ?_; rintro e w1 ⟨rfl, hL1, hu1⟩)
  have hc1 := (HGC.out w1 hu1).trans hcell
  have hf1 := (HGF.out w1 hu1).trans hfz
  have hwb1 := World.block_lt_of_cell? w1 _ hc1
  obtain ⟨v1, W1, v2, W2, hr1, hr2, hb1, hb2, hown⟩ := AP.out w1 (HGR.out w1 hu1)
  obtain ⟨a2, c2, rfl⟩ := own_slice hown
  generalize hm : (xs.eraseIdx k0).length = m at *
  have HR1 := Lib.hid hr1
  have HR2 := Lib.hid hr2
  clear hr1 hr2
  have hcW1 := (hb1.cell (p := ⟨wb, o + 1, none⟩) hwb1).trans hc1
  have hcW2 := (hb2.cell (p := ⟨wb, o + 1, none⟩) hwb1).trans hc1
  have hfW2 := (hb2.frozen (p := ⟨wb, o + 1, none⟩) hwb1).trans hf1
  have ne1 := World.new_ne w1 ⟨wb, o + 1, none⟩ hc1
  have HB1 := Lib.hid hb1
  have HB2 := Lib.hid hb2
  clear hb1 hb2
  go_region_law (first | (refine step_append_run (by rfl) _ _ _ (by rfl) _ _ (by rfl) (by rfl) _ _ (HR1.out _) ?_) | (refine step_append_run (by rfl) _ _ _ (by rfl) _ _ (by rfl) (by rfl) _ _ (HR2.out _) ?_))
  all_goals (go_wp2; go_ret; exact ⟨rfl, w1, W2, _, hL1, hu1, HB2.out, by rw [hm]; exact hown, rfl⟩)

end Go.Proofs.Ytoeakcfbnkndbaa

import Derived.Test.YtoeakcfbnkndbaaG
import Derived.Lib.AppendZeros
import Derived.Lib.AppendZerosOnto
import Derived.Lib.Overlaps
import Derived.Laws.Externs
import Derived.Laws.IdiomCopy
import Derived.Laws.NewBlocks
namespace Go.Proofs.Ytoeakcfbnkndbaa
open Go.RowKit

section
variable {P : Program}
/-- The built-in copy, where its run is known by an equation. -/
theorem wp_copy_eq (w : World) {o : Oper} {a : Act} {K : Act → World → Prop} {Q : Exit → Act → World → Prop} (d s : Operand) (t t' : TypeId)
    (ho : o.op = .call { callee := .builtin .copy, args := #[d, s], argTypes := #[t, t'] }) (v u : Value) (hd : a.eval d = v) (hs : a.eval s = u) {v' : Value} {w' : World}
    (hr : (Builtin.copy_ #[t, t'] o.type #[v, u]).run P w = .ok v' w') (h : K (a.put o.dst v') w') : o.wp P a w K Q := by
  unfold Oper.wp execOp
  simp only [ho, resolve, invoke, builtin, Sem.run_bind, Sem.run_pure, Result.andThen_ok, List.map_toArray, List.map_cons, List.map_nil, hd, hs, hr]
  exact h

theorem wpList_copy_eq (w : World) {ops : Array Oper} {rest : List Oper} {o : Oper} {a : Act} {Q : Exit → Act → World → Prop} (hgd : o.guard = none) (d s : Operand) (t t' : TypeId)
    (ho : o.op = .call { callee := .builtin .copy, args := #[d, s], argTypes := #[t, t'] }) (v u : Value) (hd : a.eval d = v) (hs : a.eval s = u) {v' : Value} {w' : World}
    (hr : (Builtin.copy_ #[t, t'] o.type #[v, u]).run P w = .ok v' w') (h : wpList P ops Q rest (a.put o.dst v') w') : wpList P ops Q (o :: rest) a w :=
  wpList_plain hgd fun _ hK => wp_copy_eq w d s t t' ho v u hd hs hr (hK _ _ h)

theorem step_copy_eq {ops : Array Oper} {o : Oper} {a : Act} {w : World} {K : Act → World → Prop} {Q : Exit → Act → World → Prop} {E : Prop}
    (hg : o.guard = none) (d x : Operand) (dT sT : TypeId) (hop : o.op = Op.call { callee := Callee.builtin Builtin.copy, args := #[d, x], argTypes := #[dT, sT] })
    (v u : Value) (hd : a.eval d = v) (hx : a.eval x = u) {v' : Value} {w' : World} (hr : (Builtin.copy_ #[dT, sT] o.type #[v, u]).run P w = .ok v' w') (hK : K (a.put o.dst v') w') :
    if Region.wanted o (yielded ops a.tmps) = true then Oper.wp P o a w K Q else E := by
  have hw : Region.wanted o (yielded ops a.tmps) = true := by simp [Region.wanted, hg]
  rw [if_pos hw]
  unfold Oper.wp
  simp [execOp, hop, resolve, invoke, builtin, hd, hx, hr, Result.andThen]
  exact hK
end

theorem isSome_setCells' (b : Nat) (vs : List Value) (o : Nat) (w : World) (h : ∀ j, j < vs.length → (w.cell? ⟨b, o + j, none⟩).isSome = true) (k : Nat) (hk : (w.cell? ⟨b, k, none⟩).isSome = true) : ((w.setCells b o vs).cell? ⟨b, k, none⟩).isSome = true := by
  by_cases hin : o ≤ k ∧ k < o + vs.length
  · have := World.cell?_setCells_in b vs o w h (k - o) (by omega)
    rw [show o + (k - o) = k by omega] at this
    rw [this]; rfl
  · rw [World.cell?_setCells_out b vs o w ⟨b, k, none⟩ (fun _ _ => by show k < o ∨ o + vs.length ≤ k; omega)]
    exact hk

/-- An append whose second argument has another slice type than the first. -/
theorem append_types (ty : TypeId) (a : Option Addr) (n c : Nat) (b : Value) (w : World) :
    (Builtin.append_ #[89, 22] ty #[.slice a n c, b]).run Try.prog w = (Builtin.append_ #[89, 89] ty #[.slice a n c, b]).run Try.prog w := by
  have hs : ∀ w, (sizeOf 3).run Try.prog w = .ok 1 w := fun _ => by kernel_rfl
  simp [Builtin.append_, run_underlying Try.underlying89, run_underlying Try.underlying22, Sem.run_bind, hs]

set_option maxRecDepth 100000 in
set_option maxHeartbeats 800000 in
/-- slices.Insert at 0: an empty row. -/
theorem ins_empty {w w1 : World} (v v' : Value) (a : Option Addr) (c vb : Nat) (hv : v = .slice a 0 c)
    (hrun : ∀ ty, (Builtin.append_ #[89, 89] ty #[v, .slice (some ⟨vb, 0, none⟩) 1 1]).run Try.prog w = .ok v' w1) :
    Calls Try.prog 77 #[v, .int .i64 0, .slice (some ⟨vb, 0, none⟩) 1 1] w fun e w' => e = .returned v' ∧ w1 = w' := by
  subst hv
  have hr2 : ∀ ty, (Builtin.append_ #[89, 22] ty #[.slice a 0 c, .slice (some ⟨vb, 0, none⟩) 1 1]).run Try.prog w = .ok v' w1 := fun ty => by rw [append_types]; exact hrun ty
  clear hrun
  go_enter Try.func77, Try.ntmps77
  go_wp2_with (at_builtin; refine Lib.wpList_append_run _ rfl _ _ _ _ rfl _ _ rfl rfl _ _ (hr2 _) ?_)
  go_ret
  exact ⟨rfl, rfl⟩

theorem Try.size3 : (Try.prog.info? 3).map (·.size) = some 1 := by kernel_rfl

set_option maxRecDepth 100000 in
set_option maxHeartbeats 1600000 in
/-- slices.Insert at 0: there is room: in place. -/
theorem ins_shift {w : World} (g n c vb : Nat) (cs vs : List Value) (hn : 0 < n) (hroom : n + 1 ≤ c) (hc63 : c ≤ 9223372036854775807) (hvb : vb ≠ g) (hcl : cs.length = n) (hvl : vs.length = 1)
    (hcs : ∀ j v, cs[j]? = some v → w.cell? ⟨g, j, none⟩ = some v) (hsp : ∀ j, j < n + 1 → (w.cell? ⟨g, j, none⟩).isSome = true) (hfz : ∀ j, w.frozen? ⟨g, j, none⟩ = false)
    (hvs : ∀ j v, vs[j]? = some v → w.cell? ⟨vb, j, none⟩ = some v) (h1c : ∀ v ∈ cs, v.oneCell' = true) (h1v : ∀ v ∈ vs, v.oneCell' = true)
    (tA tB : TypeId) (kA kB : Nat) (hsa : w.shape? vb = some (tA, kA)) (hsb : w.shape? g = some (tB, kB)) (hkB : kB ≠ 0) (hfa : ∀ j, w.frozen? ⟨vb, j, none⟩ = false) :
    Calls Try.prog 77 #[.slice (some ⟨g, 0, none⟩) n c, .int .i64 0, .slice (some ⟨vb, 0, none⟩) 1 1] w fun e w' =>
      e = .returned (.slice (some ⟨g, 0, none⟩) (n + 1) c) ∧ w' = (w.drew.setCells g 1 cs).setCells g 0 vs := by
  have hz2 : ¬ ((0 : Int) = (n : Int)) := by omega
  have hov : ∀ lb cb, (callFunc 84 #[.slice (some ⟨vb, 0, none⟩) 1 1, .slice (some ⟨g, 1, none⟩) lb cb]).run Try.prog w = .ok (.value (.bool false)) w := fun lb cb => by
    rw [run_callFunc_extern Try.func84 (by kernel_rfl) (by kernel_rfl) (by kernel_rfl) (e := Extern.SlicesOverlaps.overlaps #[22, 22] #[4]) (by kernel_rfl),
      Lib.run_overlaps_apart w 22 4 3 Try.underlying22 1 (fun _ => by kernel_rfl) ⟨vb, 0, none⟩ ⟨g, 1, none⟩ 1 1 lb cb hvb tA tB kA kB hsa hsb hkB (hfa _) (hfa _)]
    rfl
  have hcp1 : ∀ ty dc sc, (Builtin.copy_ #[89, 89] ty #[.slice (some ⟨g, 1, none⟩) n dc, .slice (some ⟨g, 0, none⟩) (n + 1) sc]).run Try.prog w.drew = .ok (goInt cs.length) (w.drew.setCells g 1 cs) := fun ty dc sc =>
    run_copy_cells w.drew _ _ ty 3 g 1 n dc ⟨g, 0, none⟩ (n + 1) sc cs Try.underlying89 Try.size3 (by rw [hcl]; simp only [Nat.min_def]; split <;> omega)
      (fun j v hj => by rw [Addr.add_lit, Nat.zero_add]; exact hcs j v hj)
      (fun j hj => hsp _ (by omega)) (fun j hj => hfz _) h1c
  obtain ⟨W1, hW1⟩ : ∃ W1, W1 = w.drew.setCells g 1 cs := ⟨_, rfl⟩
  have hsp1 : ∀ k, k < n + 1 → (W1.cell? ⟨g, k, none⟩).isSome = true := fun k hk => by
    rw [hW1]
    exact isSome_setCells' g cs 1 w.drew (fun j hj => hsp (1 + j) (by omega)) k (hsp k hk)
  have hcp2 : ∀ (W : World), (∀ x, W.cell? x = W1.cell? x) → (∀ x, W.frozen? x = W1.frozen? x) → ∀ ty dc, (Builtin.copy_ #[89, 22] ty #[.slice (some ⟨g, 0, none⟩) (n + 1) dc, .slice (some ⟨vb, 0, none⟩) 1 1]).run Try.prog W = .ok (goInt vs.length) (W.setCells g 0 vs) := fun W hWc hWf ty dc =>
    run_copy_cells W _ _ ty 3 g 0 (n + 1) dc ⟨vb, 0, none⟩ 1 1 vs Try.underlying89 Try.size3 (by rw [hvl]; simp only [Nat.min_def]; split <;> omega)
      (fun j v hj => by
        rw [Addr.add_lit, Nat.zero_add, hWc, hW1, World.cell?_setCells_out g _ _ _ _ (fun h _ => absurd h hvb)]
        exact hvs j v hj)
      (fun j hj => by rw [hWc, Nat.zero_add]; exact hsp1 _ (by omega)) (fun j hj => by rw [hWf, hW1, World.frozen?_setCells]; exact hfz _) h1v
  rw [← hW1] at hcp1
  have hw1 : IntKind.i64.wrap 1 = 1 := rfl
  have hb3 : (1 : Int) ≤ (n : Int) + 1 := by omega
  have hb4 : ¬ (c = 1) := by omega
  have hb5 : (0 : Int) ≤ (n : Int) + 1 := by omega
  have hb6 : ¬ (c = 0) := by omega
  clear hcs hsp hfz hvs hsp1 hfa
  go_enter Try.func77, Try.ntmps77
  go_wp2_with (simp only [hov])
  go_region_law (refine step_copy_eq rfl _ _ 89 89 rfl _ _ (by simp [Act.eval, Act.put]) (by simp [Act.eval, Act.put]) (hcp1 _ _ _) ?_)
  go_wp2_with (at_builtin; refine wpList_copy_eq _ rfl _ _ 89 22 rfl _ _ rfl rfl (hcp2 _ (fun _ => rfl) (fun _ => rfl) _ _) ?_)
  go_ret
  exact ⟨rfl, rfl⟩

end Go.Proofs.Ytoeakcfbnkndbaa

import Derived.Test.YtoeakcfbnkndbaaF
namespace Go.Proofs.Ytoeakcfbnkndbaa
open Go.RowKit

theorem Try.info3 : (Try.prog.info? 3).map (fun i => (i.zero, i.size, i.bytes)) = some (some (.int .i64 0), 1, 8) := by kernel_rfl

/-- The cells that move one to the left. -/
def moved (cs : List Value) (k n : Nat) : List Value := (cs.drop (k + 1)).take (n - (k + 1))

theorem moved_length {cs : List Value} {k n : Nat} (h : n ≤ cs.length) : (moved cs k n).length = n - (k + 1) := by
  simp [moved]; omega

theorem moved_get {cs : List Value} {k n j : Nat} (hj : j < n - (k + 1)) : (moved cs k n)[j]? = cs[k + 1 + j]? := by
  simp [moved, hj]

/-- clear of one int. -/
theorem clear_one (b o c : Nat) (w : World) (h1 : (w.cell? ⟨b, o, none⟩).isSome = true) (h2 : w.frozen? ⟨b, o, none⟩ = false) :
    (Builtin.clear_ #[89] 0 #[.slice (some ⟨b, o, none⟩) 1 c]).run Try.prog w = .ok (.tuple #[]) (w.setCell ⟨b, o, none⟩ (.int .i64 0)) := by
  have hz : (zeroValue 3).run Try.prog w = .ok (.int .i64 0) w := by kernel_rfl
  have hcells : (Builtin.zeroCells (Value.int IntKind.i64 0).cells 1).toList = [.int .i64 0] := by kernel_rfl
  obtain ⟨u, hu⟩ := Option.isSome_iff_exists.1 h1
  have hadd : (⟨b, o, none⟩ : Addr).add 0 = ⟨b, o, none⟩ := rfl
  have hst := run_storeCells_cells (P := Try.prog) b o [.int .i64 0] 0 w (fun j hj => by simp at hj; subst hj; exact h1) (fun j hj => by simp at hj; subst hj; exact h2) (fun v hv => by simp at hv; subst hv; rfl)
  simp only [Nat.add_zero, World.setCells] at hst
  simp [Builtin.clear_, run_underlying Try.underlying89, Sem.run_bind, hz, hcells, hst]

set_option maxRecDepth 100000 in
set_option maxHeartbeats 800000 in
theorem delete_walk {w : World} (g n c k : Nat) (cs : List Value) (hl : cs.length = n) (hk : k < n) (hn : n ≤ c) (hm : c ≤ 9223372036854775807)
    (hc : ∀ j v, cs[j]? = some v → w.cell? ⟨g, j, none⟩ = some v) (hf : ∀ j, w.frozen? ⟨g, j, none⟩ = false) (h1 : ∀ v ∈ cs, v.oneCell' = true) :
    Calls Try.prog 54 #[.slice (some ⟨g, 0, none⟩) n c, .int .i64 k, .int .i64 ((k : Int) + 1)] w fun e w' =>
      e = .returned (.slice (some ⟨g, 0, none⟩) (n - 1) c) ∧ w' = (w.drew.setCells g k (moved cs k n)).setCell ⟨g, n - 1, none⟩ (.int .i64 0) := by
  obtain ⟨i0, hi0, hz0, hz1, hz2⟩ := info_parts Try.info3
  obtain ⟨A, hA, hnews⟩ : ∃ A : Addr, (if c = k + 1 then some (⟨g, 0, none⟩ : Addr) else some ⟨g, k + 1, none⟩) = some A ∧ Hid (∀ j u, (moved cs k n)[j]? = some u → w.drew.cell? (A.add j) = some u) := by
    by_cases h : c = k + 1
    · refine ⟨⟨g, 0, none⟩, by simp [h], fun j u hu => ?_⟩
      have h0 : (moved cs k n).length = 0 := by rw [moved_length (by omega)]; omega
      rw [List.length_eq_zero_iff.1 h0] at hu
      simp at hu
    · refine ⟨⟨g, k + 1, none⟩, by simp [h], fun j u hu => ?_⟩
      have hj : j < n - (k + 1) := by
        have := (List.getElem?_eq_some_iff.1 hu).1
        rwa [moved_length (by omega)] at this
      rw [moved_get hj] at hu
      rw [Addr.add_lit]
      exact hc (k + 1 + j) u hu
  have s1 : Hid ((moved cs k n).length = (n - (k + 1)) * 1) := by rw [Nat.mul_one]; exact moved_length (by omega)
  have s2 : Hid (∀ u ∈ moved cs k n, u.oneCell' = true) := fun u hu => h1 u (List.mem_of_mem_drop (List.mem_of_mem_take hu))
  have s3 : Hid (∀ j, j < (moved cs k n).length → (w.drew.cell? ⟨g, 0 + k * 1 + j, none⟩).isSome = true ∧ w.drew.frozen? ⟨g, 0 + k * 1 + j, none⟩ = false) := by
    intro j hj
    rw [moved_length (by omega)] at hj
    refine ⟨?_, hf _⟩
    have : w.cell? ⟨g, 0 + k * 1 + j, none⟩ = some (cs[k + j]'(by omega)) := by
      rw [show 0 + k * 1 + j = k + j by omega]
      exact hc _ _ (List.getElem?_eq_getElem (by omega))
    show (w.cell? _).isSome = true
    rw [this]; rfl
  have hkc : k ≤ c := by omega
  have hwr : IntKind.i64.wrap ((k : Int) + 1) = (k : Int) + 1 := by rw [IntKind.wrap_i64]; omega
  have hp0 : (0 : Int) ≤ ((k : Int) + 1) := by omega
  have hp1 : ((k : Int) + 1) ≤ (n : Int) := by omega
  have hp2 : ((k : Int) + 1).toNat = k + 1 := by omega
  have hsl : (moved cs k n).length = n - (k + 1) := moved_length (by omega)
  have hclr : (Builtin.clear_ #[89] 0 #[.slice (some ⟨g, k + (n - (k + 1)), none⟩) (n - (k + (n - (k + 1)))) (c - (k + (n - (k + 1))))]).run Try.prog (w.drew.setCells g k (moved cs k n)) =
      .ok (.tuple #[]) ((w.drew.setCells g k (moved cs k n)).setCell ⟨g, n - 1, none⟩ (.int .i64 0)) := by
    rw [show n - (k + (n - (k + 1))) = 1 by omega, show k + (n - (k + 1)) = n - 1 by omega]
    refine clear_one g (n - 1) _ _ ?_ ?_
    · rw [World.cell?_setCells_out]
      · show (w.cell? _).isSome = true
        rw [hc (n - 1) _ (List.getElem?_eq_getElem (by omega))]; rfl
      · intro _ _; right; rw [hsl]; show k + (n - (k + 1)) ≤ n - 1; omega
    · rw [World.frozen?_setCells]; exact hf _
  have HCL := Lib.hid hclr
  have hnn : k + (n - (k + 1)) = n - 1 := by omega
  have HNN := Lib.hid hnn
  clear hnn hsl HCL
  have hne : ((k : Int) == (k : Int) + 1) = false := by simp; omega
  clear hc hf h1
  go_enter Try.func54, Try.ntmps54
  go_wp2_with fail
  go_region_law (refine step_append_room rfl (.tmp 22) (.tmp 25) 89 rfl 3 i0 1 Try.underlying89 hi0 hz1 g 0 k c (by simp [Act.eval, Act.put]) A (n - (k + 1)) (c - (k + 1)) (moved cs k n) (by simp [Act.eval, Act.put]) s1.out hnews.out s2.out (by omega) s3.out ?_)
  go_wp2
  go_ret
  exact ⟨by rw [← HNN.out]; rfl, rfl⟩

end Go.Proofs.Ytoeakcfbnkndbaa

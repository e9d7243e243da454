import Derived.Test.YtoeakcfbnkndbaaX
import Derived.Deep.RegionHeldLaw
import Derived.Deep.AppendLies
namespace Go.Proofs.Ytoeakcfbnkndbaa
open Go.RowKit Go.Maps

def pcells (p : Int) : List Value := [.int .i64 p, .int .i64 0, .int .i64 0, .int .i64 0, .int .i64 0, .int .i64 0, .bool false, .int .i64 0, .int .i64 0, .int .i64 0, .int .i64 0, .int .i64 0, .bool false]

theorem Try.info88 : (Try.prog.info? 88).map (fun i => (i.zero, i.size, i.bytes)) = some (some (.agg (pcells 0).toArray), 13, 104) := by kernel_rfl

theorem pcells_one (x : Int) : ∀ u ∈ pcells x, u.oneCell' = true := by
  intro u hu
  unfold pcells at hu
  simp only [List.mem_cons, List.not_mem_nil, or_false] at hu
  rcases hu with h | h | h | h | h | h | h | h | h | h | h | h | h <;> (subst h; rfl)

/-- Attributes of priorities alone. -/
def Attrs (w : World) (g : Nat) (pr : List Int) : Prop :=
  ∀ i, i < pr.length → w.cell? ⟨g, i * 5, none⟩ = some (.int .i64 (pr.getD i 0)) ∧ w.cell? ⟨g, i * 5 + 1, none⟩ = some (.int .i64 0) ∧ w.cell? ⟨g, i * 5 + 2, none⟩ = some (.int .i64 0) ∧ w.cell? ⟨g, i * 5 + 3, none⟩ = some (.int .i64 0) ∧ w.cell? ⟨g, i * 5 + 4, none⟩ = some (.int .i64 0)

theorem Attrs.below {w w' : World} {g : Nat} {pr : List Int} (h : Attrs w g pr) (hb : Below w.heap.size w w') : Attrs w' g pr := by
  intro i hi
  have hg : g < w.heap.size := World.block_lt_of_cell? w ⟨g, i * 5, none⟩ (h i hi).1
  obtain ⟨h0, h1, h2, h3, h4⟩ := h i hi
  exact ⟨(hb.cell hg).trans h0, (hb.cell hg).trans h1, (hb.cell hg).trans h2, (hb.cell hg).trans h3, (hb.cell hg).trans h4⟩

def fineP (pr : List Int) : Prop := ∀ i, i < pr.length → 1 ≤ pr.getD i 0 ∧ pr.getD i 0 ≤ 63

theorem own_same' {w w' : World} {B e sz : Nat} {v : Value} {n : Nat} {xs : List Value} (h : w.ownsRow B e sz v n xs) (hb : ∀ k, v.ownBlock = some k → w'.heap[k]? = w.heap[k]?) : w'.ownsRow B e sz v n xs := by
  refine ⟨h.1, ?_⟩
  rcases h.2 with hn | ⟨g, cap, cur, rfl, hB, hg, rest⟩
  · exact Or.inl hn
  · exact Or.inr ⟨g, cap, cur, rfl, hB, (hb g rfl).trans hg, rest⟩

theorem keepC (w : World) (o : Obj) (a : Addr) (h : a.block < w.heap.size) : (w.alloc o).drew.cell? a = w.cell? a := World.cell?_of_block (Below.heap_alloc w o a.block h)
theorem keepF (w : World) (o : Obj) (a : Addr) (h : a.block < w.heap.size) : (w.alloc o).drew.frozen? a = w.frozen? a := World.frozen?_of_block (Below.heap_alloc w o a.block h)

/-- The table so far. -/
def TabAt (w : World) (wr : World) (pr : List Int) (j : Nat) : Prop :=
  ∃ v, Blk wr w.heap.size 82 (fun k => if k = 0 then some v else none) ∧ wr.ownsRow (w.heap.size + 1) 88 13 v j ((pr.take j).flatMap pcells) ∧ Below w.heap.size w wr

theorem tabAt_next {w wr w3 : World} {pr : List Int} {j g' cap : Nat} {v : Value} (hj : j < pr.length) (hT : Blk wr w.heap.size 82 (fun k => if k = 0 then some v else none)) (ho : wr.ownsRow (w.heap.size + 1) 88 13 v j ((pr.take j).flatMap pcells)) (hbel : Below w.heap.size w wr)
    (hown : w3.ownsRow (w.heap.size + 1) 88 13 (.slice (some ⟨g', 0, none⟩) (j + 1) cap) (j + 1) ((pr.take j).flatMap pcells ++ pcells (pr.getD j 0)))
    (hu : Upd (fun b => v.ownBlock = some b) wr w3) : TabAt w (w3.setCell ⟨w.heap.size, 0, none⟩ (.slice (some ⟨g', 0, none⟩) (j + 1) cap)) pr (j + 1) := by
  have hT3 := hT.upd hu (fun e => by have := (ho.lt _ e).1; omega)
  refine ⟨.slice (some ⟨g', 0, none⟩) (j + 1) cap, (hT3.set (k := 0) rfl _).weak ?_, ?_, ?_⟩
  · intro k u hk
    by_cases e : k = 0
    · simp [e] at hk ⊢
      exact hk
    · simp [e] at hk
  · have e : (pr.take (j + 1)).flatMap pcells = (pr.take j).flatMap pcells ++ pcells (pr.getD j 0) := by
      rw [List.take_succ_eq_append_getElem hj, List.flatMap_append, List.getD, List.getElem?_eq_getElem hj]
      simp
    rw [e]
    refine own_same' hown (fun k hk => Below.heap_setCell _ _ _ _ ?_)
    have := (hown.lt _ hk).1
    intro e
    simp at e
    omega
  · refine Upd.toBelow (Upd.setNew ?_ (by simp))
    exact (Upd.below NoB hbel).next hu (fun k hk e => by have := (ho.lt _ e).1; omega)

/-- What proc.New hands back: p is the first bad place, or the end. -/
def NewProc (w : World) (pr : List Int) (p : Nat) (e : Ending) (w' : World) : Prop :=
  (p = pr.length ∧ e = .returned (.tuple #[.pointer (some ⟨w.heap.size, 0, none⟩), .int .i64 0]) ∧ TabAt w w' pr pr.length) ∨
  (p < pr.length ∧ e = .returned (.tuple #[.pointer none, .int .i64 2]) ∧ Below w.heap.size w w')

set_option maxRecDepth 100000 in
set_option maxHeartbeats 1600000 in
theorem pnew_any {w : World} {g c : Nat} {pr : List Int} (h : Attrs w g pr) (h0 : 0 < pr.length) (hl : pr.length ≤ 16) (p : Nat) (hp : p ≤ pr.length) (hok : ∀ i, i < p → 1 ≤ pr.getD i 0 ∧ pr.getD i 0 ≤ 63) (hbad : p < pr.length → ¬ (1 ≤ pr.getD p 0 ∧ pr.getD p 0 ≤ 63)) :
    Calls Try.prog 19 #[.slice (some ⟨g, 0, none⟩) pr.length c] w (NewProc w pr p) := by
  have hg : g < w.heap.size := World.block_lt_of_cell? w ⟨g, 0 * 5, none⟩ (h 0 h0).1
  have HBAD := Lib.hid hbad
  clear hbad
  have HA := Lib.hid h
  have HK := Lib.hid hok
  clear h hok
  obtain ⟨i0, hi0, hz0, hzs, hzb⟩ := info_parts Try.info88
  go_enter Try.func19, Try.ntmps19
  go_wp2_with fail
  go_loopg [14] pr.length (fun gg s14 wr => ∃ j : Nat, j + gg = pr.length ∧ j ≤ p ∧ s14 = .int .i64 j ∧ TabAt w wr pr j)
  case atStart =>
    refine ⟨0, by omega, by omega, rfl, .slice none 0 0, ⟨_, heap_alloc_new w _, ?_⟩, World.ownsRow_nil _ _ _ _, Upd.toBelow ((Upd.refl _ _).alloc _)⟩
    intro k v hk
    by_cases e : k = 0
    · subst e; simpa using hk
    · simp [e] at hk
  case round =>
    obtain ⟨j, hjg, hjp, rfl, v, hT, ho, hbel⟩ := hrel
    cases gk with
    | zero =>
      have hj : ¬ ((j : Int) < (pr.length : Int)) := by omega
      go_wp2
      go_ret2
      have e : j = pr.length := by omega
      subst e
      exact Or.inl ⟨by omega, rfl, v, hT, ho, hbel⟩
    | succ gg =>
      have hj : (j : Int) < (pr.length : Int) := by omega
      obtain ⟨a0, a1, a2, a3, a4⟩ := (HA.out.below hbel) j (by omega)
      rcases Nat.lt_or_ge j p with hjp2 | hjp2
      rotate_left
      · have e : p = j := by omega
        have hb2 := HBAD.out (by omega)
        rw [e] at hb2
        obtain ⟨x, hx⟩ : ∃ x, x = pr.getD j 0 := ⟨_, rfl⟩
        rw [← hx] at a0 hb2
        clear hx
        have b1 : (decide (1 ≤ x) && decide (x ≤ 63)) = false := by
          rw [Bool.eq_false_iff]
          intro hh
          simp at hh
          exact hb2 hh
        have HB2 := Lib.hid hb2
        clear hb2
        go_wp2_with (go_at_call 35; refine (may_any _ _).mono ?_; rintro e w1 ⟨rfl, hb1⟩; rw [b1])
        go_ret2
        refine Or.inr ⟨by omega, rfl, Upd.toBelow (Upd.trans (Upd.below NoB hbel) ?_)⟩
        exact Upd.below NoB (Upd.toBelow (((Upd.refl _ _).alloc _).trans (Upd.below _ hb1)))
      obtain ⟨p1, p2⟩ := HK.out j hjp2
      have NX := Lib.hid (fun (w3 : World) (g' cap : Nat) => tabAt_next (w3 := w3) (g' := g') (cap := cap) (by omega : j < pr.length) hT ho hbel)
      obtain ⟨x, hx⟩ : ∃ x, x = pr.getD j 0 := ⟨_, rfl⟩
      rw [← hx] at a0 p1 p2 NX
      clear hx
      have b1 : decide (1 ≤ x) = true := by simp [p1]
      have b2 : decide (x ≤ 63) = true := by simp [p2]
      have hsz := hbel.size
      have HT := Lib.hid hT
      have HO := Lib.hid ho
      have ltT := hT.lt
      clear hT ho
      go_wp2_with (go_at_call 35; refine (may_any _ _).mono ?_; rintro e w1 ⟨rfl, hb1⟩; rw [b1, b2])
      have nw := heap_alloc_new wr (.cells #[.int .i64 x, .int .i64 0, .int .i64 0, .int .i64 0, .int .i64 0] 30)
      have nw1 := (hb1.block wr.heap.size (by simp)).trans nw
      have d0 : w1.cell? ⟨wr.heap.size, 0, none⟩ = some (.int .i64 x) := by simp only [World.cell?]; rw [nw1]; rfl
      have d1 : w1.cell? ⟨wr.heap.size, 1, none⟩ = some (.int .i64 0) := by simp only [World.cell?]; rw [nw1]; rfl
      have d2 : w1.cell? ⟨wr.heap.size, 2, none⟩ = some (.int .i64 0) := by simp only [World.cell?]; rw [nw1]; rfl
      have d3 : w1.cell? ⟨wr.heap.size, 3, none⟩ = some (.int .i64 0) := by simp only [World.cell?]; rw [nw1]; rfl
      have d4 : w1.cell? ⟨wr.heap.size, 4, none⟩ = some (.int .i64 0) := by simp only [World.cell?]; rw [nw1]; rfl
      have hb01 : Below wr.heap.size wr w1 := Upd.toBelow (((Upd.refl _ _).alloc _).trans (Upd.below _ hb1))
      have cT : w1.cell? ⟨w.heap.size, 0, none⟩ = some v := (HT.out.below hb01).cell rfl
      have fT : w1.frozen? ⟨w.heap.size, 0, none⟩ = false := (HT.out.below hb01).free 0
      have HB := Lib.hid hb01
      have HO1 := Lib.hid (fun (W : World) (hW : Below w1.heap.size w1 W) => own_same' HO.out (fun k hk => (hW.block k (Nat.lt_of_lt_of_le (HO.out.lt k hk).2 hb01.size)).trans (hb01.block k (HO.out.lt k hk).2)))
      have hbs : wr.heap.size + 1 ≤ w1.heap.size := by simpa using hb1.size
      have hnT : some w.heap.size ≠ v.ownBlock := fun e => by have := (HO.out.lt _ e.symm).1; omega
      have hnW : some wr.heap.size ≠ v.ownBlock := fun e => by have := (HO.out.lt _ e.symm).2; omega
      clear nw nw1 hb1 hb01
      have lt1 : w.heap.size < w1.heap.size := by omega
      have ne1 := World.new_ne w1 ⟨w.heap.size, 0, none⟩ cT
      have ne2 := World.new_ne w1 ⟨wr.heap.size, 0, none⟩ d0
      go_region_law
        ((refine step_append_lies _ (by rfl) _ _ _ (by rfl) (w.heap.size + 1) 88 i0 _ 13 104 Try.underlying80 hi0 hz0 hzs hzb rfl (by omega) v j _ (by rfl) (HO1.out _ (Upd.toBelow (by with_reducible (repeat (first | refine Upd.alloc ?_ _ | refine Upd.drew ?_ | exact Upd.refl _ _))))) ⟨_, 0, none⟩ 1 1 (pcells x) (by rfl) rfl (World.news_of_block (heap_alloc_new _ _)) (pcells_one x) (by omega) (by unfold maxLen; omega) (by omega) (by simp; omega) _ rfl ?_; intro g' cap w3 hown hgrow hat hlt; have hfz := (hgrow.frozen_far ⟨w.heap.size, 0, none⟩ (by simp; omega) hnT).trans ((keepF _ _ ⟨w.heap.size, 0, none⟩ (by dsimp only; omega)).trans fT); have hcz := (hgrow.cell_far ⟨w.heap.size, 0, none⟩ (by simp; omega) hnT).trans ((keepC _ _ ⟨w.heap.size, 0, none⟩ (by dsimp only; omega)).trans cT)))
      all_goals go_wp2
      all_goals (have hup : Upd (fun b => v.ownBlock = some b) wr w3 := ((Upd.below _ HB.out).trans (((Upd.refl _ _).alloc _).drew)).grown hgrow (fun k hk => Or.inl hk))
      all_goals (go_roundg gg; (case measure => omega); (case rel => exact ⟨j + 1, by omega, by omega, by go_num, NX.out _ _ _ hown hup⟩))

end Go.Proofs.Ytoeakcfbnkndbaa

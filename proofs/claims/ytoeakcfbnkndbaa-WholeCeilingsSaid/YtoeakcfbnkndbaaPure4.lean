import Derived.Test.YtoeakcfbnkndbaaPure3
namespace Go.Proofs.Ytoeakcfbnkndbaa
open Go.RowKit

theorem xdrop_head {X : Nat → List Int} {p : Nat} {i : Int} {r : List Int} (hx : X p = i :: r) : xdrop X p i = fset X p r := by
  unfold xdrop
  rw [hx, List.idxOf_cons_self, List.eraseIdx_cons_zero]

section
variable {n : Nat} {cs pr : List Int} {X : Nat → List Int} {ps : Nat → PC} {own : Nat → Option Int} {has : Nat → List Int}

theorem LawInv.inY (h : LawInv n cs pr X ps own has) {i p : Nat} {r : List Int} (hp : p < 64) (hx : X p = (i : Int) :: r) {q : Nat} (hq : q < 64) {x : Int} (hm : x ∈ fset X p r q) : x ∈ X q ∧ x ≠ (i : Int) := by
  have hi : (i : Int) ∈ X p := by rw [hx]; exact List.mem_cons_self ..
  have hnd := h.nodup p hp
  rw [hx] at hnd
  by_cases e : q = p
  · subst e
    rw [fset_same] at hm
    refine ⟨by rw [hx]; exact List.mem_cons_of_mem _ hm, fun e => ?_⟩
    subst e
    exact (List.nodup_cons.1 hnd).1 hm
  · rw [fset_other _ _ e] at hm
    refine ⟨hm, fun e2 => ?_⟩
    subst e2
    exact e (h.uniq hq hp hm hi)

theorem ofY {i p : Nat} {r : List Int} (hx : X p = (i : Int) :: r) {q : Nat} {x : Int} (hm : x ∈ X q) (hne : x ≠ (i : Int)) : x ∈ fset X p r q := by
  by_cases e : q = p
  · subst e
    rw [fset_same]
    rw [hx] at hm
    rcases List.mem_cons.1 hm with e | hm2
    · exact absurd e hne
    · exact hm2
  · rw [fset_other _ _ e]; exact hm

theorem LawInv.yNodup (h : LawInv n cs pr X ps own has) {i p : Nat} {r : List Int} (hx : X p = (i : Int) :: r) {q : Nat} (hq : q < 64) : (fset X p r q).Nodup := by
  by_cases e : q = p
  · subst e
    rw [fset_same]
    have := h.nodup q hq
    rw [hx] at this
    exact (List.nodup_cons.1 this).2
  · rw [fset_other _ _ e]; exact h.nodup q hq

theorem LawInv.yRow (h : LawInv n cs pr X ps own has) {i p : Nat} {r : List Int} (hx : X p = (i : Int) :: r) {q : Nat} (hq : q < 64) : (fset X p r q).Pairwise (fun a b => upOf cs own b < prI pr a) := by
  by_cases e : q = p
  · subst e
    rw [fset_same]
    have := h.row q hq
    rw [hx] at this
    exact (List.pairwise_cons.1 this).2
  · rw [fset_other _ _ e]; exact h.row q hq

/-- The first one is done: it has no lock. -/
theorem LawInv.done (h : LawInv n cs pr X ps own has) {i p : Nat} {r : List Int} (hi : i < n) (hp : p < 64) (hx : X p = (i : Int) :: r) (hh : has i = []) :
    LawInv n cs pr (xdrop X p i) (pset ps i ⟨(ps i).prio, 0, 0, 0, 0⟩) own has := by
  rw [xdrop_head hx]
  have nown : ∀ l, own l ≠ some (i : Int) := by
    intro l ho
    have := (h.hasS i hi (l : Int)).2 ⟨l, rfl, ho⟩
    rw [hh] at this
    cases this
  refine ⟨?_, h.pok, h.cok, ?_, ?_, ?_, ?_, ?_, ?_, ?_, h.hasS, h.hasN⟩
  · intro j hj
    by_cases e : j = i
    · subst e; rw [pset_at]; exact h.prio j hj
    · rw [pset_ne _ _ e]; exact h.prio j hj
  · intro j hj
    by_cases e : j = i
    · subst e; rw [pset_at]; exact Or.inl rfl
    · rw [pset_ne _ _ e]; exact h.live j hj
  · intro q hq x hx2
    obtain ⟨h1, h2⟩ := h.inY hp hx hq hx2
    obtain ⟨j, e, hj, hsj, hcj⟩ := h.mem q hq x h1
    have hji : j ≠ i := fun e2 => h2 (by rw [e, e2])
    exact ⟨j, e, hj, by rw [pset_ne _ _ hji]; exact hsj, by rw [pset_ne _ _ hji]; exact hcj⟩
  · intro j hj hsj
    by_cases e : j = i
    · subst e; rw [pset_at] at hsj; exact absurd (show (0 : Int) = 1 from hsj) (by decide)
    · rw [pset_ne _ _ e] at hsj
      obtain ⟨q, hq, hc, hm⟩ := h.all j hj hsj
      exact ⟨q, hq, by rw [pset_ne _ _ e]; exact hc, ofY hx hm (by omega)⟩
  · intro q hq; exact h.yNodup hx hq
  · intro l x hl
    obtain ⟨h1, j, e, hj, hsj, hc⟩ := h.who l x hl
    have hji : j ≠ i := fun e2 => nown l (by rw [hl, e, e2])
    exact ⟨h1, j, e, hj, by rw [pset_ne _ _ hji]; exact hsj, hc⟩
  · intro q hq; exact h.yRow hx hq
  · intro q q2 hlt hq a ha b hb
    exact h.down q q2 hlt hq a (h.inY hp hx hq ha).1 b (h.inY hp hx (by omega) hb).1

/-- The first one has other locks, and the priority that they ask for. -/
theorem LawInv.turn (h : LawInv n cs pr X ps own has) {i p : Nat} {r : List Int} (hi : i < n) (hp : p < 64) (hx : X p = (i : Int) :: r) (hno : ∀ q, p < q → q < 64 → X q = []) (own' : Nat → Option Int) (has' : Nat → List Int)
    (h1 : ∀ l x, x ≠ (i : Int) → (own' l = some x ↔ own l = some x)) (h2 : ∀ l, own' l = some (i : Int) → l < cs.length ∧ pr.getD i 0 ≤ cs.getD l 0) (h3 : ∀ j, j ≠ i → has' j = has j)
    (h4 : ∀ x, x ∈ has' i ↔ ∃ l : Nat, x = (l : Int) ∧ own' l = some (i : Int)) (h5 : (has' i).Nodup) (t : Nat) (ht : (t : Int) = max (pr.getD i 0) (upOf cs own' (i : Int))) :
    t < 64 ∧ LawInv n cs pr (fset (xdrop X p i) t ((i : Int) :: xdrop X p i t)) (pset ps i ⟨(ps i).prio, (ps i).state, (ps i).base, upOf cs own' (i : Int), (ps i).begin⟩) own' has' := by
  rw [xdrop_head hx]
  have hu63 : upOf cs own' (i : Int) ≤ 63 := up_le (by decide) (fun l hl _ => h.cok l hl)
  have hpi := h.pok i hi
  have ht64 : t < 64 := by omega
  refine ⟨ht64, ?_⟩
  have hiX : (i : Int) ∈ X p := by rw [hx]; exact List.mem_cons_self ..
  have hsi : (ps i).state = 1 := by
    obtain ⟨j, e, _, hs, _⟩ := h.mem p hp _ hiX
    have e : j = i := by omega
    rw [← e]; exact hs
  have hli := h.live i hi
  rw [hsi] at hli
  have hli := hli.resolve_left (by decide)
  have upo : ∀ x : Int, x ≠ (i : Int) → upOf cs own' x = upOf cs own x := fun x hxi => up_congr (fun l _ => h1 l x hxi)
  have curi : (pset ps i ⟨(ps i).prio, (ps i).state, (ps i).base, upOf cs own' (i : Int), (ps i).begin⟩ i).cur = (t : Int) := by
    rw [pset_at, PC.cur_one (p := ⟨(ps i).prio, (ps i).state, (ps i).base, upOf cs own' (i : Int), (ps i).begin⟩) hsi]
    simp only
    rw [hli.2.1]
    exact ht.symm
  have sti : (pset ps i ⟨(ps i).prio, (ps i).state, (ps i).base, upOf cs own' (i : Int), (ps i).begin⟩ i).state = 1 := by rw [pset_at]; exact hsi
  have notY : ∀ {q : Nat}, q < 64 → (i : Int) ∉ fset X p r q := fun hq hm => (h.inY hp hx hq hm).2 rfl
  have inZ : ∀ {q : Nat} {x : Int}, x ∈ fset (fset X p r) t ((i : Int) :: fset X p r t) q → x ∈ fset X p r q ∨ (q = t ∧ x = (i : Int)) := by
    intro q x hm
    by_cases e : q = t
    · subst e
      rw [fset_same] at hm
      rcases List.mem_cons.1 hm with e2 | hm2
      · exact Or.inr ⟨rfl, e2⟩
      · exact Or.inl hm2
    · rw [fset_other _ _ e] at hm; exact Or.inl hm
  have ofZ : ∀ {q : Nat} {x : Int}, x ∈ fset X p r q → x ∈ fset (fset X p r) t ((i : Int) :: fset X p r t) q := by
    intro q x hm
    by_cases e : q = t
    · subst e; rw [fset_same]; exact List.mem_cons_of_mem _ hm
    · rw [fset_other _ _ e]; exact hm
  have fst : ∀ {q : Nat} {x : Int}, q < 64 → x ∈ fset X p r q → upOf cs own x < pr.getD i 0 := by
    intro q x hq hm
    obtain ⟨m1, m2⟩ := h.inY hp hx hq hm
    obtain ⟨j, e, hj, hsj, _⟩ := h.mem q hq x m1
    rw [e]
    exact h.first hp hx hno hj hsj (fun e2 => m2 (by rw [e, e2]))
  refine ⟨?_, h.pok, h.cok, ?_, ?_, ?_, ?_, ?_, ?_, ?_, ?_, ?_⟩
  · intro j hj
    by_cases e : j = i
    · subst e; rw [pset_at]; exact h.prio j hj
    · rw [pset_ne _ _ e]; exact h.prio j hj
  · intro j hj
    by_cases e : j = i
    · subst e; rw [pset_at]; exact Or.inr ⟨hsi, hli.2.1, rfl⟩
    · rw [pset_ne _ _ e, upo _ (by omega)]; exact h.live j hj
  · intro q hq x hm
    rcases inZ hm with hm2 | ⟨e1, e2⟩
    · obtain ⟨m1, m2⟩ := h.inY hp hx hq hm2
      obtain ⟨j, e, hj, hsj, hcj⟩ := h.mem q hq x m1
      have hji : j ≠ i := fun e2 => m2 (by rw [e, e2])
      exact ⟨j, e, hj, by rw [pset_ne _ _ hji]; exact hsj, by rw [pset_ne _ _ hji]; exact hcj⟩
    · exact ⟨i, e2, hi, sti, by rw [e1]; exact curi⟩
  · intro j hj hsj
    by_cases e : j = i
    · subst e
      exact ⟨t, ht64, curi, by rw [fset_same]; exact List.mem_cons_self ..⟩
    · rw [pset_ne _ _ e] at hsj
      obtain ⟨q, hq, hc, hm⟩ := h.all j hj hsj
      exact ⟨q, hq, by rw [pset_ne _ _ e]; exact hc, ofZ (ofY hx hm (by omega))⟩
  · intro q hq
    by_cases e : q = t
    · subst e
      rw [fset_same]
      exact List.nodup_cons.2 ⟨notY hq, h.yNodup hx hq⟩
    · rw [fset_other _ _ e]; exact h.yNodup hx hq
  · intro l x hl
    by_cases e : x = (i : Int)
    · subst e
      obtain ⟨g1, g2⟩ := h2 l hl
      exact ⟨g1, i, rfl, hi, sti, g2⟩
    · obtain ⟨g1, j, e2, hj, hsj, hc⟩ := h.who l x ((h1 l x e).1 hl)
      have hji : j ≠ i := fun e3 => e (by rw [e2, e3])
      exact ⟨g1, j, e2, hj, by rw [pset_ne _ _ hji]; exact hsj, hc⟩
  · have base : ∀ q, q < 64 → (fset X p r q).Pairwise (fun a b => upOf cs own' b < prI pr a) := by
      intro q hq
      refine (h.yRow hx hq).imp_of_mem (fun ha hb hab => ?_)
      rw [upo _ (h.inY hp hx hq hb).2]
      exact hab
    intro q hq
    by_cases e : q = t
    · subst e
      rw [fset_same]
      refine List.pairwise_cons.2 ⟨fun b hb => ?_, base q hq⟩
      rw [upo _ (h.inY hp hx hq hb).2, prI_nat]
      exact fst hq hb
    · rw [fset_other _ _ e]; exact base q hq
  · intro q q2 hlt hq a ha b hb
    have hq2 : q2 < 64 := by omega
    rcases inZ hb with hb2 | ⟨e3, e4⟩
    · rw [upo _ (h.inY hp hx hq2 hb2).2]
      rcases inZ ha with ha2 | ⟨e1, e2⟩
      · exact h.down q q2 hlt hq a (h.inY hp hx hq ha2).1 b (h.inY hp hx hq2 hb2).1
      · rw [e2, prI_nat]
        exact fst hq2 hb2
    · -- one of a higher row that is not the first one
      rcases inZ ha with ha2 | ⟨e1, _⟩
      · obtain ⟨m1, m2⟩ := h.inY hp hx hq ha2
        obtain ⟨j, e, hj, hsj, hcj⟩ := h.mem q hq a m1
        have hf := fst hq ha2
        rw [e] at hf
        rw [h.cur hj hsj] at hcj
        rw [e4, e, prI_nat]
        omega
      · omega
  · intro j hj x
    by_cases e : j = i
    · subst e; exact h4 x
    · rw [h3 j e, h.hasS j hj x]
      constructor
      · rintro ⟨l, e1, e2⟩
        exact ⟨l, e1, (h1 l _ (by omega)).2 e2⟩
      · rintro ⟨l, e1, e2⟩
        exact ⟨l, e1, (h1 l _ (by omega)).1 e2⟩
  · intro j hj
    by_cases e : j = i
    · subst e; exact h5
    · rw [h3 j e]; exact h.hasN j hj

end
end Go.Proofs.Ytoeakcfbnkndbaa

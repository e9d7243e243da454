import Derived.Test.YtoeakcfbnkndbaaPure2
namespace Go.Proofs.Ytoeakcfbnkndbaa
open Go.RowKit

section
variable {n : Nat} {cs pr : List Int} {X : Nat → List Int} {ps : Nat → PC} {own : Nat → Option Int} {has : Nat → List Int}

theorem pset_at (ps : Nat → PC) (i : Nat) (p : PC) : pset ps i p i = p := by simp [pset]
theorem pset_ne (ps : Nat → PC) (p : PC) {i j : Nat} (h : j ≠ i) : pset ps i p j = ps j := by simp [pset, h]

/-- At the beginning. -/
theorem LawInv.init (hn : pr.length = n) (hp : fineP pr) (hc : fineI cs) (X0 : Nat → List Int) (hX : ∀ q, X0 q = []) : LawInv n cs pr X0 (ps0 pr) (fun _ => none) (fun _ => []) := by
  refine ⟨fun i _ => rfl, fun i hi => hp i (by omega), fun l hl => (hc l hl).2, fun i _ => Or.inl rfl, ?_, ?_, ?_, ?_, ?_, ?_, ?_, ?_⟩
  · intro p _ x hx; rw [hX] at hx; cases hx
  · intro i _ hs; exact absurd (show (0 : Int) = 1 from hs) (by decide)
  · intro p _; rw [hX]; exact List.nodup_nil
  · intro l x h; cases h
  · intro p _; rw [hX]; exact List.Pairwise.nil
  · intro p q _ _ a ha; rw [hX] at ha; cases ha
  · intro i _ x
    constructor
    · intro h; cases h
    · rintro ⟨l, _, h⟩; cases h
  · intro i _; exact List.nodup_nil

/-- One is started. -/
theorem LawInv.start (h : LawInv n cs pr X ps own has) {i p : Nat} (hi : i < n) (hs : (ps i).state = 0) (hp : p < 64) (hpp : pr.getD i 0 = (p : Int)) (now : Int) :
    LawInv n cs pr (fset X p (X p ++ [(i : Int)])) (pset ps i ⟨(ps i).prio, 1, (ps i).prio, 0, now⟩) own has := by
  have hpr := h.prio i hi
  have hup := h.up0 hi hs
  have hp1 := (h.pok i hi).1
  have curi : (pset ps i ⟨(ps i).prio, 1, (ps i).prio, 0, now⟩ i).cur = (p : Int) := by
    rw [pset_at, PC.cur_one rfl]
    simp only
    rw [hpr, hpp]
    omega
  have sti : (pset ps i ⟨(ps i).prio, 1, (ps i).prio, 0, now⟩ i).state = 1 := by rw [pset_at]
  have oth : ∀ {j : Nat}, (ps j).state = 1 → j ≠ i := fun hj e => by rw [e, hs] at hj; exact absurd hj (by decide)
  have inX : ∀ {q : Nat} {x : Int}, x ∈ fset X p (X p ++ [(i : Int)]) q → x ∈ X q ∨ (q = p ∧ x = (i : Int)) := by
    intro q x hx
    by_cases e : q = p
    · subst e
      rw [fset_same, List.mem_append, List.mem_singleton] at hx
      rcases hx with hx | hx
      · exact Or.inl hx
      · exact Or.inr ⟨rfl, hx⟩
    · rw [fset_other _ _ e] at hx
      exact Or.inl hx
  have ofX : ∀ {q : Nat} {x : Int}, x ∈ X q → x ∈ fset X p (X p ++ [(i : Int)]) q := by
    intro q x hx
    by_cases e : q = p
    · subst e
      rw [fset_same, List.mem_append]
      exact Or.inl hx
    · rw [fset_other _ _ e]
      exact hx
  -- what one in a row is raised to is no more than the row's priority
  have rowUp : ∀ {q : Nat}, q < 64 → ∀ x ∈ X q, upOf cs own x ≤ (q : Int) := by
    intro q hq x hx
    obtain ⟨j, rfl, hj, hsj, hcj⟩ := h.mem q hq x hx
    rw [h.cur hj hsj] at hcj
    omega
  refine ⟨?_, h.pok, h.cok, ?_, ?_, ?_, ?_, ?_, ?_, ?_, h.hasS, h.hasN⟩
  · intro j hj
    by_cases e : j = i
    · subst e; rw [pset_at]; exact hpr
    · rw [pset_ne _ _ e]; exact h.prio j hj
  · intro j hj
    by_cases e : j = i
    · subst e; rw [pset_at]; exact Or.inr ⟨rfl, hpr, hup.symm⟩
    · rw [pset_ne _ _ e]; exact h.live j hj
  · intro q hq x hx
    rcases inX hx with hx | ⟨rfl, rfl⟩
    · obtain ⟨j, e, hj, hsj, hcj⟩ := h.mem q hq x hx
      exact ⟨j, e, hj, by rw [pset_ne _ _ (oth hsj)]; exact hsj, by rw [pset_ne _ _ (oth hsj)]; exact hcj⟩
    · exact ⟨i, rfl, hi, sti, curi⟩
  · intro j hj hsj
    by_cases e : j = i
    · subst e
      exact ⟨p, hp, curi, by rw [fset_same]; simp⟩
    · rw [pset_ne _ _ e] at hsj
      obtain ⟨q, hq, hc, hm⟩ := h.all j hj hsj
      exact ⟨q, hq, by rw [pset_ne _ _ e]; exact hc, ofX hm⟩
  · intro q hq
    by_cases e : q = p
    · subst e
      rw [fset_same, List.nodup_append]
      refine ⟨h.nodup q hq, by simp, ?_⟩
      intro a ha b hb e2
      rw [List.mem_singleton] at hb
      subst hb
      subst e2
      exact h.notin hs hq ha
    · rw [fset_other _ _ e]; exact h.nodup q hq
  · intro l x hl
    obtain ⟨h1, j, e, hj, hsj, hc⟩ := h.who l x hl
    exact ⟨h1, j, e, hj, by rw [pset_ne _ _ (oth hsj)]; exact hsj, hc⟩
  · intro q hq
    by_cases e : q = p
    · subst e
      rw [fset_same, List.pairwise_append]
      refine ⟨h.row q hq, List.pairwise_singleton _ _, ?_⟩
      intro a ha b hb
      rw [List.mem_singleton] at hb
      subst hb
      rw [hup]
      obtain ⟨j, rfl, hj, _⟩ := h.mem q hq a ha
      rw [prI_nat]
      have := (h.pok j hj).1
      omega
    · rw [fset_other _ _ e]; exact h.row q hq
  · intro r q hlt hr a ha b hb
    rcases inX ha with ha2 | ⟨e1, e2⟩
    · rcases inX hb with hb2 | ⟨e3, e4⟩
      · exact h.down r q hlt hr a ha2 b hb2
      · rw [e4, hup]
        obtain ⟨j, e5, hj, _⟩ := h.mem r hr a ha2
        rw [e5, prI_nat]
        have := (h.pok j hj).1
        omega
    · rcases inX hb with hb2 | ⟨e3, _⟩
      · have := rowUp (by omega) b hb2
        rw [e2, prI_nat, hpp]
        omega
      · omega

end
end Go.Proofs.Ytoeakcfbnkndbaa

import Derived.Test.YtoeakcfbnkndbaaZ5
import Derived.Test.YtoeakcfbnkndbaaY2
namespace Go.Proofs.Ytoeakcfbnkndbaa
open Go.RowKit Go.Maps

section
variable {E : Env} {w w' : World} {V : Nat → Value} {X : Nat → List Int} {ps : Nat → PC} {s k : Nat} {own : Nat → Option Int} {at_ : Nat → Nat} {dn : Nat → Bool} {bg : Nat → Prop}

/-- Where one's locks lie. -/
theorem Core.hasAt (hE : EnvOk E) (h : Core E w V X ps s k own at_ dn) {i : Nat} (hi : i < E.ws.length) :
    ∃ a c, w.cell? ⟨E.wb, i * 3 + 1, none⟩ = some (.slice a (X (64 + i)).length c) ∧ V (64 + i) = .slice a (X (64 + i)).length c ∧
      (X (64 + i) = [] ∨ ∃ g, a = some ⟨g, 0, none⟩ ∧ E.A.B ≤ g ∧ g < w.heap.size) ∧ Ints w a (X (64 + i)) := by
  have hn5 := hE.few
  obtain ⟨a, c, hV, _, hform, hcell⟩ := h.dis.rdy.fam.form (p := 64 + i) (by omega)
  refine ⟨a, c, ?_, hV, hform, ?_⟩
  · rw [← hV]; exact h.wrk.cell (wcells1 _ _ _ hi)
  · rcases hform with e | ⟨g, rfl, hg⟩
    · exact Or.inl e
    · refine Or.inr ⟨g, 0, rfl, fun j hj => ?_⟩
      rw [Nat.zero_add]
      exact hcell g j rfl hj

/-- The lock at a place among one's own. -/
theorem TickLaw.lockAt (hl : TickLaw E X ps own dn bg) {i : Nat} (hi : i < E.ws.length) {k0 : Nat} (hk0 : k0 < (X (64 + i)).length) : ∃ l : Nat, l < E.cs.length ∧ (X (64 + i)).getD k0 0 = (l : Int) ∧ own l = some (i : Int) := by
  have hm : (X (64 + i)).getD k0 0 ∈ X (64 + i) := by
    rw [List.getD, List.getElem?_eq_getElem hk0]
    exact List.getElem_mem _
  obtain ⟨l, e, ho⟩ := (hl.law.hasS i hi _).1 hm
  exact ⟨l, (hl.law.who l _ ho).1, e, ho⟩

theorem give_ok (hE : EnvOk E) (h : Core E w V X ps s k own at_ dn) (hl : TickLaw E X ps own dn bg) {i : Nat} (hi : i < E.ws.length) {k0 l : Nat} (hk0 : k0 < (X (64 + i)).length) (hlc : l < E.cs.length) (hxl : (X (64 + i)).getD k0 0 = (l : Int)) (ho : own l = some (i : Int)) :
    Calls Try.prog 10 #[.pointer (some ⟨E.LA.L, 0, none⟩), .pointer (some ⟨E.wb, i * 3, none⟩), .int .i64 i, .int .i64 k0] w fun e w' => e = .returned (.bool true) ∧
      ∃ V', Core E w' V' (fset X (64 + i) ((X (64 + i)).eraseIdx k0)) ps s k (fset own l none) at_ dn := by
  have hn5 := hE.few
  obtain ⟨a, c, hcell, hV, hform, _⟩ := h.hasAt hE hi
  obtain ⟨g, rfl, hg, _⟩ := hform.resolve_left (fun e => by rw [e] at hk0; simp at hk0)
  have hrow := h.dis.rdy.fam.own (64 + i) (by omega)
  rw [hV] at hrow
  have hlen := hl.law.hasLen hi
  have hcsl := hE.csl
  refine (lgive_any h.lck hcell (h.wrk.free _) hrow (by omega) (i : Int) k0 hk0 l hlc hxl ho (fun e => hE.kL.2.2 e.symm) (fun e => hE.dm (Or.inr (Or.inr (by rw [← e]; exact hg))))).mono ?_
  rintro e w' ⟨he, hG⟩
  exact ⟨he, h.gave hE hi hG⟩

theorem give_raise (hE : EnvOk E) {V1 : Nat → Value} {w1 : World} {s1 : Nat} {t : Nat} (hl : TickLaw E X ps own dn bg) {i p : Nat} (hi : i < E.ws.length) {r : List Int} (hp : p < 64) (hx : X p = (i : Int) :: r) (hno : ∀ q, p < q → q < 64 → X q = [])
    {k0 l : Nat} (hk0 : k0 < (X (64 + i)).length) (hxl : (X (64 + i)).getD k0 0 = (l : Int)) (ho : own l = some (i : Int)) (hk : k ≤ t)
    (hc : Core E w1 V1 (fset X (64 + i) ((X (64 + i)).eraseIdx k0)) ps s1 k (fset own l none) at_ dn) :
    Calls Try.prog 11 #[.pointer (some ⟨E.LA.L, 0, none⟩), .pointer (some ⟨E.A.D, 0, none⟩), .int .i64 i] w1 fun e w' => e = .returned (.bool true) ∧ St E bg t w' := by
  have hnd := hl.law.hasN i hi
  have oth : ∀ l2, l2 ≠ l → fset own l none l2 = own l2 := fun l2 e => fset_other _ _ e
  refine (raise_ok hE hc (has' := fun j => fset X (64 + i) ((X (64 + i)).eraseIdx k0) (64 + j)) hl.law (fun q hq => fset_other _ _ (by omega)) hi hp hx hno ?_ ?_ ?_ ?_ ?_).mono ?_
  · intro l2 x hxi
    by_cases e : l2 = l
    · subst e
      rw [fset_same, ho]
      constructor
      · intro h; cases h
      · intro h; injection h with h; exact absurd h.symm hxi
    · rw [oth l2 e]
  · intro l2 h2
    by_cases e : l2 = l
    · subst e; rw [fset_same] at h2; cases h2
    · rw [oth l2 e] at h2
      obtain ⟨g1, j, e2, _, _, g2⟩ := hl.law.who l2 _ h2
      have e2 : j = i := by omega
      subst e2
      exact ⟨g1, g2⟩
  · intro j hj
    exact fset_other _ _ (by omega)
  · intro x
    show x ∈ fset X (64 + i) ((X (64 + i)).eraseIdx k0) (64 + i) ↔ _
    rw [fset_same, eraseIdx_nodup hnd hk0, hl.law.hasS i hi x, hxl]
    constructor
    · rintro ⟨⟨l2, e1, e2⟩, hne⟩
      have e3 : l2 ≠ l := fun e => hne (by rw [e1, e])
      exact ⟨l2, e1, by rw [oth l2 e3]; exact e2⟩
    · rintro ⟨l2, e1, e2⟩
      have e3 : l2 ≠ l := fun e => by subst e; rw [fset_same] at e2; cases e2
      rw [oth l2 e3] at e2
      exact ⟨⟨l2, e1, e2⟩, fun e => e3 (by rw [e1] at e; omega)⟩
  · show (fset X (64 + i) ((X (64 + i)).eraseIdx k0) (64 + i)).Nodup
    rw [fset_same]
    exact hnd.eraseIdx k0
  · rintro e w' ⟨he, V2, X2, ps2, s2, hc2, hv, hlaw, hst⟩
    refine ⟨he, V2, X2, ps2, s2, k, _, at_, dn, hc2, ⟨hlaw.congr (fun _ _ => rfl) (fun j _ => (hv (64 + j) (by omega)).1), ?_, ?_⟩, hk⟩
    · intro j hj hs
      rw [hst] at hs
      exact hl.alive j hj hs
    · intro j hj hs
      rw [hst] at hs
      exact hl.begun j hj hs

end
end Go.Proofs.Ytoeakcfbnkndbaa

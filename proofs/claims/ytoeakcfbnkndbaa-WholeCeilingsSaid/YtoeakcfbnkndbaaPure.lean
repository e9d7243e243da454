import Derived.Test.YtoeakcfbnkndbaaN
import Derived.Test.YtoeakcfbnkndbaaO
import Derived.Test.YtoeakcfbnkndbaaS
import Derived.Test.YtoeakcfbnkndbaaY
namespace Go.Proofs.Ytoeakcfbnkndbaa
open Go.RowKit

theorem upTo_le (cs : List Int) : ∀ (ls : List Nat) (a : Int), ls.foldl (fun a l => max a (cs.getD l 0)) a ≥ a ∧ (∀ l ∈ ls, cs.getD l 0 ≤ ls.foldl (fun a l => max a (cs.getD l 0)) a)
  | [], a => ⟨Int.le_refl _, fun l hl => by cases hl⟩
  | x :: r, a => by
    have h := upTo_le cs r (max a (cs.getD x 0))
    refine ⟨by have := h.1; simp only [List.foldl_cons]; omega, fun l hl => ?_⟩
    simp only [List.foldl_cons]
    rcases List.mem_cons.1 hl with rfl | hl
    · have := h.1; omega
    · exact h.2 l hl

theorem upTo_lt (cs : List Int) (b : Int) : ∀ (ls : List Nat) (a : Int), a ≤ b → (∀ l ∈ ls, cs.getD l 0 ≤ b) → ls.foldl (fun a l => max a (cs.getD l 0)) a ≤ b
  | [], a, h, _ => h
  | x :: r, a, h, hl => by
    simp only [List.foldl_cons]
    exact upTo_lt cs b r _ (by have := hl x (List.mem_cons_self ..); omega) (fun l h2 => hl l (List.mem_cons_of_mem _ h2))

theorem mem_heldN {own : Nat → Option Int} {id : Int} {m l : Nat} : l ∈ heldN own id m ↔ l < m ∧ own l = some id := by
  simp [heldN]

theorem up_ge0 (cs : List Int) (own : Nat → Option Int) (id : Int) : 0 ≤ upOf cs own id := (upTo_le cs _ 0).1

/-- Who has a lock is raised to its ceiling at least. -/
theorem up_ge {cs : List Int} {own : Nat → Option Int} {id : Int} {l : Nat} (hl : l < cs.length) (ho : own l = some id) : cs.getD l 0 ≤ upOf cs own id :=
  (upTo_le cs _ 0).2 l (mem_heldN.2 ⟨hl, ho⟩)

theorem up_le {cs : List Int} {own : Nat → Option Int} {id : Int} {b : Int} (hb : 0 ≤ b) (h : ∀ l, l < cs.length → own l = some id → cs.getD l 0 ≤ b) : upOf cs own id ≤ b :=
  upTo_lt cs b _ 0 hb (fun l hl => h l (mem_heldN.1 hl).1 (mem_heldN.1 hl).2)

/-- What one is raised to hangs on its own locks alone. -/
theorem up_congr {cs : List Int} {own own' : Nat → Option Int} {id : Int} (h : ∀ l, l < cs.length → (own' l = some id ↔ own l = some id)) : upOf cs own' id = upOf cs own id := by
  have e : heldN own' id cs.length = heldN own id cs.length := by
    unfold heldN
    refine List.filter_congr (fun l hl => ?_)
    have := h l (by simpa using hl)
    by_cases e : own l = some id
    · show (own' l == some id) = (own l == some id)
      rw [e, this.2 e]
    · have e2 : own' l ≠ some id := fun h2 => e (this.1 h2)
      show (own' l == some id) = (own l == some id)
      rw [Bool.eq_iff_iff]
      simp [e, e2]
  unfold upOf
  rw [e]

end Go.Proofs.Ytoeakcfbnkndbaa

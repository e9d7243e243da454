import Derived.Test.YtoeakcfbnkndbaaS
import Derived.Test.YtoeakcfbnkndbaaShelf
import Derived.Deep.OwnRows
import Derived.Deep.RegionWith
namespace Go.Proofs.Ytoeakcfbnkndbaa
open Go.RowKit Go.Maps

/-- A slice of ints that can be read. -/
def Ints (w : World) (a : Option Addr) (cs : List Int) : Prop :=
  cs = [] ∨ ∃ b off, a = some ⟨b, off, none⟩ ∧ ∀ j, j < cs.length → w.cell? ⟨b, off + j, none⟩ = some (.int .i64 (cs.getD j 0))

theorem Ints.below {w w' : World} {a : Option Addr} {cs : List Int} (h : Ints w a cs) (hb : Below w.heap.size w w') : Ints w' a cs := by
  rcases h with h | ⟨b, off, rfl, hc⟩
  · exact Or.inl h
  · refine Or.inr ⟨b, off, rfl, fun j hj => ?_⟩
    have h1 := hc j hj
    have h2 := World.block_lt_of_cell? w ⟨b, off + j, none⟩ h1
    rw [hb.cell h2]; exact h1

set_option maxRecDepth 100000 in
set_option maxHeartbeats 400000 in
theorem index17_none {w : World} {a : Option Addr} {c : Nat} {cs : List Int} (h : Ints w a cs) (hl : cs.length ≤ 16) (hok : ∀ j, j < cs.length → 1 ≤ cs.getD j 0 ∧ cs.getD j 0 ≤ 63) :
    Calls Try.prog 34 #[.slice a cs.length c, .func (.func 17) #[] #[]] w fun e w' => e = .returned (.int .i64 (-1)) ∧ w = w' := by
  go_enter Try.func34, Try.ntmps34
  go_wp2_with fail
  go_loopg [8] cs.length (fun g s8 wr => ∃ j : Nat, j + g = cs.length ∧ s8 = .int .i64 j ∧ w = wr)
  case atStart => exact ⟨0, by omega, rfl, rfl⟩
  case round =>
    obtain ⟨j, hjg, rfl, rfl⟩ := hrel
    cases gk with
    | zero =>
      have hj : ¬ ((j : Int) < (cs.length : Int)) := by omega
      go_wp2
      go_ret
      exact ⟨rfl, rfl⟩
    | succ g =>
      have hj : (j : Int) < (cs.length : Int) := by omega
      obtain ⟨b, off, rfl, hc⟩ := h.resolve_left (fun e => by rw [e] at hjg; simp at hjg)
      have hcj := hc j (by omega)
      obtain ⟨h1, h2⟩ := hok j (by omega)
      obtain ⟨x, hx⟩ : ∃ x, x = cs.getD j 0 := ⟨_, rfl⟩
      rw [← hx] at hcj h1 h2
      have b1 : decide (x < 1) = false := by simp; omega
      have b2 : decide (63 < x) = false := by simp; omega
      clear hx hc hok h
      go_wp2
      go_roundg g
      case measure => omega
      case rel => exact ⟨j + 1, by omega, by go_num, rfl⟩

set_option maxRecDepth 100000 in
set_option maxHeartbeats 400000 in
theorem index17_some {w : World} {a : Option Addr} {c : Nat} {cs : List Int} (h : Ints w a cs) (hl : cs.length ≤ 16) (p : Nat) (hp : p < cs.length) (hok : ∀ j, j < p → 1 ≤ cs.getD j 0 ∧ cs.getD j 0 ≤ 63) (hbad : cs.getD p 0 < 1 ∨ 63 < cs.getD p 0) :
    Calls Try.prog 34 #[.slice a cs.length c, .func (.func 17) #[] #[]] w fun e w' => e = .returned (.int .i64 p) ∧ w = w' := by
  go_enter Try.func34, Try.ntmps34
  go_wp2_with fail
  go_loopg [8] cs.length (fun g s8 wr => ∃ j : Nat, j + g = cs.length ∧ j ≤ p ∧ s8 = .int .i64 j ∧ w = wr)
  case atStart => exact ⟨0, by omega, by omega, rfl, rfl⟩
  case round =>
    obtain ⟨j, hjg, hjp, rfl, rfl⟩ := hrel
    cases gk with
    | zero => omega
    | succ g =>
      have hj : (j : Int) < (cs.length : Int) := by omega
      obtain ⟨b, off, rfl, hc⟩ := h.resolve_left (fun e => by rw [e] at hjg; simp at hjg)
      have hcj := hc j (by omega)
      by_cases hjp2 : j = p
      · subst hjp2
        obtain ⟨x, hx⟩ : ∃ x, x = cs.getD j 0 := ⟨_, rfl⟩
        rw [← hx] at hcj hbad
        clear hx hc hok h
        rcases hbad with hb | hb
        · have b1 : decide (x < 1) = true := by simp; omega
          go_wp2
          go_ret
          exact ⟨rfl, rfl⟩
        · have b1 : decide (x < 1) = false := by simp; omega
          have b2 : decide (63 < x) = true := by simp; omega
          go_wp2
          go_ret
          exact ⟨rfl, rfl⟩
      · obtain ⟨h1, h2⟩ := hok j (by omega)
        obtain ⟨x, hx⟩ : ∃ x, x = cs.getD j 0 := ⟨_, rfl⟩
        rw [← hx] at hcj h1 h2
        have b1 : decide (x < 1) = false := by simp; omega
        have b2 : decide (63 < x) = false := by simp; omega
        clear hx hc hok h hbad
        go_wp2
        go_roundg g
        case measure => omega
        case rel => exact ⟨j + 1, by omega, by omega, by go_num, rfl⟩

theorem own_slice {w : World} {B n : Nat} {v : Value} {xs : List Value} (h : w.ownsRow B 3 1 v n xs) : ∃ a c, v = .slice a n c := by
  rcases h.2 with ⟨hv, hn⟩ | ⟨g, c, cur, hv, _⟩
  · exact ⟨none, 0, by rw [hv, hn]⟩
  · exact ⟨_, c, hv⟩

/-- slices.Clone of ints. -/
theorem clone_any {w : World} {a : Option Addr} {c : Nat} {cs : List Int} (h : Ints w a cs) (hl : cs.length ≤ 16) :
    Calls Try.prog 18 #[.slice a cs.length c] w fun e w' => ∃ a' c', e = .returned (.slice a' cs.length c') ∧ w'.ownsRow w.heap.size 3 1 (.slice a' cs.length c') cs.length (ints cs) ∧ Below w.heap.size w w' := by
  cases a with
  | none =>
    have hcs : cs = [] := by
      rcases h with h | ⟨b, off, h, _⟩
      · exact h
      · cases h
    subst hcs
    refine (Try.slices_Clone_int_nil 0 c w).mono ?_
    rintro e w' ⟨rfl, rfl⟩
    exact ⟨_, _, rfl, World.ownsRow_nil _ _ _ _, Below.refl _ _⟩
  | some ad =>
    by_cases hcs : cs = []
    · subst hcs
      refine (Try.slices_Clone_int_zero ad c w).mono ?_
      rintro e w' ⟨v, rfl, ho, _, hb⟩
      obtain ⟨a', c', rfl⟩ := own_slice ho
      exact ⟨a', c', rfl, ho, hb⟩
    · obtain ⟨b, off, hab, hc⟩ := h.resolve_left hcs
      injection hab with hab
      subst hab
      refine (Try.slices_Clone_int b off cs.length c cs w (Nat.le_refl _) (by omega) hc).mono ?_
      rintro e w' ⟨v, rfl, ho, _, hb⟩
      rw [List.take_length] at ho
      obtain ⟨a', c', rfl⟩ := own_slice ho
      exact ⟨a', c', rfl, ho, hb⟩

end Go.Proofs.Ytoeakcfbnkndbaa

import Derived.Test.YtoeakcfbnkndbaaBase
import Derived.Deep.LoopGhost
import Derived.Deep.MidRow
namespace Go.Proofs.Ytoeakcfbnkndbaa
open Go.RowKit

/-- Rows of ids, each in memory of its own from block B on: the first 64 are the ready list's. -/
structure Fam (w : World) (B : Nat) (V : Nat → Value) (X : Nat → List Int) : Prop where
  own : ∀ p, p < 80 → w.ownsRow B 3 1 (V p) (X p).length ((X p).map (fun x => .int .i64 x))
  apart : ∀ p q k, p < 80 → q < 80 → (V p).ownBlock = some k → (V q).ownBlock = some k → p = q

/-- What the list's block holds. -/
def lcells (V : Nat → Value) (s : Nat) : Nat → Option Value := fun k => if k < 64 then some (V k) else if k = 64 then some (.int .u64 s) else none

/-- A list of who is ready. -/
structure Rdy (w : World) (B R : Nat) (V : Nat → Value) (X : Nat → List Int) (s : Nat) : Prop where
  blk : Blk w R 93 (lcells V s)
  fam : Fam w B V X
  bits : ∀ p, s.testBit p = (decide (p < 64) && !(X p).isEmpty)
  low : R < B

section
variable {w w' : World} {B R : Nat} {V : Nat → Value} {X : Nat → List Int} {s : Nat}

/-- A row's form: its cells, if it has some. -/
theorem Fam.form (h : Fam w B V X) {p : Nat} (hp : p < 80) : ∃ a c, V p = .slice a (X p).length c ∧ (X p).length ≤ maxLen ∧
    (X p = [] ∨ ∃ g, a = some ⟨g, 0, none⟩ ∧ B ≤ g ∧ g < w.heap.size) ∧ ∀ g j, a = some ⟨g, 0, none⟩ → j < (X p).length → w.cell? ⟨g, j, none⟩ = some (.int .i64 ((X p).getD j 0)) := by
  have ho := h.own p hp
  rcases ho.2 with ⟨hv, hn⟩ | ⟨g, cap, cur, hv, hg, hh, hc, hm, hs, ht⟩
  · exact ⟨none, 0, by rw [hv, hn], by omega, Or.inl (List.eq_nil_of_length_eq_zero hn), by intro g j h; cases h⟩
  · refine ⟨some ⟨g, 0, none⟩, cap, hv, by omega, Or.inr ⟨g, rfl, hg, (Array.getElem?_eq_some_iff.1 hh).1⟩, ?_⟩
    intro g' j he hj
    cases he
    have h1 : ((X p).map (fun x => Value.int .i64 x))[j]? = some (.int .i64 ((X p).getD j 0)) := by
      rw [List.getElem?_map, List.getElem?_eq_getElem hj, List.getD, List.getElem?_eq_getElem hj]; rfl
    rw [← ht, List.getElem?_take] at h1
    split at h1
    · simp [World.cell?, hh, ← Array.getElem?_toList, h1]
    · cases h1

theorem Rdy.cell (h : Rdy w B R V X s) {p : Nat} (hp : p < 64) : w.cell? ⟨R, p, none⟩ = some (V p) := h.blk.cell (by simp [lcells, hp])
theorem Rdy.word (h : Rdy w B R V X s) : w.cell? ⟨R, 64, none⟩ = some (.int .u64 s) := h.blk.cell (by simp [lcells])

end

/-- The 64 rows, read whole. -/
def vrow (V : Nat → Value) : List Value := (List.range 64).map V

theorem vrow_at (V : Nat → Value) {p : Nat} (hp : p < 64) : (vrow V)[p]? = some (V p) := by
  simp [vrow, List.getElem?_map, List.getElem?_range hp]

theorem vrow_len (V : Nat → Value) : (vrow V).length = 64 := by simp [vrow]

theorem run_index90 (A : List Value) (v : Value) (p : Nat) (w : World) (hp : p < 64) (h : A[p]? = some v) :
    (Instr.index 90 (.agg A.toArray) (.int .i64 p)).run Try.prog w = .ok v w := by
  have hu : Try.prog.underlying 90 = some (.array 64 89) := Try.underlying90
  have hsz : (sizeOf 89).run Try.prog w = .ok 1 w := by kernel_rfl
  simp [Instr.index, asIntOf, run_underlying hu, Sem.run_bind, hsz, part, h]
  intro hc
  omega

set_option maxRecDepth 100000 in
set_option maxHeartbeats 800000 in
theorem prio_none {w : World} {B R : Nat} {V : Nat → Value} {X : Nat → List Int} {s : Nat} (h : Rdy w B R V X s) (id : Int) (hno : ∀ p, p < 64 → id ∉ X p) :
    Calls Try.prog 51 #[.pointer (some ⟨R, 0, none⟩), .int .i64 id] w fun e w' => e = .returned (.tuple #[.int .i64 0, .bool false]) ∧ w = w' := by
  have hr : w.rangeAt R 0 (vrow V) := by
    intro j v hv
    have hj : j < 64 := by
      have := (List.getElem?_eq_some_iff.1 hv).1
      simpa [vrow_len] using this
    rw [vrow_at V hj] at hv
    simp at hv
    subst hv
    simpa using h.cell hj
  obtain ⟨A, hA⟩ : ∃ A : List Value, A = vrow V := ⟨_, rfl⟩
  rw [← hA] at hr
  have hAl : (Try.prog.info? 90).map (·.size) = some A.length := by rw [hA, vrow_len]; kernel_rfl
  have HA := Lib.hid hA
  clear hA
  go_enter Try.func51, Try.ntmps51
  go_wp2_with fail
  go_step3
  go_wp2_with fail
  go_step3
  go_wp2_with (refine wpList_load_mid rfl 90 _ rfl R 0 rfl A _ hr Try.underlying90 rfl hAl ?_)
  go_loopg [6, 7, 18] 64 (fun g s6 s7 s18 wr => ∃ k : Nat, k + g = 64 ∧ s18 = .int .i64 k ∧ s6 = .int .i64 0 ∧ s7 = .bool false ∧ w = wr)
  case atStart => exact ⟨0, by omega, rfl, rfl, rfl, rfl⟩
  case round =>
    obtain ⟨k, hkg, rfl, rfl, rfl, rfl⟩ := hrel
    cases gk with
    | zero =>
      have hk : ¬ ((k : Int) < 64) := by omega
      go_wp2
      try rw [Exit.noGoto_ret]
      go_ret2
      exact ⟨rfl, rfl⟩
    | succ g =>
      have hk : (k : Int) < 64 := by omega
      obtain ⟨a, c, hV, hm, hform, hcell⟩ := h.fam.form (p := k) (by omega)
      have hidx := run_index90 A (V k) k w (by omega) (by rw [HA.out]; exact vrow_at V (by omega))
      rw [hV] at hidx
      have hmem := hno k (by omega)
      obtain ⟨xs, hxs⟩ : ∃ xs, xs = X k := ⟨_, rfl⟩
      rw [← hxs] at hidx hm hform hcell hmem
      have HX := Lib.hid hxs
      have HV := Lib.hid hV
      clear hxs hV
      unfold maxLen at hm
      go_wp2
      go_loopg [6, 7, 24] xs.length (fun g2 s6 s7 s24 wr => ∃ j : Nat, j + g2 = xs.length ∧ s24 = .int .i64 j ∧ s6 = .int .i64 0 ∧ s7 = .bool false ∧ w = wr)
      case atStart => exact ⟨0, by omega, rfl, rfl, rfl, rfl⟩
      case round =>
        obtain ⟨j, hjg, rfl, rfl, rfl, rfl⟩ := hrel
        cases gk with
        | zero =>
          have hj : ¬ ((j : Int) < (xs.length : Int)) := by omega
          go_wp2
          go_roundg g
          case measure => omega
          case rel => exact ⟨k + 1, by omega, by go_num, rfl, rfl, rfl⟩
        | succ g2 =>
          have hj : (j : Int) < (xs.length : Int) := by omega
          have hne : xs ≠ [] := by intro e; rw [e] at hj; simp at hj; omega
          obtain ⟨b, rfl, hB, hbs⟩ := hform.resolve_left hne
          have hc := hcell b j rfl (by omega)
          have hx : ((xs.getD j 0) == id) = false := by
            have : xs.getD j 0 ∈ xs := by rw [List.getD, List.getElem?_eq_getElem (by omega)]; exact List.getElem_mem (by omega)
            simp only [beq_eq_false_iff_ne]
            intro e
            rw [e] at this
            exact hmem this
          obtain ⟨x, hxe⟩ : ∃ x, x = xs.getD j 0 := ⟨_, rfl⟩
          rw [← hxe] at hc hx
          clear hxe hcell hform hmem hne hidx
          go_wp2
          go_roundg g2
          case measure => omega
          case rel => exact ⟨j + 1, by omega, by go_num, rfl, rfl, rfl⟩

end Go.Proofs.Ytoeakcfbnkndbaa

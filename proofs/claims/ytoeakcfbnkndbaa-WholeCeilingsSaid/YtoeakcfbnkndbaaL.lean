import Derived.Test.YtoeakcfbnkndbaaK
import Derived.Test.YtoeakcfbnkndbaaShelf
namespace Go.Proofs.Ytoeakcfbnkndbaa
open Go.RowKit

theorem bitLen_top {s p : Nat} (hp : p < 64) (h1 : s.testBit p = true) (h2 : ∀ q, p < q → s.testBit q = false) : Lib.bitLen s = p + 1 := by
  have hlo : 2 ^ p ≤ s := Nat.ge_two_pow_of_testBit h1
  have hhi : s < 2 ^ (p + 1) := Nat.lt_pow_two_of_testBit s (fun i hi => h2 i (by omega))
  have h64 : s < 2 ^ 64 := Nat.lt_of_lt_of_le hhi (Nat.pow_le_pow_right (by omega) (by omega))
  rw [Lib.bitLen_shift p s hlo h64]
  have e : s / 2 ^ p = 1 := by
    have h3 : s / 2 ^ p < 2 := Nat.div_lt_of_lt_mul (by rw [Nat.pow_succ] at hhi; omega)
    have h4 : 1 ≤ s / 2 ^ p := (Nat.le_div_iff_mul_le (Nat.two_pow_pos p)).2 (by omega)
    omega
  rw [e]
  have : Lib.bitLen 1 = 1 := by decide +kernel
  omega

set_option maxRecDepth 100000 in
set_option maxHeartbeats 400000 in
/-- Peek: the first of the highest row that has some. -/
theorem peek_some {w : World} {B R : Nat} {V : Nat → Value} {X : Nat → List Int} {s : Nat} (h : Rdy w B R V X s) (p : Nat) (hp : p < 64) (x : Int) (xs : List Int) (hx : X p = x :: xs) (hno : ∀ q, p < q → q < 64 → X q = []) :
    Calls Try.prog 24 #[.pointer (some ⟨R, 0, none⟩)] w fun e w' => e = .returned (.tuple #[.int .i64 x, .bool true]) ∧ ∃ n, w' = w.drewN n := by
  have hb1 : s.testBit p = true := by rw [h.bits, hx]; simp [hp]
  have hb2 : ∀ q, p < q → s.testBit q = false := by
    intro q hq
    rw [h.bits]
    by_cases h64 : q < 64
    · rw [hno q hq h64]; simp
    · simp [h64]
  have hlen := bitLen_top hp hb1 hb2
  have hs0 : ((s : Int) == 0) = false := by
    have : 2 ^ p ≤ s := Nat.ge_two_pow_of_testBit hb1
    have h1 : 0 < 2 ^ p := Nat.two_pow_pos p
    simp
    omega
  have hs64 : (s : Int) ≤ 18446744073709551615 := by have := h.lt; simp at this; omega
  have hcall : ∀ w, Calls Try.prog 44 #[.int .u64 s] w fun e w' => e = .returned (.int .i64 ((p : Int) + 1)) ∧ w' = w := fun w => by
    have := Try.bits_Len64 (s : Int) w (by omega) hs64
    rw [Int.toNat_natCast, hlen] at this
    exact this
  obtain ⟨a, c, hV, hm, hform, hcell⟩ := h.fam.form (p := p) (by omega)
  obtain ⟨g, rfl, hg1, hg2⟩ := hform.resolve_left (by rw [hx]; simp)
  have c1 := h.cell hp
  have c2 := h.word
  have c3 := hcell g 0 rfl (by rw [hx]; simp)
  rw [hx] at c3
  simp at c3
  rw [hV] at c1
  have hl : 0 < (X p).length := by rw [hx]; simp
  have hl2 : (0 : Int) < ((X p).length : Int) := by omega
  generalize (X p).length = n at *
  have e1 : IntKind.i64.wrap ((p : Int) + 1 - 1) = (p : Int) := by rw [IntKind.wrap_i64]; omega
  have e2 : (p : Int) < 64 := by omega
  have CALL := Lib.hid hcall
  clear hno hb1 hb2 hlen hV hm hform hcell hx hcall
  go_enter Try.func24, Try.ntmps24
  go_wp2_with fail
  go_quiet ((go_at_call 44; exact Calls.quiet_of_same (CALL.out _)))
  go_wp2
  go_ret2
  exact ⟨rfl, nq, rfl⟩

set_option maxRecDepth 100000 in
set_option maxHeartbeats 400000 in
/-- Peek: none. -/
theorem peek_none {w : World} {B R : Nat} {V : Nat → Value} {X : Nat → List Int} {s : Nat} (h : Rdy w B R V X s) (hno : ∀ q, q < 64 → X q = []) :
    Calls Try.prog 24 #[.pointer (some ⟨R, 0, none⟩)] w fun e w' => e = .returned (.tuple #[.int .i64 0, .bool false]) ∧ w = w' := by
  have hs : s = 0 := by
    apply Nat.eq_of_testBit_eq
    intro i
    rw [h.bits, Nat.zero_testBit]
    by_cases h64 : i < 64
    · rw [hno i h64]; simp
    · simp [h64]
  have c2 := h.word
  rw [hs] at c2
  clear hs hno
  go_enter Try.func24, Try.ntmps24
  go_wp2
  go_ret2
  exact ⟨rfl, rfl⟩

theorem upd_drewN (F : Nat → Prop) (w : World) (n : Nat) : Upd F w (w.drewN n) := ⟨rfl, rfl, rfl, Nat.le_refl _, fun _ _ _ => rfl⟩

set_option maxRecDepth 100000 in
set_option maxHeartbeats 400000 in
/-- Drop: an id goes. -/
theorem drop_some {w : World} {B R : Nat} {V : Nat → Value} {X : Nat → List Int} {s : Nat} (h : Rdy w B R V X s) (id : Int) (p : Nat) (hp : p < 64) (hno : ∀ q, q < p → id ∉ X q) (hin : id ∈ X p) :
    Calls Try.prog 28 #[.pointer (some ⟨R, 0, none⟩), .int .i64 id] w fun e w' => e = .returned (.bool true) ∧ Moved w B R V (fset X p ((X p).eraseIdx ((X p).idxOf id))) w' := by
  obtain ⟨a, c, hV, hm, hform, hcell⟩ := h.fam.form (p := p) (by omega)
  obtain ⟨g, rfl, hg1, hg2⟩ := hform.resolve_left (fun e => by rw [e] at hin; cases hin)
  have c1 := h.cell hp
  rw [hV] at c1
  have hk : (X p).idxOf id < (X p).length := List.idxOf_lt_length_of_mem hin
  have hidx := index_row g c (X p) id ((X p).idxOf id) hm (fun j hj => hcell g j rfl hj) hk (by rw [List.getD, List.getElem?_eq_getElem hk]; simp)
    (fun i hi => by
      rw [List.getD, List.getElem?_eq_getElem (by omega)]
      have := List.not_of_lt_findIdx (p := (· == id)) (xs := X p) (i := i) (by simpa [List.idxOf] using hi)
      simpa using this)
  have ho := h.fam.own p (by omega)
  rw [hV] at ho
  have hdel := delete_row ho ((X p).idxOf id) hk
  have FIN := Lib.hid (fun (a' : Option Addr) (c' : Nat) (w1 w2 : World) (hown : w1.ownsRow B 3 1 (.slice a' ((X p).length - 1) c') ((X p).length - 1) (ints ((X p).eraseIdx ((X p).idxOf id))))
    (hup : Upd (fun b => (Value.slice (some ⟨g, 0, none⟩) (X p).length c).ownBlock = some b) w w1) (hbl : (Value.slice a' ((X p).length - 1) c').ownBlock = (Value.slice (some ⟨g, 0, none⟩) (X p).length c).ownBlock)
    (h2 : Blk w2 R 93 _) (hu2 : Upd (· = R) w1 w2) =>
      h.moved (xs' := (X p).eraseIdx ((X p).idxOf id)) hp (List.length_eraseIdx_of_lt hk) hown (by rw [hV]; exact hup) (fun k hk => Or.inl (by rw [hV, ← hbl]; exact hk)) h2 hu2)
  have NOTE := Lib.hid (fun (a' : Option Addr) (c' : Nat) (w1 : World) (hup : Upd (fun b => (Value.slice (some ⟨g, 0, none⟩) (X p).length c).ownBlock = some b) w w1) =>
    note_any (h.keep hp (by rw [hV]; exact hup)) p hp a' ((X p).length - 1) c' h.lt (by omega))
  have hk63 : ((X p).idxOf id : Int) ≤ 9223372036854775806 := by unfold maxLen at hm; omega
  have HPR := Lib.hid (prio_some h id p hp hno hin)
  generalize (X p).idxOf id = k at *
  clear hV hcell ho hform hno hin
  go_enter Try.func28, Try.ntmps28
  go_wp2_with (first
    | (go_at_call 51; refine HPR.out.mono ?_; rintro e w1 ⟨rfl, rfl⟩)
    | (go_at_call 52; refine hidx.mono ?_; rintro e w1 ⟨rfl, rfl⟩)
    | (go_at_call 54; refine hdel.mono ?_; rintro e w1 ⟨a', c', rfl, hown, hup, hbl⟩)
    | (go_at_call 53; refine (NOTE.out _ _ _ hup).mono ?_; rintro e w2 ⟨rfl, hb2, hu2⟩))
  go_ret
  exact ⟨rfl, FIN.out _ _ _ _ hown hup hbl hb2 hu2⟩

set_option maxRecDepth 100000 in
set_option maxHeartbeats 400000 in
/-- Drop: an id that isn't there. -/
theorem drop_none {w : World} {B R : Nat} {V : Nat → Value} {X : Nat → List Int} {s : Nat} (h : Rdy w B R V X s) (id : Int) (hno : ∀ q, q < 64 → id ∉ X q) :
    Calls Try.prog 28 #[.pointer (some ⟨R, 0, none⟩), .int .i64 id] w fun e w' => e = .returned (.bool false) ∧ w = w' := by
  go_enter Try.func28, Try.ntmps28
  go_wp2_with (go_at_call 51; refine (prio_none h id hno).mono ?_; rintro e w1 ⟨rfl, rfl⟩)
  go_ret
  exact ⟨rfl, rfl⟩

end Go.Proofs.Ytoeakcfbnkndbaa

import Derived.Test.YtoeakcfbnkndbaaE
import Derived.Deep.RegionLaw
import Derived.RegionTactic
import Derived.ChangeAlike
namespace Go.Proofs.Ytoeakcfbnkndbaa
open Go.RowKit

set_option maxRecDepth 100000 in
set_option maxHeartbeats 400000 in
/-- slices.Index on a row: the first place of an id that is there. -/
theorem index_row {w : World} (g c : Nat) (xs : List Int) (id : Int) (j0 : Nat) (hl : xs.length ≤ maxLen)
    (hcell : ∀ j, j < xs.length → w.cell? ⟨g, j, none⟩ = some (.int .i64 (xs.getD j 0))) (hj0 : j0 < xs.length) (hx : xs.getD j0 0 = id) (hno : ∀ i, i < j0 → xs.getD i 0 ≠ id) :
    Calls Try.prog 52 #[.slice (some ⟨g, 0, none⟩) xs.length c, .int .i64 id] w fun e w' => e = .returned (.int .i64 j0) ∧ w = w' := by
  unfold maxLen at hl
  have HX := Lib.hid hx
  clear hx
  go_enter Try.func52, Try.ntmps52
  go_wp2
  go_loopg [8] xs.length (fun g2 s8 wr => ∃ j : Nat, j + g2 = xs.length ∧ j ≤ j0 ∧ s8 = .int .i64 j ∧ w = wr)
  case atStart => exact ⟨0, by omega, by omega, rfl, rfl⟩
  case round =>
    obtain ⟨j, hjg, hjj, rfl, rfl⟩ := hrel
    cases gk with
    | zero => omega
    | succ g2 =>
      have hj : (j : Int) < (xs.length : Int) := by omega
      have hc := hcell j (by omega)
      by_cases hjj0 : j = j0
      · subst hjj0
        rw [HX.out] at hc
        have hx1 : (id == id) = true := by simp
        clear hcell hno
        go_wp2
        go_ret
        exact ⟨rfl, rfl⟩
      · have hn := hno j (by omega)
        obtain ⟨x, hxe⟩ : ∃ x, x = xs.getD j 0 := ⟨_, rfl⟩
        rw [← hxe] at hc hn
        clear hxe hcell hno
        have hx1 : (id == x) = false := by simp; exact fun e => hn e.symm
        clear hn
        go_wp2
        go_roundg g2
        case measure => omega
        case rel => exact ⟨j + 1, by omega, by omega, by go_num, rfl⟩

/-- A word without one bit; a word with it. -/
def clr (s p : Nat) : Nat := s &&& (18446744073709551615 - 2 ^ p)
def sbit (s p : Nat) : Nat := clr s p ||| 2 ^ p

/-- The word behind a row of n ids. -/
def nbits (n s p : Nat) : Nat := if n = 0 then clr s p else sbit s p

theorem two_pow_lt {p : Nat} (hp : p < 64) : 2 ^ p < 18446744073709551616 := by
  have := Nat.pow_lt_pow_right (a := 2) (by omega) hp
  simpa using this

theorem clr_bit {s p : Nat} (hp : p < 64) (hs : s < 2 ^ 64) (q : Nat) : (clr s p).testBit q = (s.testBit q && decide (q ≠ p)) := by
  have h1 : (18446744073709551615 - 2 ^ p : Nat) = 2 ^ 64 - (2 ^ p + 1) := by have := two_pow_lt hp; omega
  have h2 : 2 ^ p < 2 ^ 64 := by have := two_pow_lt hp; simpa using this
  unfold clr
  rw [Nat.testBit_and, h1, Nat.testBit_two_pow_sub_succ h2, Nat.testBit_two_pow]
  by_cases hq : q < 64
  · by_cases e : p = q
    · subst e; simp [hq]
    · have e' : q ≠ p := fun x => e x.symm
      simp [hq, e, e']
  · have : s.testBit q = false := Nat.testBit_lt_two_pow (Nat.lt_of_lt_of_le hs (Nat.pow_le_pow_right (by omega) (by omega)))
    simp [this]

theorem clr_lt {s p : Nat} (hs : s < 2 ^ 64) : clr s p < 2 ^ 64 := Nat.lt_of_le_of_lt Nat.and_le_left hs

theorem sbit_bit {s p : Nat} (hp : p < 64) (hs : s < 2 ^ 64) (q : Nat) : (sbit s p).testBit q = (s.testBit q || decide (q = p)) := by
  unfold sbit
  rw [Nat.testBit_or, clr_bit hp hs, Nat.testBit_two_pow]
  by_cases e : q = p
  · subst e; simp
  · have e' : p ≠ q := fun x => e x.symm
    simp [e, e']

theorem wrap_two_pow {p : Nat} (hp : p < 64) : IntKind.u64.wrap ((2 : Int) ^ p) = ((2 ^ p : Nat) : Int) := by
  have h := two_pow_lt hp
  have e : (2 : Int) ^ p = ((2 ^ p : Nat) : Int) := by simp
  rw [e, IntKind.wrap_u64]
  generalize 2 ^ p = b at h
  omega

theorem bits_clr {s p : Nat} (hp : p < 64) (hs : s < 2 ^ 64) : bits BinOp.andNot IntKind.u64 (s : Int) (IntKind.u64.wrap ((2 : Int) ^ p)) = (clr s p : Int) := by
  rw [wrap_two_pow hp]
  exact u64_andNot_nat s (2 ^ p) (by simpa using hs) (two_pow_lt hp)

theorem bits_sbit {s p : Nat} (hp : p < 64) (hs : s < 2 ^ 64) : bits BinOp.or IntKind.u64 (clr s p : Int) (IntKind.u64.wrap ((2 : Int) ^ p)) = (sbit s p : Int) := by
  rw [wrap_two_pow hp]
  exact u64_or_nat (clr s p) (2 ^ p) (by simpa using clr_lt hs) (two_pow_lt hp)

set_option maxRecDepth 100000 in
set_option maxHeartbeats 400000 in
/-- note: a row's slice, and the word of which rows have some. -/
theorem note_any {w : World} {R : Nat} {V : Nat → Value} {s : Nat} (h : Blk w R 93 (lcells V s)) (p : Nat) (hp : p < 64) (a : Option Addr) (n c : Nat) (hs : s < 2 ^ 64) (hn : n ≤ maxLen) :
    Calls Try.prog 53 #[.pointer (some ⟨R, 0, none⟩), .int .i64 p, .slice a n c] w fun e w' => e = .returned (.tuple #[]) ∧
      Blk w' R 93 (lcells (fun q => if q = p then .slice a n c else V q) (nbits n s p)) ∧ Upd (· = R) w w' := by
  have c1 : w.cell? ⟨R, p, none⟩ = some (V p) := h.cell (by simp [lcells, hp])
  have c2 : w.cell? ⟨R, 64, none⟩ = some (.int .u64 s) := h.cell (by simp [lcells])
  have hf := h.free
  have e1 := bits_clr hp hs
  have e2 := bits_sbit hp hs
  unfold maxLen at hn
  have H := Lib.hid h
  have HS := Lib.hid hs
  have fin : ∀ u : Nat, Blk ((w.setCell ⟨R, p, none⟩ (.slice a n c)).setCell ⟨R, 64, none⟩ (.int .u64 u)) R 93 (lcells (fun q => if q = p then .slice a n c else V q) u) := by
    intro u
    have h64 : (64 : Nat) ≠ p := by omega
    refine ((h.set (k := p) (by simp [lcells, hp]) (.slice a n c)).set (k := 64) (by simp [lcells, h64]) (.int .u64 u)).weak ?_
    intro k v hk
    unfold lcells at hk
    dsimp only at hk ⊢
    by_cases k1 : k < 64
    · rw [if_pos k1] at hk
      rw [if_neg (by omega)]
      by_cases k2 : k = p
      · rw [if_pos k2] at hk ⊢; exact hk
      · rw [if_neg k2] at hk ⊢; unfold lcells; rw [if_pos k1]; exact hk
    · rw [if_neg k1] at hk
      by_cases k3 : k = 64
      · rw [if_pos k3] at hk ⊢; exact hk
      · rw [if_neg k3] at hk; cases hk
  have FIN := Lib.hid fin
  clear h hs fin
  by_cases hn0 : 0 < n
  · go_enter Try.func53, Try.ntmps53
    go_wp2
    go_region
    go_wp2
    go_region
    go_wp2
    go_end0
    have h0 : n ≠ 0 := by omega
    rw [show nbits n s p = sbit s p from if_neg h0]
    refine ⟨rfl, (((FIN.out (clr s p)).set (k := 64) (by simp [lcells]) (.int .u64 (sbit s p))).weak ?_).drew, (by with_reducible (repeat (first | refine Upd.alloc ?_ _ | refine Upd.drew ?_ | refine Upd.setEq ?_ | refine Upd.setNew ?_ (by simp) | exact Upd.refl _ _)))⟩
    intro k v hk
    unfold lcells at hk ⊢
    dsimp only at hk ⊢
    by_cases k1 : k < 64
    · rw [if_pos k1] at hk
      rw [if_neg (by omega), if_pos k1]
      exact hk
    · rw [if_neg k1] at hk ⊢
      split at hk
      · rename_i k3
        rw [if_pos k3]
        exact hk
      · cases hk
  · have hz : n = 0 := by omega
    subst hz
    go_enter Try.func53, Try.ntmps53
    go_wp2
    go_region
    go_wp2
    go_end0
    exact ⟨rfl, (FIN.out (clr s p)).drew, (by with_reducible (repeat (first | refine Upd.alloc ?_ _ | refine Upd.drew ?_ | refine Upd.setEq ?_ | refine Upd.setNew ?_ (by simp) | exact Upd.refl _ _)))⟩

end Go.Proofs.Ytoeakcfbnkndbaa

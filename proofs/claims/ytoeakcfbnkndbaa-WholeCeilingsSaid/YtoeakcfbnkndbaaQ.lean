import Derived.Test.YtoeakcfbnkndbaaP
namespace Go.Proofs.Ytoeakcfbnkndbaa
open Go.RowKit Go.Maps

section
variable {w : World} {A : LkAt} {cv : Value} {cs : List Int} {k : Nat} {own : Nat → Option Int}

set_option maxRecDepth 100000 in
set_option maxHeartbeats 400000 in
theorem waits_any (h : Lck w A cv cs k own) (id : Int) :
    Calls Try.prog 30 #[.pointer (some ⟨A.L, 0, none⟩), .int .i64 id] w fun e w' => e = .returned (.bool false) ∧ w = w' := by
  go_enter Try.func30, Try.ntmps30
  go_wp2_with (go_at_call 55; refine (place_any h id).mono ?_; rintro e w1 ⟨rfl, rfl⟩)
  go_ret
  exact ⟨rfl, rfl⟩

set_option maxRecDepth 100000 in
set_option maxHeartbeats 400000 in
theorem is_any (h : Lck w A cv cs k own) (l : Nat) (hl : l < cs.length) :
    Calls Try.prog 29 #[.pointer (some ⟨A.L, 0, none⟩), .int .i64 l] w fun e w' => e = .returned (.bool true) ∧ w = w' := by
  have c0 := h.c0
  obtain ⟨a, c, hcv, _⟩ := h.form
  rw [hcv] at c0
  have hl2 : decide (l < cs.length) = true := by simp [hl]
  have hl3 : (l : Int) < (cs.length : Int) := by omega
  generalize cs.length = m at *
  clear hcv h
  go_enter Try.func29, Try.ntmps29
  go_wp2
  go_ret
  exact ⟨rfl, rfl⟩

set_option maxRecDepth 100000 in
set_option maxHeartbeats 400000 in
theorem owner_any (h : Lck w A cv cs k own) (l : Nat) (hl : l < 1000) :
    Calls Try.prog 31 #[.pointer (some ⟨A.L, 0, none⟩), .int .i64 l] w fun e w' => e = .returned (.tuple #[.int .i64 ((own l).getD 0), .bool (own l).isSome]) ∧ w = w' := by
  have c2 := h.c2
  have hlk := h.own.look hl
  generalize (own l).getD 0 = x at *
  generalize (own l).isSome = y at *
  go_enter Try.func31, Try.ntmps31
  go_wp2
  go_ret2
  exact ⟨rfl, rfl⟩

set_option maxRecDepth 100000 in
set_option maxHeartbeats 400000 in
/-- Take: a lock that one has. -/
theorem take_twice (h : Lck w A cv cs k own) (id : Int) (h0 : 0 ≤ id) (base : Int) (hb0 : 1 ≤ base) (hb1 : base ≤ 63) (l : Nat) (hl : l < cs.length) (ho : own l = some id) :
    Calls Try.prog 13 #[.pointer (some ⟨A.L, 0, none⟩), .int .i64 id, .int .i64 base, .int .i64 l] w fun e w' => e = .returned (.tuple #[.bool false, .int .i64 7]) ∧ w = w' := by
  have HO := owner_any h l (by have := h.few; omega)
  rw [ho] at HO
  have HO := Lib.hid HO
  have b1 : decide (id < 0) = false := by simp; omega
  have b2 : decide (base < 1) = false := by simp; omega
  have b3 : decide (63 < base) = false := by simp; omega
  have b4 : (id == id) = true := by simp
  clear ho
  go_enter Try.func13, Try.ntmps13
  go_wp2_with (first
    | (go_at_call 29; refine (is_any h l hl).mono ?_; rintro e w1 ⟨rfl, rfl⟩)
    | (go_at_call 30; refine (waits_any h id).mono ?_; rintro e w1 ⟨rfl, rfl⟩)
    | (go_at_call 31; refine HO.out.mono ?_; rintro e w1 ⟨rfl, rfl⟩; simp only [Option.getD, Option.isSome]))
  go_ret2
  exact ⟨rfl, rfl⟩

set_option maxRecDepth 100000 in
set_option maxHeartbeats 400000 in
/-- Take: a base priority above the ceiling. -/
theorem take_rights (h : Lck w A cv cs k own) (id : Int) (h0 : 0 ≤ id) (base : Int) (hb0 : 1 ≤ base) (hb1 : base ≤ 63) (l : Nat) (hl : l < cs.length) (ho : own l ≠ some id) (hc : cs.getD l 0 < base) :
    Calls Try.prog 13 #[.pointer (some ⟨A.L, 0, none⟩), .int .i64 id, .int .i64 base, .int .i64 l] w fun e w' => e = .returned (.tuple #[.bool false, .int .i64 11]) ∧ w = w' := by
  have HO := owner_any h l (by have := h.few; omega)
  obtain ⟨a, c, hcv, hcell⟩ := h.form
  obtain ⟨g, rfl, hcl⟩ := hcell l hl
  have c0 := h.c0
  rw [hcv] at c0
  have b1 : decide (id < 0) = false := by simp; omega
  have b2 : decide (base < 1) = false := by simp; omega
  have b3 : decide (63 < base) = false := by simp; omega
  have b6 : decide (cs.getD l 0 < base) = true := by simp only [decide_eq_true_eq]; exact hc
  have hl3 : (l : Int) < (cs.length : Int) := by omega
  have HIS := Lib.hid (is_any h l hl)
  have HW := Lib.hid (waits_any h id)
  obtain ⟨cl, hcle⟩ : ∃ cl, cl = cs.getD l 0 := ⟨_, rfl⟩
  rw [← hcle] at hcl b6
  generalize cs.length = m at *
  clear hcv hcell hc hcle
  cases hol : own l with
  | none =>
    rw [hol] at HO
    have HO := Lib.hid HO
    clear ho hol
    go_enter Try.func13, Try.ntmps13
    go_wp2_with (first
      | (go_at_call 29; refine HIS.out.mono ?_; rintro e w1 ⟨rfl, rfl⟩)
      | (go_at_call 30; refine HW.out.mono ?_; rintro e w1 ⟨rfl, rfl⟩)
      | (go_at_call 31; refine HO.out.mono ?_; rintro e w1 ⟨rfl, rfl⟩; simp only [Option.getD, Option.isSome]))
    go_ret2
    exact ⟨rfl, rfl⟩
  | some x =>
    rw [hol] at HO ho
    have HO := Lib.hid HO
    have b4 : (x == id) = false := by simp; intro e; exact ho (by rw [e])
    clear ho hol
    go_enter Try.func13, Try.ntmps13
    go_wp2_with (first
      | (go_at_call 29; refine HIS.out.mono ?_; rintro e w1 ⟨rfl, rfl⟩)
      | (go_at_call 30; refine HW.out.mono ?_; rintro e w1 ⟨rfl, rfl⟩)
      | (go_at_call 31; refine HO.out.mono ?_; rintro e w1 ⟨rfl, rfl⟩; simp only [Option.getD, Option.isSome]))
    go_ret2
    exact ⟨rfl, rfl⟩

set_option maxRecDepth 100000 in
set_option maxHeartbeats 400000 in
/-- Take: a free lock. -/
theorem take_free (h : Lck w A cv cs k own) (id : Int) (h0 : 0 ≤ id) (hid : id ≤ 1000) (base : Int) (hb0 : 1 ≤ base) (hb1 : base ≤ 63) (l : Nat) (hl : l < cs.length) (ho : own l = none) (hc : base ≤ cs.getD l 0) (hk : k < 1000) :
    Calls Try.prog 13 #[.pointer (some ⟨A.L, 0, none⟩), .int .i64 id, .int .i64 base, .int .i64 l] w fun e w' => e = .returned (.tuple #[.bool true, .int .i64 0]) ∧
      Lck w' A cv cs (k + 1) (fset own l (some id)) ∧ Upd (· = A.mb) w w' := by
  have HO := owner_any h l (by have := h.few; omega)
  rw [ho] at HO
  have HO := Lib.hid HO
  obtain ⟨w1, hrun, ho1, hg1⟩ := h.own.take (l := l) (by have := h.few; omega) hk id h0 hid
  have HT := Lib.hid (h.turned ho1 hg1)
  obtain ⟨a, c, hcv, hcell⟩ := h.form
  obtain ⟨g, rfl, hcl⟩ := hcell l hl
  have c0 := h.c0
  have c2 := h.c2
  rw [hcv] at c0
  have b1 : decide (id < 0) = false := by simp; omega
  have b2 : decide (base < 1) = false := by simp; omega
  have b3 : decide (63 < base) = false := by simp; omega
  have b6 : decide (cs.getD l 0 < base) = false := by simp only [decide_eq_false_iff_not]; omega
  have hl3 : (l : Int) < (cs.length : Int) := by omega
  have HIS := Lib.hid (is_any h l hl)
  have HW := Lib.hid (waits_any h id)
  obtain ⟨cl, hcle⟩ : ∃ cl, cl = cs.getD l 0 := ⟨_, rfl⟩
  rw [← hcle] at hcl b6
  generalize cs.length = m at *
  clear hcv hcell hc hcle ho ho1 hg1
  go_enter Try.func13, Try.ntmps13
  go_wp2_with (first
    | (go_at_call 29; refine HIS.out.mono ?_; rintro e w1 ⟨rfl, rfl⟩)
    | (go_at_call 30; refine HW.out.mono ?_; rintro e w1 ⟨rfl, rfl⟩)
    | (go_at_call 31; refine HO.out.mono ?_; rintro e w1 ⟨rfl, rfl⟩; simp only [Option.getD, Option.isSome]))
  go_ret2
  exact ⟨rfl, HT.out.1, HT.out.2⟩

end

end Go.Proofs.Ytoeakcfbnkndbaa

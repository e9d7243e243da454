import Derived.Test.YtoeakcfbnkndbaaV
namespace Go.Proofs.Ytoeakcfbnkndbaa
open Go.RowKit Go.Maps

set_option maxRecDepth 100000 in
/-- A ceiling outside 1..63. -/
theorem lnew_range {w : World} {a : Option Addr} {c : Nat} {cs : List Int} (h : Ints w a cs) (hl : cs.length ≤ 16) (p : Nat) (hp : p < cs.length) (hok : ∀ j, j < p → 1 ≤ cs.getD j 0 ∧ cs.getD j 0 ≤ 63) (hbad : cs.getD p 0 < 1 ∨ 63 < cs.getD p 0) :
    Calls Try.prog 5 #[.slice a cs.length c] w fun e w' => e = .returned (.tuple #[.pointer none, .int .i64 2]) ∧ w = w' := by
  have H1 := Lib.hid (index17_some (c := c) h hl p hp hok hbad)
  clear h hok hbad
  go_enter Try.func5, Try.ntmps5
  go_wp2_with (first | (go_at_call 34; refine H1.out.mono ?_; rintro e w1 ⟨rfl, rfl⟩) | go_in)
  go_ret2
  exact ⟨rfl, rfl⟩

/-- The first place at which a test fails, or it holds at all. -/
theorem all_or_first (P : Nat → Prop) (n : Nat) : (∀ j, j < n → P j) ∨ ∃ p, p < n ∧ (∀ j, j < p → P j) ∧ ¬ P p := by
  induction n with
  | zero => exact Or.inl (fun j hj => by omega)
  | succ n ih =>
    rcases ih with h | ⟨p, h1, h2, h3⟩
    · by_cases hn : P n
      · refine Or.inl (fun j hj => ?_)
        by_cases e : j = n
        · subst e; exact hn
        · exact h j (by omega)
      · exact Or.inr ⟨n, by omega, h, hn⟩
    · exact Or.inr ⟨p, by omega, h2, h3⟩

def fineI (cs : List Int) : Prop := ∀ j, j < cs.length → 1 ≤ cs.getD j 0 ∧ cs.getD j 0 ≤ 63

theorem lnew_bad {w : World} {a : Option Addr} {c : Nat} {cs : List Int} (h : Ints w a cs) (hl : cs.length ≤ 16) (hb : ¬ fineI cs) :
    Calls Try.prog 5 #[.slice a cs.length c] w fun e w' => e = .returned (.tuple #[.pointer none, .int .i64 2]) ∧ w = w' := by
  rcases all_or_first (fun j => 1 ≤ cs.getD j 0 ∧ cs.getD j 0 ≤ 63) cs.length with h1 | ⟨p, h1, h2, h3⟩
  · exact absurd h1 hb
  · exact lnew_range h hl p h1 h2 (by omega)

theorem ints_five (w : World) (ty : Nat) : Ints (w.alloc (.cells #[.int .i64 5] ty)) (some ⟨w.heap.size, 0, none⟩) [5] := by
  refine Or.inr ⟨_, 0, rfl, fun j hj => ?_⟩
  have e : j = 0 := by simpa using hj
  subst e
  have e2 := heap_alloc_new w (.cells #[.int .i64 5] ty)
  simp only [World.cell?, Nat.add_zero]
  rw [e2]
  rfl

set_option maxRecDepth 100000 in
set_option maxHeartbeats 800000 in
theorem awake_any (w : World) : Calls Try.prog 4 #[] w fun e w' => e = .returned (.bool true) ∧ Below w.heap.size w w' := by
  have h5 : ∀ j, j < ([5] : List Int).length → 1 ≤ ([5] : List Int).getD j 0 ∧ ([5] : List Int).getD j 0 ≤ 63 := by
    intro j hj
    have e : j = 0 := by simpa using hj
    subst e
    decide
  have HN : Hid (∀ (w1 : World) (a : Option Addr), Ints w1 a [5] → Calls Try.prog 5 #[.slice a 1 1] w1 (NewLck w1 [5])) := Lib.hid (fun (w1 : World) (a : Option Addr) (h1 : Ints w1 a [5]) => lnew_ok (c := 1) h1 (by decide) h5)
  have HT : Hid (∀ (w1 : World) (A : LkAt) (cv : Value), Lck w1 A cv [5] 0 (fun _ => none) → Calls Try.prog 13 #[.pointer (some ⟨A.L, 0, none⟩), .int .i64 3, .int .i64 2, .int .i64 0] w1 fun e w' => e = .returned (.tuple #[.bool true, .int .i64 0]) ∧
      Lck w' A cv [5] 1 (fset (fun _ => none) 0 (some 3)) ∧ Upd (· = A.mb) w1 w') :=
    Lib.hid (fun (w1 : World) (A : LkAt) (cv : Value) h1 => take_free h1 3 (by omega) (by omega) 2 (by omega) (by omega) 0 (by decide) rfl (by decide) (by omega))
  have HR := Lib.hid (fun (w1 : World) (A : LkAt) (cv : Value) (h1 : Lck w1 A cv [5] 1 (fset (fun _ => none) 0 (some 3))) => raised_any h1 3)
  have hup : upOf [5] (fset (fun _ => none) 0 (some 3)) 3 = 5 := by decide
  go_enter Try.func4, Try.ntmps4
  go_wp2_with (first
    | (go_at_call 5; ( refine (HN.out _ _ (ints_five _ _)).mono ?_; rintro e w1 ⟨A, cv, rfl, hL, g1, g2, g3, g4, hb1⟩))
    | (go_at_call 13; refine (HT.out _ _ _ hL).mono ?_; rintro e w2 ⟨rfl, hL2, hu⟩)
    | (go_at_call 15; refine (HR.out _ _ _ hL2).mono ?_; rintro e w3 ⟨rfl, hb3⟩))
  go_ret
  refine ⟨by simp, Upd.toBelow (Upd.trans (Upd.next (((Upd.refl NoB w).alloc _).trans (Upd.below NoB hb1)) hu ?_) (Upd.below NoB hb3))⟩
  intro k hk e
  simp only [World.size_alloc] at g3
  omega

end Go.Proofs.Ytoeakcfbnkndbaa

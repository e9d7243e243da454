import Derived.Test.YtoeakcfbnkndbaaN
namespace Go.Proofs.Ytoeakcfbnkndbaa
open Go.RowKit

/-- An id gone from a row. -/
def xdrop (X : Nat → List Int) (p : Nat) (id : Int) : Nat → List Int := fset X p ((X p).eraseIdx ((X p).idxOf id))

set_option maxRecDepth 100000 in
set_option maxHeartbeats 800000 in
/-- Start. -/
theorem dstart_any {w : World} {A : At} {V : Nat → Value} {X : Nat → List Int} {ps : Nat → PC} {s : Nat} (h : Dis w A V X ps s) (i : Nat) (hi : i < A.n) (hs : (ps i).state = 0) (hno : ∀ q, q < 64 → (i : Int) ∉ X q)
    (now : Int) (h0 : 0 ≤ now) (h1 : now ≤ 1099511627776) (p : Nat) (hp : p < 64) (hprio : (ps i).prio = (p : Int)) (hl : (X p).length ≤ 1000) :
    Calls Try.prog 7 #[.pointer (some ⟨A.D, 0, none⟩), .int .i64 i, .int .i64 now] w fun e w' => e = .returned (.int .i64 0) ∧
      Dis.To w A V (fset X p (X p ++ [(i : Int)])) (pset ps i ⟨(ps i).prio, 1, (ps i).prio, 0, now⟩) w' := by
  have c0 := h.c0
  have HS := Lib.hid (start_any h.tbl hi hs now h0 h1)
  have HF := Lib.hid (fun (w1 : World) (h1 : Dis w1 A V X (pset ps i ⟨(ps i).prio, 1, (ps i).prio, 0, now⟩) s) =>
    follow_put h1 i hi (by simp [pset]) hno p hp (by simp [pset, PC.cur, PC.bas, hprio]) hl)
  clear hs hprio
  go_enter Try.func7, Try.ntmps7
  go_wp2_with (first
    | (go_at_call 23; refine HS.out.mono ?_; rintro e w1 ⟨rfl, ht, hu⟩; have d1 := h.tblTo ht hu)
    | (go_at_call 36; refine (HF.out _ d1).mono ?_; rintro e w2 ⟨rfl, hT⟩)
    | go_in)
  go_ret
  obtain ⟨V3, s3, h3, hv3, hu3⟩ := hT
  exact ⟨rfl, V3, s3, h3, hv3, (hu.mono (fun k _ e => Or.inr (Or.inl e))).trans hu3⟩

set_option maxRecDepth 100000 in
set_option maxHeartbeats 400000 in
/-- Pick: the first of the highest row that has some. -/
theorem pick_some {w : World} {A : At} {V : Nat → Value} {X : Nat → List Int} {ps : Nat → PC} {s : Nat} (h : Dis w A V X ps s) (p : Nat) (hp : p < 64) (x : Int) (xs : List Int) (hx : X p = x :: xs) (hno : ∀ q, p < q → q < 64 → X q = []) :
    Calls Try.prog 9 #[.pointer (some ⟨A.D, 0, none⟩)] w fun e w' => e = .returned (.tuple #[.int .i64 x, .bool true]) ∧ ∃ n, w' = w.drewN n := by
  have c1 := h.c1
  have HP := Lib.hid (peek_some h.rdy p hp x xs hx hno)
  clear hx hno
  go_enter Try.func9, Try.ntmps9
  go_wp2_with (go_at_call 24; refine HP.out.mono ?_; rintro e w1 ⟨rfl, nq, rfl⟩)
  go_ret2
  exact ⟨rfl, nq, rfl⟩

set_option maxRecDepth 100000 in
set_option maxHeartbeats 400000 in
/-- Pick: none is ready. -/
theorem pick_none {w : World} {A : At} {V : Nat → Value} {X : Nat → List Int} {ps : Nat → PC} {s : Nat} (h : Dis w A V X ps s) (hno : ∀ q, q < 64 → X q = []) :
    Calls Try.prog 9 #[.pointer (some ⟨A.D, 0, none⟩)] w fun e w' => e = .returned (.tuple #[.int .i64 0, .bool false]) ∧ w = w' := by
  have c1 := h.c1
  have HP := Lib.hid (peek_none h.rdy hno)
  clear hno
  go_enter Try.func9, Try.ntmps9
  go_wp2_with (go_at_call 24; refine HP.out.mono ?_; rintro e w1 ⟨rfl, rfl⟩)
  go_ret2
  exact ⟨rfl, rfl⟩

set_option maxRecDepth 100000 in
set_option maxHeartbeats 800000 in
/-- Done. -/
theorem ddone_any {w : World} {A : At} {V : Nat → Value} {X : Nat → List Int} {ps : Nat → PC} {s : Nat} (h : Dis w A V X ps s) (i : Nat) (hi : i < A.n) (hs : (ps i).state = 1)
    (p : Nat) (hp : p < 64) (hno : ∀ q, q < p → (i : Int) ∉ X q) (hin : (i : Int) ∈ X p) (hno2 : ∀ q, q < 64 → (i : Int) ∉ xdrop X p i q) (now : Int) (h0 : 0 ≤ now) (h1 : now ≤ 1099511627776) :
    Calls Try.prog 12 #[.pointer (some ⟨A.D, 0, none⟩), .int .i64 i, .int .i64 now] w fun e w' => e = .returned (.int .i64 0) ∧
      Dis.To w A V (xdrop X p i) (pset ps i ⟨(ps i).prio, 0, 0, 0, 0⟩) w' := by
  have c0 := h.c0
  have HS := Lib.hid (done_any h.tbl hi hs now h0 h1)
  have HD := Lib.hid (fun (w1 : World) (h1 : Dis w1 A V X (pset ps i ⟨(ps i).prio, 0, 0, 0, 0⟩) s) => drop_some h1.rdy i p hp hno hin)
  have HF := Lib.hid (fun (w1 : World) (V1 : Nat → Value) (s1 : Nat) (h1 : Dis w1 A V1 (xdrop X p i) (pset ps i ⟨(ps i).prio, 0, 0, 0, 0⟩) s1) =>
    follow_gone h1 i hi (by simp [pset]) hno2)
  clear hs hno hin hno2
  go_enter Try.func12, Try.ntmps12
  go_wp2_with (first
    | (go_at_call 27; refine HS.out.mono ?_; rintro e w1 ⟨rfl, ht, hu⟩; have d1 := h.tblTo ht hu; have e1 := d1.c1)
    | (go_at_call 28; refine (HD.out _ d1).mono ?_; rintro e w2 ⟨rfl, hm⟩; obtain ⟨V2, s2, d2, hv2, hu2⟩ := d1.rdyTo hm)
    | (go_at_call 36; refine (HF.out _ _ _ d2).mono ?_; rintro e w3 ⟨rfl, hb3⟩; have d3 := d2.below hb3)
    | go_in)
  go_ret
  exact ⟨rfl, V2, s2, d3, hv2, (hu.mono (fun k _ e => Or.inr (Or.inl e))).trans (hu2.trans (Upd.below _ hb3))⟩

set_option maxRecDepth 100000 in
set_option maxHeartbeats 800000 in
/-- Raise: the priority that counts stays. -/
theorem draise_same {w : World} {A : At} {V : Nat → Value} {X : Nat → List Int} {ps : Nat → PC} {s : Nat} (h : Dis w A V X ps s) (i : Nat) (hi : i < A.n) (hs : (ps i).state ≠ 0)
    (p : Nat) (hp : p < 64) (hno : ∀ q, q < p → (i : Int) ∉ X q) (hin : (i : Int) ∈ X p) (up : Int) (h0 : 0 ≤ up) (h1 : up ≤ 63)
    (hcur : PC.cur ⟨(ps i).prio, (ps i).state, (ps i).base, up, (ps i).begin⟩ = (p : Int)) :
    Calls Try.prog 26 #[.pointer (some ⟨A.D, 0, none⟩), .int .i64 i, .int .i64 up] w fun e w' => e = .returned (.int .i64 0) ∧
      Dis.To w A V X (pset ps i ⟨(ps i).prio, (ps i).state, (ps i).base, up, (ps i).begin⟩) w' := by
  have c0 := h.c0
  have HS := Lib.hid (raise_any h.tbl hi hs up h0 h1)
  have HP := Lib.hid (fun (w1 : World) (h1 : Dis w1 A V X (pset ps i ⟨(ps i).prio, (ps i).state, (ps i).base, up, (ps i).begin⟩) s) => prio_some h1.rdy i p hp hno hin)
  have hcu := fun (w1 : World) (h1 : Dis w1 A V X (pset ps i ⟨(ps i).prio, (ps i).state, (ps i).base, up, (ps i).begin⟩) s) => current_any h1.tbl hi
  have e : (pset ps i ⟨(ps i).prio, (ps i).state, (ps i).base, up, (ps i).begin⟩ i) = ⟨(ps i).prio, (ps i).state, (ps i).base, up, (ps i).begin⟩ := if_pos rfl
  rw [e, hcur] at hcu
  have HCU := Lib.hid hcu
  clear hs hno hin e hcu hcur
  go_enter Try.func26, Try.ntmps26
  go_wp2_with (first
    | (go_at_call 46; refine HS.out.mono ?_; rintro e w1 ⟨rfl, ht, hu⟩; have d1 := h.tblTo ht hu; have e0 := d1.c0; have e1 := d1.c1)
    | (go_at_call 51; refine (HP.out _ d1).mono ?_; rintro e w2 ⟨rfl, rfl⟩)
    | (go_at_call 61; refine (HCU.out _ d1).mono ?_; rintro e w3 ⟨rfl, hb3⟩; have d3 := d1.below hb3)
    | go_in)
  refine bodyPost_ret (results_none rfl _ _ _) rfl ?_
  go_wp2
  go_ret
  exact ⟨rfl, V, s, d3, fun _ _ => rfl, (hu.mono (fun k _ e => Or.inr (Or.inl e))).trans (Upd.below _ hb3)⟩

set_option maxRecDepth 100000 in
set_option maxHeartbeats 800000 in
/-- Raise: another priority counts: the process comes ahead of all of that. -/
theorem draise_move {w : World} {A : At} {V : Nat → Value} {X : Nat → List Int} {ps : Nat → PC} {s : Nat} (h : Dis w A V X ps s) (i : Nat) (hi : i < A.n) (hs : (ps i).state ≠ 0)
    (p : Nat) (hp : p < 64) (hno : ∀ q, q < p → (i : Int) ∉ X q) (hin : (i : Int) ∈ X p) (hno2 : ∀ q, q < 64 → (i : Int) ∉ xdrop X p i q) (up : Int) (h0 : 0 ≤ up) (h1 : up ≤ 63)
    (r : Nat) (hr : r < 64) (hcur : PC.cur ⟨(ps i).prio, (ps i).state, (ps i).base, up, (ps i).begin⟩ = (r : Int)) (hpr : p ≠ r) (hl : (xdrop X p i r).length ≤ 1000) :
    Calls Try.prog 26 #[.pointer (some ⟨A.D, 0, none⟩), .int .i64 i, .int .i64 up] w fun e w' => e = .returned (.int .i64 0) ∧
      Dis.To w A V (fset (xdrop X p i) r ((i : Int) :: xdrop X p i r)) (pset ps i ⟨(ps i).prio, (ps i).state, (ps i).base, up, (ps i).begin⟩) w' := by
  have c0 := h.c0
  have HS := Lib.hid (raise_any h.tbl hi hs up h0 h1)
  have HP := Lib.hid (fun (w1 : World) (h1 : Dis w1 A V X (pset ps i ⟨(ps i).prio, (ps i).state, (ps i).base, up, (ps i).begin⟩) s) => prio_some h1.rdy i p hp hno hin)
  have HD := Lib.hid (fun (w1 : World) (h1 : Dis w1 A V X (pset ps i ⟨(ps i).prio, (ps i).state, (ps i).base, up, (ps i).begin⟩) s) => drop_some h1.rdy i p hp hno hin)
  have HFR := Lib.hid (fun (w1 : World) (V1 : Nat → Value) (s1 : Nat) (h1 : Dis w1 A V1 (xdrop X p i) (pset ps i ⟨(ps i).prio, (ps i).state, (ps i).base, up, (ps i).begin⟩) s1) => front_any h1.rdy h1.room i (by omega) r hr hno2 hl)
  have hcu := fun (w1 : World) (h1 : Dis w1 A V X (pset ps i ⟨(ps i).prio, (ps i).state, (ps i).base, up, (ps i).begin⟩) s) => current_any h1.tbl hi
  have e : (pset ps i ⟨(ps i).prio, (ps i).state, (ps i).base, up, (ps i).begin⟩ i) = ⟨(ps i).prio, (ps i).state, (ps i).base, up, (ps i).begin⟩ := if_pos rfl
  rw [e, hcur] at hcu
  have HCU := Lib.hid hcu
  have hne : decide (p = r) = false := by simp [hpr]
  have hne2 : ((p : Int) == (r : Int)) = false := by simp; omega
  clear hs hno hin e hcu hcur hno2 hpr hl
  go_enter Try.func26, Try.ntmps26
  go_wp2_with (first
    | (go_at_call 46; refine HS.out.mono ?_; rintro e w1 ⟨rfl, ht, hu⟩; have d1 := h.tblTo ht hu; have e0 := d1.c0; have e1 := d1.c1)
    | (go_at_call 51; refine (HP.out _ d1).mono ?_; rintro e w2 ⟨rfl, rfl⟩)
    | (go_at_call 61; refine (HCU.out _ d1).mono ?_; rintro e w3 ⟨rfl, hb3⟩; have d3 := d1.below hb3; have g0 := d3.c0; have g1 := d3.c1)
    | (go_at_call 28; refine (HD.out _ d3).mono ?_; rintro e w4 ⟨rfl, hm⟩; obtain ⟨V4, s4, d4, hv4, hu4⟩ := d3.rdyTo hm; have k0 := d4.c0; have k1 := d4.c1)
    | (go_at_call 69; refine (HFR.out _ _ _ d4).mono ?_; rintro e w5 ⟨rfl, hm⟩; obtain ⟨V5, s5, d5, hv5, hu5⟩ := d4.rdyTo hm)
    | go_in)
  go_end0
  go_wp2
  go_ret
  exact ⟨rfl, V5, s5, d5, fun q hq => (hv5 q hq).trans (hv4 q hq), (hu.mono (fun k _ e => Or.inr (Or.inl e))).trans ((Upd.below _ hb3).trans (hu4.trans hu5))⟩

end Go.Proofs.Ytoeakcfbnkndbaa

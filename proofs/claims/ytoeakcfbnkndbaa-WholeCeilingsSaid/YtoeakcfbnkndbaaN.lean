import Derived.Test.YtoeakcfbnkndbaaM
namespace Go.Proofs.Ytoeakcfbnkndbaa
open Go.RowKit

/-- Where a dispatcher lies: itself, its table, the table's row and its room, the list, the timers; how many processes; from where on rows lie. -/
structure At where
  D : Nat
  T : Nat
  tb : Nat
  cap : Nat
  R : Nat
  Q : Nat
  n : Nat
  B : Nat

def dcells (A : At) : Nat → Option Value := fun k =>
  if k = 0 then some (.pointer (some ⟨A.T, 0, none⟩)) else if k = 1 then some (.pointer (some ⟨A.R, 0, none⟩)) else if k = 2 then some (.pointer (some ⟨A.Q, 0, none⟩)) else none

structure Dis (w : World) (A : At) (V : Nat → Value) (X : Nat → List Int) (ps : Nat → PC) (s : Nat) : Prop where
  root : Blk w A.D 68 (dcells A)
  tbl : Tbl w A.T A.tb A.cap A.n (praw ps)
  rdy : Rdy w A.B A.R V X s
  tmr : Blk w A.Q 96 qcells
  lowD : A.D < A.B
  lowT : A.T < A.B
  lowb : A.tb < A.B
  lowQ : A.Q < A.B
  room : A.B ≤ w.heap.size
  ne : A.D ≠ A.R ∧ A.D ≠ A.tb ∧ A.T ≠ A.R ∧ A.tb ≠ A.R ∧ A.Q ≠ A.R ∧ A.Q ≠ A.tb

/-- What a dispatcher's functions may write to. -/
def DF (A : At) : Nat → Prop := fun b => b = A.R ∨ b = A.tb ∨ A.B ≤ b

/-- The dispatcher has come to another state. -/
def Dis.To (w : World) (A : At) (V : Nat → Value) (X' : Nat → List Int) (ps' : Nat → PC) (w' : World) : Prop :=
  ∃ V' s', Dis w' A V' X' ps' s' ∧ (∀ q, 64 ≤ q → V' q = V q) ∧ Upd (DF A) w w'

section
variable {w w' w'' : World} {A : At} {V : Nat → Value} {X X' : Nat → List Int} {ps ps' : Nat → PC} {s : Nat}

theorem Dis.c0 (h : Dis w A V X ps s) : w.cell? ⟨A.D, 0, none⟩ = some (.pointer (some ⟨A.T, 0, none⟩)) := h.root.cell rfl
theorem Dis.c1 (h : Dis w A V X ps s) : w.cell? ⟨A.D, 1, none⟩ = some (.pointer (some ⟨A.R, 0, none⟩)) := h.root.cell rfl
theorem Dis.c2 (h : Dis w A V X ps s) : w.cell? ⟨A.D, 2, none⟩ = some (.pointer (some ⟨A.Q, 0, none⟩)) := h.root.cell rfl

theorem Dis.upd0 {F : Nat → Prop} (h : Dis w A V X ps s) (hu : Upd F w w') (h1 : ¬ F A.D) (h2 : ¬ F A.T) (h3 : ¬ F A.tb) (h4 : ¬ F A.R) (h5 : ¬ F A.Q) (h6 : ∀ k, A.B ≤ k → ¬ F k) : Dis w' A V X ps s :=
  ⟨h.root.upd hu h1, h.tbl.upd hu h2 h3, h.rdy.upd hu h6 h4, h.tmr.upd hu h5, h.lowD, h.lowT, h.lowb, h.lowQ, Nat.le_trans h.room hu.size, h.ne⟩

theorem Dis.below (h : Dis w A V X ps s) (hb : Below w.heap.size w w') : Dis w' A V X ps s :=
  h.upd0 (Upd.below NoB hb) (fun f => f) (fun f => f) (fun f => f) (fun f => f) (fun f => f) (fun _ _ f => f)

theorem Dis.drewN (h : Dis w A V X ps s) (n : Nat) : Dis (w.drewN n) A V X ps s :=
  h.upd0 (upd_drewN NoB w n) (fun f => f) (fun f => f) (fun f => f) (fun f => f) (fun f => f) (fun _ _ f => f)

theorem Dis.to (h : Dis w A V X ps s) (hb : Below w.heap.size w w') : Dis.To w A V X ps w' := ⟨V, s, h.below hb, fun _ _ => rfl, Upd.below _ hb⟩

theorem Dis.tblTo (h : Dis w A V X ps s) (ht : Tbl w' A.T A.tb A.cap A.n (praw ps')) (hu : Upd (· = A.tb) w w') : Dis w' A V X ps' s := by
  obtain ⟨n1, n2, n3, n4, n5, n6⟩ := h.ne
  exact ⟨h.root.upd hu n2, ht, h.rdy.upd hu (fun k hk e => by have := h.lowb; omega) (fun e => n4 e.symm), h.tmr.upd hu n6, h.lowD, h.lowT, h.lowb, h.lowQ, Nat.le_trans h.room hu.size, h.ne⟩

theorem Dis.rdyTo (h : Dis w A V X ps s) (hm : Moved w A.B A.R V X' w') : Dis.To w A V X' ps w' := by
  obtain ⟨V', s', hr, hv, hu⟩ := hm
  obtain ⟨n1, n2, n3, n4, n5, n6⟩ := h.ne
  have h1 := h.lowD
  have h2 := h.lowT
  have h3 := h.lowb
  have h4 := h.lowQ
  exact ⟨V', s', ⟨h.root.upd hu (by omega), h.tbl.upd hu (by omega) (by omega), hr, h.tmr.upd hu (by omega), h.lowD, h.lowT, h.lowb, h.lowQ, Nat.le_trans h.room hu.size, h.ne⟩, hv,
    hu.mono (fun k _ hk => by unfold DF; omega)⟩

theorem Dis.To.trans {X'' : Nat → List Int} {ps'' : Nat → PC} (h1 : Dis.To w A V X' ps' w') (h2 : ∀ V' s', Dis w' A V' X' ps' s' → (∀ q, 64 ≤ q → V' q = V q) → Dis.To w' A V' X'' ps'' w'') : Dis.To w A V X'' ps'' w'' := by
  obtain ⟨V', s', hd, hv, hu⟩ := h1
  obtain ⟨V2, s2, hd2, hv2, hu2⟩ := h2 V' s' hd hv
  exact ⟨V2, s2, hd2, fun q hq => (hv2 q hq).trans (hv q hq), hu.trans hu2⟩

end

set_option maxRecDepth 100000 in
set_option maxHeartbeats 800000 in
/-- follow: a process that is ready, and not in the row, comes into it. -/
theorem follow_put {w : World} {A : At} {V : Nat → Value} {X : Nat → List Int} {ps : Nat → PC} {s : Nat} (h : Dis w A V X ps s) (i : Nat) (hi : i < A.n) (hs : (ps i).state = 1) (hno : ∀ q, q < 64 → (i : Int) ∉ X q)
    (p : Nat) (hp : p < 64) (hcur : (ps i).cur = (p : Int)) (hl : (X p).length ≤ 1000) :
    Calls Try.prog 36 #[.pointer (some ⟨A.D, 0, none⟩), .int .i64 i] w fun e w' => e = .returned (.tuple #[]) ∧ Dis.To w A V (fset X p (X p ++ [(i : Int)])) ps w' := by
  have c0 := h.c0
  have c1 := h.c1
  have c2 := h.c2
  have hst := fun (w' : World) (h' : Dis w' A V X ps s) => state_any h'.tbl hi
  rw [hs] at hst
  have hcu := fun (w' : World) (h' : Dis w' A V X ps s) => current_any h'.tbl hi
  rw [hcur] at hcu
  have HST := Lib.hid hst
  have HCU := Lib.hid hcu
  have H2 := Lib.hid (show (ps i).state ≠ 3 ∧ (ps i).state ≠ 2 by omega)
  clear hst hcu hs hcur
  go_enter Try.func36, Try.ntmps36
  go_wp2_with (first
    | (go_at_call 51; refine (prio_none h.rdy _ hno).mono ?_; rintro e w1 ⟨rfl, rfl⟩)
    | (go_at_call 59; refine (HST.out _ h).mono ?_; rintro e w1 ⟨rfl, hb1⟩; have h1 := h.below hb1; have d0 := h1.c0; have d1 := h1.c1; have d2 := h1.c2))
  go_region_held3 (fun wx => wx.cell? ⟨A.D, 0, none⟩ = some (.pointer (some ⟨A.T, 0, none⟩)) ∧ wx.cell? ⟨A.D, 1, none⟩ = some (.pointer (some ⟨A.R, 0, none⟩))) (go_keep)
    (first
      | (go_at_call 61; refine (HCU.out _ (h1.drewN 1)).mono ?_; rintro e w2 ⟨rfl, hb2⟩; have h2 := (h1.drewN 1).below hb2; have e0 := h2.c0; have e1 := h2.c1)
      | (go_at_call 60; refine (put_any h2.rdy h2.room _ (by omega) _ hp hno hl).mono ?_; rintro e w3 ⟨rfl, hm3⟩; obtain ⟨V3, s3, h3, hv3, hu3⟩ := h2.rdyTo hm3; have f0 := h3.c0; have f1 := h3.c1; have f2 := h3.c2))
  go_wp2_with (first
    | (go_at_call 62; refine (until_any h3.tbl hi H2.out.1 H2.out.2).mono ?_; rintro e w4 ⟨rfl, hb4⟩; have h4 := h3.below hb4; have g0 := h4.c0; have g1 := h4.c1; have g2 := h4.c2)
    | (go_at_call 63; refine (at_any h4.tmr _).mono ?_; rintro e w5 ⟨rfl, hb5⟩; have h5 := h4.below hb5; have k0 := h5.c0; have k1 := h5.c1; have k2 := h5.c2)
    | (go_at_call 64; refine (tdrop_any h5.tmr _).mono ?_; rintro e w6 ⟨rfl, hb6⟩; have h6 := h5.below hb6))
  go_end0
  refine ⟨rfl, V3, s3, h6, hv3, ?_⟩
  exact (Upd.below _ hb1).trans ((upd_drewN _ w1 1).trans ((Upd.below _ hb2).trans (hu3.trans ((Upd.below _ hb4).trans ((Upd.below _ hb5).trans (Upd.below _ hb6))))))

set_option maxRecDepth 100000 in
set_option maxHeartbeats 800000 in
/-- follow: a process that is dormant, and not in the row. -/
theorem follow_gone {w : World} {A : At} {V : Nat → Value} {X : Nat → List Int} {ps : Nat → PC} {s : Nat} (h : Dis w A V X ps s) (i : Nat) (hi : i < A.n) (hs : (ps i).state = 0) (hno : ∀ q, q < 64 → (i : Int) ∉ X q) :
    Calls Try.prog 36 #[.pointer (some ⟨A.D, 0, none⟩), .int .i64 i] w fun e w' => e = .returned (.tuple #[]) ∧ Below w.heap.size w w' := by
  have c0 := h.c0
  have c1 := h.c1
  have c2 := h.c2
  have hst := fun (w' : World) (h' : Dis w' A V X ps s) => state_any h'.tbl hi
  rw [hs] at hst
  have HST := Lib.hid hst
  have H2 := Lib.hid (show (ps i).state ≠ 3 ∧ (ps i).state ≠ 2 by omega)
  clear hst hs
  go_enter Try.func36, Try.ntmps36
  go_wp2_with (first
    | (go_at_call 51; refine (prio_none h.rdy _ hno).mono ?_; rintro e w1 ⟨rfl, rfl⟩)
    | (go_at_call 59; refine (HST.out _ h).mono ?_; rintro e w1 ⟨rfl, hb1⟩; have h1 := h.below hb1; have d0 := h1.c0; have d1 := h1.c1; have d2 := h1.c2)
    | (go_at_call 28; refine (drop_none h1.rdy _ hno).mono ?_; rintro e w2 ⟨rfl, rfl⟩)
    | (go_at_call 62; refine (until_any h1.tbl hi H2.out.1 H2.out.2).mono ?_; rintro e w4 ⟨rfl, hb4⟩; have h4 := h1.below hb4; have g0 := h4.c0; have g1 := h4.c1; have g2 := h4.c2)
    | (go_at_call 63; refine (at_any h4.tmr _).mono ?_; rintro e w5 ⟨rfl, hb5⟩; have h5 := h4.below hb5; have k0 := h5.c0; have k1 := h5.c1; have k2 := h5.c2)
    | (go_at_call 64; refine (tdrop_any h5.tmr _).mono ?_; rintro e w6 ⟨rfl, hb6⟩; have h6 := h5.below hb6))
  go_end0
  exact ⟨rfl, hb1.trans ((hb4.mono hb1.size).trans ((hb5.mono (Nat.le_trans hb1.size hb4.size)).trans (hb6.mono (Nat.le_trans hb1.size (Nat.le_trans hb4.size hb5.size)))))⟩

end Go.Proofs.Ytoeakcfbnkndbaa

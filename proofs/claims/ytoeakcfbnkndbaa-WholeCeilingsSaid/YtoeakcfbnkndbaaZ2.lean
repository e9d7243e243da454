import Derived.Test.YtoeakcfbnkndbaaZ
import Derived.Test.YtoeakcfbnkndbaaPure4
namespace Go.Proofs.Ytoeakcfbnkndbaa
open Go.RowKit Go.Maps

/-- A worker, as it came in. -/
structure Wk where
  prio : Int
  start : Nat
  does : List Nat

def wkAt (ws : List Wk) (j : Nat) : Wk := ws.getD j ⟨0, 0, []⟩
def prOf (ws : List Wk) : List Int := ws.map (·.prio)

theorem prOf_at (ws : List Wk) (j : Nat) : (prOf ws).getD j 0 = (wkAt ws j).prio := by
  unfold prOf wkAt
  rw [List.getD, List.getElem?_map, List.getD]
  cases ws[j]? <;> rfl

theorem prOf_len (ws : List Wk) : (prOf ws).length = ws.length := by simp [prOf]

/-- The bytes of one. -/
def DoesAt (w : World) (da : Option Addr) (ds : List Nat) : Prop :=
  ds = [] ∨ ∃ b off, da = some ⟨b, off, none⟩ ∧ ∀ q, q < ds.length → w.cell? ⟨b, off + q, none⟩ = some (.int .u8 (ds.getD q 0 : Nat))

/-- Workers in memory. -/
def InpAt (w : World) (a : Option Addr) (ws : List Wk) : Prop :=
  ws = [] ∨ ∃ b off, a = some ⟨b, off, none⟩ ∧ ∀ j, j < ws.length → w.cell? ⟨b, off + j * 3, none⟩ = some (.int .i64 (wkAt ws j).prio) ∧ w.cell? ⟨b, off + j * 3 + 1, none⟩ = some (.int .u8 ((wkAt ws j).start : Nat)) ∧
    ∃ da dc, w.cell? ⟨b, off + j * 3 + 2, none⟩ = some (.slice da (wkAt ws j).does.length dc) ∧ DoesAt w da (wkAt ws j).does

theorem DoesAt.below {w w' : World} {da : Option Addr} {ds : List Nat} (h : DoesAt w da ds) {B : Nat} (hB : w.heap.size ≤ B) (hb : Below B w w') : DoesAt w' da ds := by
  rcases h with h | ⟨b, off, rfl, hc⟩
  · exact Or.inl h
  · refine Or.inr ⟨b, off, rfl, fun q hq => ?_⟩
    have h1 := hc q hq
    have h2 := World.block_lt_of_cell? w _ h1
    exact (hb.cell (p := ⟨b, off + q, none⟩) (Nat.lt_of_lt_of_le h2 hB)).trans h1

theorem InpAt.below {w w' : World} {a : Option Addr} {ws : List Wk} (h : InpAt w a ws) (hb : Below w.heap.size w w') : InpAt w' a ws := by
  rcases h with h | ⟨b, off, rfl, hc⟩
  · exact Or.inl h
  · refine Or.inr ⟨b, off, rfl, fun j hj => ?_⟩
    obtain ⟨h0, h1, da, dc, h2, h3⟩ := hc j hj
    have hlt := World.block_lt_of_cell? w _ h0
    exact ⟨(hb.cell (p := ⟨b, off + j * 3, none⟩) hlt).trans h0, (hb.cell (p := ⟨b, off + j * 3 + 1, none⟩) hlt).trans h1, da, dc, (hb.cell (p := ⟨b, off + j * 3 + 2, none⟩) hlt).trans h2, h3.below (Nat.le_refl _) hb⟩

theorem InpAt.prios {w : World} {a : Option Addr} {ws : List Wk} (h : InpAt w a ws) : Prios w a (prOf ws) := by
  rcases h with rfl | ⟨b, off, rfl, hc⟩
  · exact Or.inl rfl
  · refine Or.inr ⟨b, off, rfl, fun j hj => ?_⟩
    rw [prOf_len] at hj
    rw [prOf_at]
    exact (hc j hj).1

/-- What lies where. -/
structure Env where
  w0 : World
  LA : LkAt
  cv : Value
  cs : List Int
  A : At
  wb : Nat
  ws : List Wk
  ca : Option Addr
  cc : Nat
  wa : Option Addr
  wc : Nat

structure EnvOk (E : Env) : Prop where
  n : E.A.n = E.ws.length
  pos : 0 < E.ws.length
  few : E.ws.length ≤ 5
  csl : E.cs.length ≤ 6
  cok : fineI E.cs
  pok : fineP (prOf E.ws)
  inp : InpAt E.w0 E.wa E.ws
  ceil : Ints E.w0 E.ca E.cs
  does : ∀ j, j < E.ws.length → (wkAt E.ws j).does.length ≤ 30
  byte : ∀ j q, (wkAt E.ws j).does.getD q 0 < 256
  start : ∀ j, (wkAt E.ws j).start < 256
  oR : E.w0.heap.size ≤ E.A.R
  ob : E.w0.heap.size ≤ E.A.tb
  oB : E.w0.heap.size ≤ E.A.B
  om : E.w0.heap.size ≤ E.LA.mb
  ow : E.w0.heap.size ≤ E.wb
  dL : ¬ DF E.A E.LA.L
  dw : ¬ DF E.A E.LA.wb
  dm : ¬ DF E.A E.LA.mb
  dc : ∀ b, E.cv.ownBlock = some b → ¬ DF E.A b ∧ b ≠ E.wb
  dk : ¬ DF E.A E.wb
  mD : E.A.D ≠ E.LA.mb ∧ E.A.T ≠ E.LA.mb ∧ E.A.Q ≠ E.LA.mb
  kD : E.A.D ≠ E.wb ∧ E.A.T ≠ E.wb ∧ E.A.Q ≠ E.wb
  kL : E.LA.L ≠ E.wb ∧ E.LA.wb ≠ E.wb ∧ E.LA.mb ≠ E.wb

def wcells (n : Nat) (at_ : Nat → Nat) (V : Nat → Value) (dn : Nat → Bool) : Nat → Option Value := fun k =>
  if k < n * 3 then some (if k % 3 = 0 then .int .i64 (at_ (k / 3)) else if k % 3 = 1 then V (64 + k / 3) else .bool (dn (k / 3))) else none

theorem wcells0 {n i : Nat} (at_ : Nat → Nat) (V : Nat → Value) (dn : Nat → Bool) (hi : i < n) : wcells n at_ V dn (i * 3) = some (.int .i64 (at_ i)) := by
  have h1 : i * 3 < n * 3 := by omega
  have h2 : i * 3 / 3 = i := by omega
  have h3 : i * 3 % 3 = 0 := by omega
  unfold wcells
  rw [if_pos h1, h2, if_pos h3]

theorem wcells1 {n i : Nat} (at_ : Nat → Nat) (V : Nat → Value) (dn : Nat → Bool) (hi : i < n) : wcells n at_ V dn (i * 3 + 1) = some (V (64 + i)) := by
  have h1 : i * 3 + 1 < n * 3 := by omega
  have h2 : (i * 3 + 1) / 3 = i := by omega
  have h3 : (i * 3 + 1) % 3 = 1 := by omega
  unfold wcells
  rw [if_pos h1, h2, h3]
  rfl

theorem wcells2 {n i : Nat} (at_ : Nat → Nat) (V : Nat → Value) (dn : Nat → Bool) (hi : i < n) : wcells n at_ V dn (i * 3 + 2) = some (.bool (dn i)) := by
  have h1 : i * 3 + 2 < n * 3 := by omega
  have h2 : (i * 3 + 2) / 3 = i := by omega
  have h3 : (i * 3 + 2) % 3 = 2 := by omega
  unfold wcells
  rw [if_pos h1, h2, h3]
  rfl

theorem third {i k r : Nat} (hr : r < 3) : (k = i * 3 + r) ↔ (k / 3 = i ∧ k % 3 = r) := by omega

structure Core (E : Env) (w : World) (V : Nat → Value) (X : Nat → List Int) (ps : Nat → PC) (s k : Nat) (own : Nat → Option Int) (at_ : Nat → Nat) (dn : Nat → Bool) : Prop where
  dis : Dis w E.A V X ps s
  lck : Lck w E.LA E.cv E.cs k own
  wrk : Blk w E.wb 44 (wcells E.ws.length at_ V dn)
  inp : Below E.w0.heap.size E.w0 w

section
variable {E : Env} {w w' : World} {V : Nat → Value} {X : Nat → List Int} {ps : Nat → PC} {s k : Nat} {own : Nat → Option Int} {at_ : Nat → Nat} {dn : Nat → Bool}

theorem below_trans {a b c : World} (h1 : Below a.heap.size a b) (h2 : Upd (fun k => a.heap.size ≤ k) b c) : Below a.heap.size a c :=
  ⟨h2.os.trans h1.os, h2.tape.trans h1.tape, h2.output.trans h1.output, Nat.le_trans h1.size h2.size,
    fun i hi => (h2.block i (Nat.lt_of_lt_of_le hi h1.size) (by omega)).trans (h1.block i hi)⟩

theorem Core.below (h : Core E w V X ps s k own at_ dn) (hb : Below w.heap.size w w') : Core E w' V X ps s k own at_ dn :=
  ⟨h.dis.below hb, h.lck.below hb, h.wrk.below hb, below_trans h.inp (Upd.below _ hb)⟩

theorem Core.disTo (hE : EnvOk E) (h : Core E w V X ps s k own at_ dn) {X' : Nat → List Int} {ps' : Nat → PC} (ht : Dis.To w E.A V X' ps' w') :
    ∃ V' s', Core E w' V' X' ps' s' k own at_ dn ∧ ∀ q, 64 ≤ q → V' q = V q := by
  obtain ⟨V', s', hd, hv, hu⟩ := ht
  refine ⟨V', s', ⟨hd, h.lck.upd hu hE.dL hE.dw hE.dm (fun b hb => (hE.dc b hb).1), ?_, ?_⟩, hv⟩
  · have e : wcells E.ws.length at_ V' dn = wcells E.ws.length at_ V dn := by
      funext k
      unfold wcells
      rw [hv _ (by omega)]
    rw [e]
    exact h.wrk.upd hu hE.dk
  · refine below_trans h.inp (hu.mono ?_)
    rintro b _ (rfl | rfl | hb)
    · exact hE.oR
    · exact hE.ob
    · exact Nat.le_trans hE.oB hb

theorem Core.lckTo (hE : EnvOk E) (h : Core E w V X ps s k own at_ dn) {k' : Nat} {own' : Nat → Option Int} (hl : Lck w' E.LA E.cv E.cs k' own') (hu : Upd (· = E.LA.mb) w w') : Core E w' V X ps s k' own' at_ dn := by
  have h0 := hE.dm
  have hR : E.LA.mb ≠ E.A.R := fun e => h0 (Or.inl e)
  have hb : E.LA.mb ≠ E.A.tb := fun e => h0 (Or.inr (Or.inl e))
  have hB : ¬ E.A.B ≤ E.LA.mb := fun e => h0 (Or.inr (Or.inr e))
  refine ⟨h.dis.upd0 hu hE.mD.1 hE.mD.2.1 (fun e => hb e.symm) (fun e => hR e.symm) hE.mD.2.2 (fun q hq e => hB (by rw [← e]; exact hq)), hl, h.wrk.upd hu (fun e => hE.kL.2.2 e.symm), below_trans h.inp (hu.mono ?_)⟩
  rintro b _ rfl
  exact hE.om

/-- A cell of the workers' block is another one. -/
theorem Core.setW (hE : EnvOk E) (h : Core E w V X ps s k own at_ dn) {V' : Nat → Value} {at' : Nat → Nat} {dn' : Nat → Bool} {o : Nat} {v : Value} (hd : Dis w E.A V' X ps s) (ho : o < E.ws.length * 3)
    (hc : ∀ q u, wcells E.ws.length at' V' dn' q = some u → (if q = o then some v else wcells E.ws.length at_ V dn q) = some u) : Core E (w.setCell ⟨E.wb, o, none⟩ v) V' X ps s k own at' dn' := by
  have h0 := hE.dk
  have hR : E.wb ≠ E.A.R := fun e => h0 (Or.inl e)
  have hb : E.wb ≠ E.A.tb := fun e => h0 (Or.inr (Or.inl e))
  have hB : ¬ E.A.B ≤ E.wb := fun e => h0 (Or.inr (Or.inr e))
  have hu : Upd (· = E.wb) w (w.setCell ⟨E.wb, o, none⟩ v) := Upd.setEq (Upd.refl _ _)
  refine ⟨hd.upd0 hu hE.kD.1 hE.kD.2.1 (fun e => hb e.symm) (fun e => hR e.symm) hE.kD.2.2 (fun q hq e => hB (by rw [← e]; exact hq)),
    h.lck.upd hu hE.kL.1 hE.kL.2.1 hE.kL.2.2 (fun b hb => (hE.dc b hb).2), (h.wrk.set (k := o) ?_ v).weak hc, below_trans h.inp (hu.mono ?_)⟩
  · unfold wcells; rw [if_pos ho]; rfl
  · rintro b _ rfl; exact hE.ow

theorem Core.setAt (hE : EnvOk E) (h : Core E w V X ps s k own at_ dn) {i : Nat} (hi : i < E.ws.length) (x : Nat) : Core E (w.setCell ⟨E.wb, i * 3, none⟩ (.int .i64 (x : Int))) V X ps s k own (fset at_ i x) dn := by
  refine h.setW hE h.dis (by omega) (fun q u hq => ?_)
  unfold wcells at hq ⊢
  split at hq
  · rename_i hlt
    rw [if_pos hlt]
    have h3 := third (i := i) (k := q) (r := 0) (by omega)
    by_cases e : q = i * 3
    · obtain ⟨e1, e2⟩ := h3.1 e
      rw [if_pos e2, e1, fset_same] at hq
      rw [if_pos e]
      exact hq
    · rw [if_neg e]
      by_cases e2 : q % 3 = 0
      · have e3 : q / 3 ≠ i := fun e4 => e (h3.2 ⟨e4, e2⟩)
        rw [if_pos e2, fset_other _ _ e3] at hq
        rw [if_pos e2]
        exact hq
      · rw [if_neg e2] at hq ⊢
        exact hq
  · cases hq

theorem Core.setDone (hE : EnvOk E) (h : Core E w V X ps s k own at_ dn) {i : Nat} (hi : i < E.ws.length) : Core E (w.setCell ⟨E.wb, i * 3 + 2, none⟩ (.bool true)) V X ps s k own at_ (fset dn i true) := by
  refine h.setW hE h.dis (by omega) (fun q u hq => ?_)
  unfold wcells at hq ⊢
  split at hq
  · rename_i hlt
    rw [if_pos hlt]
    have h3 := third (i := i) (k := q) (r := 2) (by omega)
    by_cases e : q = i * 3 + 2
    · obtain ⟨e1, e2⟩ := h3.1 e
      rw [if_neg (by omega), if_neg (by omega), e1, fset_same] at hq
      rw [if_pos e]
      exact hq
    · rw [if_neg e]
      by_cases e1 : q % 3 = 0
      · rw [if_pos e1] at hq ⊢; exact hq
      · rw [if_neg e1] at hq ⊢
        by_cases e2 : q % 3 = 1
        · rw [if_pos e2] at hq ⊢; exact hq
        · have e3 : q / 3 ≠ i := fun e4 => e (h3.2 ⟨e4, by omega⟩)
          rw [if_neg e2, fset_other _ _ e3] at hq
          rw [if_neg e2]
          exact hq
  · cases hq

/-- Which locks one has has turned. -/
theorem Core.putHas (hE : EnvOk E) (h : Core E w V X ps s k own at_ dn) {i : Nat} (hi : i < E.ws.length) {v' : Value} {xs' : List Int} {w2 : World} (ho : w2.ownsRow E.A.B 3 1 v' xs'.length (ints xs'))
    (hu : Upd (fun b => (V (64 + i)).ownBlock = some b) w w2) (hb : ∀ q, v'.ownBlock = some q → (V (64 + i)).ownBlock = some q ∨ w.heap.size ≤ q) :
    Core E (w2.setCell ⟨E.wb, i * 3 + 1, none⟩ v') (fset V (64 + i) v') (fset X (64 + i) xs') ps s k own at_ dn := by
  have hf := hE.few
  have hlt : ∀ b, (V (64 + i)).ownBlock = some b → E.A.B ≤ b := fun b hb => ((h.dis.rdy.fam.own (64 + i) (by omega)).lt b hb).1
  obtain ⟨n1, n2, n3, n4, n5, n6⟩ := h.dis.ne
  have l1 := h.dis.lowD
  have l2 := h.dis.lowT
  have l3 := h.dis.lowb
  have l4 := h.dis.lowQ
  have l5 := h.dis.rdy.low
  have nDF : ∀ b, ¬ DF E.A b → ¬ (V (64 + i)).ownBlock = some b := fun b hb e => hb (Or.inr (Or.inr (hlt b e)))
  have hV : ∀ p, p < 64 → fset V (64 + i) v' p = V p := fun p hp => fset_other _ _ (by omega)
  have hX : ∀ p, p < 64 → fset X (64 + i) xs' p = X p := fun p hp => fset_other _ _ (by omega)
  have d2 : Dis w2 E.A (fset V (64 + i) v') (fset X (64 + i) xs') ps s := by
    refine ⟨h.dis.root.upd hu (fun e => by have := hlt _ e; omega), h.dis.tbl.upd hu (fun e => by have := hlt _ e; omega) (fun e => by have := hlt _ e; omega),
      ⟨?_, h.dis.rdy.fam.put (by omega) ho hu hb, ?_, h.dis.rdy.low⟩, h.dis.tmr.upd hu (fun e => by have := hlt _ e; omega), l1, l2, l3, l4, Nat.le_trans h.dis.room hu.size, h.dis.ne⟩
    · refine (h.dis.rdy.blk.upd hu (fun e => by have := hlt _ e; omega)).weak (fun q u hq => ?_)
      unfold lcells at hq ⊢
      by_cases e : q < 64
      · rw [if_pos e, hV q e] at hq
        rw [if_pos e]
        exact hq
      · rw [if_neg e] at hq ⊢
        exact hq
    · intro p
      rw [h.dis.rdy.bits p]
      by_cases e : p < 64
      · rw [hX p e]
      · simp [e]
  have hw2 : Blk w2 E.wb 44 (wcells E.ws.length at_ V dn) := h.wrk.upd hu (nDF _ hE.dk)
  have hl2 : Lck w2 E.LA E.cv E.cs k own := h.lck.upd hu (nDF _ hE.dL) (nDF _ hE.dw) (nDF _ hE.dm) (fun b hb => nDF _ (hE.dc b hb).1)
  have hi2 : Below E.w0.heap.size E.w0 w2 := below_trans h.inp (hu.mono (fun b _ hb => Nat.le_trans hE.oB (hlt b hb)))
  have h0 := hE.dk
  have hR : E.wb ≠ E.A.R := fun e => h0 (Or.inl e)
  have hb : E.wb ≠ E.A.tb := fun e => h0 (Or.inr (Or.inl e))
  have hB : ¬ E.A.B ≤ E.wb := fun e => h0 (Or.inr (Or.inr e))
  have hu2 : Upd (· = E.wb) w2 (w2.setCell ⟨E.wb, i * 3 + 1, none⟩ v') := Upd.setEq (Upd.refl _ _)
  refine ⟨d2.upd0 hu2 hE.kD.1 hE.kD.2.1 (fun e => hb e.symm) (fun e => hR e.symm) hE.kD.2.2 (fun q hq e => hB (by rw [← e]; exact hq)),
    hl2.upd hu2 hE.kL.1 hE.kL.2.1 hE.kL.2.2 (fun b hb => (hE.dc b hb).2), (hw2.set (k := i * 3 + 1) ?_ v').weak ?_, below_trans hi2 (hu2.mono ?_)⟩
  · rw [wcells1 _ _ _ hi]; rfl
  · intro q u hq
    unfold wcells at hq ⊢
    split at hq
    · rename_i hlt2
      rw [if_pos hlt2]
      have h3 := third (i := i) (k := q) (r := 1) (by omega)
      by_cases e : q = i * 3 + 1
      · obtain ⟨e1, e2⟩ := h3.1 e
        rw [if_neg (by omega), if_pos e2, e1, fset_same] at hq
        rw [if_pos e]
        exact hq
      · rw [if_neg e]
        by_cases e1 : q % 3 = 0
        · rw [if_pos e1] at hq ⊢; exact hq
        · rw [if_neg e1] at hq ⊢
          by_cases e2 : q % 3 = 1
          · have e3 : q / 3 ≠ i := fun e4 => e (h3.2 ⟨e4, e2⟩)
            rw [if_pos e2, fset_other _ _ (by omega)] at hq
            rw [if_pos e2]
            exact hq
          · rw [if_neg e2] at hq ⊢; exact hq
    · cases hq
  · rintro b _ rfl; exact hE.ow

end
end Go.Proofs.Ytoeakcfbnkndbaa

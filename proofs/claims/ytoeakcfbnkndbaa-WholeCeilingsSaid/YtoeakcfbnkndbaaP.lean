import Derived.Test.YtoeakcfbnkndbaaK
import Derived.Maps.OwnSet
namespace Go.Proofs.Ytoeakcfbnkndbaa
open Go.RowKit Go.Maps

theorem law3 : Keyed Try.prog 3 := int_keyed Try.underlying3
theorem zero3 (w : World) : (zeroValue 3).run Try.prog w = .ok (.int .i64 0) w := by kernel_rfl

/-- A small number's literal. -/
theorem wf_small {x : Int} (h0 : -9223372036854775808 ≤ x) (h1 : x ≤ 9223372036854775807) : (Lit.int .i64 x).wf = true := WalkArith.wf_i64 (by omega)

/-- The map of owners. -/
def OwnM (w : World) (mb k : Nat) (own : Nat → Option Int) : Prop :=
  ∃ D : DataW Unit, w.ownsMap Try.prog 3 (plainElem Try.prog 3) mb k D ∧ IsMap D ∧ (∀ l : Nat, l < 1000 → D.atKey (.int .i64 l) (.lit (.int .i64 0)) = .lit (.int .i64 ((own l).getD 0))) ∧
    (∀ l : Nat, l < 1000 → Maps.has D (.int .i64 l) = (own l).isSome)

section
variable {w w' : World} {mb k : Nat} {own : Nat → Option Int}

theorem key_at {l : Nat} (hl : l < 1000) : keyOf Try.prog 3 (.int .i64 (l : Int)) = some (.int .i64 (l : Int)) := keyOf_int_mk Try.underlying3 (wf_small (by omega) (by omega))

theorem OwnM.look (h : OwnM w mb k own) {l : Nat} (hl : l < 1000) :
    (Instr.lookup 57 (.map (some mb)) (.int .i64 (l : Int)) true).run Try.prog w = .ok (.tuple #[.int .i64 ((own l).getD 0), .bool (own l).isSome]) w := by
  obtain ⟨D, hD, _, hv, hh⟩ := h
  obtain ⟨v, ps, hrun, hat⟩ := hD.look_ok law3 Try.underlying57 (zero3 w) (plainElem_int Try.underlying3 (by decide)) (key_at hl)
  rw [hv l hl] at hat
  obtain ⟨c, rfl, hc, _⟩ := plainElem_int_inv Try.underlying3 hat
  simp at hc
  rw [hrun, hh l hl, hc.1]

theorem OwnM.take (h : OwnM w mb k own) {l : Nat} (hl : l < 1000) (hk : k < 1000) (x : Int) (h0 : 0 ≤ x) (h1 : x ≤ 1000) :
    ∃ w', (Instr.mapUpdate 57 (.map (some mb)) (.int .i64 (l : Int)) (.int .i64 x)).run Try.prog w = .ok () w' ∧ OwnM w' mb (k + 1) (fset own l (some x)) ∧ w.grownBy w' (some mb) := by
  obtain ⟨D, hD, hm, hv, hh⟩ := h
  obtain ⟨w', hrun, hD', hg⟩ := hD.update law3 Try.underlying57 (by unfold maxLen; omega) (key_at hl) (plainElem_int Try.underlying3 (wf_small (x := x) (by omega) (by omega)))
  refine ⟨w', hrun, ⟨_, hD', hm.put _ _, ?_, ?_⟩, hg⟩
  · intro j hj
    by_cases e : j = l
    · subst e; rw [fset_same, atKey_put_same (k := .int .i64 (j : Int)) hm trivial]; rfl
    · rw [fset_other own _ e, atKey_put_other (by intro e2; injection e2 with _ e3; omega)]; exact hv j hj
  · intro j hj
    by_cases e : j = l
    · subst e; rw [fset_same, has_put_same (k := .int .i64 (j : Int)) hm trivial]; rfl
    · rw [fset_other own _ e, has_put_other (by intro e2; injection e2 with _ e3; omega)]; exact hh j hj

theorem OwnM.drop (h : OwnM w mb k own) {l : Nat} (hl : l < 1000) :
    ∃ w', (∀ ty, (Builtin.delete_ #[57, 3] ty #[.map (some mb), .int .i64 (l : Int)]).run Try.prog w = .ok (.tuple #[]) w') ∧ OwnM w' mb k (fset own l none) ∧ w.grownBy w' (some mb) := by
  obtain ⟨D, hD, hm, hv, hh⟩ := h
  obtain ⟨w', hrun, hD', hg⟩ := hD.drop law3 Try.underlying57 (key_at hl) 0
  refine ⟨w', fun _ => hrun, ⟨_, hD', hm.del _, ?_, ?_⟩, ?_⟩
  · intro j hj
    by_cases e : j = l
    · subst e; rw [fset_same, atKey_del_same]; rfl
    · rw [fset_other own _ e, atKey_del_other (by intro e2; injection e2 with _ e3; omega)]; exact hv j hj
  · intro j hj
    by_cases e : j = l
    · subst e; rw [fset_same, has_del_same]; rfl
    · rw [fset_other own _ e, has_del_other (by intro e2; injection e2 with _ e3; omega)]; exact hh j hj
  · exact hg.grown

theorem OwnM.upd {F : Nat → Prop} (h : OwnM w mb k own) (hu : Upd F w w') (hF : ¬ F mb) : OwnM w' mb k own := by
  obtain ⟨D, ⟨es, clock, hb, F1, hs, rfl⟩, rest⟩ := h
  exact ⟨_, ⟨es, clock, (hu.block mb (Array.getElem?_eq_some_iff.1 hb).1 hF).trans hb, F1, hs, rfl⟩, rest⟩

end

def lkcells (cv : Value) (wb m mb : Nat) : Nat → Option Value := fun k =>
  if k = 0 then some cv else if k = 1 then some (.slice (some ⟨wb, 0, none⟩) m m) else if k = 2 then some (.map (some mb)) else none
def wtcells (m : Nat) : Nat → Option Value := fun j => if j < m then some (.slice none 0 0) else none

/-- Where locks lie. -/
structure LkAt where
  L : Nat
  wb : Nat
  mb : Nat
  CB : Nat

/-- Locks with ceilings, for which nobody waits. -/
structure Lck (w : World) (A : LkAt) (cv : Value) (cs : List Int) (k : Nat) (own : Nat → Option Int) : Prop where
  root : Blk w A.L 59 (lkcells cv A.wb cs.length A.mb)
  ceil : w.ownsRow A.CB 3 1 cv cs.length (ints cs)
  wait : Blk w A.wb 74 (wtcells cs.length)
  own : OwnM w A.mb k own
  few : cs.length ≤ 16

section
variable {w w' : World} {A : LkAt} {cv : Value} {cs : List Int} {k : Nat} {own : Nat → Option Int}

theorem Lck.c0 (h : Lck w A cv cs k own) : w.cell? ⟨A.L, 0, none⟩ = some cv := h.root.cell rfl
theorem Lck.c1 (h : Lck w A cv cs k own) : w.cell? ⟨A.L, 1, none⟩ = some (.slice (some ⟨A.wb, 0, none⟩) cs.length cs.length) := h.root.cell rfl
theorem Lck.c2 (h : Lck w A cv cs k own) : w.cell? ⟨A.L, 2, none⟩ = some (.map (some A.mb)) := h.root.cell rfl

/-- The ceilings' slice. -/
theorem Lck.form (h : Lck w A cv cs k own) : ∃ a c, cv = .slice a cs.length c ∧ (∀ l, l < cs.length → ∃ g, a = some ⟨g, 0, none⟩ ∧ w.cell? ⟨g, l, none⟩ = some (.int .i64 (cs.getD l 0))) := by
  rcases h.ceil.2 with ⟨hv, hn⟩ | ⟨g, cap, cur, hv, hg, hh, hc, hm, hs, ht⟩
  · exact ⟨none, 0, by rw [hv, hn], fun l hl => by omega⟩
  · refine ⟨some ⟨g, 0, none⟩, cap, hv, fun l hl => ⟨g, rfl, ?_⟩⟩
    have h1 := ints_at hl
    rw [← ht, List.getElem?_take] at h1
    split at h1
    · simp [World.cell?, hh, ← Array.getElem?_toList, h1]
    · cases h1

theorem Lck.upd {F : Nat → Prop} (h : Lck w A cv cs k own) (hu : Upd F w w') (h1 : ¬ F A.L) (h2 : ¬ F A.wb) (h3 : ¬ F A.mb) (h4 : ∀ b, cv.ownBlock = some b → ¬ F b) : Lck w' A cv cs k own :=
  ⟨h.root.upd hu h1, own_same h.ceil (fun b hb => hu.block b (h.ceil.lt b hb).2 (h4 b hb)), h.wait.upd hu h2, h.own.upd hu h3, h.few⟩

theorem Lck.below (h : Lck w A cv cs k own) (hb : Below w.heap.size w w') : Lck w' A cv cs k own :=
  h.upd (Upd.below NoB hb) (fun f => f) (fun f => f) (fun f => f) (fun _ _ f => f)

theorem Lck.mapB (h : Lck w A cv cs k own) : ∃ es clock, w.heap[A.mb]? = some (.map es clock) := by
  obtain ⟨D, ⟨es, clock, hb, _⟩, _⟩ := h.own
  exact ⟨es, clock, hb⟩

/-- The owners have turned. -/
theorem Lck.turned {k' : Nat} {own' : Nat → Option Int} (h : Lck w A cv cs k own) (ho : OwnM w' A.mb k' own') (hg : w.grownBy w' (some A.mb)) : Lck w' A cv cs k' own' ∧ Upd (· = A.mb) w w' := by
  have hu : Upd (· = A.mb) w w' := (Upd.refl _ _).grown hg (fun k hk => by injection hk with e; exact Or.inl e.symm)
  obtain ⟨es, clock, hb⟩ := h.mapB
  have hcell : ∀ b c ty fr, w.heap[b]? = some (.cells c ty fr) → b ≠ A.mb := by
    intro b c ty fr h1 e
    rw [e, hb] at h1
    cases h1
  refine ⟨⟨h.root.upd hu ?_, own_same h.ceil (fun b hb2 => hu.block b (h.ceil.lt b hb2).2 ?_), h.wait.upd hu ?_, ho, h.few⟩, hu⟩
  · obtain ⟨c, h1, _⟩ := h.root; exact hcell _ _ _ _ h1
  · rcases h.ceil.2 with ⟨rfl, _⟩ | ⟨g, cap, cur, rfl, _, hh, _⟩
    · simp [Value.ownBlock] at hb2
    · simp [Value.ownBlock] at hb2
      subst hb2
      exact hcell _ _ _ _ hh
  · obtain ⟨c, h1, _⟩ := h.wait; exact hcell _ _ _ _ h1

end

set_option maxRecDepth 100000 in
set_option maxHeartbeats 400000 in
/-- place: nobody waits. -/
theorem place_any {w : World} {A : LkAt} {cv : Value} {cs : List Int} {k : Nat} {own : Nat → Option Int} (h : Lck w A cv cs k own) (id : Int) :
    Calls Try.prog 55 #[.pointer (some ⟨A.L, 0, none⟩), .int .i64 id] w fun e w' => e = .returned (.tuple #[.int .i64 (-1), .int .i64 (-1)]) ∧ w = w' := by
  have c1 := h.c1
  have hw : ∀ j, j < cs.length → w.cell? ⟨A.wb, j, none⟩ = some (.slice none 0 0) := fun j hj => h.wait.cell (by simp [wtcells, hj])
  have hfew := h.few
  generalize cs.length = m at *
  go_enter Try.func55, Try.ntmps55
  go_wp2_with fail
  go_step3
  go_wp2_with fail
  go_step3
  go_wp2_with fail
  go_loopg [6, 7, 17] m (fun g s6 s7 s17 wr => ∃ j : Nat, j + g = m ∧ s17 = .int .i64 j ∧ s6 = .int .i64 (-1) ∧ s7 = .int .i64 (-1) ∧ w = wr)
  case atStart => exact ⟨0, by omega, rfl, rfl, rfl, rfl⟩
  case round =>
    obtain ⟨j, hjg, rfl, rfl, rfl, rfl⟩ := hrel
    cases gk with
    | zero =>
      have hj : ¬ ((j : Int) < (m : Int)) := by omega
      go_wp2
      try rw [Exit.noGoto_ret]
      go_ret2
      exact ⟨rfl, rfl⟩
    | succ g =>
      have hj : (j : Int) < (m : Int) := by omega
      have hc := hw j (by omega)
      go_wp2_with fail
      refine wp_loop_rounds 1 ?_
      rw [rounds_succ]
      go_wp2
      go_roundg g
      case measure => omega
      case rel => exact ⟨j + 1, by omega, by go_num, rfl, rfl, rfl⟩

end Go.Proofs.Ytoeakcfbnkndbaa

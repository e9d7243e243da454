/- WholeCeilings returns true for every input, and its input reads as it did: no condition. -/
import Derived.Test.YtoeakcfbnkndbaaZK
import Derived.ProofKit
import Derived.OpenShut
import Derived.ChangeOld
import Derived.Below
import Derived.Deep.Slices
import Derived.Deep.Strs
namespace Go.Proofs.Ytoeakcfbnkndbaa
open Go.ChangeShapes Go.WideShapes Go.ChangeAt Go.RowKit

theorem own_knob : ownKnob Try.prog.godebug = none := by kernel_rfl
theorem laid_out : laidOutB Try.prog = true := by kernel_rfl
theorem cells28 : Try.prog.cellsOf 28 = 3 := by kernel_rfl
theorem cells26 : Try.prog.cellsOf 26 = 1 := by kernel_rfl
theorem cells3 : Try.prog.cellsOf 3 = 1 := by kernel_rfl
theorem cells5 : Try.prog.cellsOf 5 = 1 := by kernel_rfl

/-- A slice of ints that came in. -/
theorem open_ceilings {H : Type} {enc : TypeId × Value → H} {W : World} {a : Option Addr} {n c : Nat} {d : DataW H} {p : List MemPlace} (h : DataW.Trod enc Try.prog W 0 (fun _ => true) true 22 (.slice a n c) d p) :
    ∃ cs : List Int, cs.length = n ∧ Ints W a cs := by
  obtain ⟨fuel, hf⟩ := h
  rcases open_ints Try.underlying22 Try.underlying3 cells3 hf with ⟨hcs, _⟩ | ⟨x, l, c2, zs, hcs, _, hl, hm, hz, _, hcell, hwz⟩
  · simp [Value.cells] at hcs
    obtain ⟨rfl, rfl, rfl⟩ := hcs
    exact ⟨[], rfl, Or.inl rfl⟩
  · simp [Value.cells] at hcs
    obtain ⟨rfl, rfl, rfl⟩ := hcs
    simp only [if_true] at hz
    refine ⟨zs.take n, by simp; omega, ?_⟩
    by_cases h0 : n = 0
    · left; simp [h0]
    · obtain ⟨b, off, rfl, hc⟩ := _root_.Go.ints_at hcell (by omega)
      refine Or.inr ⟨b, off, rfl, fun j hj => ?_⟩
      have hj2 : j < n := by
        have : (zs.take n).length ≤ n := by simp; omega
        omega
      rw [hc j (by omega)]
      simp [List.getD, hj2]

/-- A worker that came in. -/
theorem open_worker {H : Type} {enc : TypeId × Value → H} {W : World} {x : Addr} {cs : List Value} {fuel : Nat} {y : DataW H × List MemPlace} (hc : W.cells? 0 x 3 = some cs) (h : DataW.trod enc Try.prog W 0 (fun _ => true) true fuel 28 cs = some y) :
    ∃ k : Wk, k.start < 256 ∧ (∀ q, k.does.getD q 0 < 256) ∧ k.does.length ≤ maxLen ∧ W.cell? (x.add 0) = some (.int .i64 k.prio) ∧ W.cell? (x.add 1) = some (.int .u8 (k.start : Nat)) ∧
      ∃ da dc, W.cell? (x.add 2) = some (.slice da k.does.length dc) ∧ DoesAt W da k.does := by
  obtain ⟨_, hl, hcell⟩ := World.cells?_some hc
  obtain ⟨y0, y1, y2, n, _, _, t0, t1, t2⟩ := Go.Deep.trod_struct3 Try.underlying28 h
  obtain ⟨v0, v1, v2, rfl⟩ : ∃ v0 v1 v2, cs = [v0, v1, v2] := by
    cases cs with
    | nil => simp at hl
    | cons v0 r =>
      cases r with
      | nil => simp at hl
      | cons v1 r =>
        cases r with
        | nil => simp at hl
        | cons v2 r =>
          cases r with
          | nil => exact ⟨v0, v1, v2, rfl⟩
          | cons v3 r => simp at hl
  · simp only [cells3, cells5, cells26] at t0 t1 t2
    obtain ⟨pr, e0, _, w0⟩ := DataW.trod_int Try.underlying3 t0
    obtain ⟨st, e1, _, w1⟩ := DataW.trod_int Try.underlying5 t1
    have hst := bounds_u8 w1
    simp at e0 e1
    have hv0 := hcell 0 (by omega)
    have hv1 := hcell 1 (by omega)
    have hv2 := hcell 2 (by omega)
    simp at hv0 hv1 hv2
    rw [e0] at hv0
    rw [e1] at hv1
    have hst2 : ((st.toNat : Nat) : Int) = st := by omega
    rcases open_ints Try.underlying26 Try.underlying5 cells5 t2 with ⟨hcs, _⟩ | ⟨x2, l, c2, zs, hcs, _, hl2, hm, hz, _, hc2, hwz⟩
    · simp at hcs
      refine ⟨⟨pr, st.toNat, []⟩, ?_, ?_, ?_, ?_, ?_, none, 0, ?_, Or.inl rfl⟩
      · show st.toNat < 256; omega
      · intro q; simp
      · simp
      · simpa using hv0
      · show W.cell? (x.add 1) = some (.int .u8 ((st.toNat : Nat) : Int))
        rw [hst2]; exact hv1
      · show W.cell? (x.add 2) = some (.slice none 0 0)
        rw [hv2, hcs]
    · simp at hcs
      simp only [if_true] at hz
      have hb : ∀ q, 0 ≤ zs.getD q 0 ∧ zs.getD q 0 ≤ 255 := by
        intro q
        by_cases hq : q < zs.length
        · rw [List.getD, List.getElem?_eq_getElem hq]
          exact bounds_u8 (hwz _ (List.getElem_mem hq))
        · rw [List.getD, List.getElem?_eq_none (by omega)]
          simp
      have hlen : ((zs.take l).map Int.toNat).length = l := by simp; omega
      have hget : ∀ q, q < l → ((((zs.take l).map Int.toNat).getD q 0 : Nat) : Int) = zs.getD q 0 := by
        intro q hq
        have h1 := hb q
        have h2 : ((zs.take l).map Int.toNat).getD q 0 = (zs.getD q 0).toNat := by
          rw [List.getD, List.getD, List.getElem?_map, List.getElem?_take, if_pos hq, List.getElem?_eq_getElem (by omega)]
          rfl
        rw [h2]
        omega
      refine ⟨⟨pr, st.toNat, (zs.take l).map Int.toNat⟩, ?_, ?_, ?_, ?_, ?_, some x2, c2, ?_, ?_⟩
      · show st.toNat < 256; omega
      · intro q
        show ((zs.take l).map Int.toNat).getD q 0 < 256
        by_cases hq : q < l
        · have h1 := hget q hq
          have h2 := hb q
          omega
        · rw [List.getD, List.getElem?_eq_none (by omega)]
          decide
      · show ((zs.take l).map Int.toNat).length ≤ maxLen
        omega
      · simpa using hv0
      · show W.cell? (x.add 1) = some (.int .u8 ((st.toNat : Nat) : Int))
        rw [hst2]; exact hv1
      · show W.cell? (x.add 2) = some (.slice (some x2) ((zs.take l).map Int.toNat).length c2)
        rw [hv2, hcs, hlen]
      · show DoesAt W (some x2) ((zs.take l).map Int.toNat)
        by_cases h0 : l = 0
        · left; simp [h0]
        · obtain ⟨b, off, rfl, hc3⟩ := _root_.Go.ints_at hc2 (by omega)
          refine Or.inr ⟨b, off, rfl, fun q hq => ?_⟩
          rw [hlen] at hq
          rw [hc3 q (by omega), hget q hq]

/-- The workers that came in. -/
theorem open_workers {H : Type} {enc : TypeId × Value → H} {W : World} {a : Option Addr} {n c : Nat} {d : DataW H} {p : List MemPlace} (h : DataW.Trod enc Try.prog W 0 (fun _ => true) true 23 (.slice a n c) d p) :
    ∃ ws : List Wk, ws.length = n ∧ InpAt W a ws ∧ (∀ j q, (wkAt ws j).does.getD q 0 < 256) ∧ (∀ j, (wkAt ws j).start < 256) ∧ ∀ j, (wkAt ws j).does.length ≤ 9223372036854775807 := by
  obtain ⟨fuel, hf⟩ := h
  rcases Go.Deep.open_slice Try.underlying23 hf with ⟨hcs, _⟩ | ⟨x, l, c2, m, k, D, Pl, hcs, _, hl, hm, hz, _, hel⟩
  · simp [Value.cells] at hcs
    obtain ⟨rfl, rfl, rfl⟩ := hcs
    refine ⟨[], rfl, Or.inl rfl, fun j q => ?_, fun j => ?_, fun j => ?_⟩
    · show ([] : List Nat).getD q 0 < 256; simp
    · show 0 < 256; decide
    · show ([] : List Nat).length ≤ _; simp
  · simp [Value.cells] at hcs
    obtain ⟨rfl, rfl, rfl⟩ := hcs
    simp only [if_true] at hz
    rw [cells28] at hel
    have each : ∀ i, i < n → ∃ k : Wk, k.start < 256 ∧ (∀ q, k.does.getD q 0 < 256) ∧ k.does.length ≤ maxLen ∧ W.cell? ((x.add (i * 3)).add 0) = some (.int .i64 k.prio) ∧ W.cell? ((x.add (i * 3)).add 1) = some (.int .u8 (k.start : Nat)) ∧
        ∃ da dc, W.cell? ((x.add (i * 3)).add 2) = some (.slice da k.does.length dc) ∧ DoesAt W da k.does := by
      intro i hi
      obtain ⟨cs', h1, h2⟩ := hel i (by omega)
      exact open_worker h1 h2
    have : Inhabited Wk := ⟨⟨0, 0, []⟩⟩
    obtain ⟨f, hfw⟩ := Go.Deep.choose_lt each
    have hat : ∀ j, j < n → wkAt ((List.range n).map f) j = f j := by
      intro j hj
      unfold wkAt
      rw [List.getD, List.getElem?_map, List.getElem?_range hj]
      rfl
    have hout : ∀ j, ¬ j < n → wkAt ((List.range n).map f) j = ⟨0, 0, []⟩ := by
      intro j hj
      unfold wkAt
      rw [List.getD, List.getElem?_eq_none (by simp; omega)]
      rfl
    refine ⟨(List.range n).map f, by simp, ?_, ?_, ?_, ?_⟩
    · by_cases h0 : n = 0
      · left; simp [h0]
      · obtain ⟨_, _, _, hc0, _⟩ := hfw 0 (by omega)
        obtain ⟨b, off, spot⟩ := x
        have hspot : spot = none := by simpa [Addr.add] using World.cell?_spot hc0
        subst hspot
        refine Or.inr ⟨b, off, rfl, fun j hj => ?_⟩
        have hj2 : j < n := by simpa using hj
        obtain ⟨_, _, _, q0, q1, da, dc, q2, q3⟩ := hfw j hj2
        rw [hat j hj2]
        rw [add_plain, add_plain] at q0 q1 q2
        exact ⟨q0, q1, da, dc, q2, q3⟩
    · intro j q
      by_cases hj : j < n
      · rw [hat j hj]; exact (hfw j hj).2.1 q
      · rw [hout j hj]; show ([] : List Nat).getD q 0 < 256; simp
    · intro j
      by_cases hj : j < n
      · rw [hat j hj]; exact (hfw j hj).1
      · rw [hout j hj]; show 0 < 256; decide
    · intro j
      by_cases hj : j < n
      · rw [hat j hj]
        have := (hfw j hj).2.2.1
        unfold maxLen at this
        omega
      · rw [hout j hj]; show ([] : List Nat).length ≤ _; simp

set_option maxRecDepth 100000 in
theorem lifted (os : Os) (started : os.Started) (H : Type) (enc : TypeId × Value → H) :
    ReturnsInHanded {} Try.checked os 3 .any (Rows.wholeCeilingsSpec.pre6 enc Try.prog Try.f3 Rows.wholeCeilingsRow.domain false) (Rows.wholeCeilingsSpec.post enc Try.prog Try.f3 false true false false) := by
  refine returnsInHanded_of_change (C := Try.checked) own_knob started (by kernel_rfl) Try.func3
    (ChangeSpec.witness6 (enc := enc) (C := Try.checked) false ⟨#[], #[.slice none 0 0, .slice none 0 0], []⟩ 8 (by kernel_rfl) (by kernel_rfl) (by kernel_rfl) (by kernel_rfl)) ?_
  intro W base args ds gs before hval0 hW hcnd _
  have hval : ∀ (j : Nat) t v, Try.f3.params[j]? = some t → args[j]? = some v → Value.okWide Try.prog W .any base t v := hval0
  have hW' := hW
  obtain ⟨p, q, hA0, hV, rfl, hfz, hnd⟩ := hW
  have hA : DataW.TrodAll enc Try.prog W 0 (fun _ => true) true Try.f3.params.toList args.toList ds p := hA0
  rw [Try.params3] at hA hval
  obtain ⟨v0, v1, d0, d1, p0, p1, rfl, rfl, rfl, h0, h1⟩ := trodAll_two hA
  obtain ⟨rfl, rfl⟩ := trodVars_none hV
  obtain ⟨a0, len0, cap0, rfl⟩ := okWide_slice Try.underlying22 (hval 0 22 v0 rfl rfl)
  obtain ⟨a1, len1, cap1, rfl⟩ := okWide_slice Try.underlying23 (hval 1 23 v1 rfl rfl)
  have k0 := h0
  have k1 := h1
  have lt0 : ∀ x ∈ p0, x.block < W.heap.size := by obtain ⟨m, hm⟩ := k0; exact DataW.trod_lt m _ _ _ hm
  have lt1 : ∀ x ∈ p1, x.block < W.heap.size := by obtain ⟨m, hm⟩ := k1; exact DataW.trod_lt m _ _ _ hm
  obtain ⟨cs, rfl, hC⟩ := open_ceilings h0
  obtain ⟨ws, rfl, hI, hby, hst, hdl⟩ := open_workers h1
  clear hA0 hval0
  refine (law_any (cc := cap0) (wc := cap1) hC hI hby hst hdl).mono fun e W' ⟨he, bel⟩ => ?_
  subst he
  exact ⟨_, rfl, _, _, _, [], _, [], hW', trodAll_mk1 (shut_bool Try.underlying4 _), trodAll_mk2 (Below.trod laid_out (by kernel_rfl) (of_decide_eq_true (by kernel_rfl)) k0 bel lt0) (Below.trod laid_out (by kernel_rfl) (of_decide_eq_true (by kernel_rfl)) k1 bel lt1), rfl, bel.frame _, fun h => by cases h⟩

/-- WholeCeilings, as given. -/
theorem wholeCeilings_holds : Rows.WholeCeilingsSaid :=
  OpenClaim.holds_of_wide 3 Try.f3 rfl rfl rfl rfl rfl rfl rfl ⟨rfl, rfl, rfl, rfl, rfl⟩ rfl rfl rfl rfl rfl (by kernel_rfl) Try.func3 (by kernel_rfl)
    (of_decide_eq_true (by kernel_rfl)) (by unfold Func.isWrapper; first | (rw [if_pos (by decide +kernel)]; kernel_rfl) | (rw [if_neg (by decide +kernel)]; exact ⟨rfl, rfl⟩))
    (fun os started H enc _ => lifted os started H enc)

#print axioms wholeCeilings_holds
end Go.Proofs.Ytoeakcfbnkndbaa

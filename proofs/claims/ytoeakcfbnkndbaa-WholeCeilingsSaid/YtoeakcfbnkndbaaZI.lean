import Derived.Test.YtoeakcfbnkndbaaZH
namespace Go.Proofs.Ytoeakcfbnkndbaa
open Go.RowKit Go.Maps

/-- What the law needs to know of its input. -/
structure Input (w0 : World) (cs : List Int) (ws : List Wk) (ca wa : Option Addr) : Prop where
  csl : cs.length ≤ 6
  few : ws.length ≤ 5
  inp : InpAt w0 wa ws
  ceil : Ints w0 ca cs
  does : ∀ j, j < ws.length → (wkAt ws j).does.length ≤ 30
  byte : ∀ j q, (wkAt ws j).does.getD q 0 < 256
  start : ∀ j, (wkAt ws j).start < 256

/-- The attributes' slice. -/
def AttrAt (w : World) (v5 : Value) (ws : List Wk) : Prop :=
  ∃ a c, v5 = .slice a ws.length c ∧ ((ws = [] ∧ a = none) ∨ (0 < ws.length ∧ ∃ g, a = some ⟨g, 0, none⟩ ∧ Attrs w g (prOf ws)))

theorem AttrAt.below {w w' : World} {v5 : Value} {ws : List Wk} (h : AttrAt w v5 ws) (hb : Below w.heap.size w w') : AttrAt w' v5 ws := by
  obtain ⟨a, c, e, h1⟩ := h
  refine ⟨a, c, e, h1.imp (fun h => h) ?_⟩
  rintro ⟨h0, g, e2, h2⟩
  exact ⟨h0, g, e2, h2.below hb⟩

/-- What dispatch.New hands back, whatever the attributes. -/
theorem dnew_all {w : World} {v5 : Value} {ws : List Wk} (h : AttrAt w v5 ws) (hn : ws.length ≤ 5) :
    Calls Try.prog 6 #[v5] w fun e w' => ∃ dv fr, e = .returned (.tuple #[dv, .int .i64 fr]) ∧ (Below w.heap.size w w' ∧
      ((fr = 2 ∧ ¬ fineP (prOf ws)) ∨ (fr = 0 ∧ ws = [] ∧ ∃ D R, dv = .pointer (some ⟨D, 0, none⟩) ∧ Dis0 w' D R) ∨ (fr = 0 ∧ 0 < ws.length ∧ fineP (prOf ws) ∧ NewDis w (prOf ws) (.returned (.tuple #[dv, .int .i64 fr])) w'))) := by
  obtain ⟨a, c, rfl, h1⟩ := h
  rcases h1 with ⟨rfl, rfl⟩ | ⟨h0, g, rfl, h2⟩
  · refine (dnew_none w c).mono ?_
    rintro e w' ⟨hb, D, R, rfl, hd⟩
    exact ⟨_, _, rfl, hb, Or.inr (Or.inl ⟨rfl, rfl, D, R, rfl, hd⟩)⟩
  · by_cases hf : fineP (prOf ws)
    · have hc := dnew_ok (c := c) h2 (by rw [prOf_len]; exact h0) (by rw [prOf_len]; omega) hf
      rw [prOf_len] at hc
      refine hc.mono ?_
      intro e w' hh
      obtain ⟨D, T, tb, cap, R, Q, rfl, hb, rest⟩ := hh
      exact ⟨_, _, rfl, hb, Or.inr (Or.inr ⟨rfl, h0, hf, D, T, tb, cap, R, Q, rfl, hb, rest⟩)⟩
    · have hc := dnew_bad (c := c) h2 (by rw [prOf_len]; exact h0) (by rw [prOf_len]; omega) hf
      rw [prOf_len] at hc
      refine hc.mono ?_
      rintro e w' ⟨rfl, hb⟩
      exact ⟨_, _, rfl, hb, Or.inl ⟨rfl, hf⟩⟩

/-- What lock.New hands back, whatever the ceilings. -/
theorem lnew_all {w : World} {a : Option Addr} {c : Nat} {cs : List Int} (h : Ints w a cs) (hl : cs.length ≤ 6) :
    Calls Try.prog 5 #[.slice a cs.length c] w fun e w' => ∃ lv er, e = .returned (.tuple #[lv, .int .i64 er]) ∧ (Below w.heap.size w w' ∧
      ((er = 2 ∧ ¬ fineI cs) ∨ (er = 0 ∧ fineI cs ∧ NewLck w cs (.returned (.tuple #[lv, .int .i64 er])) w'))) := by
  by_cases hf : fineI cs
  · refine (lnew_ok h (by omega) hf).mono ?_
    intro e w' hh
    obtain ⟨A, cv, rfl, hL, g1, g2, g3, g4, hb⟩ := hh
    exact ⟨_, _, rfl, hb, Or.inr ⟨rfl, hf, A, cv, rfl, hL, g1, g2, g3, g4, hb⟩⟩
  · refine (lnew_bad h (by omega) hf).mono ?_
    rintro e w' ⟨rfl, rfl⟩
    exact ⟨_, _, rfl, Below.refl _ _, Or.inl ⟨rfl, hf⟩⟩

/-- All that follows the attributes. -/
theorem rest {w0 w : World} {cs : List Int} {ws : List Wk} {ca wa : Option Addr} {cc wc : Nat} (hI : Input w0 cs ws ca wa) {a : Act} (h : F0 (.slice ca cs.length cc) (.slice wa ws.length wc) a) (hb : Below w0.heap.size w0 w)
    {v5 : Value} (h5 : a.tmps[5]? = some v5) (hA : AttrAt w v5 ws) : Code.wp Try.prog c10 (bodyPost Try.prog Try.f3 (Yes w0)) a w := by
  refine wp_cut c10_eq (piece10 h h5 (lnew_all (hI.ceil.below hb) hI.csl) ?_)
  rintro lv er a1 w1 h1 h5 h7 h8 ⟨hb1, hl⟩
  refine wp_cut c11_eq (piece11 h1 h5 h7 h8 (dnew_all (hA.below hb1) hI.few) ?_)
  rintro dv fr a2 w2 h2 h7 h8 h9 h10 ⟨hb2, hd⟩
  have hw1 := below_two hb hb1
  have hw2 := below_two hw1 hb2
  rcases hl with ⟨rfl, _⟩ | ⟨rfl, hfi, LA, cv, e1, hL, g1, g2, g3, g4, _⟩
  · exact wp_cut c12_eq (piece12b h2 h8 h10 hw2 (Or.inl rfl))
  rcases hd with ⟨rfl, _⟩ | ⟨rfl, hws, D, R, rfl, hd⟩ | ⟨rfl, h0, hfp, D, T, tb, cap, R, Q, e2, _, o1, o2, o3, o4, o5, hdis⟩
  · exact wp_cut c12_eq (piece12b h2 h8 h10 hw2 (Or.inr ⟨rfl, rfl⟩))
  · have e1 : lv = .pointer (some ⟨LA.L, 0, none⟩) := by
      injection e1 with e1
      injection e1 with e1
      simpa using e1
    subst e1
    subst hws
    refine wp_cut c12_eq (piece12g h2 h7 h8 h9 h10 (fun a3 h3 h7 h9 => wp_cut c14_eq (piece14 h3 h7 h9 (fun a4 h4 h7 h9 => wp_cut c16_eq (piece16 (Nat.zero_le 5) h4 h7 h9 (fun a5 h5 h7 h9 h11 => ?_))))))
    have hbw : Below w2.heap.size w2 (w2.alloc (.cells (madeCells #[.int .i64 0, .slice none 0 0, .bool false] (0 * 3)) 44)) := Upd.toBelow ((Upd.refl _ _).alloc _)
    refine wp_seq (wp_seq (piece17 h5 h7 h9 h11 (fun a6 h6 h7 h9 h11 h12 => ?_)))
    exact loop0 h6 ((hL.below hb2).below hbw) (Dis1.below (B := w2.heap.size) hd hbw) (below_two hw2 hbw) h7 h9 h12 (fun a7 w7 q1 q2 q3 => end56 q1 q2 q3)
  · have e1 : lv = .pointer (some ⟨LA.L, 0, none⟩) := by
      injection e1 with e1
      injection e1 with e1
      simpa using e1
    have e2 : dv = .pointer (some ⟨D, 0, none⟩) := by
      injection e2 with e2
      injection e2 with e2
      simpa using e2
    subst e1
    subst e2
    refine wp_cut c12_eq (piece12g h2 h7 h8 h9 h10 (fun a3 h3 h7 h9 => wp_cut c14_eq (piece14 h3 h7 h9 (fun a4 h4 h7 h9 => wp_cut c16_eq (piece16 hI.few h4 h7 h9 (fun a5 h5 h7 h9 h11 => ?_))))))
    refine wp_seq (wp_seq (piece17 h5 h7 h9 h11 (fun a6 h6 h7 h9 h11 h12 => ?_)))
    have hbw : Below w2.heap.size w2 (w2.alloc (.cells (madeCells #[.int .i64 0, .slice none 0 0, .bool false] (ws.length * 3)) 44)) := Upd.toBelow ((Upd.refl _ _).alloc _)
    have hw3 := below_two hw2 hbw
    have hmw := made_workers w2 ws.length
    have hsz : (w2.alloc (.cells (madeCells #[.int .i64 0, .slice none 0 0, .bool false] (ws.length * 3)) 44)).heap.size = w2.heap.size + 1 := World.size_alloc _ _
    generalize w2.alloc (.cells (madeCells #[.int .i64 0, .slice none 0 0, .bool false] (ws.length * 3)) 44) = w3 at *
    have d2 := hdis w2 w2.heap.size (Below.refl _ _) (Nat.le_refl _) (Nat.le_refl _)
    have d3 := hdis w3 (w2.heap.size + 1) hbw (by omega) (by omega)
    have lD := d2.lowD
    have lT := d2.lowT
    have lb := d2.lowb
    have lQ := d2.lowQ
    have lR := d2.rdy.low
    simp only at lD lT lb lQ lR
    have kL := hL.root.lt
    have kw := hL.wait.lt
    have km : LA.mb < w1.heap.size := by
      obtain ⟨es, clock, hm⟩ := hL.mapB
      exact (Array.getElem?_eq_some_iff.1 hm).1
    have kc := fun b hb => (hL.ceil.lt b hb).2
    have s0 := hb.size
    have s1 := hb1.size
    have s2 := hb2.size
    have hE : EnvOk ⟨w0, LA, cv, cs, ⟨D, T, tb, cap, R, Q, (prOf ws).length, w2.heap.size + 1⟩, w2.heap.size, ws, ca, cc, wa, wc⟩ := by
      refine ⟨prOf_len ws, h0, hI.few, hI.csl, hfi, hfp, hI.inp, hI.ceil, hI.does, hI.byte, hI.start, ?_, ?_, ?_, ?_, ?_, ?_, ?_, ?_, ?_, ?_, ⟨?_, ?_, ?_⟩, ⟨?_, ?_, ?_⟩, ⟨?_, ?_, ?_⟩⟩
      · show w0.heap.size ≤ R; omega
      · show w0.heap.size ≤ tb; omega
      · show w0.heap.size ≤ w2.heap.size + 1; omega
      · show w0.heap.size ≤ LA.mb; omega
      · show w0.heap.size ≤ w2.heap.size; omega
      · rintro (e | e | e)
        · have e : LA.L = R := e
          omega
        · have e : LA.L = tb := e
          omega
        · have e : w2.heap.size + 1 ≤ LA.L := e
          omega
      · rintro (e | e | e)
        · have e : LA.wb = R := e
          omega
        · have e : LA.wb = tb := e
          omega
        · have e : w2.heap.size + 1 ≤ LA.wb := e
          omega
      · rintro (e | e | e)
        · have e : LA.mb = R := e
          omega
        · have e : LA.mb = tb := e
          omega
        · have e : w2.heap.size + 1 ≤ LA.mb := e
          omega
      · intro b hb
        have := kc b hb
        refine ⟨?_, by show b ≠ w2.heap.size; omega⟩
        rintro (e | e | e)
        · have e : b = R := e
          omega
        · have e : b = tb := e
          omega
        · have e : w2.heap.size + 1 ≤ b := e
          omega
      · rintro (e | e | e)
        · have e : w2.heap.size = R := e
          omega
        · have e : w2.heap.size = tb := e
          omega
        · have e : w2.heap.size + 1 ≤ w2.heap.size := e
          omega
      · show D ≠ LA.mb; omega
      · show T ≠ LA.mb; omega
      · show Q ≠ LA.mb; omega
      · show D ≠ w2.heap.size; omega
      · show T ≠ w2.heap.size; omega
      · show Q ≠ w2.heap.size; omega
      · show LA.L ≠ w2.heap.size; omega
      · show LA.wb ≠ w2.heap.size; omega
      · show LA.mb ≠ w2.heap.size; omega
    refine main_loop hE ⟨h6.df, h6.sz, h6.s0, h6.s1, h7, h9, h11, h12⟩ ?_ (fun a7 w7 q1 q2 => end56 q1.df q1.sz q2)
    refine ⟨nilV, nilX, ps0 (prOf ws), 0, 0, fun _ => none, fun _ => 0, fun _ => false, ⟨d3, (hL.below hb2).below hbw, hmw, hw3⟩, ⟨LawInv.init (prOf_len ws) hfp hfi nilX (fun _ => rfl), fun _ _ _ => rfl, ?_⟩, Nat.le_refl _⟩
    rintro i _ (hs | hs)
    · exact absurd (show (0 : Int) = 1 from hs) (by decide)
    · cases hs

end Go.Proofs.Ytoeakcfbnkndbaa

import Derived.Test.YtoeakcfbnkndbaaZI
namespace Go.Proofs.Ytoeakcfbnkndbaa
open Go.RowKit Go.Maps

def acells (p : Int) : List Value := [.int .i64 p, .int .i64 0, .int .i64 0, .int .i64 0, .int .i64 0]

theorem Try.info30 : (Try.prog.info? 30).map (fun i => (i.zero, i.size, i.bytes)) = some (some (.agg (acells 0).toArray), 5, 40) := by kernel_rfl

theorem acells_one (x : Int) : ∀ u ∈ acells x, u.oneCell' = true := by
  intro u hu
  unfold acells at hu
  simp only [List.mem_cons, List.not_mem_nil, or_false] at hu
  rcases hu with h | h | h | h | h <;> (subst h; rfl)

theorem flat5_at : ∀ (pr : List Int) (i f : Nat), i < pr.length → f < 5 → (pr.flatMap acells)[i * 5 + f]? = (acells (pr.getD i 0))[f]?
  | [], i, f, hi, _ => by simp at hi
  | p :: r, 0, f, _, hf => by
    rw [List.flatMap_cons, List.getElem?_append_left (by simp [acells]; omega)]
    simp
  | p :: r, i + 1, f, hi, hf => by
    rw [List.flatMap_cons, List.getElem?_append_right (by simp [acells]; omega)]
    have e : (i + 1) * 5 + f - (acells p).length = i * 5 + f := by simp [acells]; omega
    rw [e, flat5_at r i f (by simpa using hi) hf]
    simp

/-- The attributes so far. -/
def AtSoFar (w0 wr : World) (v : Value) (pr : List Int) (j : Nat) : Prop :=
  wr.ownsRow w0.heap.size 30 5 v j ((pr.take j).flatMap acells) ∧ Below w0.heap.size w0 wr ∧ (j = 0 → v = .slice none 0 0)

theorem AtSoFar.done {w0 wr : World} {v : Value} {ws : List Wk} (h : AtSoFar w0 wr v (prOf ws) ws.length) : AttrAt wr v ws := by
  obtain ⟨ho, _, h0⟩ := h
  have hl := prOf_len ws
  by_cases e : ws.length = 0
  · have e2 : ws = [] := List.eq_nil_of_length_eq_zero e
    subst e2
    exact ⟨none, 0, h0 rfl, Or.inl ⟨rfl, rfl⟩⟩
  · rcases ho.2 with ⟨_, hn⟩ | ⟨g, cap, cur, rfl, hB, hg, hc, hm, hs, ht⟩
    · omega
    · refine ⟨_, cap, rfl, Or.inr ⟨by omega, g, rfl, ?_⟩⟩
      have cell : ∀ i f, i < (prOf ws).length → f < 5 → wr.cell? ⟨g, i * 5 + f, none⟩ = (acells ((prOf ws).getD i 0))[f]? := by
        intro i f hi hf
        rw [← flat5_at (prOf ws) i f hi hf]
        rw [show (prOf ws).take ws.length = prOf ws from List.take_of_length_le (by omega)] at ht
        rw [← ht, List.getElem?_take, if_pos (by omega)]
        simp [World.cell?, hg, ← Array.getElem?_toList]
      intro i hi
      exact ⟨cell i 0 hi (by omega), cell i 1 hi (by omega), cell i 2 hi (by omega), cell i 3 hi (by omega), cell i 4 hi (by omega)⟩

/-- One more. -/
theorem AtSoFar.next {w0 wr : World} {v : Value} {pr : List Int} {j : Nat} (h : AtSoFar w0 wr v pr j) (hj : j < pr.length) (hn : pr.length ≤ 5) :
    ∃ v' w1, (∀ ty, (Builtin.append_ #[25, 25] ty #[v, .slice (some ⟨wr.heap.size, 0, none⟩) 1 1]).run Try.prog (wr.alloc (.cells #[.int .i64 (pr.getD j 0), .int .i64 0, .int .i64 0, .int .i64 0, .int .i64 0] 30)) = .ok v' w1) ∧ AtSoFar w0 w1 v' pr (j + 1) := by
  obtain ⟨ho, hb, _⟩ := h
  obtain ⟨i0, hi0, hz0, hzs, hzb⟩ := info_parts Try.info30
  have hsz := hb.size
  have ho2 : (wr.alloc (.cells #[.int .i64 (pr.getD j 0), .int .i64 0, .int .i64 0, .int .i64 0, .int .i64 0] 30)).ownsRow w0.heap.size 30 5 v j ((pr.take j).flatMap acells) :=
    own_same' ho (fun k hk => Below.heap_alloc _ _ _ (ho.lt k hk).2)
  obtain ⟨v', w1, hrun, hown, hgrow, _⟩ := run_append_own (P := Try.prog) _ w0.heap.size 25 0 30 i0 _ 5 40 Try.underlying25 hi0 hz0 hzs hzb rfl (by omega) v j _ ho2 ⟨wr.heap.size, 0, none⟩ 1 1 (acells (pr.getD j 0)) rfl
    (World.news_of_block (heap_alloc_new _ _)) (acells_one _) (by unfold maxLen; omega) (by omega) (by simp; omega)
  refine ⟨v', w1, fun _ => hrun, ?_, ?_, fun h => by omega⟩
  · have e : (pr.take (j + 1)).flatMap acells = (pr.take j).flatMap acells ++ acells (pr.getD j 0) := by
      rw [List.take_succ_eq_append_getElem hj, List.flatMap_append, List.getD, List.getElem?_eq_getElem hj]
      simp
    rw [e]
    exact hown
  · refine below_trans hb (((Upd.refl _ _).alloc _).grown hgrow (fun k hk => Or.inl ?_))
    exact (ho.lt k hk).1

set_option maxRecDepth 1000000 in
set_option maxHeartbeats 4000000 in
theorem piece0 {v0 v1 : Value} {a : Act} {w : World} (h : F0 v0 v1 a) {K : Act → World → Prop} {Q : Exit → Act → World → Prop} (hk : ∀ a', F0 v0 v1 a' → K a' w) : Code.wp Try.prog (Code.l cB) (Exit.then K Q) a w := by
  obtain ⟨u, ha, hu⟩ := frame_open h.df h.sz
  have e0 := frame_at hu (by omega) h.s0
  have e1 := frame_at hu (by omega) h.s1
  clear h hu
  subst ha
  simp only [e0, e1]
  clear e0 e1
  have HK := Lib.hid hk
  clear hk
  conv => arg 2; whnf
  go_wp2
  exact HK.out _ ⟨rfl, rfl, rfl, rfl⟩

set_option maxRecDepth 1000000 in
set_option maxHeartbeats 4000000 in
/-- Too many. -/
theorem piece1b {ca wa : Option Addr} {cc wc m n : Nat} {a : Act} {w : World} (h : F0 (.slice ca m cc) (.slice wa n wc) a) {w0 : World} (hb : Below w0.heap.size w0 w) (hbad : 6 < m ∨ 5 < n) {K : Act → World → Prop} :
    Code.wp Try.prog (Code.l (Code.r cB)) (Exit.then K (bodyPost Try.prog Try.f3 (Yes w0))) a w := by
  obtain ⟨u, ha, hu⟩ := frame_open h.df h.sz
  have e0 := frame_at hu (by omega) h.s0
  have e1 := frame_at hu (by omega) h.s1
  clear h hu
  subst ha
  simp only [e0, e1]
  clear e0 e1
  have HB := Lib.hid hb
  clear hb
  conv => arg 2; whnf
  by_cases h1 : 6 < m
  · have b1 : decide (6 < (m : Int)) = true := by simp; omega
    clear hbad
    go_wp2_with (go_at_call 4; refine (awake_any _).mono ?_; rintro e w1 ⟨rfl, hb1⟩)
    go_ret
    exact ⟨rfl, below_two HB.out hb1⟩
  · have b1 : decide (6 < (m : Int)) = false := by simp; omega
    have b2 : decide (5 < (n : Int)) = true := by simp; omega
    clear hbad h1
    go_wp2_with (go_at_call 4; refine (awake_any _).mono ?_; rintro e w1 ⟨rfl, hb1⟩)
    go_ret
    exact ⟨rfl, below_two HB.out hb1⟩

set_option maxRecDepth 1000000 in
set_option maxHeartbeats 4000000 in
theorem piece1g {ca wa : Option Addr} {cc wc m n : Nat} {a : Act} {w : World} (h : F0 (.slice ca m cc) (.slice wa n wc) a) (hm : m ≤ 6) (hn : n ≤ 5) {K : Act → World → Prop} {Q : Exit → Act → World → Prop} (hk : ∀ a', F0 (.slice ca m cc) (.slice wa n wc) a' → K a' w) :
    Code.wp Try.prog (Code.l (Code.r cB)) (Exit.then K Q) a w := by
  have b1 : decide (6 < (m : Int)) = false := by simp; omega
  have b2 : decide (5 < (n : Int)) = false := by simp; omega
  obtain ⟨u, ha, hu⟩ := frame_open h.df h.sz
  have e0 := frame_at hu (by omega) h.s0
  have e1 := frame_at hu (by omega) h.s1
  clear h hu
  subst ha
  simp only [e0, e1]
  clear e0 e1
  have HK := Lib.hid hk
  clear hk
  conv => arg 2; whnf
  go_wp2
  exact HK.out _ ⟨rfl, rfl, rfl, rfl⟩

set_option maxRecDepth 1000000 in
set_option maxHeartbeats 4000000 in
theorem piece3 {v0 v1 : Value} {a : Act} {w : World} (h : F0 v0 v1 a) {K : Act → World → Prop} {Q : Exit → Act → World → Prop} (hk : ∀ a', F0 v0 v1 a' → a'.tmps[5]? = some (.slice none 0 0) → K a' w) : Code.wp Try.prog (Code.l (Code.r (Code.r cB))) (Exit.then K Q) a w := by
  obtain ⟨u, ha, hu⟩ := frame_open h.df h.sz
  have e0 := frame_at hu (by omega) h.s0
  have e1 := frame_at hu (by omega) h.s1
  clear h hu
  subst ha
  simp only [e0, e1]
  clear e0 e1
  have HK := Lib.hid hk
  clear hk
  conv => arg 2; whnf
  go_wp2
  exact HK.out _ ⟨rfl, rfl, rfl, rfl⟩ rfl

set_option maxRecDepth 1000000 in
set_option maxHeartbeats 4000000 in
/-- The attributes, or somebody does too much. -/
theorem piece4 {w0 w : World} {v0 : Value} {wa : Option Addr} {wc : Nat} {ws : List Wk} {a : Act} (h : F0 v0 (.slice wa ws.length wc) a) (h5 : a.tmps[5]? = some (.slice none 0 0)) (hn : ws.length ≤ 5) (hI : InpAt w wa ws) (hb : Below w0.heap.size w0 w) (hdl : ∀ j, (wkAt ws j).does.length ≤ 9223372036854775807) {K : Act → World → Prop}
    (hk : ∀ v a' w', F0 v0 (.slice wa ws.length wc) a' → a'.tmps[5]? = some v → AtSoFar w w' v (prOf ws) ws.length → (∀ j, j < ws.length → (wkAt ws j).does.length ≤ 30) → K a' w') :
    Code.wp Try.prog (Code.l c3) (Exit.then K (bodyPost Try.prog Try.f3 (Yes w0))) a w := by
  obtain ⟨u, ha, hu⟩ := frame_open h.df h.sz
  have e0 := frame_at hu (by omega) h.s0
  have e1 := frame_at hu (by omega) h.s1
  have e5 := frame_at hu (by omega) h5
  clear h hu h5
  subst ha
  simp only [e0, e1, e5]
  clear e0 e1 e5
  have HK := Lib.hid hk
  clear hk
  have HB := Lib.hid hb
  clear hb
  conv => arg 2; whnf
  have HI := Lib.hid hI
  have HDL := Lib.hid hdl
  clear hI hdl
  go_wp2_with fail
  go_loopg [5, 6] ws.length (fun g s5 s6 wr => ∃ j : Nat, j + g = ws.length ∧ s6 = .int .i64 j ∧ AtSoFar w wr s5 (prOf ws) j ∧ ∀ i, i < j → (wkAt ws i).does.length ≤ 30)
  case atStart => exact ⟨0, by omega, rfl, ⟨World.ownsRow_nil _ _ _ _, Below.refl _ _, fun _ => rfl⟩, fun i hi => by omega⟩
  case round =>
    obtain ⟨j, hjg, rfl, hso, hall⟩ := hrel
    cases gk with
    | zero =>
      have hj : ¬ ((j : Int) < (ws.length : Int)) := by omega
      have e : j = ws.length := by omega
      have HSO := Lib.hid hso
      have HALL := Lib.hid hall
      have HE := Lib.hid e
      clear hso hall e
      go_wp2
      refine HK.out _ _ _ ⟨rfl, rfl, rfl, rfl⟩ rfl ?_ ?_
      · have := HSO.out
        rw [HE.out] at this
        exact this
      · intro i hi
        exact HALL.out i (by rw [HE.out]; exact hi)
    | succ g =>
      have hj : (j : Int) < (ws.length : Int) := by omega
      obtain ⟨b, off, rfl, hc⟩ := (HI.out.below hso.2.1).resolve_left (fun e => by rw [e] at hjg; simp at hjg)
      obtain ⟨c0, _, da, dc, c2, _⟩ := hc j (by omega)
      have hd63 := HDL.out j
      have HBW := Lib.hid (below_trans HB.out (Upd.below _ hso.2.1))
      obtain ⟨v', w1, hrun, hnext⟩ := hso.next (by rw [prOf_len]; omega : j < (prOf ws).length) (by rw [prOf_len]; exact hn)
      rw [prOf_at] at hrun
      obtain ⟨m, hm⟩ : ∃ m, m = (wkAt ws j).does.length := ⟨_, rfl⟩
      rw [← hm] at c2 hd63
      generalize (wkAt ws j).prio = pp at *
      have HM := Lib.hid hm
      have HALL := Lib.hid hall
      have HN := Lib.hid hnext
      clear hm hall hnext hso hc
      by_cases h30 : 30 < m
      · have b1 : decide (30 < (m : Int)) = true := by simp; omega
        clear hrun
        go_wp2_with (go_at_call 4; refine (awake_any _).mono ?_; rintro e w2 ⟨rfl, hb1⟩)
        go_ret
        exact ⟨rfl, below_two HBW.out hb1⟩
      · have b1 : decide (30 < (m : Int)) = false := by simp; omega
        have HR := Lib.hid hrun
        clear hrun
        go_wp2_with (at_builtin; refine Lib.wpList_append_run _ rfl _ _ _ _ rfl _ _ rfl rfl _ _ (HR.out _) ?_)
        go_roundg g
        case measure => omega
        case rel =>
          refine ⟨j + 1, by omega, by go_num, HN.out, fun i hi => ?_⟩
          by_cases e : i = j
          · subst e; rw [← HM.out]; omega
          · exact HALL.out i (by omega)

theorem cB_eq : cB = .seq (Code.l cB) (.seq (Code.l (Code.r cB)) (.seq (Code.l (Code.r (Code.r cB))) c3)) := by kernel_rfl
theorem c3_eq : c3 = .seq (Code.l c3) c10 := by kernel_rfl

end Go.Proofs.Ytoeakcfbnkndbaa

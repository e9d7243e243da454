import Derived.Test.YtoeakcfbnkndbaaZD
namespace Go.Proofs.Ytoeakcfbnkndbaa
open Go.RowKit Go.Maps

set_option maxRecDepth 1000000 in
set_option maxHeartbeats 4000000 in
/-- There are ticks left. -/
theorem piece18s {E : Env} (hE : EnvOk E) {t : Nat} {a : Act} {w : World} (h : FR E t a) (ht : t < 300) {K : Act → World → Prop} {Q : Exit → Act → World → Prop}
    (hk : ∀ a', FR E t a' → K a' w) : Code.wp Try.prog (Code.l cL2) (Exit.then K Q) a w := by
  have b3 : (t : Int) < 300 := by omega
  obtain ⟨b, off, hwa, hc⟩ := hE.wk
  obtain ⟨u, ha, hu⟩ := frame_open h.df h.sz
  have e0 := frame_at hu (by omega) h.s0
  have e1 := frame_at hu (by omega) h.s1
  have e7 := frame_at hu (by omega) h.s7
  have e9 := frame_at hu (by omega) h.s9
  have e11 := frame_at hu (by omega) h.s11
  have e12 := frame_at hu (by omega) h.s12
  clear h hu
  rw [hwa] at e1
  subst ha
  simp only [e0, e1, e7, e9, e11, e12]
  clear e0 e1 e7 e9 e11 e12
  have HC := Lib.hid hc
  clear hc
  have HK := Lib.hid hk
  clear hk
  have hn5 := hE.few
  conv => arg 2; whnf
  go_wp2
  exact HK.out _ ⟨rfl, rfl, rfl, by rw [hwa]; rfl, rfl, rfl, rfl, rfl⟩

set_option maxRecDepth 1000000 in
set_option maxHeartbeats 4000000 in
/-- There are none. -/
theorem piece18n {E : Env} (hE : EnvOk E) {a : Act} {w : World} (h : FR E 300 a) {K : Act → World → Prop} {Q : Exit → Act → World → Prop}
    (hq : ∀ a', FR E 300 a' → Q (.exit 2) a' w) : Code.wp Try.prog (Code.l cL2) (Exit.then K Q) a w := by
  obtain ⟨b, off, hwa, hc⟩ := hE.wk
  obtain ⟨u, ha, hu⟩ := frame_open h.df h.sz
  have e0 := frame_at hu (by omega) h.s0
  have e1 := frame_at hu (by omega) h.s1
  have e7 := frame_at hu (by omega) h.s7
  have e9 := frame_at hu (by omega) h.s9
  have e11 := frame_at hu (by omega) h.s11
  have e12 := frame_at hu (by omega) h.s12
  clear h hu
  rw [hwa] at e1
  subst ha
  simp only [e0, e1, e7, e9, e11, e12]
  clear e0 e1 e7 e9 e11 e12
  have HC := Lib.hid hc
  clear hc
  have HQ := Lib.hid hq
  clear hq
  have hn5 := hE.few
  conv => arg 2; whnf
  go_wp2
  exact HQ.out _ ⟨rfl, rfl, rfl, by rw [hwa]; rfl, rfl, rfl, rfl, rfl⟩

set_option maxRecDepth 1000000 in
set_option maxHeartbeats 4000000 in
/-- The next tick. -/
theorem piece19 {E : Env} (hE : EnvOk E) {t : Nat} {a : Act} {w : World} (h : FR E t a) (ht : t < 300) {Q : Exit → Act → World → Prop}
    (hk : ∀ a', FR E (t + 1) a' → Q .normal a' w) : Code.wp Try.prog (Code.r (Code.r cL2)) Q a w := by
  have hwr : IntKind.i64.wrap ((t : Int) + 1) = (t : Int) + 1 := by rw [IntKind.wrap_i64]; omega
  obtain ⟨b, off, hwa, hc⟩ := hE.wk
  obtain ⟨u, ha, hu⟩ := frame_open h.df h.sz
  have e0 := frame_at hu (by omega) h.s0
  have e1 := frame_at hu (by omega) h.s1
  have e7 := frame_at hu (by omega) h.s7
  have e9 := frame_at hu (by omega) h.s9
  have e11 := frame_at hu (by omega) h.s11
  have e12 := frame_at hu (by omega) h.s12
  clear h hu
  rw [hwa] at e1
  subst ha
  simp only [e0, e1, e7, e9, e11, e12]
  clear e0 e1 e7 e9 e11 e12
  have HC := Lib.hid hc
  clear hc
  have HK := Lib.hid hk
  clear hk
  have hn5 := hE.few
  conv => arg 2; whnf
  go_wp2
  exact HK.out _ ⟨rfl, rfl, rfl, by rw [hwa]; rfl, rfl, rfl, rfl, congrArg (fun z => some (Value.int .i64 z)) (by omega : ((t : Int) + 1) = ((t + 1 : Nat) : Int))⟩

theorem cL2_eq : cL2 = .seq (Code.l cL2) (.seq (.block 3 cB3) (Code.r (Code.r cL2))) := by kernel_rfl
theorem cK2_eq : Code.r (Code.l (Code.r c16)) = .block 2 (.loop cL2) := by kernel_rfl

def ticksLeft (a : Act) : Nat :=
  match a.tmps[12]? with
  | some (Value.int _ x) => (300 - x).toNat
  | _ => 0

theorem FR.left {E : Env} {t : Nat} {a : Act} (h : FR E t a) : ticksLeft a = 300 - t := by
  unfold ticksLeft
  rw [h.s12]
  show (300 - (t : Int)).toNat = 300 - t
  omega

/-- All the ticks. -/
theorem main_loop {E : Env} (hE : EnvOk E) {a : Act} {w : World} (h : FR E 0 a) (hS : St E (fun i => (wkAt E.ws i).start < 0) 0 w) {K : Act → World → Prop} {Q : Exit → Act → World → Prop}
    (hk : ∀ a' w', FR E 300 a' → Below E.w0.heap.size E.w0 w' → K a' w') : Code.wp Try.prog (Code.r (Code.l (Code.r c16))) (Exit.then K Q) a w := by
  rw [cK2_eq]
  refine wp_block (wp_loop (fun a w => ∃ t, t ≤ 300 ∧ FR E t a ∧ St E (fun i => (wkAt E.ws i).start < t) t w) (fun a _ => ticksLeft a) ⟨0, by omega, h, hS⟩ ?_)
  rintro a1 w1 ⟨t, ht, h1, hS1⟩
  by_cases e : t = 300
  · subst e
    obtain ⟨V, X, ps, s, k, own, at_, dn, hcore, _⟩ := hS1
    exact wp_cut cL2_eq (piece18n hE h1 (fun a2 h2 => hk _ _ h2 hcore.inp))
  · refine wp_cut cL2_eq (piece18s hE h1 (by omega) (fun a2 h2 => wp_seq (wp_block ?_)))
    refine wp_mono (tick hE (by omega) h2 hS1 (K3 := fun a w => ∃ t', t' = t + 1 ∧ FR E t a ∧ St E (fun i => (wkAt E.ws i).start < t + 1) (t + 1) w) (fun a3 w3 h3 hS3 => ⟨_, rfl, h3, hS3⟩)) ?_
    have fin : ∀ a3 w3, FR E t a3 → St E (fun i => (wkAt E.ws i).start < t + 1) (t + 1) w3 →
        Code.wp Try.prog (Code.r (Code.r cL2)) (Exit.then (fun a' w' => (∃ t, t ≤ 300 ∧ FR E t a' ∧ St E (fun i => (wkAt E.ws i).start < t) t w') ∧ ticksLeft a' < ticksLeft a1) (Exit.inBlock 2 (Exit.then K Q))) a3 w3 := by
      intro a3 w3 h3 hS3
      refine piece19 hE h3 (by omega) (fun a4 h4 => ⟨⟨t + 1, by omega, h4, hS3⟩, ?_⟩)
      rw [h4.left, h1.left]
      omega
    rintro ex a3 w3 hex
    cases ex with
    | normal =>
      obtain ⟨_, rfl, h3, hS3⟩ := hex
      exact fin _ _ h3 hS3
    | exit n =>
      obtain ⟨rfl, _, rfl, h3, hS3⟩ := hex
      show Exit.inBlock 3 _ _ _ _
      unfold Exit.inBlock
      simp only
      exact fin _ _ h3 hS3
    | goto l => exact hex.elim
    | ret => exact hex.elim
    | panic c => exact hex.elim
    | outgrown => exact hex.elim

end Go.Proofs.Ytoeakcfbnkndbaa

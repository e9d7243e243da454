import Derived.Test.YtoeakcfbnkndbaaZ3
namespace Go.Proofs.Ytoeakcfbnkndbaa
open Go.RowKit Go.Maps

set_option maxRecDepth 1000000 in
set_option maxHeartbeats 4000000 in
/-- One at most is raised above others. -/
theorem piece25 {E : Env} (hE : EnvOk E) {t : Nat} {a : Act} {w : World} (h : FR E t a) {K : Act → World → Prop} {Q : Exit → Act → World → Prop}
    (ho : Calls Try.prog 8 #[.pointer (some ⟨E.LA.L, 0, none⟩), .slice E.wa E.ws.length E.wc] w fun e w' => e = .returned (.bool true) ∧ Below w.heap.size w w')
    (hk : ∀ a' w', FR E t a' → Below w.heap.size w w' → K a' w') : Code.wp Try.prog (Code.l c25) (Exit.then K Q) a w := by
  obtain ⟨b, off, hwa, hc⟩ := hE.wk
  obtain ⟨u, ha, hu⟩ := frame_open h.df h.sz
  have e0 := frame_at hu (by omega) h.s0
  have e1 := frame_at hu (by omega) h.s1
  have e7 := frame_at hu (by omega) h.s7
  have e9 := frame_at hu (by omega) h.s9
  have e11 := frame_at hu (by omega) h.s11
  have e12 := frame_at hu (by omega) h.s12
  clear h hu
  rw [hwa] at e1
  subst ha
  simp only [e0, e1, e7, e9, e11, e12]
  clear e0 e1 e7 e9 e11 e12
  rw [hwa] at ho
  have HO := Lib.hid ho
  clear ho
  have HC := Lib.hid hc
  clear hc
  have HK := Lib.hid hk
  clear hk
  have hn5 := hE.few
  conv => arg 2; whnf
  go_wp2_with (go_at_call 8; refine HO.out.mono ?_; rintro e w1 ⟨rfl, hb1⟩)
  exact HK.out _ _ ⟨rfl, rfl, rfl, by rw [hwa]; rfl, rfl, rfl, rfl, rfl⟩ hb1

set_option maxRecDepth 1000000 in
set_option maxHeartbeats 4000000 in
/-- Who is the first. -/
theorem piece27 {E : Env} (hE : EnvOk E) {t : Nat} {a : Act} {w : World} (h : FR E t a) {K : Act → World → Prop} {Q : Exit → Act → World → Prop} {x : Int} {is : Bool}
    (ho : Calls Try.prog 9 #[.pointer (some ⟨E.A.D, 0, none⟩)] w fun e w' => e = .returned (.tuple #[.int .i64 x, .bool is]) ∧ Below w.heap.size w w')
    (hk : ∀ a' w', FR E t a' → a'.tmps[14]? = some (.int .i64 x) → a'.tmps[15]? = some (.bool is) → Below w.heap.size w w' → K a' w') : Code.wp Try.prog (Code.l c27) (Exit.then K Q) a w := by
  obtain ⟨b, off, hwa, hc⟩ := hE.wk
  obtain ⟨u, ha, hu⟩ := frame_open h.df h.sz
  have e0 := frame_at hu (by omega) h.s0
  have e1 := frame_at hu (by omega) h.s1
  have e7 := frame_at hu (by omega) h.s7
  have e9 := frame_at hu (by omega) h.s9
  have e11 := frame_at hu (by omega) h.s11
  have e12 := frame_at hu (by omega) h.s12
  clear h hu
  rw [hwa] at e1
  subst ha
  simp only [e0, e1, e7, e9, e11, e12]
  clear e0 e1 e7 e9 e11 e12
  have HC := Lib.hid hc
  clear hc
  have HK := Lib.hid hk
  clear hk
  have HO := Lib.hid ho
  clear ho
  have hn5 := hE.few
  conv => arg 2; whnf
  go_wp2_with (go_at_call 9; refine HO.out.mono ?_; rintro e w1 ⟨rfl, hb1⟩)
  exact HK.out _ _ ⟨rfl, rfl, rfl, by rw [hwa]; rfl, rfl, rfl, rfl, rfl⟩ rfl rfl hb1

set_option maxRecDepth 1000000 in
set_option maxHeartbeats 4000000 in
/-- Nobody is ready. -/
theorem piece28n {E : Env} (hE : EnvOk E) {t : Nat} {a : Act} {w : World} (h : FR E t a) {K : Act → World → Prop} {Q : Exit → Act → World → Prop} (h15 : a.tmps[15]? = some (.bool false))
    (hq : ∀ a', FR E t a' → Q (.exit 3) a' w) : Code.wp Try.prog (Code.l c28) (Exit.then K Q) a w := by
  obtain ⟨b, off, hwa, hc⟩ := hE.wk
  obtain ⟨u, ha, hu⟩ := frame_open h.df h.sz
  have e0 := frame_at hu (by omega) h.s0
  have e1 := frame_at hu (by omega) h.s1
  have e7 := frame_at hu (by omega) h.s7
  have e9 := frame_at hu (by omega) h.s9
  have e11 := frame_at hu (by omega) h.s11
  have e12 := frame_at hu (by omega) h.s12
  have e15 := frame_at hu (by omega) h15
  clear h hu h15
  rw [hwa] at e1
  subst ha
  simp only [e0, e1, e7, e9, e11, e12, e15]
  clear e0 e1 e7 e9 e11 e12 e15
  have HC := Lib.hid hc
  clear hc
  have HQ := Lib.hid hq
  clear hq
  have hn5 := hE.few
  conv => arg 2; whnf
  go_wp2
  exact HQ.out _ ⟨rfl, rfl, rfl, by rw [hwa]; rfl, rfl, rfl, rfl, rfl⟩

set_option maxRecDepth 1000000 in
set_option maxHeartbeats 4000000 in
/-- Somebody is. -/
theorem piece28s {E : Env} (hE : EnvOk E) {t : Nat} {a : Act} {w : World} (h : FR E t a) {K : Act → World → Prop} {Q : Exit → Act → World → Prop} {x : Int} (h14 : a.tmps[14]? = some (.int .i64 x)) (h15 : a.tmps[15]? = some (.bool true))
    (hk : ∀ a', FR E t a' → a'.tmps[14]? = some (.int .i64 x) → K a' w) : Code.wp Try.prog (Code.l c28) (Exit.then K Q) a w := by
  obtain ⟨b, off, hwa, hc⟩ := hE.wk
  obtain ⟨u, ha, hu⟩ := frame_open h.df h.sz
  have e0 := frame_at hu (by omega) h.s0
  have e1 := frame_at hu (by omega) h.s1
  have e7 := frame_at hu (by omega) h.s7
  have e9 := frame_at hu (by omega) h.s9
  have e11 := frame_at hu (by omega) h.s11
  have e12 := frame_at hu (by omega) h.s12
  have e14 := frame_at hu (by omega) h14
  have e15 := frame_at hu (by omega) h15
  clear h hu h14 h15
  rw [hwa] at e1
  subst ha
  simp only [e0, e1, e7, e9, e11, e12, e14, e15]
  clear e0 e1 e7 e9 e11 e12 e14 e15
  have HC := Lib.hid hc
  clear hc
  have HK := Lib.hid hk
  clear hk
  have hn5 := hE.few
  conv => arg 2; whnf
  go_wp2
  exact HK.out _ ⟨rfl, rfl, rfl, by rw [hwa]; rfl, rfl, rfl, rfl, rfl⟩ rfl

set_option maxRecDepth 1000000 in
set_option maxHeartbeats 4000000 in
/-- It is one of the workers, and not done. -/
theorem piece29 {E : Env} (hE : EnvOk E) {t : Nat} {a : Act} {w : World} (h : FR E t a) {K : Act → World → Prop} {Q : Exit → Act → World → Prop} {i : Nat} (hi : i < E.ws.length) (h14 : a.tmps[14]? = some (.int .i64 i)) (hd : w.cell? ⟨E.wb, i * 3 + 2, none⟩ = some (.bool false))
    (hk : ∀ a', FR E t a' → a'.tmps[14]? = some (.int .i64 i) → K a' w) : Code.wp Try.prog (Code.l c29) (Exit.then K Q) a w := by
  have b1 : decide ((i : Int) < 0) = false := by simp
  have b2 : decide (E.ws.length ≤ i) = false := by simp; omega
  have b3 : (i : Int) < (E.ws.length : Int) := by omega
  obtain ⟨b, off, hwa, hc⟩ := hE.wk
  obtain ⟨u, ha, hu⟩ := frame_open h.df h.sz
  have e0 := frame_at hu (by omega) h.s0
  have e1 := frame_at hu (by omega) h.s1
  have e7 := frame_at hu (by omega) h.s7
  have e9 := frame_at hu (by omega) h.s9
  have e11 := frame_at hu (by omega) h.s11
  have e12 := frame_at hu (by omega) h.s12
  have e14 := frame_at hu (by omega) h14
  clear h hu h14
  rw [hwa] at e1
  subst ha
  simp only [e0, e1, e7, e9, e11, e12, e14]
  clear e0 e1 e7 e9 e11 e12 e14
  have HC := Lib.hid hc
  clear hc
  have HK := Lib.hid hk
  clear hk
  have hn5 := hE.few
  conv => arg 2; whnf
  go_wp2
  exact HK.out _ ⟨rfl, rfl, rfl, by rw [hwa]; rfl, rfl, rfl, rfl, rfl⟩ rfl

set_option maxRecDepth 1000000 in
set_option maxHeartbeats 4000000 in
/-- It has something to do yet. -/
theorem piece31 {E : Env} (hE : EnvOk E) {t : Nat} {a : Act} {w : World} (h : FR E t a) {K : Act → World → Prop} {Q : Exit → Act → World → Prop} {i : Nat} (hi : i < E.ws.length) (h14 : a.tmps[14]? = some (.int .i64 i)) (hin : Below E.w0.heap.size E.w0 w) {at_ : Nat}
    (hat : w.cell? ⟨E.wb, i * 3, none⟩ = some (.int .i64 at_)) (hlt : at_ < (wkAt E.ws i).does.length)
    (hk : ∀ a' w', FR E t a' → a'.tmps[14]? = some (.int .i64 i) → Below w.heap.size w w' → K a' w') : Code.wp Try.prog (Code.l c31) (Exit.then K Q) a w := by
  have b3 : (i : Int) < (E.ws.length : Int) := by omega
  obtain ⟨b, off, hwa, hc⟩ := hE.wk
  obtain ⟨u, ha, hu⟩ := frame_open h.df h.sz
  have e0 := frame_at hu (by omega) h.s0
  have e1 := frame_at hu (by omega) h.s1
  have e7 := frame_at hu (by omega) h.s7
  have e9 := frame_at hu (by omega) h.s9
  have e11 := frame_at hu (by omega) h.s11
  have e12 := frame_at hu (by omega) h.s12
  have e14 := frame_at hu (by omega) h14
  clear h hu h14
  rw [hwa] at e1
  subst ha
  simp only [e0, e1, e7, e9, e11, e12, e14]
  clear e0 e1 e7 e9 e11 e12 e14
  have HC := Lib.hid hc
  clear hc
  have HK := Lib.hid hk
  clear hk
  have hn5 := hE.few
  conv => arg 2; whnf
  obtain ⟨_, _, da, dc, c2, _⟩ := HC.out w hin i hi
  have HIN := Lib.hid hin
  clear hin
  have b4 : decide ((wkAt E.ws i).does.length ≤ at_) = false := by simp; omega
  generalize (wkAt E.ws i).does.length = m at *
  go_wp2_with fail
  go_quiet (fail)
  go_wp2
  exact HK.out _ _ ⟨rfl, rfl, rfl, by rw [hwa]; rfl, rfl, rfl, rfl, rfl⟩ rfl (Upd.toBelow (upd_drewN _ _ _))

end Go.Proofs.Ytoeakcfbnkndbaa

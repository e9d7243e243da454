import Derived.Test.YtoeakcfbnkndbaaZ7
namespace Go.Proofs.Ytoeakcfbnkndbaa
open Go.RowKit Go.Maps

set_option maxRecDepth 1000000 in
set_option maxHeartbeats 4000000 in
/-- What it does next. -/
theorem piece38 {E : Env} (hE : EnvOk E) {t : Nat} {a : Act} {w : World} (h : FR E t a) {K : Act → World → Prop} {Q : Exit → Act → World → Prop} {i : Nat} (hi : i < E.ws.length) (h14 : a.tmps[14]? = some (.int .i64 i)) (hin : Below E.w0.heap.size E.w0 w) {at_ : Nat}
    (hat : w.cell? ⟨E.wb, i * 3, none⟩ = some (.int .i64 at_)) (hlt : at_ < (wkAt E.ws i).does.length)
    (hk : ∀ a' w', FR E t a' → a'.tmps[14]? = some (.int .i64 i) → a'.tmps[16]? = some (.int .i64 ((wkAt E.ws i).does.getD at_ 0 : Nat)) → Below w.heap.size w w' → K a' w') : Code.wp Try.prog (Code.l c38) (Exit.then K Q) a w := by
  have b3 : (i : Int) < (E.ws.length : Int) := by omega
  obtain ⟨b, off, hwa, hc⟩ := hE.wk
  obtain ⟨u, ha, hu⟩ := frame_open h.df h.sz
  have e0 := frame_at hu (by omega) h.s0
  have e1 := frame_at hu (by omega) h.s1
  have e7 := frame_at hu (by omega) h.s7
  have e9 := frame_at hu (by omega) h.s9
  have e11 := frame_at hu (by omega) h.s11
  have e12 := frame_at hu (by omega) h.s12
  have e14 := frame_at hu (by omega) h14
  clear h hu h14
  rw [hwa] at e1
  subst ha
  simp only [e0, e1, e7, e9, e11, e12, e14]
  clear e0 e1 e7 e9 e11 e12 e14
  have HC := Lib.hid hc
  clear hc
  have HK := Lib.hid hk
  clear hk
  have hn5 := hE.few
  conv => arg 2; whnf
  obtain ⟨_, _, da, dc, c2, hds⟩ := HC.out w hin i hi
  have HIN := Lib.hid hin
  clear hin
  have b4 : (at_ : Int) < ((wkAt E.ws i).does.length : Int) := by omega
  obtain ⟨db, doff, rfl, hdc⟩ := hds.resolve_left (fun e => by rw [e] at hlt; simp at hlt)
  have c3 := hdc at_ hlt
  have hby := hE.byte i at_
  clear hdc hlt
  generalize (wkAt E.ws i).does.getD at_ 0 = bb at *
  have hwr : IntKind.i64.wrap (bb : Int) = (bb : Int) := by rw [IntKind.wrap_i64]; omega
  generalize (wkAt E.ws i).does.length = m at *
  go_wp2_with fail
  go_quiet (fail)
  go_wp2
  exact HK.out _ _ ⟨rfl, rfl, rfl, by rw [hwa]; rfl, rfl, rfl, rfl, rfl⟩ rfl rfl (Upd.toBelow (upd_drewN _ _ _))

set_option maxRecDepth 1000000 in
set_option maxHeartbeats 4000000 in
/-- It is done. -/
theorem piece39 {E : Env} (hE : EnvOk E) {t : Nat} {a : Act} {w : World} (h : FR E t a) {K : Act → World → Prop} {Q : Exit → Act → World → Prop} {i bb : Nat} (hi : i < E.ws.length) (h14 : a.tmps[14]? = some (.int .i64 i)) (h16 : a.tmps[16]? = some (.int .i64 bb)) {at_ : Nat}
    (hat : w.cell? ⟨E.wb, i * 3, none⟩ = some (.int .i64 at_)) (hf : w.frozen? ⟨E.wb, i * 3, none⟩ = false) (hlt : at_ < 1000)
    (hk : ∀ a', FR E t a' → a'.tmps[14]? = some (.int .i64 i) → a'.tmps[16]? = some (.int .i64 bb) → K a' (w.setCell ⟨E.wb, i * 3, none⟩ (.int .i64 ((at_ + 1 : Nat) : Int)))) : Code.wp Try.prog (Code.l c39) (Exit.then K Q) a w := by
  have b3 : (i : Int) < (E.ws.length : Int) := by omega
  have hwr : IntKind.i64.wrap ((at_ : Int) + 1) = (at_ : Int) + 1 := by rw [IntKind.wrap_i64]; omega
  obtain ⟨b, off, hwa, hc⟩ := hE.wk
  obtain ⟨u, ha, hu⟩ := frame_open h.df h.sz
  have e0 := frame_at hu (by omega) h.s0
  have e1 := frame_at hu (by omega) h.s1
  have e7 := frame_at hu (by omega) h.s7
  have e9 := frame_at hu (by omega) h.s9
  have e11 := frame_at hu (by omega) h.s11
  have e12 := frame_at hu (by omega) h.s12
  have e14 := frame_at hu (by omega) h14
  have e16 := frame_at hu (by omega) h16
  clear h hu h14 h16
  rw [hwa] at e1
  subst ha
  simp only [e0, e1, e7, e9, e11, e12, e14, e16]
  clear e0 e1 e7 e9 e11 e12 e14 e16
  have HC := Lib.hid hc
  clear hc
  have HK := Lib.hid hk
  clear hk
  have hn5 := hE.few
  conv => arg 2; whnf
  go_wp2
  exact HK.out _ ⟨rfl, rfl, rfl, by rw [hwa]; rfl, rfl, rfl, rfl, rfl⟩ rfl rfl

set_option maxRecDepth 1000000 in
set_option maxHeartbeats 4000000 in
/-- It works. -/
theorem piece40w {E : Env} (hE : EnvOk E) {t : Nat} {a : Act} {w : World} (h : FR E t a) {K : Act → World → Prop} {Q : Exit → Act → World → Prop} {bb : Nat} (h16 : a.tmps[16]? = some (.int .i64 bb)) (hlt : bb < 128)
    (hq : ∀ a', FR E t a' → Q (.exit 3) a' w) : Code.wp Try.prog (Code.l c40) (Exit.then K Q) a w := by
  have b3 : (bb : Int) < 128 := by omega
  obtain ⟨b, off, hwa, hc⟩ := hE.wk
  obtain ⟨u, ha, hu⟩ := frame_open h.df h.sz
  have e0 := frame_at hu (by omega) h.s0
  have e1 := frame_at hu (by omega) h.s1
  have e7 := frame_at hu (by omega) h.s7
  have e9 := frame_at hu (by omega) h.s9
  have e11 := frame_at hu (by omega) h.s11
  have e12 := frame_at hu (by omega) h.s12
  have e16 := frame_at hu (by omega) h16
  clear h hu h16
  rw [hwa] at e1
  subst ha
  simp only [e0, e1, e7, e9, e11, e12, e16]
  clear e0 e1 e7 e9 e11 e12 e16
  have HC := Lib.hid hc
  clear hc
  have HQ := Lib.hid hq
  clear hq
  have hn5 := hE.few
  conv => arg 2; whnf
  go_wp2
  exact HQ.out _ ⟨rfl, rfl, rfl, by rw [hwa]; rfl, rfl, rfl, rfl, rfl⟩

set_option maxRecDepth 1000000 in
set_option maxHeartbeats 4000000 in
/-- It asks for a lock or gives one back. -/
theorem piece40l {E : Env} (hE : EnvOk E) {t : Nat} {a : Act} {w : World} (h : FR E t a) {K : Act → World → Prop} {Q : Exit → Act → World → Prop} {i bb : Nat} (h14 : a.tmps[14]? = some (.int .i64 i)) (h16 : a.tmps[16]? = some (.int .i64 bb)) (hge : 128 ≤ bb)
    (hk : ∀ a', FR E t a' → a'.tmps[14]? = some (.int .i64 i) → a'.tmps[16]? = some (.int .i64 bb) → K a' w) : Code.wp Try.prog (Code.l c40) (Exit.then K Q) a w := by
  have b3 : ¬ (bb : Int) < 128 := by omega
  obtain ⟨b, off, hwa, hc⟩ := hE.wk
  obtain ⟨u, ha, hu⟩ := frame_open h.df h.sz
  have e0 := frame_at hu (by omega) h.s0
  have e1 := frame_at hu (by omega) h.s1
  have e7 := frame_at hu (by omega) h.s7
  have e9 := frame_at hu (by omega) h.s9
  have e11 := frame_at hu (by omega) h.s11
  have e12 := frame_at hu (by omega) h.s12
  have e14 := frame_at hu (by omega) h14
  have e16 := frame_at hu (by omega) h16
  clear h hu h14 h16
  rw [hwa] at e1
  subst ha
  simp only [e0, e1, e7, e9, e11, e12, e14, e16]
  clear e0 e1 e7 e9 e11 e12 e14 e16
  have HC := Lib.hid hc
  clear hc
  have HK := Lib.hid hk
  clear hk
  have hn5 := hE.few
  conv => arg 2; whnf
  go_wp2
  exact HK.out _ ⟨rfl, rfl, rfl, by rw [hwa]; rfl, rfl, rfl, rfl, rfl⟩ rfl rfl

set_option maxRecDepth 1000000 in
set_option maxHeartbeats 4000000 in
/-- It gives none back. -/
theorem piece41n {E : Env} (hE : EnvOk E) {t : Nat} {a : Act} {w : World} (h : FR E t a) {K : Act → World → Prop} {Q : Exit → Act → World → Prop} {i bb m : Nat} (hi : i < E.ws.length) (h14 : a.tmps[14]? = some (.int .i64 i)) (h16 : a.tmps[16]? = some (.int .i64 bb)) (hbb : bb < 256) {ha_ : Option Addr} {hc_ : Nat}
    (hcell : w.cell? ⟨E.wb, i * 3 + 1, none⟩ = some (.slice ha_ m hc_)) (hno : bb % 2 ≠ 0 ∨ m = 0)
    (hk : ∀ a', FR E t a' → a'.tmps[14]? = some (.int .i64 i) → a'.tmps[16]? = some (.int .i64 bb) → K a' w) : Code.wp Try.prog (Code.l c41) (Exit.then K Q) a w := by
  have b3 : (i : Int) < (E.ws.length : Int) := by omega
  obtain ⟨b, off, hwa, hc⟩ := hE.wk
  obtain ⟨u, ha, hu⟩ := frame_open h.df h.sz
  have e0 := frame_at hu (by omega) h.s0
  have e1 := frame_at hu (by omega) h.s1
  have e7 := frame_at hu (by omega) h.s7
  have e9 := frame_at hu (by omega) h.s9
  have e11 := frame_at hu (by omega) h.s11
  have e12 := frame_at hu (by omega) h.s12
  have e14 := frame_at hu (by omega) h14
  have e16 := frame_at hu (by omega) h16
  clear h hu h14 h16
  rw [hwa] at e1
  subst ha
  simp only [e0, e1, e7, e9, e11, e12, e14, e16]
  clear e0 e1 e7 e9 e11 e12 e14 e16
  have HC := Lib.hid hc
  clear hc
  have HK := Lib.hid hk
  clear hk
  have hn5 := hE.few
  conv => arg 2; whnf
  by_cases he : bb % 2 = 0
  · have b4 : ((bb : Int) % 2 == 0) = true := by simp; omega
    have hm : m = 0 := hno.resolve_left (fun h => h he)
    subst hm
    clear he hno
    go_wp2
    exact HK.out _ ⟨rfl, rfl, rfl, by rw [hwa]; rfl, rfl, rfl, rfl, rfl⟩ rfl rfl
  · have b4 : ((bb : Int) % 2 == 0) = false := by simp; omega
    clear he hno
    go_wp2
    exact HK.out _ ⟨rfl, rfl, rfl, by rw [hwa]; rfl, rfl, rfl, rfl, rfl⟩ rfl rfl

end Go.Proofs.Ytoeakcfbnkndbaa

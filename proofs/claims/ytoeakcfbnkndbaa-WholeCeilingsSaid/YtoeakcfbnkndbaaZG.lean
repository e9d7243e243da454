import Derived.Test.YtoeakcfbnkndbaaZF
namespace Go.Proofs.Ytoeakcfbnkndbaa
open Go.RowKit Go.Maps

/-- The frame ahead of the loop. -/
structure F0 (v0 v1 : Value) (a : Act) : Prop where
  df : a.defers = []
  sz : a.tmps.size = 306
  s0 : a.tmps[0]? = some v0
  s1 : a.tmps[1]? = some v1

noncomputable def c10 : Code := Code.r c3
noncomputable def c11 : Code := Code.r c10
noncomputable def c12 : Code := Code.r c11
noncomputable def c14 : Code := Code.r c12
theorem c10_eq : c10 = .seq (Code.l c10) c11 := by kernel_rfl
theorem c11_eq : c11 = .seq (Code.l c11) c12 := by kernel_rfl
theorem c12_eq : c12 = .seq (Code.l c12) c14 := by kernel_rfl
theorem c14_eq : c14 = .seq (Code.l c14) c16 := by kernel_rfl
theorem c16_eq : c16 = .seq (Code.l c16) (.seq (.seq (Code.l (Code.l (Code.r c16))) (Code.r (Code.l (Code.r c16)))) (Code.r (Code.r c16))) := by kernel_rfl

set_option maxRecDepth 1000000 in
set_option maxHeartbeats 4000000 in
theorem piece10 {v0 v1 : Value} {a : Act} {w : World} (h : F0 v0 v1 a) {v5 : Value} (h5 : a.tmps[5]? = some v5) {P : Value → Int → World → Prop} {K : Act → World → Prop} {Q : Exit → Act → World → Prop}
    (ho : Calls Try.prog 5 #[v0] w fun e w' => ∃ lv er, e = .returned (.tuple #[lv, .int .i64 er]) ∧ P lv er w')
    (hk : ∀ lv er a' w', F0 v0 v1 a' → a'.tmps[5]? = some v5 → a'.tmps[7]? = some lv → a'.tmps[8]? = some (.int .i64 er) → P lv er w' → K a' w') : Code.wp Try.prog (Code.l c10) (Exit.then K Q) a w := by
  obtain ⟨u, ha, hu⟩ := frame_open h.df h.sz
  have e0 := frame_at hu (by omega) h.s0
  have e1 := frame_at hu (by omega) h.s1
  have e5 := frame_at hu (by omega) h5
  clear h hu h5
  subst ha
  simp only [e0, e1, e5]
  clear e0 e1 e5
  have HO := Lib.hid ho
  clear ho
  have HK := Lib.hid hk
  clear hk
  conv => arg 2; whnf
  go_wp2_with (go_at_call 5; refine HO.out.mono ?_; rintro e w1 ⟨lv, er, rfl, hp⟩)
  exact HK.out _ _ _ _ ⟨rfl, rfl, rfl, rfl⟩ rfl rfl rfl hp

set_option maxRecDepth 1000000 in
set_option maxHeartbeats 4000000 in
theorem piece11 {v0 v1 : Value} {a : Act} {w : World} (h : F0 v0 v1 a) {v5 lv : Value} {er : Int} (h5 : a.tmps[5]? = some v5) (h7 : a.tmps[7]? = some lv) (h8 : a.tmps[8]? = some (.int .i64 er)) {P : Value → Int → World → Prop} {K : Act → World → Prop} {Q : Exit → Act → World → Prop}
    (ho : Calls Try.prog 6 #[v5] w fun e w' => ∃ dv fr, e = .returned (.tuple #[dv, .int .i64 fr]) ∧ P dv fr w')
    (hk : ∀ dv fr a' w', F0 v0 v1 a' → a'.tmps[7]? = some lv → a'.tmps[8]? = some (.int .i64 er) → a'.tmps[9]? = some dv → a'.tmps[10]? = some (.int .i64 fr) → P dv fr w' → K a' w') : Code.wp Try.prog (Code.l c11) (Exit.then K Q) a w := by
  obtain ⟨u, ha, hu⟩ := frame_open h.df h.sz
  have e0 := frame_at hu (by omega) h.s0
  have e1 := frame_at hu (by omega) h.s1
  have e5 := frame_at hu (by omega) h5
  have e7 := frame_at hu (by omega) h7
  have e8 := frame_at hu (by omega) h8
  clear h hu h5 h7 h8
  subst ha
  simp only [e0, e1, e5, e7, e8]
  clear e0 e1 e5 e7 e8
  have HO := Lib.hid ho
  clear ho
  have HK := Lib.hid hk
  clear hk
  conv => arg 2; whnf
  go_wp2_with (go_at_call 6; refine HO.out.mono ?_; rintro e w1 ⟨dv, fr, rfl, hp⟩)
  exact HK.out _ _ _ _ ⟨rfl, rfl, rfl, rfl⟩ rfl rfl rfl rfl hp

set_option maxRecDepth 1000000 in
set_option maxHeartbeats 4000000 in
/-- One of the two has refused. -/
theorem piece12b {v0 v1 : Value} {a : Act} {w : World} (h : F0 v0 v1 a) {w0 : World} {er fr : Int} (h8 : a.tmps[8]? = some (.int .i64 er)) (h10 : a.tmps[10]? = some (.int .i64 fr)) (hb : Below w0.heap.size w0 w) (hbad : er = 2 ∨ (er = 0 ∧ fr = 2)) {K : Act → World → Prop} :
    Code.wp Try.prog (Code.l c12) (Exit.then K (bodyPost Try.prog Try.f3 (Yes w0))) a w := by
  obtain ⟨u, ha, hu⟩ := frame_open h.df h.sz
  have e0 := frame_at hu (by omega) h.s0
  have e1 := frame_at hu (by omega) h.s1
  have e8 := frame_at hu (by omega) h8
  have e10 := frame_at hu (by omega) h10
  clear h hu h8 h10
  subst ha
  simp only [e0, e1, e8, e10]
  clear e0 e1 e8 e10
  have HB := Lib.hid hb
  clear hb
  conv => arg 2; whnf
  rcases hbad with rfl | ⟨rfl, rfl⟩
  · go_wp2_with (go_at_call 4; refine (awake_any _).mono ?_; rintro e w1 ⟨rfl, hb1⟩)
    go_ret
    exact ⟨rfl, below_two HB.out hb1⟩
  · go_wp2_with (go_at_call 4; refine (awake_any _).mono ?_; rintro e w1 ⟨rfl, hb1⟩)
    go_ret
    exact ⟨rfl, below_two HB.out hb1⟩

set_option maxRecDepth 1000000 in
set_option maxHeartbeats 4000000 in
theorem piece12g {v0 v1 : Value} {a : Act} {w : World} (h : F0 v0 v1 a) {lv dv : Value} (h7 : a.tmps[7]? = some lv) (h8 : a.tmps[8]? = some (.int .i64 0)) (h9 : a.tmps[9]? = some dv) (h10 : a.tmps[10]? = some (.int .i64 0)) {K : Act → World → Prop} {Q : Exit → Act → World → Prop}
    (hk : ∀ a', F0 v0 v1 a' → a'.tmps[7]? = some lv → a'.tmps[9]? = some dv → K a' w) : Code.wp Try.prog (Code.l c12) (Exit.then K Q) a w := by
  obtain ⟨u, ha, hu⟩ := frame_open h.df h.sz
  have e0 := frame_at hu (by omega) h.s0
  have e1 := frame_at hu (by omega) h.s1
  have e7 := frame_at hu (by omega) h7
  have e8 := frame_at hu (by omega) h8
  have e9 := frame_at hu (by omega) h9
  have e10 := frame_at hu (by omega) h10
  clear h hu h7 h8 h9 h10
  subst ha
  simp only [e0, e1, e7, e8, e9, e10]
  clear e0 e1 e7 e8 e9 e10
  have HK := Lib.hid hk
  clear hk
  conv => arg 2; whnf
  go_wp2
  exact HK.out _ ⟨rfl, rfl, rfl, rfl⟩ rfl rfl

set_option maxRecDepth 1000000 in
set_option maxHeartbeats 4000000 in
theorem piece14 {v0 v1 : Value} {a : Act} {w : World} (h : F0 v0 v1 a) {lb db : Nat} (h7 : a.tmps[7]? = some (.pointer (some ⟨lb, 0, none⟩))) (h9 : a.tmps[9]? = some (.pointer (some ⟨db, 0, none⟩))) {K : Act → World → Prop} {Q : Exit → Act → World → Prop}
    (hk : ∀ a', F0 v0 v1 a' → a'.tmps[7]? = some (.pointer (some ⟨lb, 0, none⟩)) → a'.tmps[9]? = some (.pointer (some ⟨db, 0, none⟩)) → K a' w) : Code.wp Try.prog (Code.l c14) (Exit.then K Q) a w := by
  obtain ⟨u, ha, hu⟩ := frame_open h.df h.sz
  have e0 := frame_at hu (by omega) h.s0
  have e1 := frame_at hu (by omega) h.s1
  have e7 := frame_at hu (by omega) h7
  have e9 := frame_at hu (by omega) h9
  clear h hu h7 h9
  subst ha
  simp only [e0, e1, e7, e9]
  clear e0 e1 e7 e9
  have HK := Lib.hid hk
  clear hk
  conv => arg 2; whnf
  go_wp2
  exact HK.out _ ⟨rfl, rfl, rfl, rfl⟩ rfl rfl

set_option maxRecDepth 1000000 in
set_option maxHeartbeats 4000000 in
theorem piece16 {v0 : Value} {wa : Option Addr} {n wc : Nat} (hn : n ≤ 5) {a : Act} {w : World} (h : F0 v0 (.slice wa n wc) a) {lv dv : Value} (h7 : a.tmps[7]? = some lv) (h9 : a.tmps[9]? = some dv) {K : Act → World → Prop} {Q : Exit → Act → World → Prop}
    (hk : ∀ a', F0 v0 (.slice wa n wc) a' → a'.tmps[7]? = some lv → a'.tmps[9]? = some dv → a'.tmps[11]? = some (.slice (some ⟨w.heap.size, 0, none⟩) n n) → K a' (w.alloc (.cells (madeCells #[.int .i64 0, .slice none 0 0, .bool false] (n * 3)) 44))) : Code.wp Try.prog (Code.l c16) (Exit.then K Q) a w := by
  have hmk := make_workers n hn
  obtain ⟨u, ha, hu⟩ := frame_open h.df h.sz
  have e0 := frame_at hu (by omega) h.s0
  have e1 := frame_at hu (by omega) h.s1
  have e7 := frame_at hu (by omega) h7
  have e9 := frame_at hu (by omega) h9
  clear h hu h7 h9
  subst ha
  simp only [e0, e1, e7, e9]
  clear e0 e1 e7 e9
  have HK := Lib.hid hk
  clear hk
  conv => arg 2; whnf
  go_wp2
  exact HK.out _ ⟨rfl, rfl, rfl, rfl⟩ rfl rfl rfl

set_option maxRecDepth 1000000 in
set_option maxHeartbeats 4000000 in
theorem piece17 {v0 v1 : Value} {a : Act} {w : World} (h : F0 v0 v1 a) {lv dv wv : Value} (h7 : a.tmps[7]? = some lv) (h9 : a.tmps[9]? = some dv) (h11 : a.tmps[11]? = some wv) {K : Act → World → Prop} {Q : Exit → Act → World → Prop}
    (hk : ∀ a', F0 v0 v1 a' → a'.tmps[7]? = some lv → a'.tmps[9]? = some dv → a'.tmps[11]? = some wv → a'.tmps[12]? = some (.int .i64 0) → K a' w) : Code.wp Try.prog (Code.l (Code.l (Code.r c16))) (Exit.then K Q) a w := by
  obtain ⟨u, ha, hu⟩ := frame_open h.df h.sz
  have e0 := frame_at hu (by omega) h.s0
  have e1 := frame_at hu (by omega) h.s1
  have e7 := frame_at hu (by omega) h7
  have e9 := frame_at hu (by omega) h9
  have e11 := frame_at hu (by omega) h11
  clear h hu h7 h9 h11
  subst ha
  simp only [e0, e1, e7, e9, e11]
  clear e0 e1 e7 e9 e11
  have HK := Lib.hid hk
  clear hk
  conv => arg 2; whnf
  go_wp2
  exact HK.out _ ⟨rfl, rfl, rfl, rfl⟩ rfl rfl rfl rfl

end Go.Proofs.Ytoeakcfbnkndbaa

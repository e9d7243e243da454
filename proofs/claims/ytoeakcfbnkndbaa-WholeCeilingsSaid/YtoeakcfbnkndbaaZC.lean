import Derived.Test.YtoeakcfbnkndbaaZB
namespace Go.Proofs.Ytoeakcfbnkndbaa
open Go.RowKit Go.Maps

theorem EnvOk.ck {E : Env} (hE : EnvOk E) {l : Nat} (hl : l < E.cs.length) : ∃ cb coff, E.ca = some ⟨cb, coff, none⟩ ∧ ∀ w, Below E.w0.heap.size E.w0 w → w.cell? ⟨cb, coff + l, none⟩ = some (.int .i64 (E.cs.getD l 0)) := by
  obtain ⟨b, off, h1, h2⟩ := hE.ceil.resolve_left (fun e => by rw [e] at hl; simp at hl)
  refine ⟨b, off, h1, fun w hb => ?_⟩
  have h3 := h2 l hl
  have h4 := World.block_lt_of_cell? _ _ h3
  exact (hb.cell (p := ⟨b, off + l, none⟩) h4).trans h3

set_option maxRecDepth 1000000 in
set_option maxHeartbeats 4000000 in
/-- It may not have it. -/
theorem piece47r {E : Env} (hE : EnvOk E) {t : Nat} {a : Act} {w : World} (h : FR E t a) {K3 : Act → World → Prop} {i kk : Nat} (hi : i < E.ws.length) (hlc : kk < E.cs.length) (hin : Below E.w0.heap.size E.w0 w) (h14 : a.tmps[14]? = some (.int .i64 i)) (h17 : a.tmps[17]? = some (.int .i64 kk)) {g : Bool} (h18 : a.tmps[18]? = some (.bool g)) (h19 : a.tmps[19]? = some (.int .i64 11))
    (hlt : E.cs.getD kk 0 < (wkAt E.ws i).prio) (hq : ∀ a' w', FR E t a' → Below w.heap.size w w' → K3 a' w') : Code.wp Try.prog c47 (Qt K3) a w := by
  have b3 : (i : Int) < (E.ws.length : Int) := by omega
  have b4 : (kk : Int) < (E.cs.length : Int) := by omega
  obtain ⟨b, off, hwa, hc⟩ := hE.wk
  obtain ⟨u, ha, hu⟩ := frame_open h.df h.sz
  have e0 := frame_at hu (by omega) h.s0
  have e1 := frame_at hu (by omega) h.s1
  have e7 := frame_at hu (by omega) h.s7
  have e9 := frame_at hu (by omega) h.s9
  have e11 := frame_at hu (by omega) h.s11
  have e12 := frame_at hu (by omega) h.s12
  have e14 := frame_at hu (by omega) h14
  have e17 := frame_at hu (by omega) h17
  have e18 := frame_at hu (by omega) h18
  have e19 := frame_at hu (by omega) h19
  obtain ⟨cb, coff, hca, hcc⟩ := hE.ck hlc
  have q1 := hcc w hin
  clear hcc
  rw [hca] at e0
  clear h hu h14 h17 h18 h19
  rw [hwa] at e1
  subst ha
  simp only [e0, e1, e7, e9, e11, e12, e14, e17, e18, e19]
  clear e0 e1 e7 e9 e11 e12 e14 e17 e18 e19
  have HC := Lib.hid hc
  clear hc
  have HQ := Lib.hid hq
  clear hq
  have hn5 := hE.few
  conv => arg 2; whnf
  obtain ⟨c0, _, _⟩ := HC.out w hin i hi
  have HIN := Lib.hid hin
  clear hin
  have b5 : decide (E.cs.getD kk 0 < (wkAt E.ws i).prio) = true := by simp only [decide_eq_true_eq]; exact hlt
  generalize (wkAt E.ws i).prio = pp at *
  generalize E.cs.getD kk 0 = qq at *
  go_wp2_with fail
  go_quiet (fail)
  go_wp2
  exact HQ.out _ _ ⟨rfl, rfl, by rw [hca]; rfl, by rw [hwa]; rfl, rfl, rfl, rfl, rfl⟩ (Upd.toBelow (upd_drewN _ _ _))

set_option maxRecDepth 1000000 in
set_option maxHeartbeats 4000000 in
/-- It has it. -/
theorem piece47t {E : Env} (hE : EnvOk E) {t : Nat} {a : Act} {w : World} (h : FR E t a) {K3 : Act → World → Prop} {i kk : Nat} (hi : i < E.ws.length) (hlc : kk < E.cs.length) (hin : Below E.w0.heap.size E.w0 w) (h14 : a.tmps[14]? = some (.int .i64 i)) (h17 : a.tmps[17]? = some (.int .i64 kk)) {g : Bool} (h18 : a.tmps[18]? = some (.bool g)) (h19 : a.tmps[19]? = some (.int .i64 7)) {ha_ : Option Addr} {hc_ : Nat} {xs : List Int} (hcell : w.cell? ⟨E.wb, i * 3 + 1, none⟩ = some (.slice ha_ xs.length hc_)) (hints : Ints w ha_ xs) (hxs : xs.length ≤ 100)
    (hle : (wkAt E.ws i).prio ≤ E.cs.getD kk 0) (hm : (kk : Int) ∈ xs) (hq : ∀ a' w', FR E t a' → Below w.heap.size w w' → K3 a' w') : Code.wp Try.prog c47 (Qt K3) a w := by
  have b3 : (i : Int) < (E.ws.length : Int) := by omega
  have b4 : (kk : Int) < (E.cs.length : Int) := by omega
  have HH := Lib.hid (fun (w2 : World) (hb : Below w.heap.size w w2) => holds_any (c := hc_) (hints.below hb) (by omega) (kk : Int))
  have e1' : decide ((kk : Int) ∈ xs) = true := by simp [hm]
  rw [e1'] at HH
  clear e1' hints
  obtain ⟨b, off, hwa, hc⟩ := hE.wk
  obtain ⟨u, ha, hu⟩ := frame_open h.df h.sz
  have e0 := frame_at hu (by omega) h.s0
  have e1 := frame_at hu (by omega) h.s1
  have e7 := frame_at hu (by omega) h.s7
  have e9 := frame_at hu (by omega) h.s9
  have e11 := frame_at hu (by omega) h.s11
  have e12 := frame_at hu (by omega) h.s12
  have e14 := frame_at hu (by omega) h14
  have e17 := frame_at hu (by omega) h17
  have e18 := frame_at hu (by omega) h18
  have e19 := frame_at hu (by omega) h19
  obtain ⟨cb, coff, hca, hcc⟩ := hE.ck hlc
  have q1 := hcc w hin
  clear hcc
  rw [hca] at e0
  clear h hu h14 h17 h18 h19
  rw [hwa] at e1
  subst ha
  simp only [e0, e1, e7, e9, e11, e12, e14, e17, e18, e19]
  clear e0 e1 e7 e9 e11 e12 e14 e17 e18 e19
  have HC := Lib.hid hc
  clear hc
  have HQ := Lib.hid hq
  clear hq
  have hn5 := hE.few
  conv => arg 2; whnf
  obtain ⟨c0, _, _⟩ := HC.out w hin i hi
  have HIN := Lib.hid hin
  clear hin hm
  have b5 : decide (E.cs.getD kk 0 < (wkAt E.ws i).prio) = false := by simp only [decide_eq_false_iff_not]; omega
  generalize (wkAt E.ws i).prio = pp at *
  generalize E.cs.getD kk 0 = qq at *
  go_wp2_with fail
  go_quiet (fail)
  go_wp2_with (go_at_call 14; refine (HH.out _ (Upd.toBelow (upd_drewN _ _ _))).mono ?_; rintro e w2 ⟨rfl, rfl⟩)
  exact HQ.out _ _ ⟨rfl, rfl, by rw [hca]; rfl, by rw [hwa]; rfl, rfl, rfl, rfl, rfl⟩ (Upd.toBelow (upd_drewN _ _ _))

set_option maxRecDepth 1000000 in
set_option maxHeartbeats 4000000 in
/-- It is free: it takes it. -/
theorem piece47f {E : Env} (hE : EnvOk E) {t : Nat} {a : Act} {w : World} (h : FR E t a) {K3 : Act → World → Prop} {V : Nat → Value} {X : Nat → List Int} {ps : Nat → PC} {s k : Nat} {own : Nat → Option Int} {at_ : Nat → Nat} {dn : Nat → Bool} {bg : Nat → Prop} (hlaw : TickLaw E X ps own dn bg) {i kk p : Nat} (hi : i < E.ws.length) {r : List Int} (hp : p < 64) (hx : X p = (i : Int) :: r) (hno : ∀ q, p < q → q < 64 → X q = [])
    (hlc : kk < E.cs.length) (ho : own kk = none) (hcore : Core E w V X ps s (k + 1) (fset own kk (some (i : Int))) at_ dn) (hkt : k ≤ t) (h14 : a.tmps[14]? = some (.int .i64 i)) (h17 : a.tmps[17]? = some (.int .i64 kk)) (h18 : a.tmps[18]? = some (.bool true)) (h19 : a.tmps[19]? = some (.int .i64 0))
    (hle : (wkAt E.ws i).prio ≤ E.cs.getD kk 0) (hq : ∀ a' w', FR E t a' → St E bg (t + 1) w' → K3 a' w') : Code.wp Try.prog c47 (Qt K3) a w := by
  have b3 : (i : Int) < (E.ws.length : Int) := by omega
  have b4 : (kk : Int) < (E.cs.length : Int) := by omega
  have hin := hcore.inp
  have hxl := hlaw.law.hasLen hi
  have hcsl := hE.csl
  obtain ⟨ha_, hc_, hcell, hV, _, hints⟩ := hcore.hasAt hE hi
  have HH := Lib.hid (fun (w2 : World) (hb : Below w.heap.size w w2) => holds_any (c := hc_) (hints.below hb) (by omega) (kk : Int))
  have e1' : decide ((kk : Int) ∈ X (64 + i)) = false := by
    simp only [decide_eq_false_iff_not]
    intro hm
    obtain ⟨l, e, h2⟩ := (hlaw.law.hasS i hi _).1 hm
    have e : l = kk := by omega
    rw [e, ho] at h2
    cases h2
  rw [e1'] at HH
  have TR := Lib.hid (fun (w2 : World) (hb : Below w.heap.size w w2) => take_raise hE hlaw hi hp hx hno hlc ho (by rw [prOf_at]; exact hle) (hcore.below hb))
  have AP := Lib.hid (fun (w2 : World) (V2 : Nat → Value) (X2 : Nat → List Int) (ps2 : Nat → PC) (s2 : Nat) (h2 : Core E w2 V2 X2 ps2 s2 (k + 1) (fset own kk (some (i : Int))) at_ dn) (hX2 : X2 (64 + i) = X (64 + i)) => has_append hE h2 (l := kk) hi (by rw [hX2]; omega))
  have HWK := Lib.hid (fun (w2 : World) (V2 : Nat → Value) (X2 : Nat → List Int) (ps2 : Nat → PC) (s2 : Nat) (h2 : Core E w2 V2 X2 ps2 s2 (k + 1) (fset own kk (some (i : Int))) at_ dn) => h2.wrk.cell (wcells1 _ _ _ hi))
  clear e1' hints hlaw hcore hx hno
  obtain ⟨b, off, hwa, hc⟩ := hE.wk
  obtain ⟨u, ha, hu⟩ := frame_open h.df h.sz
  have e0 := frame_at hu (by omega) h.s0
  have e1 := frame_at hu (by omega) h.s1
  have e7 := frame_at hu (by omega) h.s7
  have e9 := frame_at hu (by omega) h.s9
  have e11 := frame_at hu (by omega) h.s11
  have e12 := frame_at hu (by omega) h.s12
  have e14 := frame_at hu (by omega) h14
  have e17 := frame_at hu (by omega) h17
  have e18 := frame_at hu (by omega) h18
  have e19 := frame_at hu (by omega) h19
  obtain ⟨cb, coff, hca, hcc⟩ := hE.ck hlc
  have q1 := hcc w hin
  clear hcc
  rw [hca] at e0
  clear h hu h14 h17 h18 h19
  rw [hwa] at e1
  subst ha
  simp only [e0, e1, e7, e9, e11, e12, e14, e17, e18, e19]
  clear e0 e1 e7 e9 e11 e12 e14 e17 e18 e19
  have HC := Lib.hid hc
  clear hc
  have HQ := Lib.hid hq
  clear hq
  have hn5 := hE.few
  conv => arg 2; whnf
  obtain ⟨c0, _, _⟩ := HC.out w hin i hi
  have HIN := Lib.hid hin
  clear hin
  have b5 : decide (E.cs.getD kk 0 < (wkAt E.ws i).prio) = false := by simp only [decide_eq_false_iff_not]; omega
  generalize (wkAt E.ws i).prio = pp at *
  generalize E.cs.getD kk 0 = qq at *
  have HV := Lib.hid hV
  clear hV
  go_wp2_with fail
  go_quiet (fail)
  go_wp2_with (first
    | (go_at_call 14; refine (HH.out _ (Upd.toBelow (upd_drewN _ _ _))).mono ?_; rintro e w2 ⟨rfl, rfl⟩)
    | (go_at_call 11; refine (TR.out _ (Upd.toBelow (upd_drewN _ _ _))).mono ?_; rintro e w2 ⟨rfl, V2, X2, ps2, s2, hc2, hv, htl⟩; have hcl2 := HWK.out _ _ _ _ _ hc2; obtain ⟨a3, c3, w3, hrun, hcl3, hfz3, V3, hc3⟩ := AP.out _ _ _ _ _ hc2 (hv (64 + i) (by omega)).1; rw [(hv (64 + i) (by omega)).2, HV.out] at hcl2 hrun hcl3; have HV2 := Lib.hid hv; have HC3 := Lib.hid hc3; have HTL := Lib.hid htl; clear hv hc3 htl hc2)
    | (at_builtin; refine Lib.wpList_append_run _ rfl _ _ _ _ rfl _ _ rfl rfl _ _ (hrun _) ?_))
  exact HQ.out _ _ ⟨rfl, rfl, by rw [hca]; rfl, by rw [hwa]; rfl, rfl, rfl, rfl, rfl⟩ ⟨_, _, _, _, _, _, _, _, HC3.out, HTL.out, by omega⟩

end Go.Proofs.Ytoeakcfbnkndbaa

import Derived.Test.YtoeakcfbnkndbaaZ7
namespace Go.Proofs.Ytoeakcfbnkndbaa
open Go.RowKit Go.Maps

set_option maxRecDepth 1000000 in
set_option maxHeartbeats 4000000 in
/-- One is given back. -/
theorem piece41g {E : Env} (hE : EnvOk E) {t : Nat} {a : Act} {w : World} (h : FR E t a) {K : Act → World → Prop} {K3 : Act → World → Prop} {V : Nat → Value} {X : Nat → List Int} {ps : Nat → PC} {s k : Nat} {own : Nat → Option Int} {at_ : Nat → Nat} {dn : Nat → Bool} {bg : Nat → Prop} (hcore : Core E w V X ps s k own at_ dn) (hlaw : TickLaw E X ps own dn bg) (hkt : k ≤ t) {i p : Nat} (hi : i < E.ws.length) {r : List Int} (hp : p < 64) (hx : X p = (i : Int) :: r) (hno : ∀ q, p < q → q < 64 → X q = []) (h14 : a.tmps[14]? = some (.int .i64 i))
    {bb : Nat} (h16 : a.tmps[16]? = some (.int .i64 bb)) (hbb : bb < 256) (hev : bb % 2 = 0) (hm : 0 < (X (64 + i)).length)
    (hq : ∀ a' w', FR E t a' → St E bg t w' → K3 a' w') : Code.wp Try.prog (Code.l c41) (Exit.then K (Qt K3)) a w := by
  have b3 : (i : Int) < (E.ws.length : Int) := by omega
  obtain ⟨ha_, hc_, hcell, _, _, _⟩ := hcore.hasAt hE hi
  have hml := hlaw.law.hasLen hi
  have hcsl := hE.csl
  have hk0 : bb / 2 % (X (64 + i)).length < (X (64 + i)).length := Nat.mod_lt _ hm
  obtain ⟨l, hlc, hxl, ho⟩ := hlaw.lockAt hi (k0 := bb / 2 % (X (64 + i)).length) hk0
  have GV : Hid (∀ w2, Below w.heap.size w w2 → _) := Lib.hid (fun w2 (hb : Below w.heap.size w w2) => give_ok hE (hcore.below hb) hlaw hi (k0 := bb / 2 % (X (64 + i)).length) hk0 hlc hxl ho)
  have GR := Lib.hid (fun (w1 : World) (V1 : Nat → Value) hc1 => give_raise hE (w1 := w1) (V1 := V1) (s1 := s) (t := t) (at_ := at_) hlaw hi hp hx hno (k0 := bb / 2 % (X (64 + i)).length) hk0 hxl ho hkt hc1)
  have e1' : ((bb / 2 % (X (64 + i)).length : Nat) : Int) = (bb : Int) / 2 % ((X (64 + i)).length : Int) := by rw [Int.natCast_emod, Int.natCast_ediv]; rfl
  rw [e1'] at GV
  obtain ⟨b, off, hwa, hc⟩ := hE.wk
  obtain ⟨u, ha, hu⟩ := frame_open h.df h.sz
  have e0 := frame_at hu (by omega) h.s0
  have e1 := frame_at hu (by omega) h.s1
  have e7 := frame_at hu (by omega) h.s7
  have e9 := frame_at hu (by omega) h.s9
  have e11 := frame_at hu (by omega) h.s11
  have e12 := frame_at hu (by omega) h.s12
  have e14 := frame_at hu (by omega) h14
  have e16 := frame_at hu (by omega) h16
  clear h hu h14 h16
  rw [hwa] at e1
  subst ha
  simp only [e0, e1, e7, e9, e11, e12, e14, e16]
  clear e0 e1 e7 e9 e11 e12 e14 e16
  have HC := Lib.hid hc
  clear hc
  have HQ := Lib.hid hq
  clear hq
  have hn5 := hE.few
  conv => arg 2; whnf
  have b5 : decide (0 < (X (64 + i)).length) = true := by simp [hm]
  have HCO := Lib.hid hcore
  have b6 : ((bb : Int) % 2 == 0) = true := by simp; omega
  have b7 : (((X (64 + i)).length : Int) == 0) = false := by rw [beq_eq_false_iff_ne]; omega
  have hmne : ¬ ((X (64 + i)).length : Int) = 0 := by omega
  clear hcore hlaw hx hno hxl ho hev
  generalize (X (64 + i)).length = m at *
  go_wp2_with fail
  go_region_with (first
    | (go_at_call 10; refine (GV.out _ (Upd.toBelow (by with_reducible (repeat (first | refine Upd.drew ?_ | exact upd_drewN _ _ _ | exact Upd.refl _ _))))).mono ?_; rintro e w3 ⟨rfl, V', hc3⟩)
    | (go_at_call 11; refine (GR.out _ _ hc3).mono ?_; rintro e w4 ⟨rfl, hst⟩))
  all_goals go_wp2
  all_goals exact ⟨rfl, HQ.out _ _ ⟨rfl, rfl, rfl, by rw [hwa]; rfl, rfl, rfl, rfl, rfl⟩ hst⟩

end Go.Proofs.Ytoeakcfbnkndbaa

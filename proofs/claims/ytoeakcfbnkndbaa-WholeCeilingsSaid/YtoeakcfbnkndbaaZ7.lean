import Derived.Test.YtoeakcfbnkndbaaZ4
import Derived.Test.YtoeakcfbnkndbaaZ6
namespace Go.Proofs.Ytoeakcfbnkndbaa
open Go.RowKit Go.Maps

/-- How a tick ends. -/
def Qt (K3 : Act → World → Prop) : Exit → Act → World → Prop
  | .normal, a, w => K3 a w
  | .exit n, a, w => n = 3 ∧ K3 a w
  | _, _, _ => False

set_option maxRecDepth 1000000 in
set_option maxHeartbeats 4000000 in
/-- All is given back, one by one. -/
theorem piece31g {E : Env} (hE : EnvOk E) {t : Nat} {a : Act} {w : World} (h : FR E t a) {K : Act → World → Prop} {K3 : Act → World → Prop} {V : Nat → Value} {X : Nat → List Int} {ps : Nat → PC} {s k : Nat} {own : Nat → Option Int} {at_ : Nat → Nat} {dn : Nat → Bool} {bg : Nat → Prop} (hcore : Core E w V X ps s k own at_ dn) (hlaw : TickLaw E X ps own dn bg) (hkt : k ≤ t) {i p : Nat} (hi : i < E.ws.length) {r : List Int} (hp : p < 64) (hx : X p = (i : Int) :: r) (hno : ∀ q, p < q → q < 64 → X q = []) (h14 : a.tmps[14]? = some (.int .i64 i))
    (hge : (wkAt E.ws i).does.length ≤ at_ i) (hm : 0 < (X (64 + i)).length)
    (hq : ∀ a' w', FR E t a' → St E bg t w' → K3 a' w') : Code.wp Try.prog (Code.l c31) (Exit.then K (Qt K3)) a w := by
  have b3 : (i : Int) < (E.ws.length : Int) := by omega
  obtain ⟨ha_, hc_, hcell, _, _, _⟩ := hcore.hasAt hE hi
  have hat := hcore.wrk.cell (wcells0 _ _ _ hi)
  have hml := hlaw.law.hasLen hi
  have hcsl := hE.csl
  obtain ⟨l, hlc, hxl, ho⟩ := hlaw.lockAt hi (k0 := (X (64 + i)).length - 1) (by omega)
  have GV : Hid (∀ w2, Below w.heap.size w w2 → _) := Lib.hid (fun w2 (hb : Below w.heap.size w w2) => give_ok hE (hcore.below hb) hlaw hi (k0 := (X (64 + i)).length - 1) (by omega) hlc hxl ho)
  have GR := Lib.hid (fun (w1 : World) (V1 : Nat → Value) hc1 => give_raise hE (w1 := w1) (V1 := V1) (s1 := s) (t := t) (at_ := at_) hlaw hi hp hx hno (k0 := (X (64 + i)).length - 1) (by omega) hxl ho hkt hc1)
  have e1' : (((X (64 + i)).length - 1 : Nat) : Int) = ((X (64 + i)).length : Int) - 1 := by omega
  rw [e1'] at GV
  obtain ⟨b, off, hwa, hc⟩ := hE.wk
  obtain ⟨u, ha, hu⟩ := frame_open h.df h.sz
  have e0 := frame_at hu (by omega) h.s0
  have e1 := frame_at hu (by omega) h.s1
  have e7 := frame_at hu (by omega) h.s7
  have e9 := frame_at hu (by omega) h.s9
  have e11 := frame_at hu (by omega) h.s11
  have e12 := frame_at hu (by omega) h.s12
  have e14 := frame_at hu (by omega) h14
  clear h hu h14
  rw [hwa] at e1
  subst ha
  simp only [e0, e1, e7, e9, e11, e12, e14]
  clear e0 e1 e7 e9 e11 e12 e14
  have HC := Lib.hid hc
  clear hc
  have HQ := Lib.hid hq
  clear hq
  have hn5 := hE.few
  conv => arg 2; whnf
  obtain ⟨_, _, da, dc, c2, _⟩ := HC.out w hcore.inp i hi
  have b4 : decide ((wkAt E.ws i).does.length ≤ at_ i) = true := by simp [hge]
  have b5 : decide (0 < (X (64 + i)).length) = true := by simp [hm]
  have HCO := Lib.hid hcore
  clear hcore hlaw hx hno hge hxl ho
  have hwr : IntKind.i64.wrap (((X (64 + i)).length : Int) - 1) = ((X (64 + i)).length : Int) - 1 := by rw [IntKind.wrap_i64]; omega
  generalize (wkAt E.ws i).does.length = dl at *
  go_wp2_with fail
  go_quiet (fail)
  go_wp2_with fail
  go_region_with (first
    | (go_at_call 10; refine (GV.out _ (Upd.toBelow (by with_reducible (repeat (first | refine Upd.drew ?_ | exact upd_drewN _ _ _ | exact Upd.refl _ _))))).mono ?_; rintro e w3 ⟨rfl, V', hc3⟩)
    | (go_at_call 11; refine (GR.out _ _ hc3).mono ?_; rintro e w4 ⟨rfl, hst⟩))
  all_goals go_wp2
  all_goals exact ⟨rfl, HQ.out _ _ ⟨rfl, rfl, rfl, by rw [hwa]; rfl, rfl, rfl, rfl, rfl⟩ hst⟩

end Go.Proofs.Ytoeakcfbnkndbaa

import Derived.Test.YtoeakcfbnkndbaaZ7
namespace Go.Proofs.Ytoeakcfbnkndbaa
open Go.RowKit Go.Maps

/-- One is done. -/
theorem St.ended {E : Env} (hE : EnvOk E) {t : Nat} {w w' : World} {V : Nat → Value} {X : Nat → List Int} {ps : Nat → PC} {s k : Nat} {own : Nat → Option Int} {at_ : Nat → Nat} {dn : Nat → Bool} {bg : Nat → Prop} {i p : Nat} (hcore : Core E w V X ps s k own at_ (fset dn i true)) (hlaw : TickLaw E X ps own dn bg) (hkt : k ≤ t) (hi : i < E.ws.length) {r : List Int} (hp : p < 64) (hx : X p = (i : Int) :: r) (hh : X (64 + i) = [])
    (hto : Dis.To w E.A V (xdrop X p i) (pset ps i ⟨(ps i).prio, 0, 0, 0, 0⟩) w') : St E bg t w' := by
  have hiX : (i : Int) ∈ X p := by rw [hx]; exact List.mem_cons_self ..
  have hsi : (ps i).state = 1 := by
    obtain ⟨j, e, _, hs, _⟩ := hlaw.law.mem p hp _ hiX
    have e : j = i := by omega
    rw [← e]; exact hs
  obtain ⟨V', s', hc', _⟩ := hcore.disTo hE hto
  refine ⟨V', _, _, s', k, own, at_, _, hc', ⟨(hlaw.law.done hi hp hx hh).congr (fun _ _ => rfl) (fun j _ => ?_), ?_, ?_⟩, hkt⟩
  · show xdrop X p i (64 + j) = _
    rw [xdrop_head hx, fset_other _ _ (by omega)]
  · intro j hj hs
    by_cases e : j = i
    · subst e; rw [pset_at] at hs; exact absurd (show (0 : Int) = 1 from hs) (by decide)
    · rw [pset_ne _ _ e] at hs
      rw [fset_other _ _ e]
      exact hlaw.alive j hj hs
  · intro j hj hs
    by_cases e : j = i
    · subst e; exact hlaw.begun j hj (Or.inl hsi)
    · rw [pset_ne _ _ e, fset_other _ _ e] at hs
      exact hlaw.begun j hj hs

set_option maxRecDepth 1000000 in
set_option maxHeartbeats 4000000 in
/-- One that has no lock ends. -/
theorem piece31d {E : Env} (hE : EnvOk E) {t : Nat} {a : Act} {w : World} (h : FR E t a) (ht : t < 300) {K : Act → World → Prop} {K3 : Act → World → Prop} {V : Nat → Value} {X : Nat → List Int} {ps : Nat → PC} {s k : Nat} {own : Nat → Option Int} {at_ : Nat → Nat} {dn : Nat → Bool} {bg : Nat → Prop} (hcore : Core E w V X ps s k own at_ dn) (hlaw : TickLaw E X ps own dn bg) (hkt : k ≤ t) {i p : Nat} (hi : i < E.ws.length) {r : List Int} (hp : p < 64) (hx : X p = (i : Int) :: r) (h14 : a.tmps[14]? = some (.int .i64 i))
    (hge : (wkAt E.ws i).does.length ≤ at_ i) (hm : X (64 + i) = [])
    (hq : ∀ a' w', FR E t a' → St E bg t w' → K3 a' w') : Code.wp Try.prog (Code.l c31) (Exit.then K (Qt K3)) a w := by
  have b3 : (i : Int) < (E.ws.length : Int) := by omega
  obtain ⟨ha_, hc_, hcell, _, _, _⟩ := hcore.hasAt hE hi
  have hat := hcore.wrk.cell (wcells0 _ _ _ hi)
  have hdc := hcore.wrk.cell (wcells2 _ _ _ hi)
  have hdf := hcore.wrk.free (i * 3 + 2)
  have hiX : (i : Int) ∈ X p := by rw [hx]; exact List.mem_cons_self ..
  have hsi : (ps i).state = 1 := by
    obtain ⟨j, e, _, hs, _⟩ := hlaw.law.mem p hp _ hiX
    have e : j = i := by omega
    rw [← e]; exact hs
  have hno2 : ∀ q, q < 64 → (i : Int) ∉ xdrop X p i q := by
    intro q hq hm
    rw [xdrop_head hx] at hm
    exact (hlaw.law.inY hp hx hq hm).2 rfl
  have DN := Lib.hid (fun (w2 : World) (h2 : Dis w2 E.A V X ps s) => ddone_any h2 i (by rw [hE.n]; exact hi) hsi p hp (fun q hq hm => absurd (hlaw.law.uniq (by omega) hp hm hiX) (by omega)) hiX hno2 ((t : Int) + 1) (by omega) (by omega))
  have HCO := Lib.hid (fun (w2 : World) (hb : Below w.heap.size w w2) => (hcore.below hb).setDone hE hi)
  have FIN := Lib.hid (fun (w1 w2 : World) h1 h2 => St.ended hE (w := w1) (w' := w2) (V := V) (s := s) (k := k) (at_ := at_) h1 hlaw hkt hi hp hx hm h2)
  have hm0 : (X (64 + i)).length = 0 := by rw [hm]; rfl
  rw [hm0] at hcell
  obtain ⟨b, off, hwa, hc⟩ := hE.wk
  obtain ⟨u, ha, hu⟩ := frame_open h.df h.sz
  have e0 := frame_at hu (by omega) h.s0
  have e1 := frame_at hu (by omega) h.s1
  have e7 := frame_at hu (by omega) h.s7
  have e9 := frame_at hu (by omega) h.s9
  have e11 := frame_at hu (by omega) h.s11
  have e12 := frame_at hu (by omega) h.s12
  have e14 := frame_at hu (by omega) h14
  clear h hu h14
  rw [hwa] at e1
  subst ha
  simp only [e0, e1, e7, e9, e11, e12, e14]
  clear e0 e1 e7 e9 e11 e12 e14
  have HC := Lib.hid hc
  clear hc
  have HQ := Lib.hid hq
  clear hq
  have hn5 := hE.few
  conv => arg 2; whnf
  obtain ⟨_, _, da, dc, c2, _⟩ := HC.out w hcore.inp i hi
  have b4 : decide ((wkAt E.ws i).does.length ≤ at_ i) = true := by simp [hge]
  clear hcore hlaw hx hge hiX hsi hno2 hm
  have hwr : IntKind.i64.wrap ((t : Int) + 1) = (t : Int) + 1 := by rw [IntKind.wrap_i64]; omega
  generalize (wkAt E.ws i).does.length = dl at *
  go_wp2_with fail
  go_quiet (fail)
  have hb0 : Below w.heap.size w (w.drewN nq) := Upd.toBelow (upd_drewN _ _ _)
  have hc0 := HCO.out _ hb0
  have HC0 := Lib.hid hc0
  clear hc0 hb0
  go_wp2_with (go_at_call 12; refine (DN.out _ HC0.out.dis).mono ?_; rintro e w3 ⟨rfl, hto⟩)
  exact ⟨rfl, HQ.out _ _ ⟨rfl, rfl, rfl, by rw [hwa]; rfl, rfl, rfl, rfl, rfl⟩ (FIN.out _ _ HC0.out hto)⟩

end Go.Proofs.Ytoeakcfbnkndbaa

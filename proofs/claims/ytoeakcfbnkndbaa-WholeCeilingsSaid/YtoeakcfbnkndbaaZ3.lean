import Derived.Test.YtoeakcfbnkndbaaZ2
namespace Go.Proofs.Ytoeakcfbnkndbaa
open Go.RowKit Go.Maps

/-- The slots that a tick keeps. -/
structure FR (E : Env) (t : Nat) (a : Act) : Prop where
  df : a.defers = []
  sz : a.tmps.size = 306
  s0 : a.tmps[0]? = some (.slice E.ca E.cs.length E.cc)
  s1 : a.tmps[1]? = some (.slice E.wa E.ws.length E.wc)
  s7 : a.tmps[7]? = some (.pointer (some ⟨E.LA.L, 0, none⟩))
  s9 : a.tmps[9]? = some (.pointer (some ⟨E.A.D, 0, none⟩))
  s11 : a.tmps[11]? = some (.slice (some ⟨E.wb, 0, none⟩) E.ws.length E.ws.length)
  s12 : a.tmps[12]? = some (.int .i64 (t : Nat))

theorem frame_at {a : Act} {u : Nat → Value} (hu : ∀ k, k < 306 → a.tmps[k]? = some (u k)) {k : Nat} (hk : k < 306) {v : Value} (h : a.tmps[k]? = some v) : u k = v := by
  rw [hu k hk] at h
  injection h

/-- The law's side of a state, the workers begun before tick t. -/
structure TickLaw (E : Env) (X : Nat → List Int) (ps : Nat → PC) (own : Nat → Option Int) (dn : Nat → Bool) (bg : Nat → Prop) : Prop where
  law : LawInv E.ws.length E.cs (prOf E.ws) X ps own (fun i => X (64 + i))
  alive : ∀ i, i < E.ws.length → (ps i).state = 1 → dn i = false
  begun : ∀ i, i < E.ws.length → (ps i).state = 1 ∨ dn i = true → bg i

/-- A state at which each worker begun satisfies bg. -/
def St (E : Env) (bg : Nat → Prop) (t : Nat) (w : World) : Prop :=
  ∃ V X ps s k own at_ dn, Core E w V X ps s k own at_ dn ∧ TickLaw E X ps own dn bg ∧ k ≤ t

theorem St.mono {E : Env} {bg bg' : Nat → Prop} {t t' : Nat} {w : World} (h : St E bg t w) (ht : t ≤ t') (hb : ∀ i, i < E.ws.length → bg i → bg' i) : St E bg' t' w := by
  obtain ⟨V, X, ps, s, k, own, at_, dn, hc, hl, hk⟩ := h
  exact ⟨V, X, ps, s, k, own, at_, dn, hc, ⟨hl.law, hl.alive, fun i hi h => hb i hi (hl.begun i hi h)⟩, by omega⟩

/-- A start, as the state sees it. -/
theorem St.started {E : Env} (hE : EnvOk E) {bg bg' : Nat → Prop} {t : Nat} {w w' : World} {V X ps s k own at_ dn} (hc : Core E w V X ps s k own at_ dn) (hl : TickLaw E X ps own dn bg) (hk : k ≤ t)
    {i p : Nat} (hi : i < E.ws.length) (hs : (ps i).state = 0) (hp : p < 64) (hpp : (prOf E.ws).getD i 0 = (p : Int)) (now : Int) (hdn : dn i = false)
    (ht : Dis.To w E.A V (fset X p (X p ++ [(i : Int)])) (pset ps i ⟨(ps i).prio, 1, (ps i).prio, 0, now⟩) w') (hb : ∀ j, j < E.ws.length → bg j → bg' j) (hbi : bg' i) : St E bg' t w' := by
  obtain ⟨V', s', hc', _⟩ := hc.disTo hE ht
  have hlaw := hl.law.start hi hs hp hpp now
  have hh : (fun j => fset X p (X p ++ [(i : Int)]) (64 + j)) = fun j => X (64 + j) := by
    funext j
    exact fset_other _ _ (by omega)
  refine ⟨V', _, _, s', k, own, at_, dn, hc', ⟨by rw [hh]; exact hlaw, ?_, ?_⟩, hk⟩
  · intro j hj hsj
    by_cases e : j = i
    · rw [e]; exact hdn
    · rw [pset_ne _ _ e] at hsj
      exact hl.alive j hj hsj
  · intro j hj hsj
    by_cases e : j = i
    · rw [e]; exact hbi
    · rw [pset_ne _ _ e] at hsj
      exact hb j hj (hl.begun j hj hsj)

theorem EnvOk.wk {E : Env} (hE : EnvOk E) : ∃ b off, E.wa = some ⟨b, off, none⟩ ∧ ∀ w, Below E.w0.heap.size E.w0 w → ∀ j, j < E.ws.length →
    w.cell? ⟨b, off + j * 3, none⟩ = some (.int .i64 (wkAt E.ws j).prio) ∧ w.cell? ⟨b, off + j * 3 + 1, none⟩ = some (.int .u8 ((wkAt E.ws j).start : Nat)) ∧
    ∃ da dc, w.cell? ⟨b, off + j * 3 + 2, none⟩ = some (.slice da (wkAt E.ws j).does.length dc) ∧ DoesAt w da (wkAt E.ws j).does := by
  have h0 := hE.pos
  obtain ⟨b, off, h1, h2⟩ := hE.inp.resolve_left (fun e => by rw [e] at h0; simp at h0)
  refine ⟨b, off, h1, fun w hb => ?_⟩
  have h3 := hE.inp.below hb
  obtain ⟨b2, off2, h4, h5⟩ := h3.resolve_left (fun e => by rw [e] at h0; simp at h0)
  rw [h1] at h4
  cases h4
  exact h5

set_option maxRecDepth 1000000 in
set_option maxHeartbeats 4000000 in
/-- Those whose tick it is are started. -/
theorem piece20 {E : Env} (hE : EnvOk E) {t : Nat} (_ht : t < 300) {a : Act} {w : World} (h : FR E t a) (hS : St E (fun i => (wkAt E.ws i).start < t) t w) {K : Act → World → Prop} {Q : Exit → Act → World → Prop}
    (hk : ∀ a' w', FR E t a' → St E (fun i => (wkAt E.ws i).start < t + 1) t w' → K a' w') : Code.wp Try.prog (Code.l cB3) (Exit.then K Q) a w := by
  obtain ⟨b, off, hwa, hc⟩ := hE.wk
  obtain ⟨u, ha, hu⟩ := frame_open h.df h.sz
  have e0 := frame_at hu (by omega) h.s0
  have e1 := frame_at hu (by omega) h.s1
  have e7 := frame_at hu (by omega) h.s7
  have e9 := frame_at hu (by omega) h.s9
  have e11 := frame_at hu (by omega) h.s11
  have e12 := frame_at hu (by omega) h.s12
  have HF0 : Hid (∀ a', FR E t a' → FR E t a') := Lib.hid (fun _ h => h)
  clear h hu
  rw [hwa] at e1
  subst ha
  simp only [e0, e1, e7, e9, e11, e12]
  have HC := Lib.hid hc
  have HK := Lib.hid hk
  have HS := Lib.hid hS
  clear hc hk hS e0 e1 e7 e9 e11 e12 HF0
  have hn5 := hE.few
  conv => arg 2; whnf
  go_wp2_with fail
  go_loopg [13] E.ws.length (fun g s13 wr => ∃ j : Nat, j + g = E.ws.length ∧ s13 = .int .i64 j ∧ St E (fun i => (wkAt E.ws i).start < t ∨ ((wkAt E.ws i).start = t ∧ i < j)) t wr)
  case atStart => exact ⟨0, by omega, rfl, HS.out.mono (Nat.le_refl _) (fun i _ h => Or.inl h)⟩
  case round =>
    obtain ⟨j, hjg, rfl, hSt⟩ := hrel
    cases gk with
    | zero =>
      have hj : ¬ ((j : Int) < (E.ws.length : Int)) := by omega
      have HSt := Lib.hid hSt
      clear hSt
      go_wp2
      refine HK.out _ _ ⟨rfl, rfl, rfl, by rw [hwa]; rfl, rfl, rfl, rfl, rfl⟩ (HSt.out.mono (Nat.le_refl _) (fun i _ h => by omega))
    | succ g =>
      have hj : (j : Int) < (E.ws.length : Int) := by omega
      obtain ⟨V, X, ps, s, k, own, at_, dn, hcore, hlaw, hkt⟩ := hSt
      obtain ⟨c0, c1, _⟩ := HC.out wr hcore.inp j (by omega)
      have hs256 := hE.start j
      obtain ⟨st, hst⟩ : ∃ st, st = (wkAt E.ws j).start := ⟨_, rfl⟩
      rw [← hst] at c1 hs256
      have HST := Lib.hid hst
      clear hst
      have hwr : IntKind.i64.wrap (st : Int) = (st : Int) := by rw [IntKind.wrap_i64]; omega
      by_cases e : st = t
      · have b1 : ((st : Int) == (t : Int)) = true := by simp [e]
        have hs0 : (ps j).state = 0 := by
          rcases hlaw.law.live j (by omega) with h0 | ⟨h0, _⟩
          · exact h0
          · have := hlaw.begun j (by omega) (Or.inl h0)
            rw [← HST.out] at this
            omega
        have hdn : dn j = false := by
          cases hd : dn j with
          | false => rfl
          | true =>
            have := hlaw.begun j (by omega) (Or.inr hd)
            rw [← HST.out] at this
            omega
        have hpk := hlaw.law.pok j (by omega)
        obtain ⟨p, hp⟩ : ∃ p : Nat, (prOf E.ws).getD j 0 = (p : Int) := ⟨((prOf E.ws).getD j 0).toNat, by omega⟩
        have hp64 : p < 64 := by omega
        have HD := Lib.hid (dstart_any hcore.dis j (by rw [hE.n]; omega) hs0 (fun q hq => hlaw.law.notin hs0 hq) (t : Int) (by omega) (by omega) p hp64 (by rw [hlaw.law.prio j (by omega)]; exact hp) (by have := hlaw.law.len hp64; omega))
        have NX := Lib.hid (fun (w1 : World) (hto : _) => St.started hE (w' := w1) (bg' := fun i => (wkAt E.ws i).start < t ∨ ((wkAt E.ws i).start = t ∧ i < j + 1)) hcore hlaw hkt (by omega : j < E.ws.length) hs0 hp64 hp (t : Int) hdn hto (fun i _ h => by omega) (by rw [← HST.out]; omega))
        clear hcore hlaw hs0 hdn hpk hp e
        go_wp2_with (go_at_call 7; refine HD.out.mono ?_; rintro e w1 ⟨rfl, hto⟩)
        go_roundg g
        case measure => omega
        case rel => exact ⟨j + 1, by omega, by go_num, NX.out _ hto⟩
      · have b1 : ((st : Int) == (t : Int)) = false := by simp; omega
        have NX : Hid (St E (fun i => (wkAt E.ws i).start < t ∨ ((wkAt E.ws i).start = t ∧ i < j + 1)) t wr) := by
          refine Lib.hid (St.mono (bg := fun i => (wkAt E.ws i).start < t ∨ ((wkAt E.ws i).start = t ∧ i < j)) ⟨V, X, ps, s, k, own, at_, dn, hcore, hlaw, hkt⟩ (Nat.le_refl _) (fun i _ h => ?_))
          omega
        clear hcore hlaw e
        go_wp2
        go_roundg g
        case measure => omega
        case rel => exact ⟨j + 1, by omega, by go_num, NX.out⟩

end Go.Proofs.Ytoeakcfbnkndbaa

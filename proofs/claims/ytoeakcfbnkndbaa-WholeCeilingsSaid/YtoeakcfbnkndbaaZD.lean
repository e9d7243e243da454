import Derived.Test.YtoeakcfbnkndbaaZ4
import Derived.Test.YtoeakcfbnkndbaaZ8
import Derived.Test.YtoeakcfbnkndbaaZ9
import Derived.Test.YtoeakcfbnkndbaaZA
import Derived.Test.YtoeakcfbnkndbaaZC
namespace Go.Proofs.Ytoeakcfbnkndbaa
open Go.RowKit Go.Maps

theorem top_row (X : Nat → List Int) : ∀ n, (∀ q, q < n → X q = []) ∨ ∃ p, p < n ∧ X p ≠ [] ∧ ∀ q, p < q → q < n → X q = []
  | 0 => Or.inl (fun q hq => by omega)
  | n + 1 => by
    by_cases h : X n = []
    · rcases top_row X n with h1 | ⟨p, h1, h2, h3⟩
      · refine Or.inl (fun q hq => ?_)
        by_cases e : q = n
        · subst e; exact h
        · exact h1 q (by omega)
      · refine Or.inr ⟨p, by omega, h2, fun q hpq hq => ?_⟩
        by_cases e : q = n
        · subst e; exact h
        · exact h3 q hpq (by omega)
    · exact Or.inr ⟨n, by omega, h, fun q h1 h2 => by omega⟩

noncomputable def c25l : Code := Code.l c25

theorem cB3_eq : cB3 = .seq (Code.l cB3) c25 := by kernel_rfl
theorem c25_eq : c25 = .seq (Code.l c25) c27 := by kernel_rfl
theorem c27_eq : c27 = .seq (Code.l c27) c28 := by kernel_rfl
theorem c28_eq : c28 = .seq (Code.l c28) c29 := by kernel_rfl
theorem c29_eq : c29 = .seq (Code.l c29) c31 := by kernel_rfl
theorem c31_eq : c31 = .seq (Code.l c31) c38 := by kernel_rfl
theorem c38_eq : c38 = .seq (Code.l c38) c39 := by kernel_rfl
theorem c39_eq : c39 = .seq (Code.l c39) c40 := by kernel_rfl
theorem c40_eq : c40 = .seq (Code.l c40) c41 := by kernel_rfl
theorem c41_eq : c41 = .seq (Code.l c41) c44 := by kernel_rfl
theorem c44_eq : c44 = .seq (Code.l c44) c45 := by kernel_rfl
theorem c45_eq : c45 = .seq (Code.l c45) c46 := by kernel_rfl
theorem c46_eq : c46 = .seq (Code.l c46) c47 := by kernel_rfl

theorem wp_cut {P : Program} {c x y : Code} (e : c = .seq x y) {Q : Exit → Act → World → Prop} {a : Act} {w : World} (h : x.wp P (Exit.then (y.wp P Q) Q) a w) : c.wp P Q a w := by
  rw [e]; exact wp_seq h

/-- A take, and all behind it. -/
theorem tick45 {E : Env} (hE : EnvOk E) {t : Nat} (ht : t < 300) {a : Act} {w : World} (h : FR E t a) {K3 : Act → World → Prop} {V : Nat → Value} {X : Nat → List Int} {ps : Nat → PC} {s k : Nat} {own : Nat → Option Int} {at_ : Nat → Nat} {dn : Nat → Bool} {bg : Nat → Prop} (hcore : Core E w V X ps s k own at_ dn) (hlaw : TickLaw E X ps own dn bg) (hkt : k ≤ t) {i p : Nat} (hi : i < E.ws.length) {r : List Int} (hp : p < 64) (hx : X p = (i : Int) :: r) (hno : ∀ q, p < q → q < 64 → X q = [])
    {bb : Nat} (hbb : bb < 256) (h14 : a.tmps[14]? = some (.int .i64 i)) (h16 : a.tmps[16]? = some (.int .i64 bb)) (h0 : 0 < E.cs.length)
    (hq : ∀ a' w', FR E t a' → St E bg (t + 1) w' → K3 a' w') : Code.wp Try.prog c45 (Qt K3) a w := by
  refine wp_cut c45_eq (piece45 hE h h14 h16 hbb h0 (fun a1 h1 h14 h17 => wp_cut c46_eq ?_))
  have hlc : bb / 2 % E.cs.length < E.cs.length := Nat.mod_lt _ h0
  generalize bb / 2 % E.cs.length = kk at *
  have hpk := hlaw.law.pok i hi
  rw [prOf_at] at hpk
  have hml := hlaw.law.hasLen hi
  have hcsl := hE.csl
  obtain ⟨ha_, hc_, hcell, hV, _, hints⟩ := hcore.hasAt hE hi
  by_cases ho : own kk = some (i : Int)
  · obtain ⟨_, j, e, _, _, hle⟩ := hlaw.law.who kk _ ho
    have e : j = i := by omega
    subst e
    rw [prOf_at] at hle
    have hm : (kk : Int) ∈ X (64 + j) := (hlaw.law.hasS j hi _).2 ⟨kk, rfl, ho⟩
    refine piece46 hE h1 hi h14 h17 hcore.inp (P := fun w' => w = w') (take_twice hcore.lck (j : Int) (by omega) _ hpk.1 hpk.2 kk hlc ho) ?_
    rintro a2 w2 h2 h14 h17 h18 h19 rfl
    exact piece47t hE h2 hi hlc hcore.inp h14 h17 h18 h19 hcell hints (by omega) hle hm (fun a3 w3 h3 hb => hq _ _ h3 ⟨_, _, _, _, _, _, _, _, hcore.below hb, hlaw, by omega⟩)
  · by_cases hc : E.cs.getD kk 0 < (wkAt E.ws i).prio
    · refine piece46 hE h1 hi h14 h17 hcore.inp (P := fun w' => w = w') (take_rights hcore.lck (i : Int) (by omega) _ hpk.1 hpk.2 kk hlc ho hc) ?_
      rintro a2 w2 h2 h14 h17 h18 h19 rfl
      exact piece47r hE h2 hi hlc hcore.inp h14 h17 h18 h19 hc (fun a3 w3 h3 hb => hq _ _ h3 ⟨_, _, _, _, _, _, _, _, hcore.below hb, hlaw, by omega⟩)
    · have hle : (wkAt E.ws i).prio ≤ E.cs.getD kk 0 := by omega
      have hfree := hlaw.law.free hp hx hno (l := kk) (by rw [prOf_at]; exact hle) ho
      refine piece46 hE h1 hi h14 h17 hcore.inp (take_free hcore.lck (i : Int) (by omega) (by have := hE.few; omega) _ hpk.1 hpk.2 kk hlc hfree hle (by omega)) ?_
      rintro a2 w2 h2 h14 h17 h18 h19 ⟨hL, hu⟩
      exact piece47f hE h2 hlaw hi hp hx hno hlc hfree (hcore.lckTo hE hL hu) hkt h14 h17 h18 h19 hle hq

/-- The first one has something to do. -/
theorem tick38 {E : Env} (hE : EnvOk E) {t : Nat} (ht : t < 300) {a : Act} {w : World} (h : FR E t a) {K3 : Act → World → Prop} {V : Nat → Value} {X : Nat → List Int} {ps : Nat → PC} {s k : Nat} {own : Nat → Option Int} {at_ : Nat → Nat} {dn : Nat → Bool} {bg : Nat → Prop} (hcore : Core E w V X ps s k own at_ dn) (hlaw : TickLaw E X ps own dn bg) (hkt : k ≤ t) {i p : Nat} (hi : i < E.ws.length) {r : List Int} (hp : p < 64) (hx : X p = (i : Int) :: r) (hno : ∀ q, p < q → q < 64 → X q = [])
    (h14 : a.tmps[14]? = some (.int .i64 i)) (hlt : at_ i < (wkAt E.ws i).does.length)
    (hq : ∀ a' w', FR E t a' → St E bg (t + 1) w' → K3 a' w') : Code.wp Try.prog c38 (Qt K3) a w := by
  have hd := hE.does i hi
  have hbb := hE.byte i (at_ i)
  refine wp_cut c38_eq (piece38 hE h hi h14 hcore.inp (hcore.wrk.cell (wcells0 _ _ _ hi)) hlt (fun a1 w1 h1 h14 h16 hb1 => ?_))
  have c1 := hcore.below hb1
  generalize (wkAt E.ws i).does.getD (at_ i) 0 = bb at *
  refine wp_cut c39_eq (piece39 hE h1 hi h14 h16 (c1.wrk.cell (wcells0 _ _ _ hi)) (c1.wrk.free _) (by omega) (fun a2 h2 h14 h16 => ?_))
  have c2 := c1.setAt hE hi (at_ i + 1)
  by_cases hw : bb < 128
  · exact wp_cut c40_eq (piece40w hE h2 h16 hw (fun a3 h3 => ⟨rfl, hq _ _ h3 ⟨_, _, _, _, _, _, _, _, c2, hlaw, by omega⟩⟩))
  refine wp_cut c40_eq (piece40l hE h2 h14 h16 (by omega) (fun a3 h3 h14 h16 => ?_))
  by_cases hg : bb % 2 = 0 ∧ 0 < (X (64 + i)).length
  · exact wp_cut c41_eq (piece41g hE h3 c2 hlaw hkt hi hp hx hno h14 h16 hbb hg.1 hg.2 (fun a4 w4 h4 hst => hq _ _ h4 (hst.mono (by omega) (fun _ _ h => h))))
  obtain ⟨ha_, hc_, hcell, _, _, _⟩ := c2.hasAt hE hi
  refine wp_cut c41_eq (piece41n hE h3 hi h14 h16 hbb hcell (by omega) (fun a4 h4 h14 h16 => ?_))
  by_cases h0 : E.cs.length = 0
  · exact wp_cut c44_eq (piece44n hE h4 h0 (fun a5 h5 => ⟨rfl, hq _ _ h5 ⟨_, _, _, _, _, _, _, _, c2, hlaw, by omega⟩⟩))
  exact wp_cut c44_eq (piece44s hE h4 h14 h16 (by omega) (fun a5 h5 h14 h16 => tick45 hE ht h5 c2 hlaw hkt hi hp hx hno hbb h14 h16 (by omega) hq))

/-- A tick. -/
theorem tick {E : Env} (hE : EnvOk E) {t : Nat} (ht : t < 300) {a : Act} {w : World} (h : FR E t a) (hS : St E (fun i => (wkAt E.ws i).start < t) t w) {K3 : Act → World → Prop}
    (hq : ∀ a' w', FR E t a' → St E (fun i => (wkAt E.ws i).start < t + 1) (t + 1) w' → K3 a' w') : Code.wp Try.prog cB3 (Qt K3) a w := by
  refine wp_cut cB3_eq (piece20 hE ht h hS (fun a1 w1 h1 hS1 => ?_))
  obtain ⟨V, X, ps, s, k, own, at_, dn, hcore, hlaw, hkt⟩ := hS1
  have habove : Calls Try.prog 8 #[.pointer (some ⟨E.LA.L, 0, none⟩), .slice E.wa E.ws.length E.wc] w1 fun e w' => e = .returned (.bool true) ∧ Below w1.heap.size w1 w' := by
    have h2 := above_any (c := E.wc) hcore.lck ((hE.inp.below hcore.inp).prios) (by rw [prOf_len]; have := hE.few; omega) (hlaw.law.oneUp (prOf_len _))
    rw [prOf_len] at h2
    exact h2
  refine wp_cut c25_eq (piece25 hE h1 habove (fun a2 w2 h2 hb2 => ?_))
  have c2 := hcore.below hb2
  rcases top_row X 64 with hnone | ⟨p, hp, hne, hno⟩
  · refine wp_cut c27_eq (piece27 hE h2 ((pick_none c2.dis hnone).mono (fun e w' hh => ⟨hh.1, by rw [← hh.2]; exact Below.refl _ _⟩)) (fun a3 w3 h3 _ h15 hb3 => ?_))
    exact wp_cut c28_eq (piece28n hE h3 h15 (fun a4 h4 => ⟨rfl, hq _ _ h4 ⟨_, _, _, _, _, _, _, _, c2.below hb3, hlaw, by omega⟩⟩))
  · obtain ⟨x, r, hx⟩ : ∃ x r, X p = x :: r := by
      cases hX : X p with
      | nil => exact absurd hX hne
      | cons x r => exact ⟨x, r, rfl⟩
    obtain ⟨i, rfl, hi, hs, _⟩ := hlaw.law.mem p hp x (by rw [hx]; exact List.mem_cons_self ..)
    refine wp_cut c27_eq (piece27 hE h2 ((pick_some c2.dis p hp _ r hx hno).mono (fun e w' hh => ⟨hh.1, by obtain ⟨nq, e⟩ := hh.2; rw [e]; exact Upd.toBelow (upd_drewN _ _ _)⟩)) (fun a3 w3 h3 h14 h15 hb3 => ?_))
    have c3 := c2.below hb3
    refine wp_cut c28_eq (piece28s hE h3 h14 h15 (fun a4 h4 h14 => ?_))
    have hd := c3.wrk.cell (wcells2 _ _ _ hi)
    rw [hlaw.alive i hi hs] at hd
    refine wp_cut c29_eq (piece29 hE h4 hi h14 hd (fun a5 h5 h14 => ?_))
    by_cases hge : (wkAt E.ws i).does.length ≤ at_ i
    · by_cases hm : 0 < (X (64 + i)).length
      · exact wp_cut c31_eq (piece31g hE h5 c3 hlaw hkt hi hp hx hno h14 hge hm (fun a' w' hF hst => hq _ _ hF (hst.mono (by omega) (fun _ _ h => h))))
      · exact wp_cut c31_eq (piece31d hE h5 ht c3 hlaw hkt hi hp hx h14 hge (List.eq_nil_of_length_eq_zero (by omega)) (fun a' w' hF hst => hq _ _ hF (hst.mono (by omega) (fun _ _ h => h))))
    · refine wp_cut c31_eq (piece31 hE h5 hi h14 c3.inp (c3.wrk.cell (wcells0 _ _ _ hi)) (by omega) (fun a6 w6 h6 h14 hb6 => ?_))
      exact tick38 hE ht h6 (c3.below hb6) hlaw hkt hi hp hx hno h14 (by omega) hq

end Go.Proofs.Ytoeakcfbnkndbaa

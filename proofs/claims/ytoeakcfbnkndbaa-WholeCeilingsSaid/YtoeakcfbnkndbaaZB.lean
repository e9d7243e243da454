import Derived.Test.YtoeakcfbnkndbaaZ7
namespace Go.Proofs.Ytoeakcfbnkndbaa
open Go.RowKit Go.Maps

section
variable {E : Env} {w w' : World} {V : Nat → Value} {X : Nat → List Int} {ps : Nat → PC} {s k : Nat} {own : Nat → Option Int} {at_ : Nat → Nat} {dn : Nat → Bool} {bg : Nat → Prop}

/-- The list of locks behind a take. -/
def hasUp (X : Nat → List Int) (i l : Nat) : Nat → List Int := fset X (64 + i) (X (64 + i) ++ [(l : Int)])

theorem take_raise (hE : EnvOk E) {V1 : Nat → Value} {w1 : World} {s1 k1 : Nat} (hl : TickLaw E X ps own dn bg) {i p : Nat} (hi : i < E.ws.length) {r : List Int} (hp : p < 64) (hx : X p = (i : Int) :: r) (hno : ∀ q, p < q → q < 64 → X q = [])
    {l : Nat} (hlc : l < E.cs.length) (ho : own l = none) (hc : (prOf E.ws).getD i 0 ≤ E.cs.getD l 0)
    (hcore : Core E w1 V1 X ps s1 k1 (fset own l (some (i : Int))) at_ dn) :
    Calls Try.prog 11 #[.pointer (some ⟨E.LA.L, 0, none⟩), .pointer (some ⟨E.A.D, 0, none⟩), .int .i64 i] w1 fun e w' => e = .returned (.bool true) ∧
      ∃ V2 X2 ps2 s2, Core E w' V2 X2 ps2 s2 k1 (fset own l (some (i : Int))) at_ dn ∧ (∀ q, 64 ≤ q → X2 q = X q ∧ V2 q = V1 q) ∧ TickLaw E (hasUp X2 i l) ps2 (fset own l (some (i : Int))) dn bg := by
  have hnd := hl.law.hasN i hi
  have oth : ∀ l2, l2 ≠ l → fset own l (some (i : Int)) l2 = own l2 := fun l2 e => fset_other _ _ e
  refine (raise_ok hE hcore (has' := fun j => hasUp X i l (64 + j)) hl.law (fun q hq => rfl) hi hp hx hno ?_ ?_ ?_ ?_ ?_).mono ?_
  · intro l2 x hxi
    by_cases e : l2 = l
    · subst e
      rw [fset_same, ho]
      constructor
      · intro h; injection h with h; exact absurd h.symm hxi
      · intro h; cases h
    · rw [oth l2 e]
  · intro l2 h2
    by_cases e : l2 = l
    · subst e; exact ⟨hlc, hc⟩
    · rw [oth l2 e] at h2
      obtain ⟨g1, j, e2, _, _, g2⟩ := hl.law.who l2 _ h2
      have e2 : j = i := by omega
      subst e2
      exact ⟨g1, g2⟩
  · intro j hj
    exact fset_other _ _ (by omega)
  · intro x
    show x ∈ hasUp X i l (64 + i) ↔ _
    unfold hasUp
    rw [fset_same, List.mem_append, List.mem_singleton, hl.law.hasS i hi x]
    constructor
    · rintro (⟨l2, e1, e2⟩ | e1)
      · have e3 : l2 ≠ l := fun e => by rw [e, ho] at e2; cases e2
        exact ⟨l2, e1, by rw [oth l2 e3]; exact e2⟩
      · exact ⟨l, e1, fset_same _ _ _⟩
    · rintro ⟨l2, e1, e2⟩
      by_cases e3 : l2 = l
      · right; rw [e1, e3]
      · rw [oth l2 e3] at e2
        exact Or.inl ⟨l2, e1, e2⟩
  · show (hasUp X i l (64 + i)).Nodup
    unfold hasUp
    rw [fset_same, List.nodup_append]
    refine ⟨hnd, by simp, ?_⟩
    intro a ha b hb e
    rw [List.mem_singleton] at hb
    subst hb
    subst e
    obtain ⟨l2, e1, e2⟩ := (hl.law.hasS i hi _).1 ha
    have e3 : l2 = l := by omega
    rw [e3, ho] at e2
    cases e2
  · rintro e w' ⟨he, V2, X2, ps2, s2, hc2, hv, hlaw, hst⟩
    refine ⟨he, V2, X2, ps2, s2, hc2, hv, ⟨hlaw.congr (fun q hq => fset_other _ _ (by omega)) (fun j _ => ?_), ?_, ?_⟩⟩
    · show hasUp X2 i l (64 + j) = hasUp X i l (64 + j)
      unfold hasUp
      by_cases e : j = i
      · subst e; rw [fset_same, fset_same, (hv (64 + j) (by omega)).1]
      · rw [fset_other _ _ (by omega), fset_other _ _ (by omega), (hv (64 + j) (by omega)).1]
    · intro j hj hs
      rw [hst] at hs
      exact hl.alive j hj hs
    · intro j hj hs
      rw [hst] at hs
      exact hl.begun j hj hs

/-- The append to one's locks. -/
theorem has_append (hE : EnvOk E) (h : Core E w V X ps s k own at_ dn) {i l : Nat} (hi : i < E.ws.length) (hlen : (X (64 + i)).length ≤ 100) :
    ∃ a c w1, (∀ ty, (Builtin.append_ #[22, 22] ty #[V (64 + i), .slice (some ⟨w.heap.size, 0, none⟩) 1 1]).run Try.prog (w.alloc (.cells #[.int .i64 (l : Int)] 3)) = .ok (.slice a ((X (64 + i)).length + 1) c) w1) ∧
      w1.cell? ⟨E.wb, i * 3 + 1, none⟩ = some (V (64 + i)) ∧ w1.frozen? ⟨E.wb, i * 3 + 1, none⟩ = false ∧
      ∃ V3, Core E (w1.setCell ⟨E.wb, i * 3 + 1, none⟩ (.slice a ((X (64 + i)).length + 1) c)) V3 (hasUp X i l) ps s k own at_ dn := by
  have hn5 := hE.few
  have hroom := h.dis.room
  have hown := h.dis.rdy.fam.own (64 + i) (by omega)
  obtain ⟨a, c, w1, hrun, ho, hu, hb⟩ := append_row (hown.alloc (.cells #[.int .i64 (l : Int)] 3)) (by omega) (by simp; omega) w.heap.size 1 (l : Int) (by simp) 22 Try.underlying22
  have hu2 : Upd (fun b => (V (64 + i)).ownBlock = some b) w w1 := ((Upd.refl _ _).alloc _).trans hu
  have hwk := h.wrk.upd hu2 (fun e => hE.dk (Or.inr (Or.inr (hown.lt _ e).1)))
  refine ⟨a, c, w1, hrun, hwk.cell (wcells1 _ _ _ hi), hwk.free _, _, h.putHas hE hi (xs' := X (64 + i) ++ [(l : Int)]) (by simpa using ho) hu2 (fun q hq => (hb q hq).imp (fun h => h) (fun h => by simp at h; omega))⟩

end

set_option maxRecDepth 1000000 in
set_option maxHeartbeats 4000000 in
/-- There are no locks. -/
theorem piece44n {E : Env} (hE : EnvOk E) {t : Nat} {a : Act} {w : World} (h : FR E t a) {K : Act → World → Prop} {Q : Exit → Act → World → Prop} (h0 : E.cs.length = 0)
    (hq : ∀ a', FR E t a' → Q (.exit 3) a' w) : Code.wp Try.prog (Code.l c44) (Exit.then K Q) a w := by
  obtain ⟨b, off, hwa, hc⟩ := hE.wk
  obtain ⟨u, ha, hu⟩ := frame_open h.df h.sz
  have e0 := frame_at hu (by omega) h.s0
  have e1 := frame_at hu (by omega) h.s1
  have e7 := frame_at hu (by omega) h.s7
  have e9 := frame_at hu (by omega) h.s9
  have e11 := frame_at hu (by omega) h.s11
  have e12 := frame_at hu (by omega) h.s12
  obtain ⟨m, hm⟩ : ∃ m, m = E.cs.length := ⟨_, rfl⟩
  rw [← hm] at e0
  have HM := Lib.hid hm
  clear h hu
  rw [hwa] at e1
  subst ha
  simp only [e0, e1, e7, e9, e11, e12]
  clear e0 e1 e7 e9 e11 e12
  have HC := Lib.hid hc
  clear hc
  have HQ := Lib.hid hq
  clear hq
  have hn5 := hE.few
  conv => arg 2; whnf
  rw [← hm] at h0
  have b1 : ((m : Int) == 0) = true := by simp [h0]
  clear hm h0
  go_wp2
  exact HQ.out _ ⟨rfl, rfl, by rw [← HM.out]; rfl, by rw [hwa]; rfl, rfl, rfl, rfl, rfl⟩

set_option maxRecDepth 1000000 in
set_option maxHeartbeats 4000000 in
/-- There are. -/
theorem piece44s {E : Env} (hE : EnvOk E) {t : Nat} {a : Act} {w : World} (h : FR E t a) {K : Act → World → Prop} {Q : Exit → Act → World → Prop} {i bb : Nat} (h14 : a.tmps[14]? = some (.int .i64 i)) (h16 : a.tmps[16]? = some (.int .i64 bb)) (h0 : 0 < E.cs.length)
    (hk : ∀ a', FR E t a' → a'.tmps[14]? = some (.int .i64 i) → a'.tmps[16]? = some (.int .i64 bb) → K a' w) : Code.wp Try.prog (Code.l c44) (Exit.then K Q) a w := by
  obtain ⟨b, off, hwa, hc⟩ := hE.wk
  obtain ⟨u, ha, hu⟩ := frame_open h.df h.sz
  have e0 := frame_at hu (by omega) h.s0
  have e1 := frame_at hu (by omega) h.s1
  have e7 := frame_at hu (by omega) h.s7
  have e9 := frame_at hu (by omega) h.s9
  have e11 := frame_at hu (by omega) h.s11
  have e12 := frame_at hu (by omega) h.s12
  have e14 := frame_at hu (by omega) h14
  have e16 := frame_at hu (by omega) h16
  obtain ⟨m, hm⟩ : ∃ m, m = E.cs.length := ⟨_, rfl⟩
  rw [← hm] at e0
  have HM := Lib.hid hm
  clear h hu h14 h16
  rw [hwa] at e1
  subst ha
  simp only [e0, e1, e7, e9, e11, e12, e14, e16]
  clear e0 e1 e7 e9 e11 e12 e14 e16
  have HC := Lib.hid hc
  clear hc
  have HK := Lib.hid hk
  clear hk
  have hn5 := hE.few
  conv => arg 2; whnf
  rw [← hm] at h0
  have b1 : ((m : Int) == 0) = false := by rw [beq_eq_false_iff_ne]; omega
  clear hm
  go_wp2
  exact HK.out _ ⟨rfl, rfl, by rw [← HM.out]; rfl, by rw [hwa]; rfl, rfl, rfl, rfl, rfl⟩ rfl rfl

set_option maxRecDepth 1000000 in
set_option maxHeartbeats 4000000 in
/-- Which one. -/
theorem piece45 {E : Env} (hE : EnvOk E) {t : Nat} {a : Act} {w : World} (h : FR E t a) {K : Act → World → Prop} {Q : Exit → Act → World → Prop} {i bb : Nat} (h14 : a.tmps[14]? = some (.int .i64 i)) (h16 : a.tmps[16]? = some (.int .i64 bb)) (hbb : bb < 256) (h0 : 0 < E.cs.length)
    (hk : ∀ a', FR E t a' → a'.tmps[14]? = some (.int .i64 i) → a'.tmps[17]? = some (.int .i64 (bb / 2 % E.cs.length : Nat)) → K a' w) : Code.wp Try.prog (Code.l c45) (Exit.then K Q) a w := by
  obtain ⟨b, off, hwa, hc⟩ := hE.wk
  obtain ⟨u, ha, hu⟩ := frame_open h.df h.sz
  have e0 := frame_at hu (by omega) h.s0
  have e1 := frame_at hu (by omega) h.s1
  have e7 := frame_at hu (by omega) h.s7
  have e9 := frame_at hu (by omega) h.s9
  have e11 := frame_at hu (by omega) h.s11
  have e12 := frame_at hu (by omega) h.s12
  have e14 := frame_at hu (by omega) h14
  have e16 := frame_at hu (by omega) h16
  obtain ⟨m, hm⟩ : ∃ m, m = E.cs.length := ⟨_, rfl⟩
  rw [← hm] at e0
  have HM := Lib.hid hm
  clear h hu h14 h16
  rw [hwa] at e1
  subst ha
  simp only [e0, e1, e7, e9, e11, e12, e14, e16]
  clear e0 e1 e7 e9 e11 e12 e14 e16
  have HC := Lib.hid hc
  clear hc
  have HK := Lib.hid hk
  clear hk
  have hn5 := hE.few
  conv => arg 2; whnf
  rw [← hm] at h0 HK
  have e1' : ((bb / 2 % m : Nat) : Int) = (bb : Int) / 2 % (m : Int) := by rw [Int.natCast_emod, Int.natCast_ediv]; rfl
  rw [e1'] at HK
  have b1 : ((m : Int) == 0) = false := by rw [beq_eq_false_iff_ne]; omega
  have b2 : ¬ (m : Int) = 0 := by omega
  clear hm e1'
  go_wp2
  exact HK.out _ ⟨rfl, rfl, by rw [← HM.out]; rfl, by rw [hwa]; rfl, rfl, rfl, rfl, rfl⟩ rfl rfl

set_option maxRecDepth 1000000 in
set_option maxHeartbeats 4000000 in
/-- Take. -/
theorem piece46 {E : Env} (hE : EnvOk E) {t : Nat} {a : Act} {w : World} (h : FR E t a) {K : Act → World → Prop} {Q : Exit → Act → World → Prop} {i kk : Nat} (hi : i < E.ws.length) (h14 : a.tmps[14]? = some (.int .i64 i)) (h17 : a.tmps[17]? = some (.int .i64 kk)) (hin : Below E.w0.heap.size E.w0 w) {g : Bool} {er : Int} {P : World → Prop}
    (ho : Calls Try.prog 13 #[.pointer (some ⟨E.LA.L, 0, none⟩), .int .i64 i, .int .i64 (wkAt E.ws i).prio, .int .i64 kk] w fun e w' => e = .returned (.tuple #[.bool g, .int .i64 er]) ∧ P w')
    (hk : ∀ a' w', FR E t a' → a'.tmps[14]? = some (.int .i64 i) → a'.tmps[17]? = some (.int .i64 kk) → a'.tmps[18]? = some (.bool g) → a'.tmps[19]? = some (.int .i64 er) → P w' → K a' w') : Code.wp Try.prog (Code.l c46) (Exit.then K Q) a w := by
  have b3 : (i : Int) < (E.ws.length : Int) := by omega
  obtain ⟨b, off, hwa, hc⟩ := hE.wk
  obtain ⟨u, ha, hu⟩ := frame_open h.df h.sz
  have e0 := frame_at hu (by omega) h.s0
  have e1 := frame_at hu (by omega) h.s1
  have e7 := frame_at hu (by omega) h.s7
  have e9 := frame_at hu (by omega) h.s9
  have e11 := frame_at hu (by omega) h.s11
  have e12 := frame_at hu (by omega) h.s12
  have e14 := frame_at hu (by omega) h14
  have e17 := frame_at hu (by omega) h17
  clear h hu h14 h17
  rw [hwa] at e1
  subst ha
  simp only [e0, e1, e7, e9, e11, e12, e14, e17]
  clear e0 e1 e7 e9 e11 e12 e14 e17
  have HC := Lib.hid hc
  clear hc
  have HK := Lib.hid hk
  clear hk
  have HO := Lib.hid ho
  clear ho
  have hn5 := hE.few
  conv => arg 2; whnf
  obtain ⟨c0, _, _⟩ := HC.out w hin i hi
  go_wp2_with (go_at_call 13; refine HO.out.mono ?_; rintro e w1 ⟨rfl, hp⟩)
  exact HK.out _ _ ⟨rfl, rfl, rfl, by rw [hwa]; rfl, rfl, rfl, rfl, rfl⟩ rfl rfl rfl rfl hp

end Go.Proofs.Ytoeakcfbnkndbaa

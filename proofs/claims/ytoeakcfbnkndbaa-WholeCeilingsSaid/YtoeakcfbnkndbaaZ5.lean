import Derived.Test.YtoeakcfbnkndbaaZ3
namespace Go.Proofs.Ytoeakcfbnkndbaa
open Go.RowKit Go.Maps

section
variable {n : Nat} {cs pr : List Int} {X X2 : Nat → List Int} {ps : Nat → PC} {own : Nat → Option Int} {has has2 : Nat → List Int}

theorem LawInv.congr (h : LawInv n cs pr X ps own has) (hX : ∀ q, q < 64 → X2 q = X q) (hh : ∀ j, j < n → has2 j = has j) : LawInv n cs pr X2 ps own has2 := by
  refine ⟨h.prio, h.pok, h.cok, h.live, ?_, ?_, ?_, h.who, ?_, ?_, ?_, ?_⟩
  · intro p hp x hx; rw [hX p hp] at hx; exact h.mem p hp x hx
  · intro i hi hs
    obtain ⟨p, hp, hc, hm⟩ := h.all i hi hs
    exact ⟨p, hp, hc, by rw [hX p hp]; exact hm⟩
  · intro p hp; rw [hX p hp]; exact h.nodup p hp
  · intro p hp; rw [hX p hp]; exact h.row p hp
  · intro p q hq hp
    rw [hX p hp, hX q (by omega)]
    exact h.down p q hq hp
  · intro i hi x; rw [hh i hi]; exact h.hasS i hi x
  · intro i hi; rw [hh i hi]; exact h.hasN i hi

theorem eraseIdx_nodup : ∀ {l : List Int}, l.Nodup → ∀ {k : Nat}, k < l.length → ∀ {x : Int}, x ∈ l.eraseIdx k ↔ x ∈ l ∧ x ≠ l.getD k 0
  | [], _, k, hk, _ => by simp at hk
  | a :: r, hn, 0, _, x => by
    obtain ⟨h1, _⟩ := List.nodup_cons.1 hn
    rw [List.eraseIdx_cons_zero, List.mem_cons]
    constructor
    · intro hx
      refine ⟨Or.inr hx, fun e => ?_⟩
      have e : x = a := e
      rw [e] at hx
      exact h1 hx
    · rintro ⟨hx | hx, hne⟩
      · exact absurd hx hne
      · exact hx
  | a :: r, hn, k + 1, hk, x => by
    obtain ⟨h1, h2⟩ := List.nodup_cons.1 hn
    have hk2 : k < r.length := by simpa using hk
    have ih := eraseIdx_nodup h2 hk2 (x := x)
    have e : (a :: r).getD (k + 1) 0 = r.getD k 0 := rfl
    rw [List.eraseIdx_cons_succ, List.mem_cons, ih, List.mem_cons, e]
    have hm : r.getD k 0 ∈ r := by
      rw [List.getD, List.getElem?_eq_getElem hk2]
      exact List.getElem_mem _
    constructor
    · rintro (hx | ⟨hx, hne⟩)
      · refine ⟨Or.inl hx, fun e => h1 ?_⟩
        rw [← hx, e]
        exact hm
      · exact ⟨Or.inr hx, hne⟩
    · rintro ⟨hx | hx, hne⟩
      · exact Or.inl hx
      · exact Or.inr ⟨hx, hne⟩

end

/-- The dispatcher's Raise of the first one. -/
theorem draise_turn {w : World} {A : At} {V : Nat → Value} {X : Nat → List Int} {ps : Nat → PC} {s : Nat} (h : Dis w A V X ps s) (i : Nat) (hi : i < A.n) (hs : (ps i).state = 1) {p : Nat} (hp : p < 64) {r : List Int} (hx : X p = (i : Int) :: r)
    (hu : ∀ q, q < 64 → q ≠ p → (i : Int) ∉ X q) (hr : (i : Int) ∉ r) (up : Int) (h0 : 0 ≤ up) (h1 : up ≤ 63) (t : Nat) (ht : t < 64) (hcur : max (ps i).base up = (t : Int)) (hl : ∀ q, q < 64 → (X q).length ≤ 1000) :
    Calls Try.prog 26 #[.pointer (some ⟨A.D, 0, none⟩), .int .i64 i, .int .i64 up] w fun e w' => e = .returned (.int .i64 0) ∧
      Dis.To w A V (fset (xdrop X p i) t ((i : Int) :: xdrop X p i t)) (pset ps i ⟨(ps i).prio, (ps i).state, (ps i).base, up, (ps i).begin⟩) w' := by
  have hin : (i : Int) ∈ X p := by rw [hx]; exact List.mem_cons_self ..
  have hs0 : (ps i).state ≠ 0 := by rw [hs]; decide
  have hc : PC.cur ⟨(ps i).prio, (ps i).state, (ps i).base, up, (ps i).begin⟩ = (t : Int) := by
    rw [PC.cur_one (p := ⟨(ps i).prio, (ps i).state, (ps i).base, up, (ps i).begin⟩) hs]
    exact hcur
  by_cases e : t = p
  · subst e
    have hX : fset (xdrop X t (i : Int)) t ((i : Int) :: xdrop X t (i : Int) t) = X := by
      rw [xdrop_head hx]
      funext q
      by_cases e : q = t
      · subst e
        rw [fset_same, fset_same, hx]
      · rw [fset_other _ _ e, fset_other _ _ e]
    rw [hX]
    exact draise_same h i hi hs0 t hp (fun q hq => hu q (by omega) (by omega)) hin up h0 h1 hc
  · refine draise_move h i hi hs0 p hp (fun q hq => hu q (by omega) (by omega)) hin ?_ up h0 h1 t ht hc (fun e2 => e e2.symm) ?_
    · intro q hq
      rw [xdrop_head hx]
      by_cases e2 : q = p
      · subst e2; rw [fset_same]; exact hr
      · rw [fset_other _ _ e2]; exact hu q hq e2
    · rw [xdrop_head hx, fset_other _ _ e]
      exact hl t ht

section
variable {E : Env} {w w' : World} {V : Nat → Value} {X : Nat → List Int} {ps : Nat → PC} {s k : Nat} {own : Nat → Option Int} {at_ : Nat → Nat} {dn : Nat → Bool}

/-- The first one has given one back. -/
theorem Core.gave (hE : EnvOk E) (h : Core E w V X ps s k own at_ dn) {i : Nat} (hi : i < E.ws.length) {own' : Nat → Option Int} {xs' : List Int} (hG : Gave E.LA E.cv E.cs k own' E.wb (i * 3 + 1) xs' w w') :
    ∃ V', Core E w' V' (fset X (64 + i) xs') ps s k own' at_ dn := by
  obtain ⟨w1, w2, v2, hL, hu, hb, ho, rfl⟩ := hG
  have c1 := h.lckTo hE hL hu
  have hroom := c1.dis.room
  have ho2 : w2.ownsRow E.A.B 3 1 v2 xs'.length (ints xs') := by
    refine ⟨ho.1, ?_⟩
    rcases ho.2 with hn | ⟨g, cap, cur, hv, hB, rest⟩
    · exact Or.inl hn
    · exact Or.inr ⟨g, cap, cur, hv, by omega, rest⟩
  exact ⟨_, c1.putHas hE hi ho2 (Upd.below _ hb) (fun q hq => Or.inr (ho.lt q hq).1)⟩

/-- The first one's priority follows its locks. -/
theorem raise_ok (hE : EnvOk E) {V1 : Nat → Value} {X1 : Nat → List Int} {w1 : World} {k1 : Nat} {own1 : Nat → Option Int} (hc : Core E w1 V1 X1 ps s k1 own1 at_ dn) {has has' : Nat → List Int} (h : LawInv E.ws.length E.cs (prOf E.ws) X ps own has)
    (hX : ∀ q, q < 64 → X1 q = X q) {i p : Nat} {r : List Int} (hi : i < E.ws.length) (hp : p < 64) (hx : X p = (i : Int) :: r) (hno : ∀ q, p < q → q < 64 → X q = [])
    (h1 : ∀ l x, x ≠ (i : Int) → (own1 l = some x ↔ own l = some x)) (h2 : ∀ l, own1 l = some (i : Int) → l < E.cs.length ∧ (prOf E.ws).getD i 0 ≤ E.cs.getD l 0) (h3 : ∀ j, j ≠ i → has' j = has j)
    (h4 : ∀ x, x ∈ has' i ↔ ∃ l : Nat, x = (l : Int) ∧ own1 l = some (i : Int)) (h5 : (has' i).Nodup) :
    Calls Try.prog 11 #[.pointer (some ⟨E.LA.L, 0, none⟩), .pointer (some ⟨E.A.D, 0, none⟩), .int .i64 i] w1 fun e w' => e = .returned (.bool true) ∧
      ∃ V2 X2 ps2 s2, Core E w' V2 X2 ps2 s2 k1 own1 at_ dn ∧ (∀ q, 64 ≤ q → X2 q = X1 q ∧ V2 q = V1 q) ∧ LawInv E.ws.length E.cs (prOf E.ws) X2 ps2 own1 has' ∧ ∀ j, (ps2 j).state = (ps j).state := by
  have hiX : (i : Int) ∈ X p := by rw [hx]; exact List.mem_cons_self ..
  have hsi : (ps i).state = 1 := by
    obtain ⟨j, e, _, hs, _⟩ := h.mem p hp _ hiX
    have e : j = i := by omega
    rw [← e]; exact hs
  have hli := h.live i hi
  rw [hsi] at hli
  have hli := hli.resolve_left (by decide)
  have hu63 : upOf E.cs own1 (i : Int) ≤ 63 := up_le (by decide) (fun l hl _ => h.cok l hl)
  have hu0 := up_ge0 E.cs own1 (i : Int)
  have hpk := h.pok i hi
  obtain ⟨t, ht⟩ : ∃ t : Nat, (t : Int) = max ((prOf E.ws).getD i 0) (upOf E.cs own1 (i : Int)) := ⟨(max ((prOf E.ws).getD i 0) (upOf E.cs own1 (i : Int))).toNat, by omega⟩
  obtain ⟨ht64, hlaw⟩ := h.turn hi hp hx hno own1 has' h1 h2 h3 h4 h5 t ht
  have hn5 := hE.few
  have hx1 : X1 p = (i : Int) :: r := by rw [hX p hp]; exact hx
  have hnd := h.nodup p hp
  rw [hx] at hnd
  refine (lraise_any hc.lck hc.dis (i : Int) (fun wz hz => draise_turn hz i (by rw [hE.n]; exact hi) hsi hp hx1 ?_ (List.nodup_cons.1 hnd).1 _ hu0 hu63 t ht64 (by rw [hli.2.1]; exact ht.symm) ?_)).mono ?_
  · intro q hq hqp hm
    rw [hX q hq] at hm
    exact hqp (h.uniq hq hp hm hiX)
  · intro q hq
    rw [hX q hq]
    have := h.len hq
    omega
  · rintro e w' ⟨he, hto⟩
    obtain ⟨V2, s2, hc2, hv⟩ := hc.disTo hE hto
    refine ⟨he, V2, _, _, s2, hc2, fun q hq => ⟨?_, hv q hq⟩, hlaw.congr ?_ (fun _ _ => rfl), ?_⟩
    · rw [xdrop_head hx1, fset_other _ _ (by omega), fset_other _ _ (by omega)]
    · intro q hq
      rw [xdrop_head hx1, xdrop_head hx]
      by_cases e1 : q = t
      · subst e1
        rw [fset_same, fset_same]
        by_cases e2 : q = p
        · subst e2; rw [fset_same, fset_same]
        · rw [fset_other _ _ e2, fset_other _ _ e2, hX q hq]
      · rw [fset_other _ _ e1, fset_other _ _ e1]
        by_cases e2 : q = p
        · subst e2; rw [fset_same, fset_same]
        · rw [fset_other _ _ e2, fset_other _ _ e2, hX q hq]
    · intro j
      by_cases e : j = i
      · subst e; rw [pset_at]
      · rw [pset_ne _ _ e]

end
end Go.Proofs.Ytoeakcfbnkndbaa

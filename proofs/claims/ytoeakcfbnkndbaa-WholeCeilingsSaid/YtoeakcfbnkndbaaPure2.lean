import Derived.Test.YtoeakcfbnkndbaaPure
namespace Go.Proofs.Ytoeakcfbnkndbaa
open Go.RowKit

def prI (pr : List Int) (a : Int) : Int := pr.getD a.toNat 0

theorem prI_nat (pr : List Int) (i : Nat) : prI pr (i : Int) = pr.getD i 0 := rfl

/-- What holds at each tick. -/
structure LawInv (n : Nat) (cs pr : List Int) (X : Nat → List Int) (ps : Nat → PC) (own : Nat → Option Int) (has : Nat → List Int) : Prop where
  prio : ∀ i, i < n → (ps i).prio = pr.getD i 0
  pok : ∀ i, i < n → 1 ≤ pr.getD i 0 ∧ pr.getD i 0 ≤ 63
  cok : ∀ l, l < cs.length → cs.getD l 0 ≤ 63
  live : ∀ i, i < n → (ps i).state = 0 ∨ ((ps i).state = 1 ∧ (ps i).base = pr.getD i 0 ∧ (ps i).raised = upOf cs own (i : Int))
  mem : ∀ p, p < 64 → ∀ x ∈ X p, ∃ i : Nat, x = (i : Int) ∧ i < n ∧ (ps i).state = 1 ∧ (ps i).cur = (p : Int)
  all : ∀ i, i < n → (ps i).state = 1 → ∃ p : Nat, p < 64 ∧ (ps i).cur = (p : Int) ∧ (i : Int) ∈ X p
  nodup : ∀ p, p < 64 → (X p).Nodup
  who : ∀ l x, own l = some x → l < cs.length ∧ ∃ i : Nat, x = (i : Int) ∧ i < n ∧ (ps i).state = 1 ∧ pr.getD i 0 ≤ cs.getD l 0
  row : ∀ p, p < 64 → (X p).Pairwise (fun a b => upOf cs own b < prI pr a)
  down : ∀ p q, q < p → p < 64 → ∀ a ∈ X p, ∀ b ∈ X q, upOf cs own b < prI pr a
  hasS : ∀ i, i < n → ∀ x, x ∈ has i ↔ ∃ l : Nat, x = (l : Int) ∧ own l = some (i : Int)
  hasN : ∀ i, i < n → (has i).Nodup

section
variable {n : Nat} {cs pr : List Int} {X : Nat → List Int} {ps : Nat → PC} {own : Nat → Option Int} {has : Nat → List Int}

theorem PC.cur_one {p : PC} (h : p.state = 1) : p.cur = max p.base p.raised := by
  unfold PC.cur PC.bas
  rw [if_neg (by rw [h]; decide)]

theorem LawInv.cur (h : LawInv n cs pr X ps own has) {i : Nat} (hi : i < n) (hs : (ps i).state = 1) : (ps i).cur = max (pr.getD i 0) (upOf cs own (i : Int)) := by
  rcases h.live i hi with h0 | ⟨_, h2, h3⟩
  · rw [hs] at h0; exact absurd h0 (by decide)
  · rw [PC.cur_one hs, h2, h3]

theorem LawInv.up0 (h : LawInv n cs pr X ps own has) {i : Nat} (hi : i < n) (hs : (ps i).state = 0) : upOf cs own (i : Int) = 0 := by
  have h1 := up_ge0 cs own (i : Int)
  have h2 : upOf cs own (i : Int) ≤ 0 := up_le (Int.le_refl _) (fun l _ ho => by
    obtain ⟨_, j, e, _, h3, _⟩ := h.who l _ ho
    have e : j = i := by omega
    subst e
    rw [hs] at h3
    exact absurd h3 (by decide))
  omega

theorem LawInv.up63 (h : LawInv n cs pr X ps own has) (x : Int) : upOf cs own x ≤ 63 := up_le (by decide) (fun l hl _ => h.cok l hl)

theorem LawInv.notin (h : LawInv n cs pr X ps own has) {i : Nat} (hs : (ps i).state = 0) {q : Nat} (hq : q < 64) : (i : Int) ∉ X q := by
  intro hm
  obtain ⟨j, e, _, h3, _⟩ := h.mem q hq _ hm
  have e : j = i := by omega
  subst e
  rw [hs] at h3
  exact absurd h3 (by decide)

theorem LawInv.uniq (h : LawInv n cs pr X ps own has) {x : Int} {p q : Nat} (hp : p < 64) (hq : q < 64) (h1 : x ∈ X p) (h2 : x ∈ X q) : p = q := by
  obtain ⟨i, e1, _, _, c1⟩ := h.mem p hp _ h1
  obtain ⟨j, e2, _, _, c2⟩ := h.mem q hq _ h2
  have e : i = j := by omega
  subst e
  rw [c1] at c2
  omega

/-- A nodup list of numbers below n is no longer than n. -/
theorem small_length : ∀ (n : Nat) (l : List Int), l.Nodup → (∀ x ∈ l, ∃ i : Nat, x = (i : Int) ∧ i < n) → l.length ≤ n
  | 0, l, _, hm => by
    cases l with
    | nil => simp
    | cons x r =>
      obtain ⟨i, _, h⟩ := hm x (List.mem_cons_self ..)
      omega
  | n + 1, l, hn, hm => by
    by_cases hin : (n : Int) ∈ l
    · have h1 := small_length n (l.erase (n : Int)) (hn.erase _) (fun x hx => by
        obtain ⟨h2, h3⟩ := (hn.mem_erase_iff).1 hx
        obtain ⟨i, e, hi⟩ := hm x h3
        refine ⟨i, e, ?_⟩
        have : i ≠ n := fun e2 => h2 (by rw [e, e2])
        omega)
      rw [List.length_erase_of_mem hin] at h1
      omega
    · have h1 := small_length n l hn (fun x hx => by
        obtain ⟨i, e, hi⟩ := hm x hx
        refine ⟨i, e, ?_⟩
        have : i ≠ n := fun e2 => hin (by rw [← e2, ← e]; exact hx)
        omega)
      omega

theorem LawInv.len (h : LawInv n cs pr X ps own has) {p : Nat} (hp : p < 64) : (X p).length ≤ n :=
  small_length n _ (h.nodup p hp) (fun x hx => by
    obtain ⟨i, e, hi, _⟩ := h.mem p hp x hx
    exact ⟨i, e, hi⟩)

theorem LawInv.hasLen (h : LawInv n cs pr X ps own has) {i : Nat} (hi : i < n) : (has i).length ≤ cs.length :=
  small_length cs.length _ (h.hasN i hi) (fun x hx => by
    obtain ⟨l, e, ho⟩ := (h.hasS i hi x).1 hx
    exact ⟨l, e, (h.who l _ ho).1⟩)

theorem pair_two {R : Int → Int → Prop} : ∀ {l : List Int}, l.Pairwise R → ∀ {a b : Int}, a ∈ l → b ∈ l → a ≠ b → R a b ∨ R b a
  | [], _, _, _, h, _, _ => by cases h
  | x :: r, hp, a, b, ha, hb, hne => by
    obtain ⟨h1, h2⟩ := List.pairwise_cons.1 hp
    rcases List.mem_cons.1 ha with e1 | ha2
    · rcases List.mem_cons.1 hb with e2 | hb2
      · exact absurd (e1.trans e2.symm) hne
      · rw [e1]; exact Or.inl (h1 b hb2)
    · rcases List.mem_cons.1 hb with e2 | hb2
      · rw [e2]; exact Or.inr (h1 a ha2)
      · exact pair_two h2 ha2 hb2 hne

/-- Of all less urgent ones than some priority one at most is raised to it. -/
theorem LawInv.oneUp (h : LawInv n cs pr X ps own has) (hn : pr.length = n) : OneUp pr cs own := by
  intro i j hij hj p h1 h2 h3 h4
  rw [hn] at hj
  have hi : i < n := by omega
  have st : ∀ k, k < n → pr.getD k 0 < p → p ≤ upOf cs own (k : Int) → (ps k).state = 1 := by
    intro k hk a b
    rcases h.live k hk with h0 | ⟨h0, _⟩
    · have := h.up0 hk h0
      have := (h.pok k hk).1
      omega
    · exact h0
  obtain ⟨q1, l1, _, m1⟩ := h.all i hi (st i hi h1 h2)
  obtain ⟨q2, l2, _, m2⟩ := h.all j hj (st j hj h3 h4)
  rcases Nat.lt_trichotomy q1 q2 with hlt | heq | hgt
  · have := h.down q2 q1 hlt l2 _ m2 _ m1
    rw [prI_nat] at this
    omega
  · subst heq
    rcases pair_two (h.row q1 l1) m1 m2 (by omega) with hr | hr
    · rw [prI_nat] at hr; omega
    · rw [prI_nat] at hr; omega
  · have := h.down q1 q2 hgt l1 _ m1 _ m2
    rw [prI_nat] at this
    omega

/-- Who is the first has a priority of its own above what any other one is raised to. -/
theorem LawInv.first (h : LawInv n cs pr X ps own has) {i p : Nat} {r : List Int} (hp : p < 64) (hx : X p = (i : Int) :: r) (hno : ∀ q, p < q → q < 64 → X q = []) {j : Nat} (hj : j < n) (hs : (ps j).state = 1) (hne : j ≠ i) :
    upOf cs own (j : Int) < pr.getD i 0 := by
  obtain ⟨q, hq, _, hm⟩ := h.all j hj hs
  rcases Nat.lt_trichotomy p q with hlt | heq | hgt
  · rw [hno q hlt hq] at hm; cases hm
  · subst heq
    rw [hx] at hm
    rcases List.mem_cons.1 hm with e | hm
    · omega
    · have := h.row p hp
      rw [hx] at this
      exact (List.pairwise_cons.1 this).1 _ hm
  · exact h.down p q hgt hp (i : Int) (by rw [hx]; exact List.mem_cons_self ..) _ hm

/-- So each lock that it may ask for is free, but for its own ones. -/
theorem LawInv.free (h : LawInv n cs pr X ps own has) {i p : Nat} {r : List Int} (hp : p < 64) (hx : X p = (i : Int) :: r) (hno : ∀ q, p < q → q < 64 → X q = []) {l : Nat} (hc : pr.getD i 0 ≤ cs.getD l 0) (hne : own l ≠ some (i : Int)) : own l = none := by
  cases ho : own l with
  | none => rfl
  | some x =>
    obtain ⟨hl, j, rfl, hj, hs, _⟩ := h.who l x ho
    have hji : j ≠ i := fun e => hne (by rw [ho, e])
    have h1 := h.first hp hx hno hj hs hji
    have h2 := up_ge hl ho
    omega

end
end Go.Proofs.Ytoeakcfbnkndbaa

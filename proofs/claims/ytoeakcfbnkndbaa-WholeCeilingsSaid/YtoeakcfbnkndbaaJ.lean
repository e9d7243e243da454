import Derived.Test.YtoeakcfbnkndbaaI
namespace Go.Proofs.Ytoeakcfbnkndbaa
open Go.RowKit

/-- Ids as cells. -/
def ints (xs : List Int) : List Value := xs.map (fun x => .int .i64 x)

theorem ints_len (xs : List Int) : (ints xs).length = xs.length := by simp [ints]
theorem ints_one (xs : List Int) : ∀ v ∈ ints xs, v.oneCell' = true := by
  intro v hv
  obtain ⟨x, _, rfl⟩ := List.mem_map.1 hv
  rfl
theorem ints_at {xs : List Int} {j : Nat} (h : j < xs.length) : (ints xs)[j]? = some (.int .i64 (xs.getD j 0)) := by
  simp [ints, List.getD, h]

/-- A row's block. -/
def RowB (w : World) (g c : Nat) : Prop := ∃ cur : Array Value, w.heap[g]? = some (.cells cur 3 (0, 0)) ∧ cur.size = c

section
variable {w : World} {g c : Nat}
theorem RowB.setCell (h : RowB w g c) (a : Addr) (v : Value) : RowB (w.setCell a v) g c := by
  obtain ⟨cur, h1, h2⟩ := h
  unfold RowB
  simp only [World.setCell, Array.getElem?_modify]
  by_cases e : a.block = g
  · rw [if_pos e, h1]
    refine ⟨_, rfl, ?_⟩
    split <;> simp [h2]
  · rw [if_neg e]
    exact ⟨cur, h1, h2⟩

theorem RowB.setCells (b : Nat) : ∀ (vs : List Value) (o : Nat) {w : World}, RowB w g c → RowB (w.setCells b o vs) g c
  | [], _, _, h => h
  | v :: r, o, _, h => RowB.setCells b r (o + 1) (h.setCell ⟨b, o, none⟩ v)

theorem RowB.drew (h : RowB w g c) : RowB w.drew g c := h

theorem RowB.lt (h : RowB w g c) : g < w.heap.size := by
  obtain ⟨cur, h1, _⟩ := h
  exact (Array.getElem?_eq_some_iff.1 h1).1

theorem RowB.free (h : RowB w g c) (j : Nat) : w.frozen? ⟨g, j, none⟩ = false := by
  obtain ⟨cur, h1, _⟩ := h
  simp [World.frozen?, h1]

theorem RowB.own {B n : Nat} {xs : List Value} (h : RowB w g c) (hB : B ≤ g) (hn : n ≤ c) (hc : c ≤ maxLen) (hl : xs.length = n) (hcell : ∀ j v, xs[j]? = some v → w.cell? ⟨g, j, none⟩ = some v) :
    w.ownsRow B 3 1 (.slice (some ⟨g, 0, none⟩) n c) n xs := by
  obtain ⟨cur, h1, h2⟩ := h
  refine ⟨by omega, Or.inr ⟨g, c, cur, rfl, hB, h1, hn, hc, by omega, ?_⟩⟩
  apply List.ext_getElem?
  intro j
  rw [List.getElem?_take]
  split
  · rename_i hj
    have hx : xs[j]? = some (xs[j]'(by omega)) := List.getElem?_eq_getElem (by omega)
    have := hcell j _ hx
    simp only [World.cell?, h1] at this
    rw [hx]
    simpa using this
  · rw [List.getElem?_eq_none (by omega)]
end

theorem Upd.setCells {F : Nat → Prop} {a : World} (b : Nat) (hb : F b ∨ a.heap.size ≤ b) : ∀ (vs : List Value) (o : Nat) {w : World}, Upd F a w → Upd F a (w.setCells b o vs)
  | [], _, _, h => h
  | v :: r, o, _, h => Upd.setCells b hb r (o + 1) (h.setCell (p := ⟨b, o, none⟩) hb v)

/-- Delete of one id. -/
theorem delete_row {w : World} {B : Nat} {v : Value} {xs : List Int} (ho : w.ownsRow B 3 1 v xs.length (ints xs)) (k : Nat) (hk : k < xs.length) :
    Calls Try.prog 54 #[v, .int .i64 k, .int .i64 ((k : Int) + 1)] w fun e w' =>
      ∃ a c, e = .returned (.slice a (xs.length - 1) c) ∧ w'.ownsRow B 3 1 (.slice a (xs.length - 1) c) (xs.length - 1) (ints (xs.eraseIdx k)) ∧ Upd (fun b => v.ownBlock = some b) w w' ∧ (Value.slice a (xs.length - 1) c).ownBlock = v.ownBlock := by
  rcases ho.2 with ⟨_, hn⟩ | ⟨g, c, cur, rfl, hB, hh, hnc, hcm, hcs, ht⟩
  · omega
  · have hrow : RowB w g c := ⟨cur, hh, by omega⟩
    have hcell : ∀ j u, (ints xs)[j]? = some u → w.cell? ⟨g, j, none⟩ = some u := by
      intro j u hu
      rw [← ht, List.getElem?_take] at hu
      split at hu
      · simp [World.cell?, hh, ← Array.getElem?_toList, hu]
      · cases hu
    have hm : c ≤ 9223372036854775807 := by unfold maxLen at hcm; omega
    refine (delete_walk g xs.length c k (ints xs) (ints_len xs) hk hnc hm hcell hrow.free (ints_one xs)).mono ?_
    rintro e w' ⟨rfl, rfl⟩
    have hml : (moved (ints xs) k xs.length).length = xs.length - (k + 1) := moved_length (by rw [ints_len]; exact Nat.le_refl _)
    refine ⟨some ⟨g, 0, none⟩, c, rfl, ?_, ?_, rfl⟩
    · refine RowB.own (((RowB.setCells g _ _ hrow.drew)).setCell _ _) hB (by omega) hcm (by rw [ints_len, List.length_eraseIdx_of_lt hk]) ?_
      intro j u hu
      have hj : j < xs.length - 1 := by
        have := (List.getElem?_eq_some_iff.1 hu).1
        rwa [ints_len, List.length_eraseIdx_of_lt hk] at this
      rw [World.cell?_setCell_other _ _ _ _ (by intro e; cases e; omega)]
      have hu' : (if j < k then (ints xs)[j]? else (ints xs)[j + 1]?) = some u := by
        rw [← hu, ints, ints, List.getElem?_map, List.getElem?_map, List.getElem?_map, List.getElem?_eraseIdx]
        split <;> rfl
      by_cases hjk : j < k
      · rw [if_pos hjk] at hu'
        rw [World.cell?_setCells_out g _ _ _ _ (fun _ _ => Or.inl hjk)]
        exact hcell j u hu'
      · rw [if_neg hjk] at hu'
        have hin := World.cell?_setCells_in g (moved (ints xs) k xs.length) k w.drew (fun t ht => by
          rw [hml] at ht
          show (w.cell? _).isSome = true
          rw [hcell (k + t) _ (List.getElem?_eq_getElem (by rw [ints_len]; omega))]; rfl) (j - k) (by rw [hml]; omega)
        rw [show k + (j - k) = j by omega] at hin
        rw [hin, ← hu', ← List.getElem?_eq_getElem, moved_get (by omega), show k + 1 + (j - k) = j + 1 by omega]
    · exact (Upd.setCells (F := fun b => some g = some b) g (Or.inl rfl) _ _ (Upd.refl _ _).drew).setCell (p := ⟨g, _, none⟩) (Or.inl rfl) _

/-- Ids behind one: stored from behind. -/
theorem cons_cells (g : Nat) (xs : List Int) (id : Int) (w : World) (h : ∀ j, j < xs.length + 1 → (w.cell? ⟨g, j, none⟩).isSome = true) :
    ∀ j u, (ints (id :: xs))[j]? = some u → ((w.setCells g 1 (ints xs)).setCells g 0 [.int .i64 id]).cell? ⟨g, j, none⟩ = some u := by
  intro j u hu
  cases j with
  | zero =>
    simp [ints] at hu
    subst hu
    have := World.cell?_setCells_in g [.int .i64 id] 0 (w.setCells g 1 (ints xs)) (fun j hj => by
      simp at hj
      subst hj
      exact isSome_setCells' g _ 1 w (fun t ht => h _ (by rw [ints_len] at ht; omega)) 0 (h 0 (by omega))) 0 (by simp)
    simpa using this
  | succ j =>
    have hx : (ints xs)[j]? = some u := by simpa [ints] using hu
    have hj : j < (ints xs).length := (List.getElem?_eq_some_iff.1 hx).1
    rw [World.cell?_setCells_out g _ _ _ _ (fun _ _ => Or.inr (by simp))]
    have := World.cell?_setCells_in g (ints xs) 1 w (fun t ht => h _ (by rw [ints_len] at ht; omega)) j hj
    rw [show 1 + j = j + 1 by omega] at this
    rw [this, ← hx, List.getElem?_eq_getElem hj]

/-- Ids behind one: stored from ahead. -/
theorem cons_cells2 (g : Nat) (xs : List Int) (id : Int) (w : World) (h : ∀ j, j < xs.length + 1 → (w.cell? ⟨g, j, none⟩).isSome = true) :
    ∀ j u, (ints (id :: xs))[j]? = some u → ((w.setCells g 0 [.int .i64 id]).drew.setCells g 1 (ints xs)).cell? ⟨g, j, none⟩ = some u := by
  intro j u hu
  cases j with
  | zero =>
    simp [ints] at hu
    subst hu
    rw [World.cell?_setCells_out g _ _ _ _ (fun _ _ => Or.inl (by simp))]
    have := World.cell?_setCells_in g [.int .i64 id] 0 w (fun j hj => by
      simp at hj
      subst hj
      exact h 0 (by omega)) 0 (by simp)
    simpa using this
  | succ j =>
    have hx : (ints xs)[j]? = some u := by simpa [ints] using hu
    have hj : j < (ints xs).length := (List.getElem?_eq_some_iff.1 hx).1
    have := World.cell?_setCells_in g (ints xs) 1 (w.setCells g 0 [.int .i64 id]).drew (fun t ht => by
      rw [ints_len] at ht
      exact isSome_setCells' g _ 0 w (fun k hk => by simp at hk; subst hk; exact h 0 (by omega)) (1 + t) (h _ (by omega))) j hj
    rw [show 1 + j = j + 1 by omega] at this
    rw [this, ← hx, List.getElem?_eq_getElem hj]

/-- An id appended to a row. -/
theorem append_row {w : World} {B : Nat} {v : Value} {xs : List Int} (ho : w.ownsRow B 3 1 v xs.length (ints xs)) (hs : xs.length ≤ 1000) (hBw : B ≤ w.heap.size) (vb c1 : Nat) (id : Int)
    (hcv : w.cell? ⟨vb, 0, none⟩ = some (.int .i64 id)) (t : TypeId) (ht : Try.prog.underlying t = some (.slice 3)) :
    ∃ a c w1, (∀ ty, (Builtin.append_ #[t, t] ty #[v, .slice (some ⟨vb, 0, none⟩) 1 c1]).run Try.prog w = .ok (.slice a (xs.length + 1) c) w1) ∧
      w1.ownsRow B 3 1 (.slice a (xs.length + 1) c) (xs.length + 1) (ints (xs ++ [id])) ∧ Upd (fun b => v.ownBlock = some b) w w1 ∧
      (∀ k, (Value.slice a (xs.length + 1) c).ownBlock = some k → v.ownBlock = some k ∨ w.heap.size ≤ k) := by
  have hvs : ∀ j u, ([Value.int .i64 id])[j]? = some u → w.cell? ((⟨vb, 0, none⟩ : Addr).add j) = some u := by
    intro j u hj
    have : j = 0 := by
      have := (List.getElem?_eq_some_iff.1 hj).1
      simpa using this
    subst this
    simp at hj
    subst hj
    exact hcv
  have h1v : ∀ u ∈ ([Value.int .i64 id]), u.oneCell' = true := by intro u hu; simp at hu; subst hu; rfl
  obtain ⟨i0, hi0, hz0, hzs, hzb⟩ := info_parts Try.info3
  obtain ⟨v', w1, hrun, hown, hgrow, _⟩ := run_append_own (P := Try.prog) w B t 0 3 i0 _ 1 8 ht hi0 hz0 hzs hzb rfl (by omega) v xs.length (ints xs) ho ⟨vb, 0, none⟩ 1 c1 [.int .i64 id] rfl hvs h1v
    (by unfold maxLen; omega) (by omega) hBw
  have happ : ints xs ++ [.int .i64 id] = ints (xs ++ [id]) := by simp [ints]
  rw [happ] at hown
  obtain ⟨a', c', hv'⟩ : ∃ a' c', v' = .slice a' (xs.length + 1) c' := by
    rcases hown.2 with ⟨_, h⟩ | ⟨g, c, cur, h, _⟩
    · omega
    · exact ⟨some ⟨g, 0, none⟩, c, h⟩
  subst hv'
  refine ⟨a', c', w1, fun _ => hrun, hown, (Upd.refl _ _).grown hgrow (fun k hk => Or.inl hk), ?_⟩
  intro k hk
  rcases ho.2 with ⟨rfl, hn⟩ | ⟨g, cap, cur, rfl, hbg, hg, hnc, hcm, hcs, htake⟩
  · have hr := run_append_nil (P := Try.prog) w t 0 3 i0 _ ht hi0 hz0 ⟨vb, 0, none⟩ 1 c1 [.int .i64 id] (by rw [hzs]; rfl) hvs (by omega) (by omega) (by rw [hzb]; omega)
    rw [hrun] at hr
    injection hr with h1 h2
    rw [h1] at hk
    simp [Value.ownBlock] at hk
    right; omega
  · by_cases hroom : xs.length + 1 ≤ cap
    · have hr := run_append_room (P := Try.prog) w t 0 3 i0 ht hi0 g xs.length cap cur hg ⟨vb, 0, none⟩ 1 c1 [.int .i64 id] (by rw [hzs]; rfl) hvs h1v hroom (by rw [hzs]; simp; omega)
      rw [hrun] at hr
      injection hr with h1 h2
      rw [h1] at hk
      left; exact hk
    · have holds : ∀ j u, (ints xs)[j]? = some u → w.cell? ((⟨g, 0, none⟩ : Addr).add j) = some u := ho.cells (g := g) rfl
      have hr := run_append_grow (P := Try.prog) w t 0 3 i0 _ ht hi0 hz0 ⟨g, 0, none⟩ xs.length cap (ints xs) (by rw [hzs, ints_len]; omega) holds ⟨vb, 0, none⟩ 1 c1 [.int .i64 id] (by rw [hzs]; rfl) hvs (by omega) (by omega)
        (by rw [hzb]; exact growslice_fits (by omega) (by omega))
      rw [hrun] at hr
      injection hr with h1 h2
      rw [h1] at hk
      simp [Value.ownBlock] at hk
      right; omega

/-- Insert of one id at 0. -/
theorem insert_row {w : World} {B : Nat} {v : Value} {xs : List Int} (ho : w.ownsRow B 3 1 v xs.length (ints xs)) (hs : xs.length ≤ 1000) (hBw : B ≤ w.heap.size) (vb : Nat) (id : Int)
    (hvb : w.heap[vb]? = some (.cells #[.int .i64 id] 3 (0, 0))) (hne : v.ownBlock ≠ some vb) :
    Calls Try.prog 77 #[v, .int .i64 0, .slice (some ⟨vb, 0, none⟩) 1 1] w fun e w' =>
      ∃ a c, e = .returned (.slice a (xs.length + 1) c) ∧ w'.ownsRow B 3 1 (.slice a (xs.length + 1) c) (xs.length + 1) (ints (id :: xs)) ∧ Upd (fun b => v.ownBlock = some b) w w' ∧
        (∀ k, (Value.slice a (xs.length + 1) c).ownBlock = some k → v.ownBlock = some k ∨ w.heap.size ≤ k) := by
  have hcv : w.cell? ⟨vb, 0, none⟩ = some (.int .i64 id) := by simp [World.cell?, hvb]
  have hvs : ∀ j u, ([Value.int .i64 id])[j]? = some u → w.cell? ⟨vb, j, none⟩ = some u := by
    intro j u hj
    have : j = 0 := by
      have := (List.getElem?_eq_some_iff.1 hj).1
      simpa using this
    subst this
    simp at hj
    subst hj
    exact hcv
  have h1v : ∀ u ∈ ([Value.int .i64 id]), u.oneCell' = true := by intro u hu; simp at hu; subst hu; rfl
  by_cases hx : xs = []
  · subst hx
    obtain ⟨a, c, hv⟩ : ∃ a c, v = .slice a 0 c := by
      rcases ho.2 with ⟨h, _⟩ | ⟨g, c, cur, h, _⟩
      · exact ⟨none, 0, h⟩
      · exact ⟨some ⟨g, 0, none⟩, c, h⟩
    obtain ⟨a', c', w1, hrun, hown, hup, hbl⟩ := append_row ho (by simp) hBw vb 1 id hcv 89 Try.underlying89
    refine (ins_empty v _ a c vb hv hrun).mono ?_
    rintro e w' ⟨rfl, rfl⟩
    exact ⟨a', c', rfl, hown, hup, hbl⟩
  · have hn : 0 < xs.length := List.length_pos_iff.2 hx
    rcases ho.2 with ⟨_, h⟩ | ⟨g, c, cur, rfl, hB, hh, hnc, hcm, hcs, ht⟩
    · omega
    · have hrow : RowB w g c := ⟨cur, hh, by omega⟩
      have hcell : ∀ j u, (ints xs)[j]? = some u → w.cell? ⟨g, j, none⟩ = some u := by
        intro j u hu
        rw [← ht, List.getElem?_take] at hu
        split at hu
        · simp [World.cell?, hh, ← Array.getElem?_toList, hu]
        · cases hu
      have hm : c ≤ 9223372036854775807 := by unfold maxLen at hcm; omega
      have hvg : vb ≠ g := fun e => hne (by rw [e]; rfl)
      by_cases hroom : xs.length + 1 ≤ c
      · refine (ins_shift g xs.length c vb (ints xs) [.int .i64 id] hn hroom hm hvg (ints_len xs) rfl hcell ?_ hrow.free hvs (ints_one xs) h1v 3 3 1 c ?_ ?_ (by omega) ?_).mono ?_
        · intro j hj
          simp [World.cell?, hh]
          omega
        · simp [World.shape?, hvb]
        · simp [World.shape?, hh]
          omega
        · intro j; simp [World.frozen?, hvb]
        · rintro e w' ⟨rfl, rfl⟩
          refine ⟨some ⟨g, 0, none⟩, c, rfl, ?_, ?_, fun k hk => Or.inl hk⟩
          · refine RowB.own (RowB.setCells g _ _ (RowB.setCells g _ _ hrow.drew)) hB hroom hcm (by simp [ints]) ?_
            exact cons_cells g xs id w.drew (fun j hj => by
              show (w.cell? _).isSome = true
              simp [World.cell?, hh]
              omega)
          · exact Upd.setCells (F := fun b => some g = some b) g (Or.inl rfl) _ _ (Upd.setCells (F := fun b => some g = some b) g (Or.inl rfl) _ _ (Upd.refl _ _).drew)
      · refine (ins_grow g xs.length c vb (ints xs) [.int .i64 id] hn hnc (by omega) (by omega) (ints_len xs) rfl hcell hvs (ints_one xs) h1v).mono ?_
        rintro e w' ⟨G, ROW, hG1, hG2, hR, rfl, rfl⟩
        have hnew : RowB (w.alloc (.cells ROW 3)) w.heap.size G := ⟨ROW, heap_alloc_new w _, hR⟩
        refine ⟨some ⟨w.heap.size, 0, none⟩, G, rfl, ?_, ?_, fun k hk => Or.inr (by simp [Value.ownBlock] at hk; omega)⟩
        · refine RowB.own (RowB.setCells _ _ _ (RowB.setCells _ _ _ hnew.drew).drew) hBw hG1 hG2 (by simp [ints]) ?_
          exact cons_cells2 w.heap.size xs id (w.alloc (.cells ROW 3)).drew (fun j hj => by
            show ((w.alloc (.cells ROW 3)).cell? _).isSome = true
            rw [World.cell?_alloc_new, Array.getElem?_eq_getElem (by omega)]; rfl)
        · exact Upd.setCells _ (Or.inr (Nat.le_refl _)) _ _ (Upd.setCells _ (Or.inr (Nat.le_refl _)) _ _ ((Upd.refl _ _).alloc _).drew).drew


end Go.Proofs.Ytoeakcfbnkndbaa

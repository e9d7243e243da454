import Derived.Test.YtoeakcfbnkndbaaR
namespace Go.Proofs.Ytoeakcfbnkndbaa
open Go.RowKit Go.Maps

/-- The greatest ceiling of some locks. -/
def upTo (cs : List Int) (ls : List Nat) : Int := ls.foldl (fun a l => max a (cs.getD l 0)) 0
/-- To what one is raised. -/
def upOf (cs : List Int) (own : Nat → Option Int) (id : Int) : Int := upTo cs (heldN own id cs.length)

theorem upTo_succ (cs : List Int) (ls : List Nat) {j : Nat} (hj : j < ls.length) : upTo cs (ls.take (j + 1)) = max (upTo cs (ls.take j)) (cs.getD (ls.getD j 0) 0) := by
  have e : ls.getD j 0 = ls[j] := by rw [List.getD, List.getElem?_eq_getElem hj]; rfl
  unfold upTo
  rw [List.take_succ_eq_append_getElem hj, List.foldl_append, e]
  rfl

theorem own_cells {w : World} {B : Nat} {a : Option Addr} {n c : Nat} {xs : List Int} (h : w.ownsRow B 3 1 (.slice a n c) n (ints xs)) (hx : xs.length = n) {j : Nat} (hj : j < n) :
    ∃ g, a = some ⟨g, 0, none⟩ ∧ w.cell? ⟨g, j, none⟩ = some (.int .i64 (xs.getD j 0)) := by
  rcases h.2 with ⟨_, hn⟩ | ⟨g, cap, cur, hv, hg, hh, hc, hm, hs, ht⟩
  · omega
  · injection hv with h1 h2 h3
    refine ⟨g, h1, ?_⟩
    have h4 := ints_at (xs := xs) (j := j) (by omega)
    rw [← ht, List.getElem?_take] at h4
    split at h4
    · simp [World.cell?, hh, ← Array.getElem?_toList, h4]
    · cases h4

section
variable {w : World} {A : LkAt} {cv : Value} {cs : List Int} {k : Nat} {own : Nat → Option Int}

set_option maxRecDepth 100000 in
set_option maxHeartbeats 800000 in
theorem raised_any (h : Lck w A cv cs k own) (id : Int) :
    Calls Try.prog 15 #[.pointer (some ⟨A.L, 0, none⟩), .int .i64 id] w fun e w' => e = .returned (.tuple #[.int .i64 (upOf cs own id), .bool (decide (0 < upOf cs own id))]) ∧ Below w.heap.size w w' := by
  have c0 := h.c0
  have hh := held_any h id
  have hfew := h.few
  have hlen := heldL_len own id cs.length
  obtain ⟨ls, hls⟩ : ∃ ls, ls = heldN own id cs.length := ⟨_, rfl⟩
  have hL : heldL own id cs.length = ls.map (fun (l : Nat) => (l : Int)) := by rw [hls]; rfl
  have hmem : ∀ j, j < ls.length → ls.getD j 0 < cs.length := by
    intro j hj
    have h1 : ls.getD j 0 ∈ ls := by rw [List.getD, List.getElem?_eq_getElem hj]; exact List.getElem_mem hj
    have h2 : ls.getD j 0 ∈ heldN own id cs.length := hls ▸ h1
    unfold heldN at h2
    exact List.mem_range.1 (List.mem_filter.1 h2).1
  have hup : upOf cs own id = upTo cs ls := by rw [hls]; rfl
  rw [hup]
  rw [hL] at hh hlen
  rw [List.length_map] at hh hlen
  have HM := Lib.hid hmem
  clear hls hL hup hmem
  go_enter Try.func15, Try.ntmps15
  go_wp2_with fail
  refine hh.mono ?_
  rintro e w1 ⟨a, c, rfl, hown, hbel⟩
  have hLk := h.below hbel
  have d0 := hLk.c0
  obtain ⟨a0, c0', hcv, hcell⟩ := hLk.form
  rw [hcv] at c0 d0
  have HC := Lib.hid hcell
  have HO := Lib.hid hown
  clear hcell hown hcv
  go_wp2_with fail
  go_loopg [6, 13] ls.length (fun g s6 s13 wr => ∃ j : Nat, j + g = ls.length ∧ s13 = .int .i64 j ∧ s6 = .int .i64 (upTo cs (ls.take j)) ∧ w1 = wr)
  case atStart => exact ⟨0, by omega, rfl, by simp [upTo], rfl⟩
  case round =>
    obtain ⟨j, hjg, rfl, rfl, rfl⟩ := hrel
    cases gk with
    | zero =>
      have hj : ¬ ((j : Int) < (ls.length : Int)) := by omega
      have ht : ls.take j = ls := List.take_of_length_le (by omega)
      rw [ht]
      clear ht
      go_wp2
      go_ret2
      exact ⟨rfl, hbel⟩
    | succ g =>
      have hj : (j : Int) < (ls.length : Int) := by omega
      obtain ⟨gg, rfl, hc1⟩ := own_cells HO.out (by simp) (j := j) (by omega)
      have hlt := HM.out j (by omega)
      have hx : (ls.map (fun (l : Nat) => (l : Int))).getD j 0 = ((ls.getD j 0 : Nat) : Int) := by
        rw [List.getD, List.getD, List.getElem?_map, List.getElem?_eq_getElem (by omega)]; rfl
      rw [hx] at hc1
      have hnext := upTo_succ cs ls (j := j) (by omega)
      obtain ⟨l, hl⟩ : ∃ l, l = ls.getD j 0 := ⟨_, rfl⟩
      rw [← hl] at hc1 hlt hnext
      obtain ⟨g2, rfl, hc2⟩ := HC.out l hlt
      have hlt2 : (l : Int) < (cs.length : Int) := by omega
      obtain ⟨y, hy⟩ : ∃ y, y = cs.getD l 0 := ⟨_, rfl⟩
      rw [← hy] at hc2 hnext
      have HN := Lib.hid hnext
      clear hnext hl hx hy
      go_wp2
      go_roundg g
      case measure => omega
      case rel => exact ⟨j + 1, by omega, by go_num, by rw [HN.out], rfl⟩

set_option maxRecDepth 100000 in
set_option maxHeartbeats 400000 in
/-- Give: a lock goes back, and nobody has it then. -/
theorem give_any (h : Lck w A cv cs k own) (id : Int) (l : Nat) (hl : l < cs.length) (ho : own l = some id) :
    Calls Try.prog 25 #[.pointer (some ⟨A.L, 0, none⟩), .int .i64 id, .int .i64 l] w fun e w' => e = .returned (.tuple #[.slice none 0 0, .int .i64 0]) ∧
      Lck w' A cv cs k (fset own l none) ∧ Upd (· = A.mb) w w' := by
  have HO := owner_any h l (by have := h.few; omega)
  rw [ho] at HO
  have HO := Lib.hid HO
  obtain ⟨w1, hrun, ho1, hg1⟩ := h.own.drop (l := l) (by have := h.few; omega)
  have hT := h.turned ho1 hg1
  have c1 := h.c1
  have c2 := h.c2
  have d1 := hT.1.c1
  have d3 : w1.cell? ⟨A.wb, l, none⟩ = some (.slice none 0 0) := hT.1.wait.cell (by simp [wtcells, hl])
  have HT := Lib.hid hT
  have HIS := Lib.hid (is_any h l hl)
  have HW := Lib.hid (waits_any h id)
  have b4 : (id != id) = false := by simp
  have hl3 : (l : Int) < (cs.length : Int) := by omega
  generalize cs.length = m at *
  clear ho ho1 hg1 hT
  go_enter Try.func25, Try.ntmps25
  go_wp2_with (first
    | (go_at_call 29; refine HIS.out.mono ?_; rintro e w1 ⟨rfl, rfl⟩)
    | (go_at_call 30; refine HW.out.mono ?_; rintro e w1 ⟨rfl, rfl⟩)
    | (go_at_call 31; refine HO.out.mono ?_; rintro e w1 ⟨rfl, rfl⟩; simp only [Option.getD, Option.isSome])
    | go_in)
  go_ret2
  exact ⟨rfl, HT.out.1, HT.out.2⟩

end

end Go.Proofs.Ytoeakcfbnkndbaa

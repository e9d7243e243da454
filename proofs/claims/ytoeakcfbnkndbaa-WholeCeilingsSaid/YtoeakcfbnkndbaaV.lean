import Derived.Test.YtoeakcfbnkndbaaU
namespace Go.Proofs.Ytoeakcfbnkndbaa
open Go.RowKit Go.Maps

theorem Try.info74 : (Try.prog.info? 74).map (fun i => (i.zero, i.size, i.bytes)) = some (some (.slice none 0 0), 1, 24) := by kernel_rfl

/-- What lock.New hands back. -/
def NewLck (w : World) (cs : List Int) (e : Ending) (w' : World) : Prop :=
  ∃ A cv, e = .returned (.tuple #[.pointer (some ⟨A.L, 0, none⟩), .int .i64 0]) ∧ Lck w' A cv cs 0 (fun _ => none) ∧ w.heap.size ≤ A.L ∧ w.heap.size ≤ A.wb ∧ w.heap.size ≤ A.mb ∧ w.heap.size ≤ A.CB ∧ Below w.heap.size w w'

theorem newlck_close {w w1 w2 wF : World} {cs : List Int} {a' : Option Addr} {c' L wb mb : Nat} (hl : cs.length ≤ 16) (h01 : Below w.heap.size w w1)
    (ho : w2.ownsRow w1.heap.size 3 1 (.slice a' cs.length c') cs.length (ints cs)) (hb : Below w1.heap.size w1 w2) (h2F : Below w2.heap.size w2 wF)
    (hL : wF.heap[L]? = some (.cells #[.slice a' cs.length c', .slice (some ⟨wb, 0, none⟩) cs.length cs.length, .map (some mb)] 59 (0, 0)))
    (hwb : wF.heap[wb]? = some (.cells (madeCells #[.slice none 0 0] cs.length) 74 (0, 0))) (hmb : wF.heap[mb]? = some (.map #[] 0))
    (g1 : w.heap.size ≤ L) (g2 : w.heap.size ≤ wb) (g3 : w.heap.size ≤ mb) : NewLck w cs (.returned (.tuple #[.pointer (some ⟨L, 0, none⟩), .int .i64 0])) wF := by
  have hall : Below w.heap.size w wF := h01.trans ((hb.mono h01.size).trans (h2F.mono (Nat.le_trans h01.size hb.size)))
  refine ⟨⟨L, wb, mb, w1.heap.size⟩, .slice a' cs.length c', rfl, ⟨⟨_, hL, ?_⟩, ?_, ⟨_, hwb, ?_⟩, ?_, hl⟩, g1, g2, g3, h01.size, hall⟩
  · intro k v hk
    unfold lkcells at hk
    by_cases k0 : k = 0
    · subst k0; simpa using hk
    · by_cases k1 : k = 1
      · subst k1; simpa using hk
      · by_cases k2 : k = 2
        · subst k2; simpa using hk
        · simp [k0, k1, k2] at hk
  · exact own_same ho (fun k hk => h2F.block k (ho.lt k hk).2)
  · intro j v hj
    unfold wtcells at hj
    split at hj
    · rename_i hlt
      cases hj
      simp [madeCells, hlt, Nat.mod_one]
    · cases hj
  · refine ⟨.map [], ?_, isMap_empty, fun l hl => rfl, fun l hl => rfl⟩
    have := World.ownsMap_made (H := Unit) w Try.prog 3 (plainElem Try.prog 3)
    obtain ⟨es, clock, h1, h2, h3, h4⟩ := this
    have e : (w.alloc (.map #[] 0)).heap[w.heap.size]? = some (.map #[] 0) := heap_alloc_new w _
    rw [e] at h1
    injection h1 with h1
    injection h1 with h5 h6
    subst h5; subst h6
    exact ⟨#[], 0, hmb, h2, h3, h4⟩

theorem heap_new_at (w : World) (o : Obj) (i : Nat) (h : i = w.heap.size) : (w.alloc o).heap[i]? = some o := by
  subst h; exact heap_alloc_new w o

theorem heap_drew_eq (w : World) (i : Nat) : w.drew.heap[i]? = w.heap[i]? := rfl


set_option maxRecDepth 100000 in
set_option maxHeartbeats 800000 in
theorem lnew_ok {w : World} {a : Option Addr} {c : Nat} {cs : List Int} (h : Ints w a cs) (hl : cs.length ≤ 16) (hok : ∀ j, j < cs.length → 1 ≤ cs.getD j 0 ∧ cs.getD j 0 ≤ 63) :
    Calls Try.prog 5 #[.slice a cs.length c] w (NewLck w cs) := by
  have hmk := run_make_row' (P := Try.prog) 56 74 (.slice none 0 0) 24 Try.underlying56 Try.info74 rfl .i64 .i64 cs.length (by omega) (by omega)
  have hmm := @run_makeMap Try.prog
  have H1 := Lib.hid (index17_none (c := c) h hl hok)
  have HCL := Lib.hid (fun (w1 : World) (h1 : Ints w1 a cs) => clone_any (c := c) h1 hl)
  have HI := Lib.hid h
  clear h hok
  go_enter Try.func5, Try.ntmps5
  go_wp2_with (first | (go_at_call 34; refine H1.out.mono ?_; rintro e w1 ⟨rfl, rfl⟩) | go_in)
  go_region_with (go_at_call 18; refine (HCL.out _ (HI.out.below (Upd.toBelow (by with_reducible (repeat (first | refine Upd.alloc ?_ _ | refine Upd.drew ?_ | exact Upd.refl _ _)))))).mono ?_; rintro e w2 ⟨a', c', rfl, ho, hb⟩)
  all_goals go_wp2
  all_goals go_ret2
  all_goals (have hbs := hb.size; simp only [World.size_alloc, World.size_drew] at hbs)
  all_goals (have hbl := fun k hk => hb.block k hk)
  all_goals (simp only [World.size_alloc, World.size_drew] at hbl)
  · refine newlck_close (wb := w2.heap.size) (mb := w2.heap.size + 1) hl ?_ ho hb ?_ ?_ ?_ ?_ ?_ ?_ ?_ <;> (first
      | (simp only [World.size_alloc, World.size_drew]; omega)
      | omega
      | (refine Upd.toBelow ?_; with_reducible (repeat (first | refine Upd.alloc ?_ _ | refine Upd.drew ?_ | exact Upd.refl _ _)); done)
      | (repeat (first | (refine heap_new_at _ _ _ ?_; (try simp only [World.size_alloc]); first | done | omega) | (with_reducible refine (Below.heap_alloc _ _ _ (by (try simp only [World.size_alloc]); omega)).trans ?_) | (with_reducible refine (heap_drew_eq _ _).trans ?_) | (with_reducible refine (hbl _ (by (try simp only [World.size_alloc, World.size_drew]); omega)).trans ?_))
         done))
  · refine newlck_close (wb := w2.heap.size + 1) (mb := w2.heap.size) hl ?_ ho hb ?_ ?_ ?_ ?_ ?_ ?_ ?_ <;> (first
      | (simp only [World.size_alloc, World.size_drew]; omega)
      | omega
      | (refine Upd.toBelow ?_; with_reducible (repeat (first | refine Upd.alloc ?_ _ | refine Upd.drew ?_ | exact Upd.refl _ _)); done)
      | (repeat (first | (refine heap_new_at _ _ _ ?_; (try simp only [World.size_alloc]); first | done | omega) | (with_reducible refine (Below.heap_alloc _ _ _ (by (try simp only [World.size_alloc]); omega)).trans ?_) | (with_reducible refine (heap_drew_eq _ _).trans ?_) | (with_reducible refine (hbl _ (by (try simp only [World.size_alloc, World.size_drew]); omega)).trans ?_))
         done))
  · refine newlck_close (wb := w.heap.size) (mb := w2.heap.size) hl ?_ ho hb ?_ ?_ ?_ ?_ ?_ ?_ ?_ <;> (first
      | (simp only [World.size_alloc, World.size_drew]; omega)
      | omega
      | (refine Upd.toBelow ?_; with_reducible (repeat (first | refine Upd.alloc ?_ _ | refine Upd.drew ?_ | exact Upd.refl _ _)); done)
      | (repeat (first | (refine heap_new_at _ _ _ ?_; (try simp only [World.size_alloc]); first | done | omega) | (with_reducible refine (Below.heap_alloc _ _ _ (by (try simp only [World.size_alloc]); omega)).trans ?_) | (with_reducible refine (heap_drew_eq _ _).trans ?_) | (with_reducible refine (hbl _ (by (try simp only [World.size_alloc, World.size_drew]); omega)).trans ?_))
         done))
  · refine newlck_close (wb := w.heap.size) (mb := w.heap.size + 1) hl ?_ ho hb ?_ ?_ ?_ ?_ ?_ ?_ ?_ <;> (first
      | (simp only [World.size_alloc, World.size_drew]; omega)
      | omega
      | (refine Upd.toBelow ?_; with_reducible (repeat (first | refine Upd.alloc ?_ _ | refine Upd.drew ?_ | exact Upd.refl _ _)); done)
      | (repeat (first | (refine heap_new_at _ _ _ ?_; (try simp only [World.size_alloc]); first | done | omega) | (with_reducible refine (Below.heap_alloc _ _ _ (by (try simp only [World.size_alloc]); omega)).trans ?_) | (with_reducible refine (heap_drew_eq _ _).trans ?_) | (with_reducible refine (hbl _ (by (try simp only [World.size_alloc, World.size_drew]); omega)).trans ?_))
         done))
  · refine newlck_close (wb := w2.heap.size) (mb := w.heap.size) hl ?_ ho hb ?_ ?_ ?_ ?_ ?_ ?_ ?_ <;> (first
      | (simp only [World.size_alloc, World.size_drew]; omega)
      | omega
      | (refine Upd.toBelow ?_; with_reducible (repeat (first | refine Upd.alloc ?_ _ | refine Upd.drew ?_ | exact Upd.refl _ _)); done)
      | (repeat (first | (refine heap_new_at _ _ _ ?_; (try simp only [World.size_alloc]); first | done | omega) | (with_reducible refine (Below.heap_alloc _ _ _ (by (try simp only [World.size_alloc]); omega)).trans ?_) | (with_reducible refine (heap_drew_eq _ _).trans ?_) | (with_reducible refine (hbl _ (by (try simp only [World.size_alloc, World.size_drew]); omega)).trans ?_))
         done))
  · refine newlck_close (wb := w.heap.size + 1) (mb := w.heap.size) hl ?_ ho hb ?_ ?_ ?_ ?_ ?_ ?_ ?_ <;> (first
      | (simp only [World.size_alloc, World.size_drew]; omega)
      | omega
      | (refine Upd.toBelow ?_; with_reducible (repeat (first | refine Upd.alloc ?_ _ | refine Upd.drew ?_ | exact Upd.refl _ _)); done)
      | (repeat (first | (refine heap_new_at _ _ _ ?_; (try simp only [World.size_alloc]); first | done | omega) | (with_reducible refine (Below.heap_alloc _ _ _ (by (try simp only [World.size_alloc]); omega)).trans ?_) | (with_reducible refine (heap_drew_eq _ _).trans ?_) | (with_reducible refine (hbl _ (by (try simp only [World.size_alloc, World.size_drew]); omega)).trans ?_))
         done))

end Go.Proofs.Ytoeakcfbnkndbaa

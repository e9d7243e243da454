import Derived.Test.YtoeakcfbnkndbaaRows
import Derived.WalkKit
import Derived.WalkSpells
import Derived.WalkLawsBesides
import Derived.BigQuiet
import Derived.Deep.QuietTactic
import Derived.Lib.Hide
import Derived.Lib.MinMax
namespace Go.Proofs.Ytoeakcfbnkndbaa
open Go.RowKit

/-- The world w' is as w, but for blocks of F and new ones. -/
structure Upd (F : Nat → Prop) (w w' : World) : Prop where
  os : w'.os = w.os
  tape : w'.tape = w.tape
  output : w'.output = w.output
  size : w.heap.size ≤ w'.heap.size
  block : ∀ k, k < w.heap.size → ¬ F k → w'.heap[k]? = w.heap[k]?

def NoB : Nat → Prop := fun _ => False

theorem Upd.refl (F : Nat → Prop) (w : World) : Upd F w w := ⟨rfl, rfl, rfl, Nat.le_refl _, fun _ _ _ => rfl⟩

theorem Upd.trans {F : Nat → Prop} {a b c : World} (h : Upd F a b) (k : Upd F b c) : Upd F a c :=
  ⟨k.os.trans h.os, k.tape.trans h.tape, k.output.trans h.output, Nat.le_trans h.size k.size,
    fun i hi hf => (k.block i (Nat.lt_of_lt_of_le hi h.size) hf).trans (h.block i hi hf)⟩

theorem Upd.mono {F G : Nat → Prop} {a b : World} (h : Upd F a b) (hfg : ∀ k, k < a.heap.size → F k → G k) : Upd G a b :=
  ⟨h.os, h.tape, h.output, h.size, fun i hi hg => h.block i hi (fun hf => hg (hfg i hi hf))⟩

/-- Two steps, the second of which may write to what the first has made. -/
theorem Upd.next {F G : Nat → Prop} {a b c : World} (h : Upd F a b) (k : Upd G b c) (hgf : ∀ k, k < a.heap.size → G k → F k) : Upd F a c :=
  ⟨k.os.trans h.os, k.tape.trans h.tape, k.output.trans h.output, Nat.le_trans h.size k.size,
    fun i hi hf => (k.block i (Nat.lt_of_lt_of_le hi h.size) (fun hg => hf (hgf i hi hg))).trans (h.block i hi hf)⟩

theorem Upd.below {a b : World} (F : Nat → Prop) (h : Below a.heap.size a b) : Upd F a b :=
  ⟨h.os, h.tape, h.output, h.size, fun i hi _ => h.block i hi⟩

theorem Upd.toBelow {a b : World} (h : Upd NoB a b) : Below a.heap.size a b :=
  ⟨h.os, h.tape, h.output, h.size, fun i hi => h.block i hi (fun hf => hf)⟩

theorem Upd.drew {F : Nat → Prop} {a w : World} (h : Upd F a w) : Upd F a w.drew := ⟨h.os, h.tape, h.output, h.size, h.block⟩

theorem Upd.alloc {F : Nat → Prop} {a w : World} (h : Upd F a w) (o : Obj) : Upd F a (w.alloc o) :=
  ⟨h.os, h.tape, h.output, by have := h.size; simp; omega, fun i hi hf => by
    rw [Below.heap_alloc w o i (Nat.lt_of_lt_of_le hi h.size)]; exact h.block i hi hf⟩

theorem Upd.setCell {F : Nat → Prop} {a w : World} (h : Upd F a w) {p : Addr} (hp : F p.block ∨ a.heap.size ≤ p.block) (u : Value) : Upd F a (w.setCell p u) :=
  ⟨h.os, h.tape, h.output, by have := h.size; simpa using this, fun i hi hf => by
    rw [Below.heap_setCell w p u i (fun e => by subst e; rcases hp with hp | hp; exact hf hp; omega)]; exact h.block i hi hf⟩

theorem Upd.grown {F : Nat → Prop} {a w w' : World} {row : Option Nat} (h : Upd F a w) (hg : w.grownBy w' row) (hr : ∀ k, row = some k → F k ∨ a.heap.size ≤ k) : Upd F a w' :=
  ⟨hg.os.trans h.os, hg.tape.trans h.tape, hg.output.trans h.output, Nat.le_trans h.size hg.size, fun i hi hf => by
    rw [hg.block i (Nat.lt_of_lt_of_le hi h.size) (fun e => by rcases hr i e.symm with h1 | h1; exact hf h1; omega)]; exact h.block i hi hf⟩

theorem Upd.setEq {b k : Nat} {sp : Option Nat} {a w : World} {u : Value} (h : Upd (· = b) a w) : Upd (· = b) a (w.setCell ⟨b, k, sp⟩ u) := h.setCell (Or.inl rfl) u

theorem Upd.setNew {F : Nat → Prop} {b k : Nat} {sp : Option Nat} {a w : World} {u : Value} (h : Upd F a w) (hb : a.heap.size ≤ b) : Upd F a (w.setCell ⟨b, k, sp⟩ u) := h.setCell (Or.inr hb) u

/-- A block of cells, some of which are known. -/
def Blk (w : World) (b ty : Nat) (c : Nat → Option Value) : Prop :=
  ∃ cs : Array Value, w.heap[b]? = some (.cells cs ty (0, 0)) ∧ ∀ k v, c k = some v → cs[k]? = some v

section
variable {w w' : World} {b ty : Nat} {c : Nat → Option Value}

theorem Blk.lt (h : Blk w b ty c) : b < w.heap.size := by
  obtain ⟨cs, h1, _⟩ := h
  exact (Array.getElem?_eq_some_iff.1 h1).1

theorem Blk.cell (h : Blk w b ty c) {k : Nat} {v : Value} (hk : c k = some v) : w.cell? ⟨b, k, none⟩ = some v := by
  obtain ⟨cs, h1, h2⟩ := h
  simp [World.cell?, h1, h2 k v hk]

theorem Blk.free (h : Blk w b ty c) (k : Nat) : w.frozen? ⟨b, k, none⟩ = false := by
  obtain ⟨cs, h1, h2⟩ := h
  simp [World.frozen?, h1]

theorem Blk.same (h : Blk w b ty c) (e : w'.heap[b]? = w.heap[b]?) : Blk w' b ty c := by
  obtain ⟨cs, h1, h2⟩ := h
  exact ⟨cs, e.trans h1, h2⟩

theorem Blk.upd {F : Nat → Prop} (h : Blk w b ty c) (hu : Upd F w w') (hb : ¬ F b) : Blk w' b ty c := h.same (hu.block b h.lt hb)

theorem Blk.below (h : Blk w b ty c) (hu : Below w.heap.size w w') : Blk w' b ty c := h.same (hu.block b h.lt)

theorem Blk.weak {c' : Nat → Option Value} (h : Blk w b ty c) (hc : ∀ k v, c' k = some v → c k = some v) : Blk w b ty c' := by
  obtain ⟨cs, h1, h2⟩ := h
  exact ⟨cs, h1, fun k v hk => h2 k v (hc k v hk)⟩

theorem Blk.set (h : Blk w b ty c) {k : Nat} (hk : (c k).isSome = true) (v : Value) : Blk (w.setCell ⟨b, k, none⟩ v) b ty (fun j => if j = k then some v else c j) := by
  obtain ⟨cs, h1, h2⟩ := h
  obtain ⟨u, hu⟩ := Option.isSome_iff_exists.1 hk
  have hlt : k < cs.size := (Array.getElem?_eq_some_iff.1 (h2 k u hu)).1
  refine ⟨cs.setIfInBounds k v, ?_, ?_⟩
  · simp [World.setCell, Array.getElem?_modify, h1]
  · intro j x hj
    dsimp only at hj
    rw [Array.getElem?_setIfInBounds]
    by_cases e : j = k
    · subst e
      simp at hj
      subst hj
      simp [hlt]
    · rw [if_neg e] at hj
      rw [if_neg (by omega)]
      exact h2 j x hj

theorem Blk.set_ne (h : Blk w b ty c) {a : Addr} (ha : a.block ≠ b) (v : Value) : Blk (w.setCell a v) b ty c := h.same (Below.heap_setCell w a v b (by omega))

theorem Blk.alloc (h : Blk w b ty c) (o : Obj) : Blk (w.alloc o) b ty c := h.same (Below.heap_alloc w o b h.lt)

theorem Blk.drew (h : Blk w b ty c) : Blk w.drew b ty c := h

end

/-- A process as this statement ever sees one: no period, no capacity, no deadline, no offset; never held, never waiting. -/
structure PC where
  prio : Int
  state : Int
  base : Int
  raised : Int
  begin : Int

/-- Its cells. -/
def PC.at (p : PC) : Nat → Value
  | 0 => .int .i64 p.prio
  | 5 => .int .i64 p.state
  | 6 => .bool false
  | 7 => .int .i64 p.base
  | 8 => .int .i64 p.raised
  | 10 => .int .i64 p.begin
  | 12 => .bool false
  | _ => .int .i64 0

/-- The cells of n things of 13 cells each. -/
def tc (n : Nat) (r : Nat → Nat → Value) (k : Nat) : Option Value := if k < n * 13 then some (r (k / 13) (k % 13)) else none

theorem tc_at {n i f : Nat} (r : Nat → Nat → Value) (hi : i < n) (hf : f < 13) : tc n r (i * 13 + f) = some (r i f) := by
  have h1 : i * 13 + f < n * 13 := by omega
  have h2 : (i * 13 + f) / 13 = i := by omega
  have h3 : (i * 13 + f) % 13 = f := by omega
  unfold tc
  rw [if_pos h1, h2, h3]

/-- A table of processes: its slice's cell, and the cells of the row. -/
structure Tbl (w : World) (T tb cap n : Nat) (r : Nat → Nat → Value) : Prop where
  root : Blk w T 82 (fun k => if k = 0 then some (.slice (some ⟨tb, 0, none⟩) n cap) else none)
  row : Blk w tb 88 (tc n r)
  ne : T ≠ tb

section
variable {w w' : World} {T tb cap n : Nat} {r : Nat → Nat → Value}

theorem Tbl.upd {F : Nat → Prop} (h : Tbl w T tb cap n r) (hu : Upd F w w') (h1 : ¬ F T) (h2 : ¬ F tb) : Tbl w' T tb cap n r :=
  ⟨h.root.upd hu h1, h.row.upd hu h2, h.ne⟩

theorem Tbl.below (h : Tbl w T tb cap n r) (hu : Below w.heap.size w w') : Tbl w' T tb cap n r :=
  ⟨h.root.below hu, h.row.below hu, h.ne⟩

theorem Tbl.alloc (h : Tbl w T tb cap n r) (o : Obj) : Tbl (w.alloc o) T tb cap n r := ⟨h.root.alloc o, h.row.alloc o, h.ne⟩

theorem Tbl.set {i f k : Nat} (h : Tbl w T tb cap n r) (hk : k = i * 13 + f) (hi : i < n) (hf : f < 13) (v : Value) :
    Tbl (w.setCell ⟨tb, k, none⟩ v) T tb cap n (fun j g => if j = i ∧ g = f then v else r j g) := by
  subst hk
  refine ⟨h.root.set_ne (by exact fun e => h.ne e.symm) v, (h.row.set (by rw [tc_at r hi hf]; rfl) v).weak ?_, h.ne⟩
  intro k x hx
  unfold tc at hx
  dsimp only at hx
  split at hx
  · rename_i hlt
    have hd : k = k / 13 * 13 + k % 13 := by omega
    by_cases e : k = i * 13 + f
    · have h2 : k / 13 = i := by omega
      have h3 : k % 13 = f := by omega
      rw [h2, h3] at hx
      simp at hx
      rw [if_pos e, hx]
    · have h4 : ¬ (k / 13 = i ∧ k % 13 = f) := by
        rintro ⟨h2, h3⟩
        rw [h2, h3] at hd
        exact e hd
      rw [if_neg h4] at hx
      rw [if_neg e]
      unfold tc
      rw [if_pos hlt, hx]
  · cases hx

theorem Tbl.set_ne (h : Tbl w T tb cap n r) {a : Addr} (h1 : a.block ≠ T) (h2 : a.block ≠ tb) (v : Value) : Tbl (w.setCell a v) T tb cap n r :=
  ⟨h.root.set_ne h1 v, h.row.set_ne h2 v, h.ne⟩

theorem Tbl.congr {r' : Nat → Nat → Value} (h : Tbl w T tb cap n r) (e : ∀ i f, i < n → f < 13 → r' i f = r i f) : Tbl w T tb cap n r' := by
  refine ⟨h.root, h.row.weak ?_, h.ne⟩
  intro k v hk
  unfold tc at hk ⊢
  split at hk
  · rename_i hlt
    rw [if_pos hlt, ← e _ _ (by omega) (by omega)]
    exact hk
  · cases hk

theorem Tbl.slice (h : Tbl w T tb cap n r) : w.cell? ⟨T, 0, none⟩ = some (.slice (some ⟨tb, 0, none⟩) n cap) := h.root.cell rfl

theorem Tbl.cell (h : Tbl w T tb cap n r) {i f : Nat} (hi : i < n) (hf : f < 13) : w.cell? ⟨tb, i * 13 + f, none⟩ = some (r i f) := h.row.cell (tc_at r hi hf)

end

/-- The raw cells of processes. -/
def praw (ps : Nat → PC) : Nat → Nat → Value := fun i f => (ps i).at f

/-- All cells of one process. -/
structure Cells13 (w : World) (tb i : Nat) (p : PC) : Prop where
  c0 : w.cell? ⟨tb, i * 13, none⟩ = some (.int .i64 p.prio)
  c1 : w.cell? ⟨tb, i * 13 + 1, none⟩ = some (.int .i64 0)
  c2 : w.cell? ⟨tb, i * 13 + 2, none⟩ = some (.int .i64 0)
  c3 : w.cell? ⟨tb, i * 13 + 3, none⟩ = some (.int .i64 0)
  c4 : w.cell? ⟨tb, i * 13 + 4, none⟩ = some (.int .i64 0)
  c5 : w.cell? ⟨tb, i * 13 + 5, none⟩ = some (.int .i64 p.state)
  c6 : w.cell? ⟨tb, i * 13 + 6, none⟩ = some (.bool false)
  c7 : w.cell? ⟨tb, i * 13 + 7, none⟩ = some (.int .i64 p.base)
  c8 : w.cell? ⟨tb, i * 13 + 8, none⟩ = some (.int .i64 p.raised)
  c9 : w.cell? ⟨tb, i * 13 + 9, none⟩ = some (.int .i64 0)
  c10 : w.cell? ⟨tb, i * 13 + 10, none⟩ = some (.int .i64 p.begin)
  c11 : w.cell? ⟨tb, i * 13 + 11, none⟩ = some (.int .i64 0)
  c12 : w.cell? ⟨tb, i * 13 + 12, none⟩ = some (.bool false)

theorem Tbl.cells {w : World} {T tb cap n : Nat} {ps : Nat → PC} (h : Tbl w T tb cap n (praw ps)) {i : Nat} (hi : i < n) : Cells13 w tb i (ps i) :=
  ⟨h.cell hi (f := 0) (by omega), h.cell hi (f := 1) (by omega), h.cell hi (f := 2) (by omega), h.cell hi (f := 3) (by omega), h.cell hi (f := 4) (by omega),
   h.cell hi (f := 5) (by omega), h.cell hi (f := 6) (by omega), h.cell hi (f := 7) (by omega), h.cell hi (f := 8) (by omega), h.cell hi (f := 9) (by omega),
   h.cell hi (f := 10) (by omega), h.cell hi (f := 11) (by omega), h.cell hi (f := 12) (by omega)⟩

/-- A process is another one. -/
def pset (ps : Nat → PC) (i : Nat) (p : PC) : Nat → PC := fun j => if j = i then p else ps j

end Go.Proofs.Ytoeakcfbnkndbaa

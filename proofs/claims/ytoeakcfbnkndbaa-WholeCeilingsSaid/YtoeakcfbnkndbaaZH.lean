import Derived.Test.YtoeakcfbnkndbaaZG
namespace Go.Proofs.Ytoeakcfbnkndbaa
open Go.RowKit Go.Maps

/-- A dispatcher of nobody, from a block on. -/
def Dis1 (w : World) (D R B : Nat) : Prop := w.cell? ⟨D, 1, none⟩ = some (.pointer (some ⟨R, 0, none⟩)) ∧ Rdy w B R nilV nilX 0

theorem Dis1.below {w w' : World} {D R B : Nat} (h : Dis1 w D R B) (hb : Below w.heap.size w w') : Dis1 w' D R B := by
  have h1 := World.block_lt_of_cell? w _ h.1
  exact ⟨(hb.cell (p := ⟨D, 1, none⟩) h1).trans h.1, h.2.upd (Upd.below NoB hb) (fun _ _ f => f) (fun f => f)⟩

set_option maxRecDepth 100000 in
theorem pick0 {w : World} {D R B : Nat} (h : Dis1 w D R B) : Calls Try.prog 9 #[.pointer (some ⟨D, 0, none⟩)] w fun e w' => e = .returned (.tuple #[.int .i64 0, .bool false]) ∧ w = w' := by
  have c1 := h.1
  have HP := Lib.hid (peek_none h.2 (fun _ _ => rfl))
  go_enter Try.func9, Try.ntmps9
  go_wp2_with (go_at_call 24; refine HP.out.mono ?_; rintro e w1 ⟨rfl, rfl⟩)
  go_ret2
  exact ⟨rfl, rfl⟩

set_option maxRecDepth 1000000 in
set_option maxHeartbeats 4000000 in
/-- The loop over no workers. -/
theorem loop0 {w0 w : World} {v0 : Value} {wa : Option Addr} {wc : Nat} {a : Act} (h : F0 v0 (.slice wa 0 wc) a) {LA : LkAt} {cv : Value} {cs : List Int} {D R B : Nat} (hL : Lck w LA cv cs 0 (fun _ => none)) (hD : Dis1 w D R B) (hb : Below w0.heap.size w0 w)
    (h7 : a.tmps[7]? = some (.pointer (some ⟨LA.L, 0, none⟩))) (h9 : a.tmps[9]? = some (.pointer (some ⟨D, 0, none⟩))) (h12 : a.tmps[12]? = some (.int .i64 0)) {K : Act → World → Prop} {Q : Exit → Act → World → Prop}
    (hk : ∀ a' w', a'.defers = [] → a'.tmps.size = 306 → Below w0.heap.size w0 w' → K a' w') : Code.wp Try.prog (Code.r (Code.l (Code.r c16))) (Exit.then K Q) a w := by
  obtain ⟨u, ha, hu⟩ := frame_open h.df h.sz
  have e0 := frame_at hu (by omega) h.s0
  have e1 := frame_at hu (by omega) h.s1
  have e7 := frame_at hu (by omega) h7
  have e9 := frame_at hu (by omega) h9
  have e12 := frame_at hu (by omega) h12
  clear h hu h7 h9 h12
  subst ha
  simp only [e0, e1, e7, e9, e12]
  clear e0 e1 e7 e9 e12
  have HK := Lib.hid hk
  clear hk
  have habove := Lib.hid (fun (w1 : World) (h1 : Lck w1 LA cv cs 0 (fun _ => none)) => above_any (a := wa) (c := wc) (pr := []) h1 (Or.inl rfl) (by decide) (by intro i j _ hj; simp at hj))
  have HL := Lib.hid hL
  have HD := Lib.hid hD
  have HB := Lib.hid hb
  clear hL hD hb
  conv => arg 2; whnf
  go_wp2_with fail
  go_loopg [12] 300 (fun g s12 wr => ∃ t : Nat, t + g = 300 ∧ s12 = .int .i64 t ∧ Lck wr LA cv cs 0 (fun _ => none) ∧ Dis1 wr D R B ∧ Below w0.heap.size w0 wr)
  case atStart => exact ⟨0, rfl, rfl, HL.out, HD.out, HB.out⟩
  case round =>
    obtain ⟨t, htg, rfl, hL, hD, hb⟩ := hrel
    cases gk with
    | zero =>
      have hj : ¬ ((t : Int) < 300) := by omega
      have HB2 := Lib.hid hb
      clear hL hD hb
      go_wp2
      exact HK.out _ _ rfl rfl HB2.out
    | succ g =>
      have hj : (t : Int) < 300 := by omega
      have HL2 := Lib.hid hL
      have HD2 := Lib.hid hD
      have HB2 := Lib.hid hb
      clear hL hD hb
      go_wp2_with fail
      refine wp_loop_rounds 1 ?_
      rw [rounds_succ]
      go_wp2_with (first
        | (go_at_call 8; refine (habove.out _ HL2.out).mono ?_; rintro e w1 ⟨rfl, hb1⟩)
        | (go_at_call 9; refine (pick0 (HD2.out.below hb1)).mono ?_; rintro e w2 ⟨rfl, rfl⟩))
      go_roundg g
      case measure => omega
      case rel => exact ⟨t + 1, by omega, by go_num, HL2.out.below hb1, HD2.out.below hb1, below_two HB2.out hb1⟩

end Go.Proofs.Ytoeakcfbnkndbaa

import Derived.Test.YtoeakcfbnkndbaaD
namespace Go.Proofs.Ytoeakcfbnkndbaa
open Go.RowKit

set_option maxRecDepth 100000 in
set_option maxHeartbeats 800000 in
theorem prio_some {w : World} {B R : Nat} {V : Nat → Value} {X : Nat → List Int} {s : Nat} (h : Rdy w B R V X s) (id : Int) (p : Nat) (hp : p < 64) (hno : ∀ q, q < p → id ∉ X q) (hin : id ∈ X p) :
    Calls Try.prog 51 #[.pointer (some ⟨R, 0, none⟩), .int .i64 id] w fun e w' => e = .returned (.tuple #[.int .i64 p, .bool true]) ∧ w = w' := by
  have hr : w.rangeAt R 0 (vrow V) := by
    intro j v hv
    have hj : j < 64 := by
      have := (List.getElem?_eq_some_iff.1 hv).1
      simpa [vrow_len] using this
    rw [vrow_at V hj] at hv
    simp at hv
    subst hv
    simpa using h.cell hj
  obtain ⟨A, hA⟩ : ∃ A : List Value, A = vrow V := ⟨_, rfl⟩
  rw [← hA] at hr
  have hAl : (Try.prog.info? 90).map (·.size) = some A.length := by rw [hA, vrow_len]; kernel_rfl
  have HA := Lib.hid hA
  clear hA
  go_enter Try.func51, Try.ntmps51
  go_wp2_with fail
  go_step3
  go_wp2_with fail
  go_step3
  go_wp2_with (refine wpList_load_mid rfl 90 _ rfl R 0 rfl A _ hr Try.underlying90 rfl hAl ?_)
  go_loopg [6, 7, 18] 64 (fun g s6 s7 s18 wr => ∃ k : Nat, k + g = 64 ∧ k ≤ p ∧ s18 = .int .i64 k ∧ s6 = .int .i64 0 ∧ s7 = .bool false ∧ w = wr)
  case atStart => exact ⟨0, by omega, by omega, rfl, rfl, rfl, rfl⟩
  case round =>
    obtain ⟨k, hkg, hkp, rfl, rfl, rfl, rfl⟩ := hrel
    cases gk with
    | zero => omega
    | succ g =>
      have hk : (k : Int) < 64 := by omega
      obtain ⟨a, c, hV, hm, hform, hcell⟩ := h.fam.form (p := k) (by omega)
      have hidx := run_index90 A (V k) k w (by omega) (by rw [HA.out]; exact vrow_at V (by omega))
      rw [hV] at hidx
      have hmem : k < p → id ∉ X k := fun hlt => hno k hlt
      have hinn : k = p → id ∈ X k := fun he => he ▸ hin
      obtain ⟨xs, hxs⟩ : ∃ xs, xs = X k := ⟨_, rfl⟩
      rw [← hxs] at hidx hm hform hcell hmem hinn
      have HX := Lib.hid hxs
      have HV := Lib.hid hV
      clear hxs hV
      unfold maxLen at hm
      by_cases hlt : k < p
      · go_wp2
        go_loopg [6, 7, 24] xs.length (fun g2 s6 s7 s24 wr => ∃ j : Nat, j + g2 = xs.length ∧ s24 = .int .i64 j ∧ s6 = .int .i64 0 ∧ s7 = .bool false ∧ w = wr)
        case atStart => exact ⟨0, by omega, rfl, rfl, rfl, rfl⟩
        case round =>
          obtain ⟨j, hjg, rfl, rfl, rfl, rfl⟩ := hrel
          cases gk with
          | zero =>
            have hj : ¬ ((j : Int) < (xs.length : Int)) := by omega
            go_wp2
            go_roundg g
            case measure => omega
            case rel => exact ⟨k + 1, by omega, by omega, by go_num, rfl, rfl, rfl⟩
          | succ g2 =>
            have hj : (j : Int) < (xs.length : Int) := by omega
            have hne : xs ≠ [] := by intro e; rw [e] at hj; simp at hj; omega
            obtain ⟨b, rfl, hB, hbs⟩ := hform.resolve_left hne
            have hc := hcell b j rfl (by omega)
            have hx : ((xs.getD j 0) == id) = false := by
              have : xs.getD j 0 ∈ xs := by rw [List.getD, List.getElem?_eq_getElem (by omega)]; exact List.getElem_mem (by omega)
              simp only [beq_eq_false_iff_ne]
              intro e
              rw [e] at this
              exact hmem hlt this
            obtain ⟨x, hxe⟩ : ∃ x, x = xs.getD j 0 := ⟨_, rfl⟩
            rw [← hxe] at hc hx
            clear hxe hcell hform hmem hne hidx hinn
            go_wp2
            go_roundg g2
            case measure => omega
            case rel => exact ⟨j + 1, by omega, by go_num, rfl, rfl, rfl⟩
      · have hkp2 : k = p := by omega
        have hinm := hinn hkp2
        subst hkp2
        clear hlt hmem hinn
        go_wp2
        go_loopg [6, 7, 24] xs.length (fun g2 s6 s7 s24 wr => ∃ j : Nat, j + g2 = xs.length ∧ Hid (id ∈ xs.drop j) ∧ s24 = .int .i64 j ∧ s6 = .int .i64 0 ∧ s7 = .bool false ∧ w = wr)
        case atStart => exact ⟨0, by omega, by rw [List.drop_zero]; exact hinm, rfl, rfl, rfl, rfl⟩
        case round =>
          obtain ⟨j, hjg, HD, rfl, rfl, rfl, rfl⟩ := hrel
          cases gk with
          | zero =>
            have hd := HD.out
            rw [List.drop_eq_nil_of_le (by omega)] at hd
            cases hd
          | succ g2 =>
            have hj : (j : Int) < (xs.length : Int) := by omega
            have hne : xs ≠ [] := by intro e; rw [e] at hj; simp at hj; omega
            obtain ⟨b, rfl, hB, hbs⟩ := hform.resolve_left hne
            have hc := hcell b j rfl (by omega)
            have hdr : xs.drop j = xs.getD j 0 :: xs.drop (j + 1) := by
              rw [List.drop_eq_getElem_cons (by omega), List.getD, List.getElem?_eq_getElem (by omega)]; rfl
            have hd := HD.out
            rw [hdr] at hd
            obtain ⟨x, hxe⟩ : ∃ x, x = xs.getD j 0 := ⟨_, rfl⟩
            rw [← hxe] at hc hd
            have HD2 := Lib.hid hd
            clear hxe hcell hform hne hidx HD hd hdr hinm hin hno
            by_cases hx : x = id
            · have hx1 : (x == id) = true := by simp [hx]
              clear hx
              go_wp2
              try rw [Exit.noGoto_ret]
              go_ret2
              exact ⟨rfl, rfl⟩
            · have hx1 : (x == id) = false := by simp [hx]
              have HX1 := Lib.hid hx
              clear hx
              go_wp2
              go_roundg g2
              case measure => omega
              case rel => exact ⟨j + 1, by omega, (List.mem_cons.1 HD2.out).resolve_left (fun e => HX1.out e.symm), by go_num, rfl, rfl, rfl⟩

end Go.Proofs.Ytoeakcfbnkndbaa

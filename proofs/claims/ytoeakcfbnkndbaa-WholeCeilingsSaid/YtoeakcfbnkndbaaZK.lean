import Derived.Test.YtoeakcfbnkndbaaZJ
namespace Go.Proofs.Ytoeakcfbnkndbaa
open Go.RowKit Go.Maps

set_option maxRecDepth 1000000 in
set_option maxHeartbeats 4000000 in
/-- The law answers true, whatever comes in. -/
theorem law_any {w : World} {cs : List Int} {ws : List Wk} {ca wa : Option Addr} {cc wc : Nat} (hC : Ints w ca cs) (hW : InpAt w wa ws) (byte : ∀ j q, (wkAt ws j).does.getD q 0 < 256) (start : ∀ j, (wkAt ws j).start < 256)
    (hdl : ∀ j, (wkAt ws j).does.length ≤ 9223372036854775807) :
    Calls Try.prog 3 #[.slice ca cs.length cc, .slice wa ws.length wc] w (Yes w) := by
  go_enter Try.func3, Try.ntmps3
  show Code.wp Try.prog cB _ _ _
  refine wp_cut cB_eq (piece0 (v0 := .slice ca cs.length cc) (v1 := .slice wa ws.length wc) ⟨rfl, rfl, rfl, rfl⟩ (fun a1 h1 => ?_))
  by_cases hbad : 6 < cs.length ∨ 5 < ws.length
  · exact wp_seq (piece1b h1 (Below.refl _ _) hbad)
  refine wp_seq (piece1g h1 (by omega) (by omega) (fun a2 h2 => wp_seq (piece3 h2 (fun a3 h3 h5 => wp_cut c3_eq (piece4 h3 h5 (by omega) hW (Below.refl _ _) hdl ?_)))))
  intro v a4 w4 h4 h5 hso hall
  exact rest (w0 := w) ⟨by omega, by omega, hW, hC, hall, byte, start⟩ h4 hso.2.1 h5 hso.done

end Go.Proofs.Ytoeakcfbnkndbaa

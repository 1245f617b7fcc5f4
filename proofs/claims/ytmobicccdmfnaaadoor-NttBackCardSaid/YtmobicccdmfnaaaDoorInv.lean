/- What times a number is 1. -/
import Derived.Test.YtmobicccdmfnaaaDoorBase
set_option linter.unusedVariables false
set_option linter.unusedSimpArgs false
namespace Go.Proofs.YtmobicccdmfnaaaDoor
open Go.RowKit Go.Proofs.Pl

set_option maxRecDepth 100000 in
set_option maxHeartbeats 1000000 in
theorem zq_Inv (a q : Int) (w : World) (hq : isq q = true) (ha : a % q ≠ 0) :
    Calls Tryd.prog 64 #[.int .i64 a, .int .i64 q] w fun e w' => e = .returned (.tuple #[.int .i64 (powV a (q - 2) q), .nilIface]) ∧ w = w' := by
  obtain ⟨hq1, hq2⟩ := q_facts (isq_mem hq)
  have h0 : (a % q == 0) = false := by simpa using ha
  have h1 : (0 : Int) ≤ q - 2 := by omega
  have h2 : q - 2 ≤ 9223372036854775807 := by omega
  clear ha
  go_enter Tryd.func64, Tryd.ntmps64
  go_wp2_with (first | (go_at_call 114; refine (zq_Is_yes _ _ hq).mono ?_; rintro e w' ⟨rfl, rfl⟩) | (go_at_call 113; refine (zq_Mod _ _ _ hq).mono ?_; rintro e w' ⟨rfl, rfl⟩) | (go_at_call 66; refine (zq_Pow _ _ _ _ hq h1 h2).mono ?_; rintro e w' ⟨rfl, rfl⟩))
  go_ret2
  exact ⟨rfl, rfl⟩
end Go.Proofs.YtmobicccdmfnaaaDoor

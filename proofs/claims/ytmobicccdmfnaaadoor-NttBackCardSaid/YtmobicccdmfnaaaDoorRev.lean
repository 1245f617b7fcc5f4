/- Transforms: numbers turned round. -/
import Derived.Test.YtmobicccdmfnaaaDoorBase
set_option linter.unusedVariables false
set_option linter.unusedSimpArgs false
namespace Go.Proofs.YtmobicccdmfnaaaDoor
open Go.RowKit Go.Proofs.Pl

theorem rev_snoc : ∀ (c i : Nat), rev (c + 1) i = 2 * rev c i + i / 2 ^ c % 2 := by
  intro c
  induction c with
  | zero => intro i; simp [rev]
  | succ c ih =>
    intro i
    rw [rev, ih (i / 2), rev, Nat.div_div_eq_div_mul, ← Nat.pow_succ', Nat.pow_succ]
    have e : i % 2 * (2 ^ c * 2) = 2 * (i % 2 * 2 ^ c) := by grind
    rw [e]; omega

theorem wraps_i64 (n : Int) (h0 : 0 ≤ n) (h1 : n < 2 ^ 63) : IntKind.i64.wrap n = n := by rw [IntKind.wrap_i64]; omega
theorem and_one {x : Int} (h0 : 0 ≤ x) (h1 : x < 2 ^ 63) : bits .and .i64 x 1 = x % 2 := bits_mask .i64 63 (by decide) wraps_i64 1 (by decide) x h0 h1
theorem or_low {x y : Int} (i : Nat) (hx : 0 ≤ x) (hm : x % 2 ^ i = 0) (hx1 : x < 2 ^ 63) (hy : 0 ≤ y) (hy1 : y < 2 ^ i) (hy2 : y < 2 ^ 63) : bits .or .i64 x y = x + y :=
  bits_join .i64 63 (by decide) wraps_i64 i x y hx hm hx1 hy hy1 hy2

set_option maxRecDepth 100000 in
set_option maxHeartbeats 4000000 in
theorem ntt_Rev (i d : Nat) (w : World) (hi : i < 1048576) (hd : d ≤ 20) :
    Calls Tryd.prog 57 #[.int .i64 i, .int .i64 d] w fun e w' => e = .returned (.int .i64 (rev d i)) ∧ w = w' := by
  have hd0 : decide ((d : Int) < 0) = false := by simp
  have hd1 : decide ((20 : Int) < d) = false := by simp; omega
  go_enter Tryd.func57, Tryd.ntmps57
  go_wp2
  go_loop [0, 5, 13] (fun iv ov cv => ∃ c : Nat, c ≤ d ∧ cv = .int .i64 c ∧ iv = .int .i64 (i / 2 ^ c : Nat) ∧ ov = .int .i64 (rev c i)) (fun _ _ cv => d - (intOf cv).toNat)
  case atStart => exact ⟨0, Nat.zero_le _, rfl, by simp, rfl⟩
  case round =>
    obtain ⟨c, hc, rfl, rfl, rfl⟩ := hrel
    by_cases hlt : c < d
    · have hr : rev c i < 2 ^ 20 := Nat.lt_of_lt_of_le (rev_lt c i) (Nat.pow_le_pow_right (by omega) (by omega))
      have hdv : i / 2 ^ c ≤ i := Nat.div_le_self _ _
      generalize hrv : rev c i = rv at *
      generalize hdv' : i / 2 ^ c = dv at *
      have HR := Lib.hid (And.intro hrv hdv')
      clear hrv hdv'
      simp only [Nat.reducePow] at hr
      have hand := and_one (x := (dv : Int)) (by omega) (by omega)
      have hor := or_low (x := (rv : Int) * 2) (y := (dv : Int) % 2) 1 (by omega) (by omega) (by omega) (by omega) (by omega) (by omega)
      have HB := Lib.hid (And.intro hand hor)
      clear hand hor
      go_wp2
      go_round
      case rel =>
        refine ⟨c + 1, by omega, by go_num, ?_, ?_⟩
        · congr 1; rw [Nat.pow_succ, ← Nat.div_div_eq_div_mul, HR.out.2]; omega
        · rw [HB.out.1, HB.out.2, rev_snoc, HR.out.1, HR.out.2]; congr 1; omega
      case measure => simp [intOf]; omega
    · obtain rfl : c = d := by omega
      go_wp2
      go_ret
      exact ⟨rfl, rfl⟩
end Go.Proofs.YtmobicccdmfnaaaDoor

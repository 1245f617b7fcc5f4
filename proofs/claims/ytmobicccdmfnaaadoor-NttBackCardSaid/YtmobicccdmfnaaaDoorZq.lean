/- The numbers modulo q: what each function of package zq gives back, of a right q. -/
import Derived.Test.YtmobicccdmfnaaaDoorProg
import Derived.Test.YtmobicccdmfnaaaDoorVec
import Derived.WalkKit
import Derived.Lib.Hide
set_option linter.unusedVariables false
set_option linter.unusedSimpArgs false
namespace Go.Proofs.YtmobicccdmfnaaaDoor
open Go.RowKit Go.Proofs.Pl

theorem retI {k : IntKind} {a b : Int} (h : a = b) : Ending.returned (.int k a) = .returned (.int k b) := by rw [h]
theorem retB {a b : Bool} (h : a = b) : Ending.returned (.bool a) = .returned (.bool b) := by rw [h]

def isq (q : Int) : Bool := q == 17 || q == 97 || q == 257 || q == 3329 || q == 7681 || q == 12289 || q == 8380417
theorem isq_mem {q : Int} (h : isq q = true) : q ∈ qs := by
  simp only [isq, Bool.or_eq_true, beq_iff_eq] at h
  simp only [qs, List.mem_cons, List.not_mem_nil, or_false]
  omega
theorem mem_isq {q : Int} (h : q ∈ qs) : isq q = true := by
  simp only [isq, Bool.or_eq_true, beq_iff_eq]
  simp only [qs, List.mem_cons, List.not_mem_nil, or_false] at h
  omega

theorem zq_Is (q : Int) (w : World) : Calls Tryd.prog 114 #[.int .i64 q] w fun e w' => e = .returned (.bool (isq q)) ∧ w = w' := by
  go_enter Tryd.func114, Tryd.ntmps114
  go_wp2
  all_goals
    go_ret
    exact ⟨retB (by simp [isq, *]), rfl⟩
theorem zq_Is_yes (q : Int) (w : World) (hq : isq q = true) : Calls Tryd.prog 114 #[.int .i64 q] w fun e w' => e = .returned (.bool true) ∧ w = w' := by
  rw [← hq]; exact zq_Is q w
theorem zq_Is_no (q : Int) (w : World) (hq : isq q = false) : Calls Tryd.prog 114 #[.int .i64 q] w fun e w' => e = .returned (.bool false) ∧ w = w' := by
  rw [← hq]; exact zq_Is q w

theorem tmod_neg {a q : Int} (h0 : 0 < q) (h : a.tmod q < 0) : a.tmod q + q = a % q := by
  rw [Int.tmod_eq_emod] at *
  have := Int.emod_nonneg a (show q ≠ 0 by omega)
  split at h
  · omega
  · rename_i hc; rw [if_neg hc]; omega
theorem tmod_pos {a q : Int} (h0 : 0 < q) (h : 0 ≤ a.tmod q) : a.tmod q = a % q := by
  rw [Int.tmod_eq_emod] at *
  have := Int.emod_lt_of_pos a h0
  split at h
  · rename_i hc; rw [if_pos hc]; omega
  · omega

set_option maxHeartbeats 400000 in
theorem zq_Mod (a q : Int) (w : World) (hq : isq q = true) :
    Calls Tryd.prog 113 #[.int .i64 a, .int .i64 q] w fun e w' => e = .returned (.int .i64 (a % q)) ∧ w = w' := by
  have hf := q_facts (isq_mem hq)
  obtain ⟨h0, h1⟩ := hf
  have g := tmod_neg (a := a) (q := q) (by omega)
  have g' := tmod_pos (a := a) (q := q) (by omega)
  have b1 := Int.emod_nonneg a (show q ≠ 0 by omega)
  have b2 := Int.emod_lt_of_pos a (show 0 < q by omega)
  have H := Lib.hid hq
  clear hq
  have G := Lib.hid (And.intro g g')
  clear g g'
  go_enter Tryd.func113, Tryd.ntmps113
  go_wp2_with (go_at_call 114; refine (zq_Is_yes _ _ H.out).mono ?_; rintro e w' ⟨rfl, rfl⟩)
  · go_ret
    have hlt : a.tmod q < 0 := by assumption
    exact ⟨retI (by rw [G.out.1 hlt, IntWalk.wrap64_in _ ⟨by omega, by omega⟩]), rfl⟩
  · go_ret
    have hge : 0 ≤ a.tmod q := by assumption
    exact ⟨retI (G.out.2 hge), rfl⟩

theorem zq_Mod_no (a q : Int) (w : World) (hq : isq q = false) :
    Calls Tryd.prog 113 #[.int .i64 a, .int .i64 q] w fun e w' => e = .returned (.int .i64 0) ∧ w = w' := by
  have H := Lib.hid hq
  clear hq
  go_enter Tryd.func113, Tryd.ntmps113
  go_wp2_with (go_at_call 114; refine (zq_Is_no _ _ H.out).mono ?_; rintro e w' ⟨rfl, rfl⟩)
  go_ret
  exact ⟨rfl, rfl⟩

theorem mod_facts {q : Int} (hq : isq q = true) (a : Int) : 0 ≤ a % q ∧ a % q ≤ 8380416 := by
  obtain ⟨h0, h1⟩ := q_facts (isq_mem hq)
  have b1 := Int.emod_nonneg a (show q ≠ 0 by omega)
  have b2 := Int.emod_lt_of_pos a (show 0 < q by omega)
  omega

set_option maxHeartbeats 400000 in
theorem zq_Add (a b q : Int) (w : World) (hq : isq q = true) :
    Calls Tryd.prog 62 #[.int .i64 a, .int .i64 b, .int .i64 q] w fun e w' => e = .returned (.int .i64 ((a + b) % q)) ∧ w = w' := by
  have ha := mod_facts hq a
  have hb := mod_facts hq b
  have H := Lib.hid hq
  clear hq
  go_enter Tryd.func62, Tryd.ntmps62
  go_wp2_with (go_at_call 113; refine (zq_Mod _ _ _ H.out).mono ?_; rintro e w' ⟨rfl, rfl⟩)
  go_ret
  exact ⟨rfl, rfl⟩

set_option maxHeartbeats 400000 in
theorem zq_Sub (a b q : Int) (w : World) (hq : isq q = true) :
    Calls Tryd.prog 63 #[.int .i64 a, .int .i64 b, .int .i64 q] w fun e w' => e = .returned (.int .i64 ((a - b) % q)) ∧ w = w' := by
  have ha := mod_facts hq a
  have hb := mod_facts hq b
  have H := Lib.hid hq
  clear hq
  go_enter Tryd.func63, Tryd.ntmps63
  go_wp2_with (go_at_call 113; refine (zq_Mod _ _ _ H.out).mono ?_; rintro e w' ⟨rfl, rfl⟩)
  go_ret
  exact ⟨rfl, rfl⟩

theorem mul_bound {a b : Int} (ha : 0 ≤ a ∧ a ≤ 8380416) (hb : 0 ≤ b ∧ b ≤ 8380416) : 0 ≤ a * b ∧ a * b ≤ 70231372333056 := by
  refine ⟨Int.mul_nonneg ha.1 hb.1, ?_⟩
  have h1 := Int.mul_le_mul ha.2 hb.2 hb.1 (by omega)
  omega

set_option maxHeartbeats 400000 in
theorem zq_Mul (a b q : Int) (w : World) (hq : isq q = true) :
    Calls Tryd.prog 61 #[.int .i64 a, .int .i64 b, .int .i64 q] w fun e w' => e = .returned (.int .i64 ((a * b) % q)) ∧ w = w' := by
  have hm := mul_bound (mod_facts hq a) (mod_facts hq b)
  have H := Lib.hid hq
  clear hq
  go_enter Tryd.func61, Tryd.ntmps61
  go_wp2_with (go_at_call 113; refine (zq_Mod _ _ _ H.out).mono ?_; rintro e w' ⟨rfl, rfl⟩)
  go_ret
  exact ⟨retI (by rw [← Int.mul_emod]), rfl⟩

/-- A power modulo q. -/
def powV (a e q : Int) : Int := a ^ e.toNat % q
theorem pow_odd {q o x a : Int} {n k : Nat} (h : o * x ^ n % q = a ^ k % q) (hn : n % 2 = 1) : (o * x % q) * (x * x % q) ^ (n / 2) % q = a ^ k % q := by
  rw [← h]
  refine Eqm.emod_eq (((Eqm.mod _ _).mul ((Eqm.mod _ _).pow _)).trans (Eqm.of_eq ?_))
  have e : x ^ n = x ^ (2 * (n / 2)) * x := by rw [← Int.pow_succ]; congr 1; omega
  rw [e, Int.pow_mul, show x ^ 2 = x * x from by grind]; grind
theorem pow_even {q o x a : Int} {n k : Nat} (h : o * x ^ n % q = a ^ k % q) (hn : n % 2 = 0) : o * (x * x % q) ^ (n / 2) % q = a ^ k % q := by
  rw [← h]
  refine Eqm.emod_eq (((Eqm.refl _ _).mul ((Eqm.mod _ _).pow _)).trans (Eqm.of_eq ?_))
  have e : x ^ n = x ^ (2 * (n / 2)) := by congr 1; omega
  rw [e, Int.pow_mul, show x ^ 2 = x * x from by grind]

set_option maxHeartbeats 1000000 in
theorem zq_Pow (a q e : Int) (w : World) (hq : isq q = true) (he : 0 ≤ e) (he' : e ≤ 9223372036854775807) :
    Calls Tryd.prog 66 #[.int .i64 a, .int .i64 e, .int .i64 q] w fun r w' => r = .returned (.int .i64 (powV a e q)) ∧ w = w' := by
  obtain ⟨k, rfl⟩ := Int.eq_ofNat_of_zero_le he
  have hb := mod_facts hq
  have ha := hb a
  have H1 := Lib.hid (q_facts (isq_mem hq))
  have HB := Lib.hid hb
  have H := Lib.hid hq
  have hk : decide ((k : Int) < 0) = false := by simp
  clear hq hb
  go_enter Tryd.func66, Tryd.ntmps66
  go_wp2_with (first | (go_at_call 113; refine (zq_Mod _ _ _ H.out).mono ?_; rintro e w' ⟨rfl, rfl⟩) | (go_at_call 114; refine (zq_Is_yes _ _ H.out).mono ?_; rintro e w' ⟨rfl, rfl⟩))
  go_loop [1, 7, 8] (fun ev ov xv => ∃ (n : Nat) (o x : Int), n ≤ k ∧ ev = .int .i64 n ∧ ov = .int .i64 o ∧ xv = .int .i64 x ∧ 0 ≤ o ∧ o ≤ 8380416 ∧ 0 ≤ x ∧ x ≤ 8380416 ∧ Hid (o * x ^ n % q = a ^ k % q ∧ o < q)) (fun ev _ _ => (intOf ev).toNat)
  case atStart => exact ⟨k, 1, a % q, Nat.le_refl _, rfl, rfl, rfl, by omega, by omega, ha.1, ha.2, Lib.hid ⟨by rw [Int.one_mul]; exact ((Eqm.mod q a).pow k).emod_eq, by have := H1.out; omega⟩⟩
  case round =>
    obtain ⟨n, o, x, hn, rfl, rfl, rfl, ho, ho', hx, hx', HR⟩ := hrel
    have b1 := HB.out (o * x)
    have b2 := HB.out (x * x)
    by_cases h0 : 0 < n
    · by_cases h1 : n % 2 = 1
      · have ht : ((n : Int) % 2 == 1) = true := by simp; omega
        go_wp2_with (go_at_call 61; refine (zq_Mul _ _ _ _ H.out).mono ?_; rintro e w' ⟨rfl, rfl⟩)
        go_round
        case rel => exact ⟨n / 2, o * x % q, x * x % q, by omega, by go_num, rfl, rfl, b1.1, b1.2, b2.1, b2.2, Lib.hid ⟨pow_odd HR.out.1 h1, Int.emod_lt_of_pos _ (by have := H1.out; omega)⟩⟩
        case measure => simp [intOf]; omega
      · have ht : ((n : Int) % 2 == 1) = false := by simp; omega
        go_wp2_with (go_at_call 61; refine (zq_Mul _ _ _ _ H.out).mono ?_; rintro e w' ⟨rfl, rfl⟩)
        go_round
        case rel => exact ⟨n / 2, o, x * x % q, by omega, by go_num, rfl, rfl, ho, ho', b2.1, b2.2, Lib.hid ⟨pow_even HR.out.1 (by omega), HR.out.2⟩⟩
        case measure => simp [intOf]; omega
    · obtain rfl : n = 0 := by omega
      go_wp2
      go_ret
      refine ⟨retI ?_, rfl⟩
      have h2 := HR.out
      rw [Int.pow_zero, Int.mul_one, Int.emod_eq_of_lt ho h2.2] at h2
      exact h2.1
end Go.Proofs.YtmobicccdmfnaaaDoor

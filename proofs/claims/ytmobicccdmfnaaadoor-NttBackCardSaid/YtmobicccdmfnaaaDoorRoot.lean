/- Transforms: a ring's root. -/
import Derived.Test.YtmobicccdmfnaaaDoorDepth
import Derived.Test.YtmobicccdmfnaaaDoorRev
set_option linter.unusedVariables false
set_option linter.unusedSimpArgs false
namespace Go.Proofs.YtmobicccdmfnaaaDoor
open Go.RowKit Go.Proofs.Pl

theorem toNat_pow (d : Nat) : ((2 : Int) ^ d).toNat = 2 ^ d := by
  have : ((2 : Int) ^ d) = ((2 ^ d : Nat) : Int) := by simp
  rw [this, Int.toNat_natCast]
theorem pow_small (d : Nat) (hd : d ≤ 8) : 0 ≤ (2 : Int) ^ d ∧ (2 : Int) ^ d ≤ 256 := by
  have h : 2 ^ d ≤ 2 ^ 8 := Nat.pow_le_pow_right (by omega) hd
  have : ((2 : Int) ^ d) = ((2 ^ d : Nat) : Int) := by simp
  rw [this]
  generalize 2 ^ d = x at *
  omega

theorem wrap_pow (d : Nat) (hd : d ≤ 8) : IntKind.i64.wrap (2 ^ d) = 2 ^ d := by
  have := pow_small d hd
  exact wraps_i64 _ (by omega) (by omega)

set_option maxRecDepth 100000 in
set_option maxHeartbeats 4000000 in
theorem ntt_Root_gen (q n g : Int) (er : Nat → Addr) (w : World) (h1 : GE w er 101) (hv : vld q n = true) (hg : IsRoot q n g) (hg2 : 2 ≤ g) (hgq : g < q) (hs : std q n = false) :
    Calls Tryd.prog 56 #[.agg #[.int .i64 q, .int .i64 n]] w fun e w' => e = .returned (.tuple #[.int .i64 g, .int .i64 (dep q n), .nilIface]) ∧ Below w.heap.size w w' := by
  have hqf := q_facts (isq_mem (vld_q hv))
  have hd8 := (dep_facts (isq_mem (vld_q hv)) (vld_n hv)).2.2.2.2
  have hq := vld_q hv
  have hsh := wrap_pow (dep q n) hd8
  have HP := Lib.hid (pow_small (dep q n) hd8)
  have HG := Lib.hid hg
  have hg3 : ∀ h, 2 ≤ h → h < g → powV h ((2 : Int) ^ dep q n) q ≠ q - 1 := by
    unfold IsRoot at hg
    rw [if_neg (by simp [hs])] at hg
    intro h a b; unfold powV; rw [toNat_pow]; exact hg.2.2 h a b
  have hg4 : powV g ((2 : Int) ^ dep q n) q = q - 1 := by
    unfold IsRoot at hg
    rw [if_neg (by simp [hs])] at hg
    unfold powV; rw [toNat_pow]; exact hg.2.1
  have HG := Lib.hid (And.intro hg3 hg4)
  clear hg hg3 hg4
  cases hq1 : (q == 3329) <;> cases hq2 : (q == 8380417) <;> cases hn1 : (n == 256)
  all_goals try (exfalso; simp [std, hq1, hq2, hn1] at hs; done)
  all_goals try (exfalso; simp at hq1 hq2; omega)
  all_goals
    clear hs
    go_enter Tryd.func56, Tryd.ntmps56
    go_wp2_with (first | (go_at_call 111; refine (ring_Valid _ _ er _ (h1.below (below_alloc_ _ _)) hv).mono ?_; rintro e w1 ⟨rfl, hb1⟩; have hb2 := Below.then_ (below_alloc_ _ _) hb1; have c1 := box2_0 hb1; have c2 := box2_1 hb1) | (go_at_call 112; refine (ntt_Depth _ _ er _ (h1.below hb2) hv).mono ?_; rintro e w2 ⟨rfl, hb3⟩; have d1 := cell_below hb3 c1; have d2 := cell_below hb3 c2))
    obtain ⟨hp0, hp1⟩ := HP.out
    have hb4 := Below.then_ hb2 hb3
    have hP9 : (2 : Int) ^ dep q n ≤ 9223372036854775807 := by omega
    have HQ := Lib.hid (And.intro hp0 hP9)
    clear hp0 hp1 hP9
    go_loopw [7] (fun hv wr => ∃ h : Int, 2 ≤ h ∧ h ≤ g ∧ hv = .int .i64 h ∧ Below w.heap.size w wr ∧ wr.cell? ⟨w.heap.size, 0, none⟩ = some (.int .i64 q)) (fun hv _ => (g - intOf hv).toNat)
    case atStart => exact ⟨2, by omega, by omega, rfl, hb4, d1⟩
    case round =>
      obtain ⟨h, hh2, hhg, rfl, hB, hcq⟩ := hrel
      by_cases hlt : h < g
      · have hne := HG.out.1 h hh2 hlt
        have hbne : (powV h ((2 : Int) ^ dep q n) q != q - 1) = true := by simpa using hne
        clear hne
        go_wp2
        go_quiet ((go_at_call 66; exact Calls.quiet_of_same (same_of (zq_Pow _ _ _ _ hq HQ.out.1 HQ.out.2))))
        go_wp2
        go_roundw
        case rel => exact ⟨h + 1, by omega, by omega, rfl, pw_below_drewN hB _, by simpa using hcq⟩
        case measure => simp [intOf]; omega
      · obtain rfl : h = g := by omega
        have hbne : (powV h ((2 : Int) ^ dep q n) q != q - 1) = false := by simpa using HG.out.2
        go_wp2
        go_quiet ((go_at_call 66; exact Calls.quiet_of_same (same_of (zq_Pow _ _ _ _ hq HQ.out.1 HQ.out.2))))
        go_wp2
        go_ret3
        exact ⟨rfl, pw_below_drewN hB _⟩

set_option maxRecDepth 100000 in
set_option maxHeartbeats 4000000 in
theorem ntt_Root_kem (er : Nat → Addr) (w : World) (h1 : GE w er 101) :
    Calls Tryd.prog 56 #[.agg #[.int .i64 3329, .int .i64 256]] w fun e w' => e = .returned (.tuple #[.int .i64 17, .int .i64 (dep 3329 256), .nilIface]) ∧ Below w.heap.size w w' := by
  have hv : vld 3329 256 = true := by decide
  go_enter Tryd.func56, Tryd.ntmps56
  go_wp2_with (first | (go_at_call 111; refine (ring_Valid _ _ er _ (h1.below (below_alloc_ _ _)) hv).mono ?_; rintro e w1 ⟨rfl, hb1⟩; have hb2 := Below.then_ (below_alloc_ _ _) hb1; have c1 := box2_0 hb1; have c2 := box2_1 hb1) | (go_at_call 112; refine (ntt_Depth _ _ er _ (h1.below hb2) hv).mono ?_; rintro e w2 ⟨rfl, hb3⟩; have d1 := cell_below hb3 c1; have d2 := cell_below hb3 c2))
  go_ret3
  exact ⟨rfl, Below.then_ hb2 hb3⟩

set_option maxRecDepth 100000 in
set_option maxHeartbeats 4000000 in
theorem ntt_Root_dsa (er : Nat → Addr) (w : World) (h1 : GE w er 101) :
    Calls Tryd.prog 56 #[.agg #[.int .i64 8380417, .int .i64 256]] w fun e w' => e = .returned (.tuple #[.int .i64 1753, .int .i64 (dep 8380417 256), .nilIface]) ∧ Below w.heap.size w w' := by
  have hv : vld 8380417 256 = true := by decide
  go_enter Tryd.func56, Tryd.ntmps56
  go_wp2_with (first | (go_at_call 111; refine (ring_Valid _ _ er _ (h1.below (below_alloc_ _ _)) hv).mono ?_; rintro e w1 ⟨rfl, hb1⟩; have hb2 := Below.then_ (below_alloc_ _ _) hb1; have c1 := box2_0 hb1; have c2 := box2_1 hb1) | (go_at_call 112; refine (ntt_Depth _ _ er _ (h1.below hb2) hv).mono ?_; rintro e w2 ⟨rfl, hb3⟩; have d1 := cell_below hb3 c1; have d2 := cell_below hb3 c2))
  go_ret3
  exact ⟨rfl, Below.then_ hb2 hb3⟩

theorem ntt_Root (q n g : Int) (er : Nat → Addr) (w : World) (h1 : GE w er 101) (hv : vld q n = true) (hg : IsRoot q n g) (hg2 : 2 ≤ g) (hgq : g < q) :
    Calls Tryd.prog 56 #[.agg #[.int .i64 q, .int .i64 n]] w fun e w' => e = .returned (.tuple #[.int .i64 g, .int .i64 (dep q n), .nilIface]) ∧ Below w.heap.size w w' := by
  by_cases hs : std q n = true
  · unfold IsRoot at hg
    rw [if_pos hs] at hg
    simp only [std, Bool.and_eq_true, Bool.or_eq_true, beq_iff_eq] at hs
    obtain ⟨hq, rfl⟩ := hs
    rcases hq with rfl | rfl
    · rw [if_pos rfl] at hg; subst hg; exact ntt_Root_kem er w h1
    · rw [if_neg (by decide)] at hg; subst hg; exact ntt_Root_dsa er w h1
  · exact ntt_Root_gen q n g er w h1 hv hg hg2 hgq (by simpa using hs)
end Go.Proofs.YtmobicccdmfnaaaDoor

/- What the law of chapter 3 asks of its helpers: equal lists, the chapter's examples. -/
import Derived.Test.YtmobicccdmfnaaaDoorTimes
set_option linter.unusedVariables false
set_option linter.unusedSimpArgs false
namespace Go.Proofs.YtmobicccdmfnaaaDoor
open Go.RowKit Go.Proofs.Pl

set_option maxRecDepth 100000 in
set_option maxHeartbeats 2000000 in
theorem ref_SameInts (va vb : Value) (xs : List Int) (w : World) (hx : RS w .i64 va xs) (hy : RS w .i64 vb xs) :
    Calls Tryd.prog 16 #[va, vb] w fun e w' => e = .returned (.bool true) ∧ Below w.heap.size w w' := by
  obtain ⟨A, c, rfl, hc1, hc2, hxc⟩ := hx
  obtain ⟨A', c', rfl, hc1', hc2', hyc⟩ := hy
  have HXC := Lib.hid hxc
  have HYC := Lib.hid hyc
  clear hxc hyc
  go_enter Tryd.func16, Tryd.ntmps16
  go_wp2
  go_loopw [5] (fun iv wr => ∃ i : Nat, i ≤ xs.length ∧ iv = .int .i64 i ∧ Below w.heap.size w wr) (fun iv _ => xs.length - (intOf iv).toNat)
  case atStart => exact ⟨0, by omega, rfl, Below.refl _ _⟩
  case round =>
    obtain ⟨i, hi, rfl, hB⟩ := hrel
    by_cases hlt : i < xs.length
    · obtain ⟨ad, rfl, hca⟩ := HXC.out i hlt
      obtain ⟨ad', rfl, hcb⟩ := HYC.out i hlt
      have h1 := cell_below hB hca
      have h2 := cell_below hB hcb
      clear hca hcb
      go_wp2
      go_quiet (fail)
      go_wp2
      go_roundw
      case rel => exact ⟨i + 1, by omega, by go_num, pw_below_drewN hB _⟩
      case measure => simp [intOf]; omega
    · obtain rfl : i = xs.length := by omega
      go_wp2
      go_ret
      exact ⟨rfl, hB⟩

set_option maxRecDepth 100000 in
set_option maxHeartbeats 2000000 in
theorem law3_first (er : Nat → Addr) (w : World) (h1 : GE w er 101) :
    Calls Tryd.prog 9 #[] w fun e w' => e = .returned (.bool true) ∧ Below w.heap.size w w' := by
  have hd : dep 3329 256 = 7 := by decide
  have hr : rev 7 1 = 64 := by decide
  have HK := ntt_Root_kem er w h1
  have HR := fun wx => ntt_Rev 1 7 wx (by omega) (by omega)
  rw [hd] at HK
  rw [hr] at HR
  have H1 := Lib.hid HK
  have H2 := Lib.hid HR
  clear HK HR hd hr
  go_enter Tryd.func9, Tryd.ntmps9
  go_wp2_with (first | (go_at_call 56; refine H1.out.mono ?_; rintro e w1 ⟨rfl, hb1⟩) | (go_at_call 57; refine (H2.out _).mono ?_; rintro e w2 ⟨rfl, rfl⟩))
  go_ret
  exact ⟨rfl, hb1⟩
end Go.Proofs.YtmobicccdmfnaaaDoor

/- Transforms, first part: how often a ring parts; numbers turned round; copies. -/
import Derived.Test.YtmobicccdmfnaaaDoorRing3
set_option linter.unusedVariables false
set_option linter.unusedSimpArgs false
namespace Go.Proofs.YtmobicccdmfnaaaDoor
open Go.RowKit Go.Proofs.Pl

theorem pw_below_drewN {B : Nat} {w W : World} (h : Below B w W) (n : Nat) : Below B w (W.drewN n) := ⟨h.os, h.tape, h.output, h.size, h.block⟩
theorem dgo_ge (q n : Int) : ∀ f d : Nat, d ≤ dgo q n f d
  | 0, _ => Nat.le_refl _
  | f + 1, d => by
    rw [dgo]
    split
    · exact Nat.le_trans (Nat.le_succ d) (dgo_ge q n f (d + 1))
    · exact Nat.le_refl _
theorem na {A B : Prop} (h : ¬ (A ∧ B)) : ¬ A ∨ (A ∧ ¬ B) := by
  by_cases a : A
  · exact .inr ⟨a, fun b => h ⟨a, b⟩⟩
  · exact .inl a
/-- One step of Depth's loop. -/
theorem dgo_step (q n : Int) (f d : Nat) : dgo q n (f + 1) d = if (q - 1) % 2 ^ (d + 2) = 0 ∧ 2 ^ (d + 1) ≤ n then dgo q n f (d + 1) else d := rfl

set_option maxRecDepth 100000 in
set_option maxHeartbeats 4000000 in
theorem ntt_Depth (q n : Int) (er : Nat → Addr) (w : World) (h1 : GE w er 101) (hv : vld q n = true) :
    Calls Tryd.prog 112 #[.agg #[.int .i64 q, .int .i64 n]] w fun e w' => e = .returned (.int .i64 (dep q n)) ∧ Below w.heap.size w w' := by
  have hqf := q_facts (isq_mem (vld_q hv))
  have HD8 := Lib.hid (dep_facts (isq_mem (vld_q hv)) (vld_n hv)).2.2.2.2
  go_enter Tryd.func112, Tryd.ntmps112
  go_wp2_with (go_at_call 111; refine (ring_Valid _ _ er _ (h1.below (below_alloc_ _ _)) hv).mono ?_; rintro e w1 ⟨rfl, hb1⟩; have hb2 := Below.then_ (below_alloc_ _ _) hb1; obtain ⟨hc, hf⟩ := bcell hb1)
  have hlt1 : w.heap.size < w1.heap.size := by have := hb1.size; simp at this; omega
  have c1 : w1.cell? ⟨w.heap.size, 0, none⟩ = some (.int .i64 q) := cell_below hb1 (by simp)
  have c2 : w1.cell? ⟨w.heap.size, 1, none⟩ = some (.int .i64 n) := cell_below hb1 (by simp)
  go_loopw [3] (fun dv wr => ∃ d : Nat, d ≤ 10 ∧ dv = .int .i64 d ∧ Below w.heap.size w wr ∧ wr.cell? ⟨w.heap.size, 0, none⟩ = some (.int .i64 q) ∧ wr.cell? ⟨w.heap.size, 1, none⟩ = some (.int .i64 n) ∧ Hid (∃ f, f + d = 10 ∧ dgo q n f d = dep q n)) (fun dv _ => 10 - (intOf dv).toNat)
  case atStart => exact ⟨0, by omega, rfl, hb2, c1, c2, Lib.hid ⟨10, rfl, rfl⟩⟩
  case round =>
    obtain ⟨d, hd, rfl, hB, hcq, hcn, HD⟩ := hrel
    clear hc hf c1 c2
    clear h1 hv
    have hd8 : d ≤ 8 := by obtain ⟨f, _, h⟩ := HD.out; have := dgo_ge q n f d; have := HD8.out; omega
    have HS := dgo_step q n (9 - d) d
    obtain ⟨f0, hf0, hfd⟩ := HD.out
    rw [show 9 - d + 1 = f0 from by omega, hfd] at HS
    clear hfd hf0
    have HSS := Lib.hid HS
    clear HS HD
    rcases (by omega : d = 0 ∨ d = 1 ∨ d = 2 ∨ d = 3 ∨ d = 4 ∨ d = 5 ∨ d = 6 ∨ d = 7 ∨ d = 8) with rfl | rfl | rfl | rfl | rfl | rfl | rfl | rfl | rfl
    all_goals
      have HS := HSS.out
      simp only [Nat.reduceAdd, Nat.reduceSub, Int.reducePow] at HS
      clear HSS
      split at HS
      · rename_i hcond
        have ha := beq_iff_eq.2 hcond.1
        have hb := decide_eq_true hcond.2
        clear hcond
        have HSH := Lib.hid HS
        clear HS
        go_wp2
        go_quiet (fail)
        go_wp2
        go_roundw
        case rel =>
          refine ⟨_, ?_, ?_, pw_below_drewN hB _, by simpa using hcq, by simpa using hcn, Lib.hid ⟨_, ?_, HSH.out.symm⟩⟩
          · omega
          · rfl
          · rfl
        case measure => simp [intOf]
      · rename_i hcond
        rcases na hcond with hca | ⟨hca, hcb⟩
        · have ha := beq_eq_false_iff_ne.2 hca
          clear hcond hca
          have HSH := Lib.hid HS
          clear HS
          go_wp2
          go_quiet (fail)
          go_wp2
          go_ret
          exact ⟨retI (by rw [HSH.out]), pw_below_drewN hB _⟩
        · have ha := beq_iff_eq.2 hca
          have hb := decide_eq_false hcb
          clear hcond hca hcb
          have HSH := Lib.hid HS
          clear HS
          go_wp2
          go_quiet (fail)
          go_wp2
          go_ret
          exact ⟨retI (by rw [HSH.out]), pw_below_drewN hB _⟩
end Go.Proofs.YtmobicccdmfnaaaDoor

/- Transforms: the numbers by which parts are parted. -/
import Derived.Test.YtmobicccdmfnaaaDoorRoot
import Derived.Test.YtmobicccdmfnaaaDoorClone
import Derived.Deep.RegionHeld3
import Derived.Deep.AppendLies
set_option linter.unusedVariables false
set_option linter.unusedSimpArgs false
namespace Go.Proofs.YtmobicccdmfnaaaDoor
open Go.RowKit Go.Proofs.Pl

/-- The numbers by which parts are parted. -/
def zV (q n g : Int) : List Int := ofF (2 ^ dep q n) fun k => g ^ rev (dep q n) k % q

theorem rev_bound {d k : Nat} (hd : d ≤ 8) : (rev d k : Int) ≤ 256 := by
  have h1 := rev_lt d k
  have h2 : 2 ^ d ≤ 2 ^ 8 := Nat.pow_le_pow_right (by omega) hd
  omega

set_option maxRecDepth 100000 in
set_option maxHeartbeats 4000000 in
theorem ntt_roots (q n g : Int) (er : Nat → Addr) (w : World) (h1 : GE w er 101) (hv : vld q n = true) (hg : IsRoot q n g) (hg2 : 2 ≤ g) (hgq : g < q) :
    Calls Tryd.prog 59 #[.agg #[.int .i64 q, .int .i64 n]] w fun e w' => ∃ r, e = .returned (.tuple #[r, .int .i64 (dep q n), .nilIface]) ∧ Below w.heap.size w w' ∧ FV w w' 3 .i64 r (zV q n g) := by
  have hqf := q_facts (isq_mem (vld_q hv))
  have hd8 := (dep_facts (isq_mem (vld_q hv)) (vld_n hv)).2.2.2.2
  have hq := vld_q hv
  have hsh := wrap_pow (dep q n) hd8
  have HP := Lib.hid (pow_small (dep q n) hd8)
  have HG := Lib.hid (And.intro hg (And.intro hg2 hgq))
  clear hg hg2 hgq
  obtain ⟨i0, hi, hz0, hz1, hz2⟩ := info_parts info_int
  go_enter Tryd.func59, Tryd.ntmps59
  go_wp2_with (go_at_call 56; refine (ntt_Root _ _ _ er _ (h1.below (below_alloc_ _ _)) hv HG.out.1 HG.out.2.1 HG.out.2.2).mono ?_; rintro e w1 ⟨rfl, hb1⟩; have hb2 := Below.then_ (below_alloc_ _ _) hb1; have c1 := box2_0 hb1)
  have hlt1 : w.heap.size < w1.heap.size := by have := hb1.size; simp at this; omega
  generalize hN : (2 : Nat) ^ dep q n = N
  have hN2 : (2 : Int) ^ dep q n = (N : Int) := by rw [← hN]; simp
  rw [hN2]
  go_loopw [8, 21] (fun ov kv wr => ∃ k : Nat, k ≤ N ∧ kv = .int .i64 k ∧ Below w.heap.size w wr ∧ w.heap.size < wr.heap.size ∧ wr.cell? ⟨w.heap.size, 0, none⟩ = some (.int .i64 q) ∧ wr.ownsRow (w.heap.size + 1) 3 1 ov k ((ofF k fun k => g ^ rev (dep q n) k % q).map (Value.int .i64))) (fun _ kv _ => N - (intOf kv).toNat)
  case atStart => exact ⟨0, by omega, rfl, hb2, hlt1, c1, World.ownsRow_nil _ _ _ _⟩
  case round =>
    obtain ⟨k, hk, rfl, hB, hsz, hcq, hown⟩ := hrel
    by_cases hlt : k < N
    · have HN := Lib.hid (And.intro hN hN2)
      clear hN hN2
      go_wp2
      have hk1 : k < 1048576 := by have := HP.out; have h2 := HN.out.2; rw [h2] at this; omega
      have hd20 : dep q n ≤ 20 := by omega
      have hr1 := rev_bound (k := k) hd8
      have hr0 : (0 : Int) ≤ (rev (dep q n) k : Int) := by omega
      have hr2 : (rev (dep q n) k : Int) ≤ 9223372036854775807 := by omega
      have hm1 : k + 1 ≤ maxLen := by unfold maxLen; omega
      have hm2 : (k + 1) * 8 ≤ 140737488355328 := by omega
      have hm3 : w.heap.size + 1 ≤ (wr.alloc (.cells #[.int .i64 (powV g (rev (dep q n) k) q)] 3)).drew.heap.size := by simp; omega
      have hm4 : (wr.alloc (.cells #[.int .i64 (powV g (rev (dep q n) k) q)] 3)).drew.heap.size = wr.heap.size + 1 := by simp
      have hne := own_ne hown (Nat.lt_succ_self w.heap.size)
      have hm6 : w.heap.size < (wr.alloc (.cells #[.int .i64 (powV g (rev (dep q n) k) q)] 3)).drew.heap.size := by simp; omega
      have H1 := Lib.hid hm1
      have H4 := Lib.hid hm4
      clear hm1 hm4
      have hone : ∀ u ∈ [Value.int .i64 (powV g (rev (dep q n) k) q)], u.oneCell' = true := by simp [Value.oneCell']
      have H5 := Lib.hid hone
      clear hone
      go_region_held3 (fun w' => w'.cell? ⟨w.heap.size, 0, none⟩ = some (.int .i64 q)) (first | go_keep | (rw [hgrow.cell_far _ hm6 hne.symm]; assumption))
        ((first
          | (go_at_call 57; refine (ntt_Rev k (dep q n) _ hk1 hd20).mono ?_; rintro e w2 ⟨rfl, rfl⟩)
          | (go_at_call 66; refine (zq_Pow _ _ _ _ hq hr0 hr2).mono ?_; rintro e w2 ⟨rfl, rfl⟩)
          | (refine step_append_lies _ (by rfl) _ _ _ (by rfl) (w.heap.size + 1) 3 i0 _ 1 8 Tryd.underlying22 hi hz0 hz1 hz2 rfl Nat.one_pos _ k _ (by rfl) ((hown.alloc _).drew) ⟨wr.heap.size, 0, none⟩ 1 1 [.int .i64 (powV g (rev (dep q n) k) q)] (by rfl) (by rfl) (World.news_of_block (cs := #[.int .i64 (powV g (rev (dep q n) k) q)]) (t := 3) (fr := (0, 0)) (heap_alloc_new wr _)) H5.out Nat.one_pos H1.out hm2 hm3 (wr.heap.size + 1) H4.out ?_; intro gg cap w1 hown1 hgrow hat hlt)))
      have hob := own_le_block hown
      have hBn : Below w.heap.size w w1 := ((hB.alloc (Nat.le_of_lt hsz) _).drew).grown hgrow (by simp; omega) (fun j hj => by have := hob j hj; omega)
      have hsz1 : w.heap.size < w1.heap.size := Nat.lt_of_lt_of_le hm6 hgrow.size
      have hcq1 : w1.cell? ⟨w.heap.size, 0, none⟩ = some (.int .i64 q) := by
        rw [hgrow.cell_far _ hm6 hne.symm]; exact cell_below (below_alloc_ wr _) hcq
      clear hgrow hm6 hm3 hat
      go_wp2
      go_roundw
      case rel =>
        refine ⟨k + 1, by omega, by go_num, hBn, hsz1, hcq1, ?_⟩
        rw [ofF_succ, List.map_append]
        have e : powV g (rev (dep q n) k) q = g ^ rev (dep q n) k % q := by simp [powV]
        rw [e] at hown1
        exact hown1
      case measure => simp [intOf]; omega
    · obtain rfl : k = N := by omega
      go_wp2
      go_ret3
      have hown2 : wr.ownsRow (w.heap.size + 1) 3 1 u8 k ((zV q n g).map (Value.int .i64)) := by unfold zV; rw [hN]; exact hown
      have hlen : (zV q n g).length = k := by unfold zV; rw [ofF_length, hN]
      have hpos : 0 < (zV q n g).length := by rw [hlen, ← hN]; exact Nat.pow_pos (by omega)
      obtain ⟨g', c', h1, h2, h3, h4, h5⟩ := arr_of_own hown2 hlen.symm hpos
      exact ⟨_, rfl, hB, g', c', by omega, h2, h3, h4, h5⟩
end Go.Proofs.YtmobicccdmfnaaaDoor

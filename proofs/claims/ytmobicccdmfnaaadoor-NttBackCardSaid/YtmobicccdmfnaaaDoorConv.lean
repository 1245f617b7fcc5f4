/- The product of polynomials: what ring.Conv gives back. -/
import Derived.Test.YtmobicccdmfnaaaDoorRing3
import Derived.Test.YtmobicccdmfnaaaDoorCvs
set_option linter.unusedVariables false
set_option linter.unusedSimpArgs false
namespace Go.Proofs.YtmobicccdmfnaaaDoor
open Go.RowKit Go.Proofs.Pl

theorem vec_mul_bound {q n : Int} {xs ys : List Int} (hv : vld q n = true) (hx : Vec q n xs) (hy : Vec q n ys) : ∀ i j, i < xs.length → j < xs.length → 0 ≤ at_ xs i * at_ ys j ∧ at_ xs i * at_ ys j ≤ 70231372333056 := by
  intro i j hi hj
  have hq := q_facts (isq_mem (vld_q hv))
  have a1 := hx.2 i hi
  have a2 := hy.2 j (by have := hx.1; have := hy.1; omega)
  exact mul_bound (by omega) (by omega)

set_option maxRecDepth 100000 in
set_option maxHeartbeats 4000000 in
theorem ring_Conv (q n : Int) (va vb : Value) (xs ys : List Int) (er : Nat → Addr) (w : World) (h1 : GE w er 101) (h2 : GE w er 102) (hv : vld q n = true) (hx : Vec q n xs) (hy : Vec q n ys) (hsx : RS w .i64 va xs) (hsy : RS w .i64 vb ys) :
    Calls Tryd.prog 15 #[.agg #[.int .i64 q, .int .i64 n], va, vb] w fun e w' => ∃ r, e = .returned (.tuple #[r, .nilIface]) ∧ Below w.heap.size w w' ∧ FV w w' 3 .i64 r (convV q n xs ys) := by
  have HCx := Lib.hid (vec_vcode hv hx)
  have HCy := Lib.hid (vec_vcode hv hy)
  have HMB := Lib.hid (vec_mul_bound hv hx hy)
  have hsx0 := hsx
  have hsy0 := hsy
  obtain ⟨A, c, rfl, hc1, hc2, hxc⟩ := hsx
  obtain ⟨A', c', rfl, hc1', hc2', hyc⟩ := hsy
  have hl : (xs.length : Int) = n := hx.1
  subst hl
  have hly : ys.length = xs.length := by have := hy.1; omega
  have HLY := Lib.hid hly
  have hN1 : xs.length ≤ 256 := by have := n_facts (vld_n hv); omega
  have hN2 : ys.length ≤ 256 := by omega
  have hly1 : ys.length ≤ xs.length := by omega
  have hly2 : xs.length ≤ ys.length := by omega
  clear hly
  have hq := vld_q hv
  have hle : xs.length ≤ 1048576 := by omega
  have hmk := run_make_ints64 xs.length hle
  clear hle hx hy
  go_enter Tryd.func15, Tryd.ntmps15
  go_wp2_with (go_at_call 67; refine (ring_both _ _ _ 2 _ (fun j => if j = 0 then .slice A xs.length c else .slice A' ys.length c') (fun j => if j = 0 then xs else ys) er _ ((h1.below (below_alloc_ _ _)).below (below_alloc_ _ _)) ((h2.below (below_alloc_ _ _)).below (below_alloc_ _ _)) (by omega) ?_).mono ?_; rotate_left; rintro e w1 ⟨rfl, hb1⟩; have hb2 := Below.then_ (Below.then_ (below_alloc_ _ _) (below_alloc_ _ _)) hb1; obtain ⟨hc, hf⟩ := bcell hb1)
  case refine_1 =>
    intro j hj
    rcases (by omega : j = 0 ∨ j = 1) with rfl | rfl
    · exact ⟨by simp, (hsx0.below (below_alloc_ _ _)).below (below_alloc_ _ _), HCx.out⟩
    · exact ⟨by simp, (hsy0.below (below_alloc_ _ _)).below (below_alloc_ _ _), HCy.out⟩
  have hlt1 : w.heap.size < w1.heap.size := by have := hb1.size; simp at this; omega
  have c1 : w1.cell? ⟨w.heap.size, 0, none⟩ = some (.int .i64 q) := cell_below hb1 (by simp)
  have c2 : w1.cell? ⟨w.heap.size, 1, none⟩ = some (.int .i64 xs.length) := cell_below hb1 (by simp)
  go_loopw [28] (fun iv wr => ∃ k : Nat, k ≤ xs.length ∧ iv = .int .i64 k ∧ Below w.heap.size w wr ∧ wr.cell? ⟨w.heap.size, 0, none⟩ = some (.int .i64 q) ∧ wr.cell? ⟨w.heap.size, 1, none⟩ = some (.int .i64 xs.length) ∧ w1.heap.size < wr.heap.size ∧ Arr wr 2 .i64 w1.heap.size (ofF xs.length (cs xs.length (at_ xs) (at_ ys) k 0))) (fun iv _ => xs.length - (intOf iv).toNat)
  case atStart =>
    refine ⟨0, Nat.zero_le _, rfl, Below.then_ hb2 (below_alloc_ _ _), cell_below (below_alloc_ _ _) c1, cell_below (below_alloc_ _ _) c2, by simp, ?_⟩
    rw [ofF_congr (g := fun _ => 0) (fun p _ => cs_null p), ofF_null]; exact Arr.new _ _ _ _
  case round =>
    obtain ⟨k, hk, rfl, hB, hcq, hcn, hsz, hA⟩ := hrel
    by_cases hlt : k < xs.length
    · obtain ⟨ad, rfl, hcell⟩ := hxc k hlt
      have hcell1 := cell_below hB hcell
      have HX := Lib.hid (And.intro hxc hcell)
      clear hxc hcell hc hf c1 c2 hmk
      go_wp2
      obtain ⟨wo, rfl⟩ : ∃ wo : World, wo = wr := ⟨_, rfl⟩
      go_loopw [35] (fun jv wi => ∃ j : Nat, j ≤ xs.length ∧ jv = .int .i64 j ∧ Below w.heap.size w wi ∧ wi.cell? ⟨w.heap.size, 0, none⟩ = some (.int .i64 q) ∧ wi.cell? ⟨w.heap.size, 1, none⟩ = some (.int .i64 xs.length) ∧ w1.heap.size < wi.heap.size ∧ Arr wi 2 .i64 w1.heap.size (ofF xs.length (cs xs.length (at_ xs) (at_ ys) k j))) (fun jv _ => xs.length - (intOf jv).toNat)
      case atStart => exact ⟨0, Nat.zero_le _, rfl, hB, hcq, hcn, hsz, hA⟩
      case round =>
        obtain ⟨j, hj, rfl, hBi, hcqi, hcni, hszi, hAi⟩ := hrel
        by_cases hltj : j < xs.length
        · obtain ⟨ad', rfl, hcell'⟩ := hyc j (by omega)
          have hcelli := cell_below hBi hcell'
          have HY := Lib.hid (And.intro hyc hcell')
          have hpb := HMB.out k j hlt hltj
          by_cases hlow : k + j < xs.length
          · have hfr := hAi.free (k + j)
            have hco := hAi.cell (j := k + j) (by rw [ofF_length]; exact hlow)
            rw [at_ofF _ hlow] at hco
            have hcb := cs_bound (i := k) (j := j) (p := k + j) (fun a b ha hb => HMB.out a b ha hb) hlt hlow
            generalize hcv : cs xs.length (at_ xs) (at_ ys) k j (k + j) = cv at hco hcb
            have HCV := Lib.hid hcv
            clear hyc hcell' hA hcq hcn hcv
            go_wp2
            go_roundw
            case rel =>
              refine ⟨j + 1, by omega, by go_num, hBi.setCell (Nat.le_of_lt hlt1) _, ?_, ?_, by simpa using hszi, ?_⟩
              · rw [← hcqi]; exact cell_far (Nat.ne_of_lt hlt1)
              · rw [← hcni]; exact cell_far (Nat.ne_of_lt hlt1)
              · have hset := hAi.set (cv + at_ xs k * at_ ys j) (j := k + j) (by rw [ofF_length]; exact hlow)
                rw [set_ofF] at hset
                rw [ofF_congr (fun p hp => cs_low hlow hp), HCV.out]
                exact hset
            case measure => simp [intOf]; omega
          · have hhigh : xs.length ≤ k + j := by omega
            have hin : k + j - xs.length < xs.length := by omega
            have hfr := hAi.free (k + j - xs.length)
            have hco := hAi.cell (j := k + j - xs.length) (by rw [ofF_length]; exact hin)
            rw [at_ofF _ hin] at hco
            have hcb := cs_bound (i := k) (j := j) (p := k + j - xs.length) (fun a b ha hb => HMB.out a b ha hb) hlt hin
            generalize hcv : cs xs.length (at_ xs) (at_ ys) k j (k + j - xs.length) = cv at hco hcb
            have HCV := Lib.hid hcv
            have hix : ((k : Int) + (j : Int) - (xs.length : Int)).toNat = k + j - xs.length := by omega
            clear hyc hcell' hA hcq hcn hcv
            go_wp2
            go_roundw
            case rel =>
              refine ⟨j + 1, by omega, by go_num, hBi.setCell (Nat.le_of_lt hlt1) _, ?_, ?_, by simpa using hszi, ?_⟩
              · rw [← hcqi]; exact cell_far (Nat.ne_of_lt hlt1)
              · rw [← hcni]; exact cell_far (Nat.ne_of_lt hlt1)
              · have hset := hAi.set (cv - at_ xs k * at_ ys j) (j := k + j - xs.length) (by rw [ofF_length]; exact hin)
                rw [set_ofF] at hset
                rw [ofF_congr (fun p hp => cs_high hlt hltj hhigh hp), HCV.out]
                exact hset
            case measure => simp [intOf]; omega
        · obtain rfl : j = xs.length := by omega
          have hge : ¬ xs.length < ys.length := by omega
          go_wp2
          go_roundw
          case rel =>
            refine ⟨k + 1, by omega, by go_num, hBi, hcqi, hcni, hszi, ?_⟩
            rw [ofF_congr (g := cs xs.length (at_ xs) (at_ ys) k xs.length) (fun p hp => (cs_row hlt hp).symm)]; exact hAi
          case measure => simp [intOf]; omega
    · obtain rfl : k = xs.length := by omega
      have hrs : RS wr .i64 (.slice (some ⟨w1.heap.size, 0, none⟩) xs.length xs.length) (ofF xs.length (cs xs.length (at_ xs) (at_ ys) xs.length 0)) := by
        have := hA.RS (c := xs.length) (Nat.le_of_eq (ofF_length _ _)) (by omega)
        rwa [ofF_length] at this
      go_wp2_with (go_at_call 68; refine (ring_Mod _ _ _ _ er _ (h1.below hB) hv (by rw [ofF_length]) hrs).mono ?_; rintro e w2 ⟨r, rfl, hb3, hFV⟩)
      go_ret2
      rw [cs_conv (n := (xs.length : Int)) (by simp)] at hFV
      exact ⟨r, rfl, Below.then_ hB hb3, hFV.lower hB.size⟩
end Go.Proofs.YtmobicccdmfnaaaDoor

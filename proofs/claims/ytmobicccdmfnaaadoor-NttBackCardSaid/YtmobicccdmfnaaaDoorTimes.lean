/- Transforms: the product, part by part. -/
import Derived.Test.YtmobicccdmfnaaaDoorFrom
import Derived.Test.YtmobicccdmfnaaaDoorMts
set_option linter.unusedVariables false
set_option linter.unusedSimpArgs false
namespace Go.Proofs.YtmobicccdmfnaaaDoor
open Go.RowKit Go.Proofs.Pl

theorem run_make_ints_cap (n : Nat) (hn : n ≤ 1048576) : ∀ w : World, (Instr.makeSlice 22 (.int .i64 0) (.int .i64 (n : Int))).run Tryd.prog w
    = .ok (.slice (some ⟨w.heap.size, 0, none⟩) 0 n) (w.alloc (.cells (ints .i64 (List.replicate n 0)) 3)) := by
  intro w
  obtain ⟨i, hi, hz0, hz1, hz2⟩ := info_parts info_int
  have h := run_make (P := Tryd.prog) w 22 3 i (.int .i64 0) Tryd.underlying22 hi hz0 .i64 .i64 0 n (by omega) (by omega) (by rw [hz2]; omega) (by omega)
  rw [hz1, Int.toNat_natCast, Nat.mul_one] at h
  rw [h]
  show _ = Result.ok _ (w.alloc (.cells _ _))
  rw [← madeCells_ints]; rfl

theorem own_below {w w1 : World} {base : Nat} {e : TypeId} {size : Nat} {v : Value} {n : Nat} {xs : List Value} (h : w.ownsRow base e size v n xs) (hb : Below w.heap.size w w1) : w1.ownsRow base e size v n xs := by
  refine ⟨h.1, ?_⟩
  rcases h.2 with h0 | ⟨g, cap, cur, hv, hg, hh, rest⟩
  · exact .inl h0
  · exact .inr ⟨g, cap, cur, hv, hg, by rw [hb.block g (Array.getElem?_eq_some_iff.1 hh).1]; exact hh, rest⟩

theorem arr_news {w : World} {e : TypeId} {k : IntKind} {g : Nat} {xs : List Int} (h : Arr w e k g xs) : ∀ j u, (xs.map (Value.int k))[j]? = some u → w.cell? ((⟨g, 0, none⟩ : Addr).add j) = some u := by
  intro j u hu
  rw [List.getElem?_map] at hu
  obtain ⟨x, hx, rfl⟩ := Option.map_eq_some_iff.1 hu
  have hj := (List.getElem?_eq_some_iff.1 hx).1
  have hc := h.cell hj
  rw [at_get hj, (List.getElem?_eq_some_iff.1 hx).2] at hc
  rw [show (⟨g, 0, none⟩ : Addr).add j = ⟨g, j, none⟩ from by unfold Addr.add; split <;> simp_all]; exact hc

theorem shr_parts {q n : Int} (hn : n ∈ ns) (hd : dep q n ≤ lg n) : n / 2 ^ dep q n = (pl q n : Int) ∧ n = ((2 ^ dep q n * pl q n : Nat) : Int) := by
  have h : n = ((2 ^ dep q n * pl q n : Nat) : Int) := by
    have e := lg_eq hn
    unfold pl
    rw [← Nat.pow_add, Nat.add_sub_cancel' hd]; simpa using e
  refine ⟨?_, h⟩
  have hp : (0 : Int) < 2 ^ dep q n := Int.pow_pos (by omega)
  refine Int.ediv_eq_of_eq_mul_right (Int.ne_of_gt hp) ?_
  rw [Int.natCast_mul, Int.natCast_pow] at h; exact h

theorem cells2_0 (w : World) (a b : Value) (t : TypeId) : (w.alloc (.cells #[a, b] t)).cell? ⟨w.heap.size, 0, none⟩ = some a := by simp
theorem cells2_1 (w : World) (a b : Value) (t : TypeId) : (w.alloc (.cells #[a, b] t)).cell? ⟨w.heap.size, 1, none⟩ = some b := by simp

set_option maxRecDepth 100000 in
set_option maxHeartbeats 8000000 in
theorem ntt_Times (q n g : Int) (va vb : Value) (xs ys : List Int) (er : Nat → Addr) (w : World) (h1 : GE w er 101) (h2 : GE w er 102) (hv : vld q n = true) (hx : Vec q n xs) (hy : Vec q n ys) (hsx : RS w .i64 va xs) (hsy : RS w .i64 vb ys) (hg : IsRoot q n g) (hg2 : 2 ≤ g) (hgq : g < q) :
    Calls Tryd.prog 14 #[.agg #[.int .i64 q, .int .i64 n], va, vb] w fun e w' => ∃ r, e = .returned (.tuple #[r, .nilIface]) ∧ Below w.heap.size w w' ∧ FV w w' 3 .i64 r (timesV q n g xs ys) := by
  have HCx := Lib.hid (vec_vcode hv hx)
  have HCy := Lib.hid (vec_vcode hv hy)
  have HX := Lib.hid hx
  have HY := Lib.hid hy
  have hn4 := n_facts (vld_n hv)
  have hlx : xs.length ≤ 256 := by have := hx.1; omega
  have hly : ys.length ≤ 256 := by have := hy.1; omega
  have hq := vld_q hv
  have HG := Lib.hid (And.intro hg (And.intro hg2 hgq))
  have hd8 := (dep_facts (isq_mem hq) (vld_n hv)).2.2.2.2
  have HD := Lib.hid (dep_facts (isq_mem hq) (vld_n hv))
  have hqf := q_facts (isq_mem hq)
  have hwd := wrap_pow8 (dep q n) hd8
  have HP := Lib.hid (pow_small (dep q n) hd8)
  have HS := Lib.hid (shr_parts (q := q) (vld_n hv) HD.out.2.1)
  obtain ⟨i0, hi, hz0, hz1, hz2⟩ := info_parts info_int
  clear hg hg2 hgq hx hy
  have hsx0 := hsx
  have hsy0 := hsy
  obtain ⟨A, c, rfl, hc1, hc2, hxc⟩ := hsx
  obtain ⟨A', c', rfl, hc1', hc2', hyc⟩ := hsy
  have HXC := Lib.hid hxc
  have HYC := Lib.hid hyc
  clear hxc hyc
  obtain ⟨us, hus⟩ : ∃ us : Nat → Value, us = fun j => if j = 0 then .slice A xs.length c else .slice A' ys.length c' := ⟨_, rfl⟩
  obtain ⟨xss, hxss⟩ : ∃ xss : Nat → List Int, xss = fun j => if j = 0 then xs else ys := ⟨_, rfl⟩
  have HU : Hid (∀ j, j < 2 → RS w .i64 (us j) (xss j) ∧ vcode q n (xss j) = 0) := by
    intro j hj
    rcases (by omega : j = 0 ∨ j = 1) with rfl | rfl
    · rw [hus, hxss]; exact ⟨hsx0, HCx.out⟩
    · rw [hus, hxss]; exact ⟨hsy0, HCy.out⟩
  go_enter Tryd.func14, Tryd.ntmps14
  go_wp2
  obtain ⟨w1, hw1⟩ : ∃ w1 : World, w1 = (w.alloc (.cells #[.int .i64 q, .int .i64 n] 25)).alloc (.cells #[.slice A xs.length c, .slice A' ys.length c'] 22) := ⟨_, rfl⟩
  have hbz : ∀ j, j < 2 → w1.cell? ⟨w.heap.size + 1, j, none⟩ = some (us j) := by
    intro j hj
    rcases (by omega : j = 0 ∨ j = 1) with rfl | rfl
    · rw [hus, hw1]; have h := cells2_0 (w.alloc (.cells #[.int .i64 q, .int .i64 n] 25)) (.slice A xs.length c) (.slice A' ys.length c') 22; rw [World.size_alloc] at h; exact h
    · rw [hus, hw1]; have h := cells2_1 (w.alloc (.cells #[.int .i64 q, .int .i64 n] 25)) (.slice A xs.length c) (.slice A' ys.length c') 22; rw [World.size_alloc] at h; exact h
  have hB1 : Below w.heap.size w w1 := by rw [hw1]; exact Below.then_ (below_alloc_ _ _) (below_alloc_ _ _)
  have hcq1 : w1.cell? ⟨w.heap.size, 0, none⟩ = some (.int .i64 q) := by rw [hw1]; exact cell_below (below_alloc_ _ _) (cells2_0 _ _ _ _)
  have hcn1 : w1.cell? ⟨w.heap.size, 1, none⟩ = some (.int .i64 n) := by rw [hw1]; exact cell_below (below_alloc_ _ _) (cells2_1 _ _ _ _)
  have hsz1 : w1.heap.size = w.heap.size + 2 := by rw [hw1]; simp
  rw [← hw1]
  have HBZ := Lib.hid hbz
  clear hw1 hbz hus hxss hsx0 hsy0
  go_loopw [26] (fun iv wr => ∃ k : Nat, k ≤ 2 ∧ iv = .int .i64 k ∧ Below w1.heap.size w1 wr) (fun iv _ => 2 - (intOf iv).toNat)
  case atStart => exact ⟨0, by omega, rfl, Below.refl _ _⟩
  case round =>
    obtain ⟨k, hk, rfl, hB⟩ := hrel
    have hBw := Below.then_ hB1 hB
    have hcq := cell_below hB hcq1
    have hcn := cell_below hB hcn1
    by_cases hlt : k < 2
    · obtain ⟨hrs, hvc⟩ := HU.out k hlt
      have hcell := cell_below hB (HBZ.out k hlt)
      have hrs1 := hrs.below hBw
      have HV := Lib.hid hvc
      clear hrs hvc hcq1 hcn1
      go_wp2_with (go_at_call 58; refine (ring_Vector_any _ _ _ _ er _ (h1.below hBw) (h2.below hBw) hrs1).mono ?_; rintro e w2 ⟨rfl, hb1⟩; rw [HV.out, er0_none])
      go_roundw
      case rel => exact ⟨k + 1, by omega, by go_num, Below.then_ hB hb1⟩
      case measure => simp [intOf]; omega
    · obtain rfl : k = 2 := by omega
      clear hcq1 hcn1
      obtain ⟨m, hm⟩ : ∃ m, m = pl q n := ⟨_, rfl⟩
      obtain ⟨P, hP⟩ : ∃ P, P = 2 ^ dep q n := ⟨_, rfl⟩
      have hP2 : (2 : Int) ^ dep q n = (P : Int) := by rw [hP]; simp
      have hsr := HS.out
      rw [hP2, ← hP, ← hm] at hsr
      obtain ⟨hdv, hnn⟩ := hsr
      obtain ⟨N, hN⟩ : ∃ N : Nat, N = P * m := ⟨_, rfl⟩
      rw [← hN] at hnn
      have hNle : N ≤ 1048576 := by omega
      have hmk := run_make_ints_cap N hNle
      have hrl : ∀ w2, w2 = wr → w2.heap.size ≥ w.heap.size + 2 := by rintro w2 rfl; have := hB.size; omega
      subst hnn
      rw [hP2] at hwd
      have HM := Lib.hid (And.intro hm (And.intro hP hN))
      clear hm hP hN
      go_wp2_with (go_at_call 56; refine (ntt_Root _ _ _ er _ (h1.below hBw) hv HG.out.1 HG.out.2.1 HG.out.2.2).mono ?_; rintro e w2 ⟨rfl, hb1⟩; have hB2 := Below.then_ hBw hb1; have c1 := cell_below hb1 hcq; have c2 := cell_below hb1 hcn)
      have hN256 : N ≤ 256 := by omega
      have hw2 : w.heap.size + 2 ≤ w2.heap.size := by have a1 := hb1.size; have a2 := hB.size; omega
      have hB3 := Below.then_ hB2 (below_alloc_ w2 (.cells (ints .i64 (List.replicate N 0)) 3))
      have c3 := cell_below (below_alloc_ w2 (.cells (ints .i64 (List.replicate N 0)) 3)) c1
      have hown0 : (w2.alloc (.cells (ints .i64 (List.replicate N 0)) 3)).ownsRow (w.heap.size + 1) 3 1 (.slice (some ⟨w2.heap.size, 0, none⟩) 0 N) 0 [] := World.ownsRow_made w2 _ N (by omega) (by unfold maxLen; omega) (by simp [ints])
      obtain ⟨w3, hw3⟩ : ∃ w3 : World, w3 = w2.alloc (.cells (ints .i64 (List.replicate N 0)) 3) := ⟨_, rfl⟩
      rw [← hw3] at hB3 c3 hown0
      rw [← hw3]
      clear hw3 hb1 hB2 c1 c2 hcq hcn hBw hB hmk hrl
      obtain ⟨F, hF⟩ : ∃ F : Nat → Int, F = fun p => C (pl q N) (zF q N g (p / pl q N)) (fun i => at_ xs (p / pl q N * pl q N + i)) (fun i => at_ ys (p / pl q N * pl q N + i)) (p % pl q N) % q := ⟨_, rfl⟩
      have HF := Lib.hid hF
      clear hF
      have hmN : m ≤ N := by
        have h := HM.out.2.2
        have h0 : 0 < P := by rw [HM.out.2.1]; exact Nat.pow_pos (by omega)
        rw [h]; exact Nat.le_mul_of_pos_left _ h0
      have hm0 : 0 < m := by rw [HM.out.1]; unfold pl; exact Nat.pow_pos (by omega)
      have hP256 : P ≤ 256 := by have := HP.out.2; rw [hP2] at this; omega
      have hmk2 := run_make_ints m (by omega)
      have hxl : N ≤ xs.length := by have := HX.out.1; omega
      have hyl : N ≤ ys.length := by have := HY.out.1; omega
      obtain ⟨ad, rfl, _⟩ := HXC.out 0 (by omega)
      obtain ⟨ad', rfl, _⟩ := HYC.out 0 (by omega)
      go_loopw [15, 55] (fun ov kv wr => ∃ k : Nat, k ≤ P ∧ kv = .int .i64 k ∧ Below w.heap.size w wr ∧ w.heap.size < wr.heap.size ∧ wr.cell? ⟨w.heap.size, 0, none⟩ = some (.int .i64 q) ∧ wr.ownsRow (w.heap.size + 1) 3 1 ov (m * k) ((ofF (m * k) F).map (Value.int .i64))) (fun _ kv _ => P - (intOf kv).toNat)
      case atStart => exact ⟨0, by omega, rfl, hB3, World.block_lt_of_cell? w3 _ c3, c3, hown0⟩
      case round =>
        obtain ⟨k, hk, rfl, hB, hsz, hcq, hown⟩ := hrel
        clear hB3 c3 hown0
        by_cases hlt : k < P
        · have hk1 : k < 1048576 := by omega
          have hd20 : dep q N ≤ 20 := by omega
          have hr1 := rev_bound (k := k) hd8
          have hr0 : (0 : Int) ≤ 2 * (rev (dep q N) k : Int) + 1 := by omega
          have hr2 : 2 * (rev (dep q N) k : Int) + 1 ≤ 9223372036854775807 := by omega
          go_wp2
          go_quiet ((first | (go_at_call 57; exact Calls.quiet_of_same (same_of (ntt_Rev k (dep q N) _ hk1 hd20))) | (go_at_call 66; exact Calls.quiet_of_same (same_of (zq_Pow _ _ _ _ hq hr0 hr2)))))
          go_wp2
          obtain ⟨z, hz⟩ : ∃ z, z = powV g (2 * (rev (dep q N) k : Int) + 1) q := ⟨_, rfl⟩
          rw [← hz]
          have HZ := Lib.hid hz
          clear hz hr0 hr1 hr2 hmk2
          have hle0 : k * m + m ≤ N := by
            have h := HM.out.2.2
            rw [h, ← Nat.succ_mul]; exact Nat.mul_le_mul_right _ hlt
          obtain ⟨s, hs⟩ : ∃ s, s = k * m := ⟨_, rfl⟩
          rw [← hs] at hle0
          have hs2 : (k : Int) * (m : Int) = (s : Int) := by rw [hs]; simp
          have HSS := Lib.hid hs
          rw [Nat.mul_comm m k, ← hs] at hown
          clear hs
          have hAn : Arr ((wr.drewN nq).alloc (.cells (ints .i64 (List.replicate m 0)) 3)) 3 .i64 wr.heap.size (ofF m (ms q z m (fun i => at_ xs (s + i)) (fun i => at_ ys (s + i)) 0 0)) := by
            rw [ofF_congr (g := fun _ => 0) (fun p _ => ms_null p), ofF_null]; exact Arr.new (wr.drewN nq) _ _ _
          have hBn : Below wr.heap.size wr ((wr.drewN nq).alloc (.cells (ints .i64 (List.replicate m 0)) 3)) := Below.then_ (pw_below_drewN (Below.refl _ _) _) (below_alloc_ _ _)
          obtain ⟨wn, hwn⟩ : ∃ wn : World, wn = (wr.drewN nq).alloc (.cells (ints .i64 (List.replicate m 0)) 3) := ⟨_, rfl⟩
          rw [← hwn] at hAn hBn
          rw [← hwn]
          clear hwn
          obtain ⟨wo, rfl⟩ : ∃ wo : World, wo = wr := ⟨_, rfl⟩
          go_loopw [70] (fun iv wi => ∃ i : Nat, i ≤ m ∧ iv = .int .i64 i ∧ Below wo.heap.size wo wi ∧ Arr wi 3 .i64 wo.heap.size (ofF m (ms q z m (fun i => at_ xs (s + i)) (fun i => at_ ys (s + i)) i 0))) (fun iv _ => m - (intOf iv).toNat)
          case atStart => exact ⟨0, by omega, rfl, hBn, hAn⟩
          case round =>
            obtain ⟨i, hi', rfl, hBi, hAi⟩ := hrel
            clear hBn hAn
            by_cases hlti : i < m
            · have hcqi := cell_below hBi hcq
              go_wp2
              obtain ⟨wp, rfl⟩ : ∃ wp : World, wp = wr := ⟨_, rfl⟩
              go_loopw [74] (fun jv wj => ∃ j : Nat, j ≤ m ∧ jv = .int .i64 j ∧ Below wo.heap.size wo wj ∧ Arr wj 3 .i64 wo.heap.size (ofF m (ms q z m (fun i => at_ xs (s + i)) (fun i => at_ ys (s + i)) i j))) (fun jv _ => m - (intOf jv).toNat)
              case atStart => exact ⟨0, by omega, rfl, hBi, hAi⟩
              case round =>
                obtain ⟨j, hj', rfl, hBj, hAj⟩ := hrel
                clear hcqi hBi hAi
                by_cases hltj : j < m
                · have hcqj := cell_below hBj hcq
                  have hxA : ((s : Int) + (i : Int)) < (xs.length : Int) := by omega
                  have hyA : ((s : Int) + (j : Int)) < (ys.length : Int) := by omega
                  have hx0 : (0 : Int) ≤ (s : Int) + (i : Int) := by omega
                  have hy0 : (0 : Int) ≤ (s : Int) + (j : Int) := by omega
                  have hxn : ((s : Int) + (i : Int)).toNat = s + i := by omega
                  have hyn : ((s : Int) + (j : Int)).toNat = s + j := by omega
                  obtain ⟨a1, e1, hca⟩ := HXC.out (s + i) (by omega)
                  obtain rfl := Option.some.inj e1
                  obtain ⟨a2, e2, hcb⟩ := HYC.out (s + j) (by omega)
                  obtain rfl := Option.some.inj e2
                  have hBwj := Below.then_ hB hBj
                  have hca1 := cell_below hBwj hca
                  have hcb1 := cell_below hBwj hcb
                  clear hca hcb hcq hBwj
                  go_wp2
                  go_quiet ((go_at_call 61; exact Calls.quiet_of_same (same_of (zq_Mul _ _ _ _ hq))))
                  have hmz : ¬ (m = 0) := by omega
                  have hwr : IntKind.i64.wrap ((i : Int) + (j : Int)) = (i : Int) + (j : Int) := by rw [IntKind.wrap_i64]; omega
                  obtain ⟨r, hr⟩ : ∃ r, r = (i + j) % m := ⟨_, rfl⟩
                  have hrm : r < m := by rw [hr]; exact Nat.mod_lt _ hm0
                  have hti : ((i : Int) + (j : Int)).tmod (m : Int) = (r : Int) := by
                    rw [Int.tmod_eq_emod_of_nonneg (by omega), hr]; simp
                  have hfr := hAj.free r
                  have hco := hAj.cell (j := r) (by rw [ofF_length]; exact hrm)
                  rw [at_ofF _ hrm] at hco
                  generalize hcv : ms q z m (fun i => at_ xs (s + i)) (fun i => at_ ys (s + i)) i j r = cv at hco
                  by_cases hge : m ≤ i + j
                  · obtain ⟨tv, htv⟩ : ∃ tv, tv = at_ xs (s + i) * at_ ys (s + j) % q * z % q := ⟨_, rfl⟩
                    have htz : tz q z m (fun i => at_ xs (s + i)) (fun i => at_ ys (s + i)) i j = tv := by unfold tz; rw [if_pos hge, htv]
                    have HR := Lib.hid (And.intro hr (And.intro hcv htz))
                    clear hr hcv htz
                    go_wp2_with (go_at_call 61; refine (zq_Mul _ _ _ _ hq).mono ?_; rintro e w9 ⟨rfl, rfl⟩)
                    rw [← htv]
                    clear htv
                    refine still_tail 19 (by kernel_rfl) (by kernel_rfl) ?_
                    simp only [List.take_succ_cons, List.take_zero, List.drop_succ_cons, List.drop_zero]
                    repeat (first | still_step | still_call (still_of (zq_Add _ _ _ _ hq)) | (refine wpStill_step (fun K hK => ?_); go_simp; simp only [if_neg hmz, hwr, hti, true_and]; refine hK _ ?_; clear hK K))
                    refine wpStill_nil ?_
                    go_wp2
                    go_roundw
                    case rel =>
                      refine ⟨j + 1, by omega, by go_num, ?_, ?_⟩
                      · first
                          | exact ((pw_below_drewN hBj _).setCell (Nat.le_refl _) _)
                          | exact ((pw_below_drewN hBj _).setCell (Nat.le_refl _) _).drew
                      · have hset := (hAj.drewN nq).set ((cv + tv) % q) (j := r) (by rw [ofF_length]; exact hrm)
                        rw [set_ofF] at hset
                        rw [ofF_congr (fun p hp => ms_step hlti hltj hp), ← HR.out.1, HR.out.2.1, HR.out.2.2]
                        exact hset
                    case measure => simp [intOf]; omega
                  · obtain ⟨tv, htv⟩ : ∃ tv, tv = at_ xs (s + i) * at_ ys (s + j) % q := ⟨_, rfl⟩
                    have htz : tz q z m (fun i => at_ xs (s + i)) (fun i => at_ ys (s + i)) i j = tv := by unfold tz; rw [if_neg hge, htv]
                    have HR := Lib.hid (And.intro hr (And.intro hcv htz))
                    clear hr hcv htz
                    rw [← htv]
                    clear htv
                    go_wp2
                    refine still_tail 19 (by kernel_rfl) (by kernel_rfl) ?_
                    simp only [List.take_succ_cons, List.take_zero, List.drop_succ_cons, List.drop_zero]
                    repeat (first | still_step | still_call (still_of (zq_Add _ _ _ _ hq)) | (refine wpStill_step (fun K hK => ?_); go_simp; simp only [if_neg hmz, hwr, hti, true_and]; refine hK _ ?_; clear hK K))
                    refine wpStill_nil ?_
                    go_wp2
                    go_roundw
                    case rel =>
                      refine ⟨j + 1, by omega, by go_num, ?_, ?_⟩
                      · first
                          | exact ((pw_below_drewN hBj _).setCell (Nat.le_refl _) _)
                          | exact ((pw_below_drewN hBj _).setCell (Nat.le_refl _) _).drew
                      · have hset := (hAj.drewN nq).set ((cv + tv) % q) (j := r) (by rw [ofF_length]; exact hrm)
                        rw [set_ofF] at hset
                        rw [ofF_congr (fun p hp => ms_step hlti hltj hp), ← HR.out.1, HR.out.2.1, HR.out.2.2]
                        exact hset
                    case measure => simp [intOf]; omega
                · obtain rfl : m = j := by omega
                  go_wp2
                  go_roundw
                  case rel =>
                    refine ⟨i + 1, by omega, by go_num, hBj, ?_⟩
                    rw [ofF_congr (fun p hp => (ms_row hlti hp).symm)]; exact hAj
                  case measure => simp [intOf]; omega
            · obtain rfl : m = i := by omega
              have hown1 := own_below hown hBi
              have hne := own_ne hown1 (Nat.lt_succ_self w.heap.size)
              have hob := own_le_block hown1
              have hsz2 : w.heap.size < wr.heap.size := Nat.lt_of_lt_of_le hsz hBi.size
              have hBw := Below.then_ hB hBi
              have hcq2 := cell_below hBi hcq
              have H1 := Lib.hid (show s + m ≤ maxLen by unfold maxLen; omega)
              have hm2 : (s + m) * 8 ≤ 140737488355328 := by omega
              go_wp2_with (at_builtin; refine wpList_append_own _ rfl _ _ 22 rfl (w.heap.size + 1) 3 i0 (.int .i64 0) 1 8 Tryd.underlying22 hi hz0 hz1 hz2 rfl (by decide) _ s _ rfl hown1 ⟨wo.heap.size, 0, none⟩ m m ((ofF m (ms q z m (fun i => at_ xs (s + i)) (fun i => at_ ys (s + i)) m 0)).map (Value.int .i64)) rfl ?len ?news ?one ?b1 ?b2 ?b3 ?_)
              case len => simp [ofF_length]
              case news => exact arr_news hAi
              case one => exact ints_oneCell .i64 _
              case b1 => exact H1.out
              case b2 => exact hm2
              case b3 => omega
              intro v' w4 hown4 hgrow _
              have hB4 : Below w.heap.size w w4 := hBw.grown hgrow (Nat.le_of_lt hsz2) (fun j hj => by have := hob j hj; omega)
              have hsz4 : w.heap.size < w4.heap.size := Nat.lt_of_lt_of_le hsz2 hgrow.size
              have hcq4 : w4.cell? ⟨w.heap.size, 0, none⟩ = some (.int .i64 q) := by
                rw [hgrow.cell_far _ hsz2 hne.symm]; exact hcq2
              clear hgrow hown hown1 hne hob hcq hcq2 hAi hBi hB hBw
              go_wp2
              go_roundw
              case rel =>
                refine ⟨k + 1, by omega, by go_num, hB4, hsz4, hcq4, ?_⟩
                have e1 : m * (k + 1) = s + m := by rw [Nat.mul_succ, HSS.out, Nat.mul_comm]
                have hzz : z = zF q N g k := by
                  rw [HZ.out]; unfold powV zF
                  rw [show (2 * (rev (dep q (N : Int)) k : Int) + 1).toNat = 2 * rev (dep q (N : Int)) k + 1 from by omega]
                have e2 : ofF (m * (k + 1)) F = ofF s F ++ ofF m (ms q z m (fun i => at_ xs (s + i)) (fun i => at_ ys (s + i)) m 0) := by
                  rw [e1, ofF_split]
                  congr 1
                  refine ofF_congr fun p hp => ?_
                  rw [ms_end hp, HF.out, HSS.out, Nat.mul_comm k m]
                  simp only []
                  rw [times_part (q := q) (n := (N : Int)) (g := g) HM.out.1.symm hp, hzz, Nat.mul_comm m k]
                rw [e2, e1, List.map_append]
                exact hown4
              case measure => simp [intOf]; omega
        · obtain rfl : P = k := by omega
          go_wp2
          go_ret2
          have e0 : m * P = N := by rw [HM.out.2.2, Nat.mul_comm]
          rw [e0] at hown
          have hTF : timesV q N g xs ys = ofF N F := by unfold timesV; rw [HF.out]; rfl
          rw [← hTF] at hown
          have hlen : (timesV q N g xs ys).length = N := by rw [hTF, ofF_length]
          obtain ⟨g', c', k1, k2, k3, k4, k5⟩ := arr_of_own hown hlen.symm (by omega)
          exact ⟨_, rfl, hB, g', c', by omega, k2, k3, k4, k5⟩
end Go.Proofs.YtmobicccdmfnaaaDoor

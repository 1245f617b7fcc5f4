/- The law NttBack. -/
import Derived.Test.YtmobicccdmfnaaaDoorMkr
import Derived.Test.YtmobicccdmfnaaaDoorConv
set_option linter.unusedVariables false
set_option linter.unusedSimpArgs false
namespace Go.Proofs.YtmobicccdmfnaaaDoor
open Go.RowKit Go.Proofs.Pl

set_option maxRecDepth 100000 in
set_option maxHeartbeats 8000000 in
theorem law3_NttBack (q n : Int) (vx vy : Value) (xs ys : List Int) (er : Nat → Addr) (w : World) (e1 : GE w er 101) (e2 : GE w er 102) (h1 : -9223372036854775808 ≤ q) (h2 : q ≤ 9223372036854775807) (h3 : -9223372036854775808 ≤ n) (h4 : n ≤ 9223372036854775807) (hx : RS w .i64 vx xs) (hy : RS w .i64 vy ys) :
    Calls Tryd.prog 3 #[.int .i64 q, .int .i64 n, vx, vy] w fun e w' => e = .returned (.bool true) ∧ Below w.heap.size w w' := by
  have hx0 := Lib.hid hx
  have hy0 := Lib.hid hy
  obtain ⟨A, c, rfl, hc1, hc2, _⟩ := hx
  obtain ⟨A', c', rfl, hc1', hc2', _⟩ := hy
  by_cases hlx : xs.length ≤ 40
  · by_cases hly : ys.length ≤ 40
    · go_enter Tryd.func3, Tryd.ntmps3
      go_wp2_with fail
      refine (law3_first er _ e1).mono ?_
      rintro e w1 ⟨rfl, hb1⟩
      go_wp2_with fail
      refine (make_Ring _ _ _ h1 h2 h3 h4).mono ?_
      rintro e w2 ⟨q', n', rfl, hv, hn32, hb2⟩
      obtain ⟨N, rfl⟩ : ∃ N : Nat, n' = (N : Int) := ⟨n'.toNat, by have := n_facts (vld_n hv); omega⟩
      have hB2 := Below.then_ (Below.then_ hb1 hb2) (below_alloc_ w2 (.cells #[.int .i64 q', .int .i64 N] 25))
      have hq := q_facts (isq_mem (vld_q hv))
      have hV := Lib.hid hv
      obtain ⟨g, hg0⟩ := isRoot_is (isq_mem (vld_q hv)) (vld_n hv)
      have hg := Lib.hid hg0
      clear hv hb1 hb2 hg0
      have c2 := cells2_0 w2 (.int .i64 q') (.int .i64 N) 25
      have d2 := cells2_1 w2 (.int .i64 q') (.int .i64 N) 25
      go_wp2_with fail
      refine (make_Vector _ N _ xs _ (by omega) (by omega) (by omega) (hx0.out.below hB2)).mono ?_
      rintro e w3 ⟨va, rfl, hb3, k1, ha⟩
      have hB3 := Below.then_ hB2 hb3
      have c3 := cell_below hb3 c2
      have d3 := cell_below hb3 d2
      have ra3 := ha.RS
      clear ha
      have va1 := Lib.hid (mkV_vec (q := q') (n := (N : Int)) (by omega) (by omega) xs k1)
      rw [show ((N : Int)).toNat = N from rfl] at va1
      generalize ofF N (mkV q' N xs k1) = la at ra3 va1
      clear hb3 c2 d2 hB2
      go_wp2_with fail
      refine (make_Vector _ N _ ys _ (by omega) (by omega) (by omega) (hy0.out.below hB3)).mono ?_
      rintro e w4 ⟨vb, rfl, hb4, k2, hb⟩
      have hB4 := Below.then_ hB3 hb4
      have c4 := cell_below hb4 c3
      have d4 := cell_below hb4 d3
      have ra4 := (ra3).below hb4
      have rb4 := hb.RS
      clear hb
      have vb1 := Lib.hid (mkV_vec (q := q') (n := (N : Int)) (by omega) (by omega) ys k2)
      rw [show ((N : Int)).toNat = N from rfl] at vb1
      generalize ofF N (mkV q' N ys k2) = lb at rb4 vb1
      clear hb4 c3 d3 hB3 ra3
      go_wp2_with fail
      refine (ntt_To _ _ g _ la er _ (e1.below hB4) (e2.below hB4) hV.out va1.out ra4 hg.out.1 hg.out.2.1 hg.out.2.2).mono ?_
      rintro e w5 ⟨vc, rfl, hb5, hc⟩
      have hB5 := Below.then_ hB4 hb5
      have c5 := cell_below hb5 c4
      have d5 := cell_below hb5 d4
      have ra5 := (ra4).below hb5
      have rb5 := (rb4).below hb5
      have rc5 := hc.RS
      clear hc
      have vc1 := Lib.hid (toV_vec (g := g) (isq_mem (vld_q hV.out)) (vld_n hV.out) la)
      clear hb5 c4 d4 hB4 ra4 rb4
      go_wp2_with fail
      refine (ntt_To _ _ g _ lb er _ (e1.below hB5) (e2.below hB5) hV.out vb1.out rb5 hg.out.1 hg.out.2.1 hg.out.2.2).mono ?_
      rintro e w6 ⟨vd, rfl, hb6, hd⟩
      have hB6 := Below.then_ hB5 hb6
      have c6 := cell_below hb6 c5
      have d6 := cell_below hb6 d5
      have ra6 := (ra5).below hb6
      have rb6 := (rb5).below hb6
      have rc6 := (rc5).below hb6
      have rd6 := hd.RS
      clear hd
      have vd1 := Lib.hid (toV_vec (g := g) (isq_mem (vld_q hV.out)) (vld_n hV.out) lb)
      clear hb6 c5 d5 hB5 ra5 rb5 rc5
      go_wp2_with fail
      refine (ntt_From _ _ g _ _ er _ (e1.below hB6) (e2.below hB6) hV.out vc1.out rc6 hg.out.1 hg.out.2.1 hg.out.2.2).mono ?_
      rintro e w7 ⟨vk, rfl, hb7, hk⟩
      have hB7 := Below.then_ hB6 hb7
      have c7 := cell_below hb7 c6
      have d7 := cell_below hb7 d6
      have ra7 := (ra6).below hb7
      have rb7 := (rb6).below hb7
      have rc7 := (rc6).below hb7
      have rd7 := (rd6).below hb7
      have rk7 := hk.RS
      clear hk
      rw [from_to (isq_mem (vld_q hV.out)) (vld_n hV.out) hg.out.1 va1.out] at rk7
      clear hb7 c6 d6 hB6 ra6 rb6 rc6 rd6
      go_wp2_with fail
      refine (ntt_From _ _ g _ _ er _ (e1.below hB7) (e2.below hB7) hV.out va1.out ra7 hg.out.1 hg.out.2.1 hg.out.2.2).mono ?_
      rintro e w8 ⟨vt, rfl, hb8, ht⟩
      have hB8 := Below.then_ hB7 hb8
      have c8 := cell_below hb8 c7
      have d8 := cell_below hb8 d7
      have ra8 := (ra7).below hb8
      have rb8 := (rb7).below hb8
      have rc8 := (rc7).below hb8
      have rd8 := (rd7).below hb8
      have rk8 := (rk7).below hb8
      have rt8 := ht.RS
      clear ht
      have vt1 := Lib.hid (fromV_vec (g := g) (isq_mem (vld_q hV.out)) (vld_n hV.out) la)
      clear hb8 c7 d7 hB7 ra7 rb7 rc7 rd7 rk7
      go_wp2_with fail
      refine (ntt_To _ _ g _ _ er _ (e1.below hB8) (e2.below hB8) hV.out vt1.out rt8 hg.out.1 hg.out.2.1 hg.out.2.2).mono ?_
      rintro e w9 ⟨vu, rfl, hb9, hu⟩
      have hB9 := Below.then_ hB8 hb9
      have c9 := cell_below hb9 c8
      have d9 := cell_below hb9 d8
      have ra9 := (ra8).below hb9
      have rb9 := (rb8).below hb9
      have rc9 := (rc8).below hb9
      have rd9 := (rd8).below hb9
      have rk9 := (rk8).below hb9
      have ru9 := hu.RS
      clear hu
      rw [to_from (isq_mem (vld_q hV.out)) (vld_n hV.out) hg.out.1 va1.out] at ru9
      clear hb9 c8 d8 hB8 ra8 rb8 rc8 rd8 rk8
      go_wp2_with fail
      refine (ntt_Times _ _ g _ _ _ _ er _ (e1.below hB9) (e2.below hB9) hV.out vc1.out vd1.out rc9 rd9 hg.out.1 hg.out.2.1 hg.out.2.2).mono ?_
      rintro e w10 ⟨vp, rfl, hb10, hp⟩
      have hB10 := Below.then_ hB9 hb10
      have c10 := cell_below hb10 c9
      have d10 := cell_below hb10 d9
      have ra10 := (ra9).below hb10
      have rb10 := (rb9).below hb10
      have rk10 := (rk9).below hb10
      have ru10 := (ru9).below hb10
      have rp10 := hp.RS
      clear hp
      have vp1 := Lib.hid (timesV_vec (g := g) (isq_mem (vld_q hV.out)) (vld_n hV.out) (toV q' N g la) (toV q' N g lb))
      clear hb10 c9 d9 hB9 ra9 rb9 rk9 ru9
      go_wp2_with fail
      refine (ntt_From _ _ g _ _ er _ (e1.below hB10) (e2.below hB10) hV.out vp1.out rp10 hg.out.1 hg.out.2.1 hg.out.2.2).mono ?_
      rintro e w11 ⟨vm, rfl, hb11, hm⟩
      have hB11 := Below.then_ hB10 hb11
      have c11 := cell_below hb11 c10
      have d11 := cell_below hb11 d10
      have ra11 := (ra10).below hb11
      have rb11 := (rb10).below hb11
      have rk11 := (rk10).below hb11
      have ru11 := (ru10).below hb11
      have rm11 := hm.RS
      clear hm
      rw [from_times_to (isq_mem (vld_q hV.out)) (vld_n hV.out) hg.out.1] at rm11
      clear hb11 c10 d10 hB10 ra10 rb10 rk10 ru10
      go_wp2_with fail
      refine (ring_Conv _ _ _ _ _ _ er _ (e1.below hB11) (e2.below hB11) hV.out va1.out vb1.out ra11 rb11).mono ?_
      rintro e w12 ⟨vw, rfl, hb12, hw⟩
      have hB12 := Below.then_ hB11 hb12
      have c12 := cell_below hb12 c11
      have d12 := cell_below hb12 d11
      have ra12 := (ra11).below hb12
      have rk12 := (rk11).below hb12
      have ru12 := (ru11).below hb12
      have rm12 := (rm11).below hb12
      have rw12 := hw.RS
      clear hw
      clear hb12 c11 d11 hB11 ra11 rk11 ru11 rm11
      go_wp2_with fail
      refine (ref_SameInts _ _ _ _ rk12 ra12).mono ?_
      rintro e w13 ⟨rfl, hb13⟩
      have hB13 := Below.then_ hB12 hb13
      have ra13 := ra12.below hb13
      have ru13 := ru12.below hb13
      have rm13 := rm12.below hb13
      have rw13 := rw12.below hb13
      go_wp2_with fail
      refine (ref_SameInts _ _ _ _ ru13 ra13).mono ?_
      rintro e w14 ⟨rfl, hb14⟩
      have hB14 := Below.then_ hB13 hb14
      have rm14 := rm13.below hb14
      have rw14 := rw13.below hb14
      go_wp2_with fail
      refine (ref_SameInts _ _ _ _ rm14 rw14).mono ?_
      rintro e w15 ⟨rfl, hb15⟩
      have hB15 := Below.then_ hB14 hb15
      go_wp2
      go_ret
      exact ⟨rfl, hB15⟩
    · go_enter Tryd.func3, Tryd.ntmps3
      go_wp2_with fail
      refine (law3_first er _ e1).mono ?_
      rintro e w1 ⟨rfl, hb1⟩
      go_wp2
      go_ret
      exact ⟨rfl, hb1⟩
  · go_enter Tryd.func3, Tryd.ntmps3
    go_wp2_with fail
    refine (law3_first er _ e1).mono ?_
    rintro e w1 ⟨rfl, hb1⟩
    go_wp2
    go_ret
    exact ⟨rfl, hb1⟩
end Go.Proofs.YtmobicccdmfnaaaDoor

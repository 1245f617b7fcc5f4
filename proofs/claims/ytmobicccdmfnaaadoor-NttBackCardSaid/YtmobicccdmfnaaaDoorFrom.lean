/- Transforms: back. -/
import Derived.Test.YtmobicccdmfnaaaDoorTo
import Derived.Test.YtmobicccdmfnaaaDoorInv
set_option linter.unusedVariables false
set_option linter.unusedSimpArgs false
namespace Go.Proofs.YtmobicccdmfnaaaDoor
open Go.RowKit Go.Proofs.Pl

theorem ne_of_inv {q x y : Int} (hq : 1 < q) (h : Eqm q (x * y) 1) : y % q ≠ 0 := by
  intro h0
  have h1 := h.emod_eq
  rw [Int.mul_emod, h0, Int.mul_zero, Int.zero_emod, Int.emod_eq_of_lt (by omega) hq] at h1
  omega
theorem fromF_range {q : Int} {iv : Nat → Int} {h : Nat} {f : Nat → Int} (hq : 0 < q) (p : Nat) : 0 ≤ fromF q iv h f p ∧ fromF q iv h f p < q := by
  unfold fromF
  split <;> exact ⟨Int.emod_nonneg _ (by omega), Int.emod_lt_of_pos _ hq⟩

set_option maxRecDepth 100000 in
set_option maxHeartbeats 8000000 in
theorem ntt_From (q n g : Int) (v : Value) (xs : List Int) (er : Nat → Addr) (w : World) (h1 : GE w er 101) (h2 : GE w er 102) (hv : vld q n = true) (hx : Vec q n xs) (hs : RS w .i64 v xs) (hg : IsRoot q n g) (hg2 : 2 ≤ g) (hgq : g < q) :
    Calls Tryd.prog 13 #[.agg #[.int .i64 q, .int .i64 n], v] w fun e w' => ∃ r, e = .returned (.tuple #[r, .nilIface]) ∧ Below w.heap.size w w' ∧ FV w w' 3 .i64 r (fromV q n g xs) := by
  have HC := Lib.hid (vec_vcode hv hx)
  have HX := Lib.hid hx
  have hn4 := n_facts (vld_n hv)
  have hlx : xs.length ≤ 256 := by have := hx.1; omega
  have hlp : 0 < xs.length := by have := hx.1; omega
  have hq := vld_q hv
  have HG := Lib.hid (And.intro hg (And.intro hg2 hgq))
  have hd8 := (dep_facts (isq_mem hq) (vld_n hv)).2.2.2.2
  have HD := Lib.hid (dep_facts (isq_mem hq) (vld_n hv))
  have hqf := q_facts (isq_mem hq)
  have HIV := Lib.hid (fun l b => ne_of_inv (by omega) (inv_ok (isq_mem hq) (vld_n hv) hg l b))
  have HTW := Lib.hid (ne_of_inv (by omega) (two_inv (isq_mem hq) (vld_n hv)))
  have hwd := wrap_pow8 (dep q n) hd8
  clear hg hg2 hgq hx
  go_enter Tryd.func13, Tryd.ntmps13
  go_wp2_with (first | (go_at_call 58; refine (ring_Vector_any _ _ _ _ er _ (h1.below (below_alloc_ _ _)) (h2.below (below_alloc_ _ _)) (hs.below (below_alloc_ _ _))).mono ?_; rintro e w1 ⟨rfl, hb1⟩; rw [HC.out, er0_none]; have hb2 := Below.then_ (below_alloc_ _ _) hb1; have c1 := box2_0 hb1; have c2 := box2_1 hb1) | (go_at_call 59; refine (ntt_roots _ _ _ er _ (h1.below hb2) hv HG.out.1 HG.out.2.1 HG.out.2.2).mono ?_; rintro e w2 ⟨z, rfl, hb3, hz⟩; have hb4 := Below.then_ hb2 hb3; have d1 := cell_below hb3 c1; have d2 := cell_below hb3 c2) | (go_at_call 60; refine (clone_int _ _ _ (hs.below hb4) hlp (by omega)).mono ?_; rintro e w3 ⟨r, rfl, hb5, hr⟩; have hb6 := Below.then_ hb4 hb5; have e1 := cell_below hb5 d1; have e2 := cell_below hb5 d2))
  obtain ⟨zg, zc, hzb, rfl, hz1, hz2, hzA⟩ := hz
  obtain ⟨rg, rc, hrb, rfl, hr1, hr2, hrA⟩ := hr
  have hzlt : zg < rg := Nat.lt_of_lt_of_le hzA.lt hrb
  have hwlt : w.heap.size < rg := by have a1 := hb1.size; have a2 := hb3.size; rw [World.size_alloc] at a1; omega
  have hzA3 := hzA.below hb5
  clear hb1 hb2 hb3 hb4 hb5 c1 c2 d1 d2 hz1 hz2 hzb hrb hzA hs
  obtain ⟨L, hL⟩ : ∃ L, L = lg n := ⟨_, rfl⟩
  have HD0 := Lib.hid (HD.out.1)
  have hd1 : 1 ≤ dep q n := HD0.out
  go_loopw [11] (fun lv wr => ∃ (m : Nat) (f : Nat → Int), m ≤ dep q n ∧ Hid (lv = .int .i64 ((m : Int) - 1)) ∧ ((m = 0 ∧ lv = .int .i64 (-1)) ∨ ∃ k : Nat, Hid (m = k + 1) ∧ lv = .int .i64 k) ∧ Hid (fromL q (ivF q n g) (lg n) m f = fromL q (ivF q n g) (lg n) (dep q n) (at_ xs)) ∧ Hid (∀ p, p < xs.length → 0 ≤ f p ∧ f p < q) ∧ Below w.heap.size w wr ∧ wr.cell? ⟨w.heap.size, 0, none⟩ = some (.int .i64 q) ∧ wr.cell? ⟨w.heap.size, 1, none⟩ = some (.int .i64 n) ∧ Arr wr 3 .i64 zg (zV q n g) ∧ Arr wr 3 .i64 rg (ofF xs.length f)) (fun lv _ => (intOf lv + 1).toNat)
  case atStart =>
    refine ⟨dep q n, at_ xs, Nat.le_refl _, Lib.hid rfl, .inr ⟨dep q n - 1, Lib.hid (by omega), by congr 1; omega⟩, Lib.hid rfl, Lib.hid (fun p hp => HX.out.2 p hp), hb6, e1, e2, hzA3, ?_⟩
    rw [ofF_at rfl]; exact hrA
  case round =>
    obtain ⟨m, f, hm, _, hcase, hFL, hFR, hB, hcq, hcn, hzA, hA⟩ := hrel
    clear hb6 e1 e2 hzA3 hrA
    rcases hcase with ⟨rfl, rfl⟩ | ⟨l, hml, rfl⟩
    · have htw := HTW.out
      have hn : n.toNat = xs.length := by have := HX.out.1; omega
      have hvf : Vec q n (ofF xs.length f) := by
        refine ⟨by rw [ofF_length]; exact HX.out.1, ?_⟩
        intro i hi
        rw [ofF_length] at hi
        rw [at_ofF _ hi]; exact hFR.out i hi
      have hfv : fromV q n g xs = (ofF xs.length f).map fun x => x * (powV (2 ^ dep q n) (q - 2) q % q) % q := by
        have hp : powV (2 ^ dep q n) (q - 2) q = parts q n := rfl
        have hq0 : (0 : Int) < q := by omega
        have hpp : parts q n % q = parts q n := by unfold parts; rw [Int.emod_emod]
        rw [hp, hpp]
        have hl := ofF_length xs.length f
        have hm := map_ofF (fun x => x * parts q n % q) (ofF xs.length f)
        rw [← hm, hl]
        unfold fromV
        rw [hn, ← hFL.out]
        refine ofF_congr fun i hi => ?_
        rw [at_ofF _ hi]; rfl
      have HFV := Lib.hid hfv
      clear hfv
      go_wp2
      go_quiet ((go_at_call 64; exact Calls.quiet_of_same (same_of (zq_Inv _ _ _ hq htw))))
      go_wp2_with (go_at_call 65; refine (ring_Scale _ _ _ _ (ofF xs.length f) er _ (h1.below (pw_below_drewN hB _)) (h2.below (pw_below_drewN hB _)) hv hvf ?_).mono ?_; rotate_left; rintro e w9 ⟨r, rfl, hb9, hr9⟩)
      case refine_1 =>
        have hr := Arr.RS (hA.drewN nq) (c := rc) (by rw [ofF_length]; exact hr1) hr2
        rw [ofF_length] at hr
        exact hr
      go_ret2
      rw [← HFV.out] at hr9
      exact ⟨_, rfl, Below.then_ (pw_below_drewN hB _) hb9, hr9.lower (pw_below_drewN hB _).size⟩
    · have hlt : l < dep q n := by have := hml.out; omega
      have hwl := wrap_pow8 l (by omega)
      go_wp2
      have hHL := half_eq (lg_eq (vld_n hv)) (l := l) (by have := HD.out.2.1; omega)
      have hPL := parts_eq (L := lg n) (l := l) (by have := HD.out.2.1; omega)
      have hNL : xs.length = 2 ^ lg n := by have := HX.out.1; have := n_nat (vld_n hv); omega
      rw [← hNL] at hPL
      rw [hHL]
      generalize hh : 2 ^ (lg n - (l + 1)) = h at *
      generalize hP : 2 ^ l = P at *
      have hP2 : (2 : Int) ^ l = (P : Int) := by rw [← hP]; simp
      rw [hP2] at hwl
      rw [hP2]
      have hPd : P + P ≤ 2 ^ dep q n := by
        rw [← hP, ← Nat.two_mul, ← Nat.pow_succ']; exact Nat.pow_le_pow_right (by omega) hlt
      have hp0 : 0 < P := by rw [← hP]; exact Nat.pow_pos (by omega)
      have hh0 : 0 < h := by rw [← hh]; exact Nat.pow_pos (by omega)
      have hPle : P ≤ xs.length := by rw [hPL]; exact Nat.le_mul_of_pos_right _ (by omega)
      have hhle : 2 * h ≤ xs.length := by rw [hPL]; exact Nat.le_mul_of_pos_left _ hp0
      have HN := Lib.hid (And.intro hPL (And.intro hh (And.intro hP (And.intro hHL hNL))))
      have HPD := Lib.hid hPd
      clear hPL hh hP hHL hNL hPd
      obtain ⟨wo, rfl⟩ : ∃ wo : World, wo = wr := ⟨_, rfl⟩
      go_loopw [50] (fun bv wb => ∃ b : Nat, b ≤ P ∧ bv = .int .i64 b ∧ Below w.heap.size w wb ∧ wb.cell? ⟨w.heap.size, 0, none⟩ = some (.int .i64 q) ∧ wb.cell? ⟨w.heap.size, 1, none⟩ = some (.int .i64 n) ∧ Arr wb 3 .i64 zg (zV q n g) ∧ Arr wb 3 .i64 rg (ofF xs.length (mid f (fromF q (ivF q n g l) h f) h (2 * h * b) (2 * h * b)))) (fun bv _ => P - (intOf bv).toNat)
      case atStart => exact ⟨0, Nat.zero_le _, rfl, hB, hcq, hcn, hzA, by rw [Nat.mul_zero, mid_begin]; exact hA⟩
      case round =>
        obtain ⟨b, hb, rfl, hBb, hcqb, hcnb, hzAb, hAb⟩ := hrel
        clear hB hcq hcn hzA hA
        by_cases hltb : b < P
        · have hPd2 : P + b < 2 ^ dep q n := by have := HPD.out; omega
          have hzc := hzAb.cell (j := P + b) (by unfold zV; rw [ofF_length]; exact hPd2)
          have hzv : at_ (zV q n g) (P + b) = byF q n g l b := by unfold zV byF; rw [at_ofF _ hPd2, HN.out.2.2.1]
          rw [hzv] at hzc
          have hzl : P + b < (zV q n g).length := by unfold zV; rw [ofF_length]; exact hPd2
          have hsN : 2 * h * b + 2 * h ≤ xs.length := by
            rw [HN.out.1, Nat.mul_comm P, ← Nat.mul_succ]; exact Nat.mul_le_mul_left _ hltb
          generalize hs : 2 * h * b = s at *
          have hs2 : 2 * (h : Int) * (b : Int) = (s : Int) := by rw [← hs]; simp
          have HS := Lib.hid hs
          have HZ := Lib.hid hzv
          clear hs hPd2 hzv
          have hinv := HIV.out l b
          go_wp2
          go_quiet ((go_at_call 64; exact Calls.quiet_of_same (same_of (zq_Inv _ _ _ hq hinv))))
          clear hinv
          go_wp2
          obtain ⟨wp, hwp⟩ : ∃ wp : World, wp = wr.drewN nq := ⟨_, rfl⟩
          rw [← hwp]
          have hBp : Below w.heap.size w wp := by rw [hwp]; exact pw_below_drewN hBb _
          have hcqp : wp.cell? ⟨w.heap.size, 0, none⟩ = some (.int .i64 q) := by rw [hwp]; simpa using hcqb
          have hcnp : wp.cell? ⟨w.heap.size, 1, none⟩ = some (.int .i64 n) := by rw [hwp]; simpa using hcnb
          have hzAp : Arr wp 3 .i64 zg (zV q n g) := by rw [hwp]; exact hzAb.drewN _
          have hAp := hAb.drewN nq
          rw [← hwp] at hAp
          clear hwp hBb hcqb hcnb hzAb hAb hzc
          go_loopw [16] (fun iv wi => ∃ i : Nat, s ≤ i ∧ i ≤ s + h ∧ iv = .int .i64 i ∧ Below w.heap.size w wi ∧ wi.cell? ⟨w.heap.size, 0, none⟩ = some (.int .i64 q) ∧ wi.cell? ⟨w.heap.size, 1, none⟩ = some (.int .i64 n) ∧ Arr wi 3 .i64 zg (zV q n g) ∧ Arr wi 3 .i64 rg (ofF xs.length (mid f (fromF q (ivF q n g l) h f) h s i))) (fun iv _ => s + h - (intOf iv).toNat)
          case atStart => exact ⟨s, Nat.le_refl _, by omega, rfl, hBp, hcqp, hcnp, hzAp, hAp⟩
          case round =>
            obtain ⟨i, hi1, hi2, rfl, hBi, hcqi, hcni, hzAi, hAi⟩ := hrel
            clear hBp hcqp hcnp hzAp hAp
            by_cases hlti : i < s + h
            · have hco1 := hAi.cell (j := i) (by rw [ofF_length]; omega)
              have hco2 := hAi.cell (j := i + h) (by rw [ofF_length]; omega)
              rw [at_ofF _ (by omega), mid_left hlti] at hco1
              rw [at_ofF _ (by omega), mid_right hh0] at hco2
              have hv1 := fromF_left (q := q) (iv := ivF q n g l) (f := f) (h := h) (b := b) (i := i) (by rw [HS.out]; exact hi1) (by rw [HS.out]; exact hlti)
              have hv2 := fromF_right (q := q) (iv := ivF q n g l) (f := f) (h := h) (b := b) (i := i) (by rw [HS.out]; exact hi1) (by rw [HS.out]; exact hlti)
              have hbb0 : powV (byF q n g l b) (q - 2) q = ivF q n g l b := rfl
              rw [hbb0]
              generalize fromF q (ivF q n g l) h f = new at *
              generalize ho1 : f i = o1 at *
              generalize ho2 : f (i + h) = o2 at *
              generalize hbb : ivF q n g l b = bb at *
              have HV := Lib.hid (And.intro hv1 (And.intro hv2 (And.intro ho1 (And.intro ho2 hbb))))
              clear hv1 hv2 ho1 ho2 hbb hbb0
              have hf1 := hAi.free i
              have hf2 := hAi.free (i + h)
              have hil : i < xs.length := by omega
              have hil2 : i + h < xs.length := by omega
              have hxi : ((i : Int) + (h : Int)).toNat = i + h := by omega
              go_wp2
              go_quiet (fail)
              go_wp2
              refine region_pure [2, 3, 4, 5] [0, 1, 6, 7, 8, 9, 10, 11, 12, 13, 14, 15, 16, 17, 18, 19] 20 (by kernel_rfl) (by kernel_rfl) (fun d _ _ _ _ h => by cases d <;> exact h) ?_
              simp only [pick, List.filterMap_cons, List.filterMap_nil, List.getElem?_cons_succ, List.getElem?_cons_zero, List.drop_succ_cons, List.drop_zero]
              iterate 4
                apply wpPure_step
                · rfl
                · intro wq
                  go_simp
                  rfl
                simp only [Act.put, List.setIfInBounds_toArray, List.set_cons_zero, List.set_cons_succ]
              show wpStill _ _ _ _ _ _
              repeat (first | still_step | still_call (still_of (zq_Add _ _ _ _ hq)) | still_call (still_of (zq_Sub _ _ _ _ hq)) | still_call (still_of (zq_Mul _ _ _ _ hq)))
              refine wpStill_nil ?_
              go_wp2
              go_roundw
              case rel =>
                refine ⟨i + 1, by omega, by omega, by go_num, ((pw_below_drewN hBi _).setCell (Nat.le_of_lt hwlt) _).setCell (Nat.le_of_lt hwlt) _, ?_, ?_, ?_, ?_⟩
                · rw [cell_far (Nat.ne_of_lt hwlt), cell_far (Nat.ne_of_lt hwlt)]; simpa using hcqi
                · rw [cell_far (Nat.ne_of_lt hwlt), cell_far (Nat.ne_of_lt hwlt)]; simpa using hcni
                · exact (Arr.other (Arr.other (hzAi.drewN _) (Nat.ne_of_lt hzlt)) (Nat.ne_of_lt hzlt))
                · have hA1 := (hAi.drewN (nq + 1)).set ((o1 + o2) % q) (j := i) (by rw [ofF_length]; exact hil)
                  have hA2 := hA1.set (bb * ((o1 - o2) % q) % q) (j := i + h) (by rw [List.length_set, ofF_length]; exact hil2)
                  rw [mid_step hi1 hlti HV.out.1 HV.out.2.1] at hA2
                  exact hA2
              case measure => simp [intOf]; omega
            · obtain rfl : i = s + h := by omega
              go_wp2
              go_roundw
              case rel =>
                refine ⟨b + 1, by omega, by go_num, hBi, hcqi, hcni, hzAi, ?_⟩
                rw [mid_part] at hAi
                have e : 2 * h * (b + 1) = s + 2 * h := by rw [Nat.mul_succ, HS.out]
                rw [e]; exact hAi
              case measure => simp [intOf]; omega
        · obtain rfl : b = P := by omega
          go_wp2
          go_roundw
          case rel =>
            rw [mid_end (by rw [HN.out.1, Nat.mul_comm])] at hAb
            refine ⟨l, fromF q (ivF q n g l) h f, by omega, Lib.hid (by go_num), ?_, Lib.hid ?_, Lib.hid (fun p _ => fromF_range (by omega) p), hBb, hcqb, hcnb, hzAb, hAb⟩
            · rcases Nat.eq_zero_or_pos l with h0 | h0
              · left; exact ⟨h0, by rw [h0]; rfl⟩
              · right; exact ⟨l - 1, Lib.hid (by omega), by go_num⟩
            · have e := hFL.out
              rw [hml.out] at e
              rw [← HN.out.2.1]; exact e
          case measure => simp [intOf] <;> omega
end Go.Proofs.YtmobicccdmfnaaaDoor

/- Transforms: there. -/
import Derived.Test.YtmobicccdmfnaaaDoorRoots
import Derived.Test.YtmobicccdmfnaaaDoorLay
import Derived.Test.YtmobicccdmfnaaaDoorReg
set_option linter.unusedVariables false
set_option linter.unusedSimpArgs false
namespace Go.Proofs.YtmobicccdmfnaaaDoor
open Go.RowKit Go.Proofs.Pl

theorem wrap_pow8 (d : Nat) (hd : d ≤ 8) : IntKind.i64.wrap (2 ^ d) = 2 ^ d := wrap_pow d hd

set_option maxRecDepth 100000 in
set_option maxHeartbeats 8000000 in
theorem ntt_To (q n g : Int) (v : Value) (xs : List Int) (er : Nat → Addr) (w : World) (h1 : GE w er 101) (h2 : GE w er 102) (hv : vld q n = true) (hx : Vec q n xs) (hs : RS w .i64 v xs) (hg : IsRoot q n g) (hg2 : 2 ≤ g) (hgq : g < q) :
    Calls Tryd.prog 12 #[.agg #[.int .i64 q, .int .i64 n], v] w fun e w' => ∃ r, e = .returned (.tuple #[r, .nilIface]) ∧ Below w.heap.size w w' ∧ FV w w' 3 .i64 r (toV q n g xs) := by
  have HC := Lib.hid (vec_vcode hv hx)
  have HX := Lib.hid hx
  have hn4 := n_facts (vld_n hv)
  have hlx : xs.length ≤ 256 := by have := hx.1; omega
  have hlp : 0 < xs.length := by have := hx.1; omega
  have hq := vld_q hv
  have HG := Lib.hid (And.intro hg (And.intro hg2 hgq))
  have hd8 := (dep_facts (isq_mem hq) (vld_n hv)).2.2.2.2
  have HD := Lib.hid (dep_facts (isq_mem hq) (vld_n hv))
  clear hg hg2 hgq hx
  go_enter Tryd.func12, Tryd.ntmps12
  go_wp2_with (first | (go_at_call 58; refine (ring_Vector_any _ _ _ _ er _ (h1.below (below_alloc_ _ _)) (h2.below (below_alloc_ _ _)) (hs.below (below_alloc_ _ _))).mono ?_; rintro e w1 ⟨rfl, hb1⟩; rw [HC.out, er0_none]; have hb2 := Below.then_ (below_alloc_ _ _) hb1; have c1 := box2_0 hb1; have c2 := box2_1 hb1) | (go_at_call 59; refine (ntt_roots _ _ _ er _ (h1.below hb2) hv HG.out.1 HG.out.2.1 HG.out.2.2).mono ?_; rintro e w2 ⟨z, rfl, hb3, hz⟩; have hb4 := Below.then_ hb2 hb3; have d1 := cell_below hb3 c1; have d2 := cell_below hb3 c2) | (go_at_call 60; refine (clone_int _ _ _ (hs.below hb4) hlp (by omega)).mono ?_; rintro e w3 ⟨r, rfl, hb5, hr⟩; have hb6 := Below.then_ hb4 hb5; have e1 := cell_below hb5 d1; have e2 := cell_below hb5 d2))
  obtain ⟨zg, zc, hzb, rfl, hz1, hz2, hzA⟩ := hz
  obtain ⟨rg, rc, hrb, rfl, hr1, hr2, hrA⟩ := hr
  have hzlt : zg < rg := Nat.lt_of_lt_of_le hzA.lt hrb
  have hwlt : w.heap.size < rg := by have a1 := hb1.size; have a2 := hb3.size; rw [World.size_alloc] at a1; omega
  have hzA3 := hzA.below hb5
  clear hb1 hb2 hb3 hb4 hb5 c1 c2 d1 d2 hz1 hz2 hzb hrb hzA hs
  obtain ⟨L, hL⟩ : ∃ L, L = lg n := ⟨_, rfl⟩
  go_loopw [35] (fun lv wr => ∃ l : Nat, l ≤ dep q n ∧ lv = .int .i64 l ∧ Below w.heap.size w wr ∧ wr.cell? ⟨w.heap.size, 0, none⟩ = some (.int .i64 q) ∧ wr.cell? ⟨w.heap.size, 1, none⟩ = some (.int .i64 n) ∧ Arr wr 3 .i64 zg (zV q n g) ∧ Arr wr 3 .i64 rg (ofF xs.length (toL q (byF q n g) (lg n) l (at_ xs)))) (fun lv _ => dep q n - (intOf lv).toNat)
  case atStart =>
    refine ⟨0, Nat.zero_le _, rfl, hb6, e1, e2, hzA3, ?_⟩
    show Arr _ _ _ _ (ofF xs.length (at_ xs))
    rw [ofF_at rfl]; exact hrA
  case round =>
    obtain ⟨l, hl, rfl, hB, hcq, hcn, hzA, hA⟩ := hrel
    clear hb6 e1 e2 hzA3 hrA
    by_cases hlt : l < dep q n
    · have hwl := wrap_pow8 l (by omega)
      go_wp2
      have hHL := half_eq (lg_eq (vld_n hv)) (l := l) (by have := HD.out.2.1; omega)
      have hPL := parts_eq (L := lg n) (l := l) (by have := HD.out.2.1; omega)
      have hNL : xs.length = 2 ^ lg n := by have := HX.out.1; have := n_nat (vld_n hv); omega
      rw [← hNL] at hPL
      rw [hHL]
      generalize hh : 2 ^ (lg n - (l + 1)) = h at *
      generalize hP : 2 ^ l = P at *
      have hP2 : (2 : Int) ^ l = (P : Int) := by rw [← hP]; simp
      rw [hP2] at hwl
      rw [hP2]
      have hPd : P + P ≤ 2 ^ dep q n := by
        rw [← hP, ← Nat.two_mul, ← Nat.pow_succ']; exact Nat.pow_le_pow_right (by omega) hlt
      have hp0 : 0 < P := by rw [← hP]; exact Nat.pow_pos (by omega)
      have hh0 : 0 < h := by rw [← hh]; exact Nat.pow_pos (by omega)
      have hPle : P ≤ xs.length := by rw [hPL]; exact Nat.le_mul_of_pos_right _ (by omega)
      have hhle : 2 * h ≤ xs.length := by rw [hPL]; exact Nat.le_mul_of_pos_left _ hp0
      have HN := Lib.hid (And.intro hPL (And.intro hh (And.intro hP (And.intro hHL hNL))))
      have HPD := Lib.hid hPd
      clear hPL hh hP hHL hNL hPd
      obtain ⟨wo, rfl⟩ : ∃ wo : World, wo = wr := ⟨_, rfl⟩
      go_loopw [45] (fun bv wb => ∃ b : Nat, b ≤ P ∧ bv = .int .i64 b ∧ Below w.heap.size w wb ∧ wb.cell? ⟨w.heap.size, 0, none⟩ = some (.int .i64 q) ∧ wb.cell? ⟨w.heap.size, 1, none⟩ = some (.int .i64 n) ∧ Arr wb 3 .i64 zg (zV q n g) ∧ Arr wb 3 .i64 rg (ofF xs.length (mid (toL q (byF q n g) (lg n) l (at_ xs)) (toF q (byF q n g l) h (toL q (byF q n g) (lg n) l (at_ xs))) h (2 * h * b) (2 * h * b)))) (fun bv _ => P - (intOf bv).toNat)
      case atStart => exact ⟨0, Nat.zero_le _, rfl, hB, hcq, hcn, hzA, by rw [Nat.mul_zero, mid_begin]; exact hA⟩
      case round =>
        obtain ⟨b, hb, rfl, hBb, hcqb, hcnb, hzAb, hAb⟩ := hrel
        clear hB hcq hcn hzA hA
        by_cases hltb : b < P
        · have hPd2 : P + b < 2 ^ dep q n := by have := HPD.out; omega
          have hzc := hzAb.cell (j := P + b) (by unfold zV; rw [ofF_length]; exact hPd2)
          have hzv : at_ (zV q n g) (P + b) = byF q n g l b := by unfold zV byF; rw [at_ofF _ hPd2, HN.out.2.2.1]
          rw [hzv] at hzc
          have hzl : P + b < (zV q n g).length := by unfold zV; rw [ofF_length]; exact hPd2
          have hsN : 2 * h * b + 2 * h ≤ xs.length := by
            rw [HN.out.1, Nat.mul_comm P, ← Nat.mul_succ]; exact Nat.mul_le_mul_left _ hltb
          generalize hs : 2 * h * b = s at *
          have hs2 : 2 * (h : Int) * (b : Int) = (s : Int) := by rw [← hs]; simp
          have HS := Lib.hid hs
          have HZ := Lib.hid hzv
          clear hs hPd2 hzv
          go_wp2
          obtain ⟨wp, rfl⟩ : ∃ wp : World, wp = wr := ⟨_, rfl⟩
          go_loopw [15] (fun iv wi => ∃ i : Nat, s ≤ i ∧ i ≤ s + h ∧ iv = .int .i64 i ∧ Below w.heap.size w wi ∧ wi.cell? ⟨w.heap.size, 0, none⟩ = some (.int .i64 q) ∧ wi.cell? ⟨w.heap.size, 1, none⟩ = some (.int .i64 n) ∧ Arr wi 3 .i64 zg (zV q n g) ∧ Arr wi 3 .i64 rg (ofF xs.length (mid (toL q (byF q n g) (lg n) l (at_ xs)) (toF q (byF q n g l) h (toL q (byF q n g) (lg n) l (at_ xs))) h s i))) (fun iv _ => s + h - (intOf iv).toNat)
          case atStart => exact ⟨s, Nat.le_refl _, by omega, rfl, hBb, hcqb, hcnb, hzAb, hAb⟩
          case round =>
            obtain ⟨i, hi1, hi2, rfl, hBi, hcqi, hcni, hzAi, hAi⟩ := hrel
            clear hBb hcqb hcnb hzAb hAb hzc
            by_cases hlti : i < s + h
            · have hco1 := hAi.cell (j := i) (by rw [ofF_length]; omega)
              have hco2 := hAi.cell (j := i + h) (by rw [ofF_length]; omega)
              rw [at_ofF _ (by omega), mid_left hlti] at hco1
              rw [at_ofF _ (by omega), mid_right hh0] at hco2
              have hv1 := toF_left (q := q) (by_ := byF q n g l) (f := toL q (byF q n g) (lg n) l (at_ xs)) (h := h) (b := b) (i := i) (by rw [HS.out]; exact hi1) (by rw [HS.out]; exact hlti)
              have hv2 := toF_right (q := q) (by_ := byF q n g l) (f := toL q (byF q n g) (lg n) l (at_ xs)) (h := h) (b := b) (i := i) (by rw [HS.out]; exact hi1) (by rw [HS.out]; exact hlti)
              generalize toL q (byF q n g) (lg n) l (at_ xs) = old at *
              generalize toF q (byF q n g l) h old = new at *
              generalize ho1 : old i = o1 at *
              generalize ho2 : old (i + h) = o2 at *
              generalize hbb : byF q n g l b = bb at *
              have HV := Lib.hid (And.intro hv1 (And.intro hv2 (And.intro ho1 (And.intro ho2 hbb))))
              clear hv1 hv2 ho1 ho2 hbb
              have hf1 := hAi.free i
              have hf2 := hAi.free (i + h)
              have hil : i < xs.length := by omega
              have hil2 : i + h < xs.length := by omega
              have hxi : ((i : Int) + (h : Int)).toNat = i + h := by omega
              go_wp2
              go_quiet ((go_at_call 61; exact Calls.quiet_of_same (same_of (zq_Mul _ _ _ _ hq))))
              go_wp2
              have hxa : ((i : Int) + (h : Int)) < (xs.length : Int) := by omega
              have hxb : (0 : Int) ≤ (i : Int) + (h : Int) := by omega
              have hni : ¬ (i = i + h) := by omega
              have hni2 : ¬ (i + h = i) := by omega
              refine region_pure [2, 3, 4, 5] [0, 1, 6, 7, 8, 9, 10, 11, 12, 13, 14, 15, 16, 17, 18, 19, 20, 21] 22 (by kernel_rfl) (by kernel_rfl) (fun d _ _ _ _ h => by cases d <;> exact h) ?_
              simp only [pick, List.filterMap_cons, List.filterMap_nil, List.getElem?_cons_succ, List.getElem?_cons_zero, List.drop_succ_cons, List.drop_zero]
              iterate 4
                apply wpPure_step
                · rfl
                · intro wq
                  go_simp
                  rfl
                simp only [Act.put, List.setIfInBounds_toArray, List.set_cons_zero, List.set_cons_succ]
              show wpStill _ _ _ _ _ _
              repeat (first | still_step | still_call (still_of (zq_Add _ _ _ _ hq)) | still_call (still_of (zq_Sub _ _ _ _ hq)))
              refine wpStill_nil ?_
              go_wp2
              go_roundw
              case rel =>
                refine ⟨i + 1, by omega, by omega, by go_num, ((pw_below_drewN hBi _).setCell (Nat.le_of_lt hwlt) _).setCell (Nat.le_of_lt hwlt) _, ?_, ?_, ?_, ?_⟩
                · rw [cell_far (Nat.ne_of_lt hwlt), cell_far (Nat.ne_of_lt hwlt)]; simpa using hcqi
                · rw [cell_far (Nat.ne_of_lt hwlt), cell_far (Nat.ne_of_lt hwlt)]; simpa using hcni
                · exact (Arr.other (Arr.other (hzAi.drewN _) (Nat.ne_of_lt hzlt)) (Nat.ne_of_lt hzlt))
                · have hA1 := (hAi.drewN (nq + 1)).set ((o1 + bb * o2) % q) (j := i) (by rw [ofF_length]; exact hil)
                  have hA2 := hA1.set ((o1 - bb * o2) % q) (j := i + h) (by rw [List.length_set, ofF_length]; exact hil2)
                  rw [mid_step hi1 hlti HV.out.1 HV.out.2.1] at hA2
                  exact hA2
              case measure => simp [intOf]; omega
            · obtain rfl : i = s + h := by omega
              go_wp2
              go_roundw
              case rel =>
                refine ⟨b + 1, by omega, by go_num, hBi, hcqi, hcni, hzAi, ?_⟩
                rw [mid_part] at hAi
                have e : 2 * h * (b + 1) = s + 2 * h := by rw [Nat.mul_succ, HS.out]
                rw [e]; exact hAi
              case measure => simp [intOf]; omega
        · obtain rfl : b = P := by omega
          go_wp2
          go_roundw
          case rel =>
            refine ⟨l + 1, by omega, by go_num, hBb, hcqb, hcnb, hzAb, ?_⟩
            rw [mid_end (by rw [HN.out.1, Nat.mul_comm])] at hAb
            have e : toL q (byF q n g) (lg n) (l + 1) (at_ xs) = toF q (byF q n g l) h (toL q (byF q n g) (lg n) l (at_ xs)) := by rw [← HN.out.2.1]; rfl
            rw [e]; exact hAb
          case measure => simp [intOf]; omega
    · obtain rfl : l = dep q n := by omega
      go_wp2
      go_ret2
      have hn : n.toNat = xs.length := by have := HX.out.1; omega
      have hl2 : (toV q n g xs).length = xs.length := by unfold toV; rw [ofF_length, hn]
      have hA2 : Arr wr 3 .i64 rg (toV q n g xs) := by unfold toV; rw [hn]; exact hA
      exact ⟨_, rfl, hB, rg, rc, Nat.le_of_lt hwlt, by rw [hl2]; rfl, by rw [hl2]; exact hr1, hr2, hA2⟩
end Go.Proofs.YtmobicccdmfnaaaDoor

/- NttBack: for every q, n and every two slices of numbers the law answers true, and what came in reads as it did; the two errors' variables are as the program's text lays them. No further condition. -/
import Derived.Test.YtmobicccdmfnaaaDoorBack
import Derived.Test.YtmobicccdmfnaaaDoorRowk
import Derived.Test.YtmobicccdmfnaaaDoorTie
import Derived.Test.YtmobicccdmfnaaaDoorCards
import Derived.SevenTiedAt
set_option linter.unusedVariables false
set_option linter.unusedSimpArgs false
namespace Go.Proofs.YtmobicccdmfnaaaDoor
open Go.ChangeShapes Go.WideShapes Go.RowKit Go.Proofs.Pl Go

theorem ntt_door_met (os : Os) (args : Array Value) : laidMetH Tryd.prog Rows.nttBackRow.laid ((World.doorLaid Tryd.prog 400 os).forCall (fun _ _ => 0) ⟨#[], args, []⟩).memory :=
  laidMetH_of_parts3 (fuel := 8) (laidMet_of_run' 8 (by kernel_rfl) (by kernel_rfl)) (by kernel_rfl) (by kernel_rfl)

set_option maxRecDepth 100000 in
theorem nttBack_lifted (os : Os) (started : os.Started) (H : Type) (enc : TypeId × Value → H) :
    ReturnsInHanded {} Tryd.checked os 3 .any (fun w args => (Rows.nttBackSpec.pre enc Tryd.prog Tryd.f3 [] false w args ∧ laidMetH Tryd.prog Rows.nttBackRow.laid w) ∧ sizedMet enc Tryd.prog Tryd.f3 (OpenSpec.ofChange Rows.nttBackSpec) false w args)
      (Rows.nttBackSpec.post enc Tryd.prog Tryd.f3 false true false false) := by
  refine returnsInHanded_of_change_and (C := Tryd.checked) (X := fun w _ => laidMetH Tryd.prog Rows.nttBackRow.laid w) (fun _ _ _ hh h => h.of_heap hh) A_own started (by kernel_rfl) Tryd.func3
    (ChangeSpec.witness_shaped (enc := enc) (C := Tryd.checked) (os := os) (X := fun w _ => laidMetH Tryd.prog Rows.nttBackRow.laid w) false (World.doorLaid Tryd.prog 400 os) #[.int .i64 0, .int .i64 0, .slice none 0 0, .slice none 0 0] 8 rfl (World.shaped_of_RefB (by kernel_rfl) (by kernel_rfl)) (by kernel_rfl) (by kernel_rfl) (by kernel_rfl) (ntt_door_met os _)) ?_
  intro W base args ds gs before hval0 hW _ _ hL _
  have hval : ∀ (j : Nat) t v, Tryd.f3.params[j]? = some t → args[j]? = some v → Value.okWide Tryd.prog W .any base t v := hval0
  have hW' := hW
  obtain ⟨p, q, hA0, hV, rfl, hfz, hnd⟩ := hW
  obtain ⟨rfl, rfl⟩ := trodVars_none hV
  have hA : DataW.TrodAll enc Tryd.prog W 0 (fun _ => true) true Tryd.f3.params.toList args.toList ds p := hA0
  rw [Tryd.params3] at hA hval
  have hA2 := hA
  obtain ⟨v0, v1, v2, v3, d0, d1, d2, d3, p0, p1, p2, p3, rfl, rfl, rfl, h0, h1, h2, h3⟩ := trodAll_four hA
  obtain ⟨q, rfl, rfl, rfl, hq⟩ := open_int Tryd.underlying3 (hval 0 3 v0 rfl rfl) h0
  obtain ⟨n, rfl, rfl, rfl, hn⟩ := open_int Tryd.underlying3 (hval 1 3 v1 rfl rfl) h1
  obtain ⟨xs, hx, _⟩ := rs_of Tryd.underlying22 Tryd.underlying3 (by kernel_rfl) (hval 2 22 v2 rfl rfl) h2
  obtain ⟨ys, hy, _⟩ := rs_of Tryd.underlying22 Tryd.underlying3 (by kernel_rfl) (hval 3 22 v3 rfl rfl) h3
  rw [MakeChecks.laidMetH_plain _ _ _ (by kernel_rfl)] at hL
  obtain ⟨a1, _, g1, _, _⟩ := ge_of hL (g := 0) (by kernel_rfl) (by kernel_rfl)
  obtain ⟨a2, _, g2, _, _⟩ := ge_of (laidMet.tail hL) (g := 1) (by kernel_rfl) (by kernel_rfl)
  have hq' := bounds_i64 hq
  have hn' := bounds_i64 hn
  refine (law3_NttBack q n v2 v3 xs ys (fun c => if c = 101 then a1 else a2) W g1 g2 hq'.1 hq'.2 hn'.1 hn'.2 hx hy).mono fun e W' ⟨he, hb⟩ => ?_
  subst he
  have hlt : ∀ x ∈ (([] ++ ([] ++ (p2 ++ p3))) ++ [] : List MemPlace), x.block < W.heap.size := fun x hx => hW'.lt x hx
  exact ⟨_, rfl, _, _, _, [], _, [], hW', trodAll_mk1 (shut_bool Tryd.underlying4 _), args_stay hb hA2 (by decide) (fun x hx => hW'.lt x (List.mem_append_left _ hx)) (fun x hx => by simpa using hW'.lt x (List.mem_append_left _ hx)), rfl, hb.frame _, fun h => by cases h⟩

theorem nttBack_row : Rows.NttBackSaid :=
  OpenClaim.holds_of_wide 3 Tryd.f3 rfl rfl rfl rfl rfl rfl rfl ⟨rfl, rfl, rfl, rfl, rfl⟩ rfl rfl rfl rfl rfl (by kernel_rfl) Tryd.func3 (by kernel_rfl)
    (of_decide_eq_true (by kernel_rfl)) (by unfold Func.isWrapper; first | (rw [if_pos (by decide +kernel)]; kernel_rfl) | (rw [if_neg (by decide +kernel)]; exact ⟨rfl, rfl⟩))
    (fun os started H enc _ => nttBack_lifted os started H enc)

theorem nttBack_holds : Rows.NttBackCardSaid :=
  Claim7.holds_tied_plain_at .later [] _ true _ true
    nttBack_row (fun _ h => by cases h) (by kernel_rfl) (fun _ h => by cases h) nttBack_row_tie rfl ⟨rfl, rfl⟩ (by kernel_rfl) rfl
    (fun f fn hf hfn => by
      obtain rfl : f = 3 := Option.some.inj ((show Tryd.prog.funcNamed "alembic/alembiclaw3.NttBack" = some 3 by kernel_rfl).symm.trans hf) |>.symm
      obtain rfl : fn = Tryd.f3 := (Option.some.inj (Tryd.func3.symm.trans hfn)).symm
      exact ⟨by kernel_rfl, fun j t ht => by
        have hm : t ∈ Tryd.f3.params.toList := by simpa using Array.mem_of_getElem? ht
        have hall : (Tryd.f3.params.toList.all fun u => !Tryd.prog.wantsStandIn u) = true := by kernel_rfl
        exact (show Tryd.prog.wantsStandIn t = false by simpa using List.all_eq_true.1 hall t hm)⟩)
    (by kernel_rfl)
#print axioms nttBack_holds
end Go.Proofs.YtmobicccdmfnaaaDoor

/- From a law's contract to its row: arguments read again, the errors' variables, slices of numbers that came in. -/
import Derived.Test.YtmobicccdmfnaaaDoorRows
import Derived.Test.YtmobicccdmfnaaaDoorBase
import Derived.ProofKit
import Derived.LaidMore
import Derived.OpenShut
import Derived.Carry
import Derived.WideKeyArgs
import Derived.Stop.LaidErr
import Derived.Stop.Joined
set_option linter.unusedVariables false
set_option linter.unusedSimpArgs false
namespace Go.Proofs.YtmobicccdmfnaaaDoor
open Go.ChangeShapes Go.WideShapes Go.RowKit Go.Proofs.Pl Go.Stop

theorem A_laidOut : laidOutB Tryd.prog = true := by kernel_rfl
theorem A_own : ownKnob Tryd.prog.godebug = none := by kernel_rfl
theorem A_star : "*" ++ "errors.errorString" = "*errors.errorString" := by decide
theorem A_err (u : TypeId) (h : Tryd.prog.typeName? 3 u = some "*errors.errorString") : u = 223 :=
  typeName_ptr_named (nm := "errors.errorString") (by rw [A_star]; kernel_rfl) (by kernel_rfl) (by decide) u (by rw [A_star]; exact h)
theorem A_cells_es : Tryd.prog.cellsOf 239 = 1 := by kernel_rfl
theorem A_cells_str : Tryd.prog.cellsOf 9 = 1 := by kernel_rfl

section
variable {H : Type} {enc : TypeId × Value → H} {W W' : World}
/-- Arguments, read again where all that there was is as it was. -/
theorem args_stay (hb : Below W.heap.size W W') {sp : Nat → Bool} : ∀ {ts : List TypeId} {vs : List Value} {ds : List (DataW H)} {ps : List MemPlace},
    DataW.TrodAll enc Tryd.prog W 0 (fun _ => true) true ts vs ds ps → (∀ t ∈ ts, Tryd.prog.readableRec t = true ∧ t < Tryd.prog.types.size) → (∀ p ∈ ps, p.block < W.heap.size) → (∀ p ∈ ps, sp p.block = true) →
    DataW.TrodAll enc Tryd.prog W' 0 sp true ts vs ds ps
  | [], vs, ds, ps, h, _, _, _ => by
    obtain ⟨rfl, rfl, rfl⟩ := trodAll_nil h
    exact trodAll_mk0
  | t :: ts, vs, ds, ps, h, hr, hlt, hs => by
    obtain ⟨v, vs', d, ds', p, p', rfl, rfl, rfl, h1, h2⟩ := trodAll_cons h
    exact trodAll_cons_mk (WideElems.Trod_stays A_laidOut (hr t (List.mem_cons_self ..)).1 (hr t (List.mem_cons_self ..)).2 h1 (fun q hq => hb.same (hlt q (List.mem_append_left _ hq))) (fun q hq => hs q (List.mem_append_left _ hq)))
      (args_stay hb h2 (fun u hu => hr u (List.mem_cons_of_mem _ hu)) (fun q hq => hlt q (List.mem_append_right _ hq)) (fun q hq => hs q (List.mem_append_right _ hq)))
end

set_option maxRecDepth 100000 in
/-- The variable of an error, out of the row's condition. -/
theorem ge_of {W : World} {n : String} {g : Nat} {text : List UInt8} {r : List (String × DataW Unit)} (h : laidMet Tryd.prog ((n, .iface "*errors.errorString" (.ptr (.agg [.lit (.string text)]))) :: r) W)
    (hg : Tryd.prog.globalNamed n = some g) (ht : (Tryd.prog.globals[g]?).map (·.type) = some 29) :
    ∃ (a : Addr) (s : ByteArray), W.cell? ⟨g, 0, none⟩ = some (.iface 223 (.pointer (some a))) ∧ W.cell? a = some (.string s) ∧ s.data.toList = text := by
  obtain ⟨a, s, hv, hc, hs, _⟩ := laid_sentinel h hg ht Tryd.underlying29 A_err Tryd.underlying223 Tryd.underlying239 rfl rfl Tryd.underlying9 A_cells_es A_cells_str
  exact ⟨a, s, by simpa using World.var?_cell hg hv 0, hc, hs⟩

set_option maxRecDepth 100000 in
/-- Whole numbers that came in. -/
theorem rs_of {H : Type} {enc : TypeId × Value → H} {W : World} {base : Nat} {t e : TypeId} {k : IntKind} {v : Value} {d : DataW H} {ps : List MemPlace} (ht : Tryd.prog.underlying t = some (.slice e)) (he : Tryd.prog.underlying e = some (.int k)) (hc : Tryd.prog.cellsOf e = 1)
    (hok : Value.okWide Tryd.prog W .any base t v) (h : DataW.Trod enc Tryd.prog W 0 (fun _ => true) true t v d ps) :
    ∃ xs : List Int, RS W k v xs ∧ ∀ x ∈ xs, (Lit.int k x).wf = true := by
  obtain ⟨A, len, cap, rfl⟩ := okWide_slice ht hok
  obtain ⟨fuel, hf⟩ := h
  rcases open_ints ht he hc hf with ⟨hcs, _⟩ | ⟨x, l, c, zs, hcs, _, hl, hm, hz, _, hcell, hwz⟩
  · simp [Value.cells] at hcs
    obtain ⟨rfl, rfl, rfl⟩ := hcs
    exact ⟨[], ⟨none, 0, rfl, Nat.le_refl _, by omega, fun j hj => absurd hj (Nat.not_lt_zero _)⟩, by simp⟩
  · simp [Value.cells] at hcs
    obtain ⟨rfl, rfl, rfl⟩ := hcs
    rw [if_pos rfl] at hz
    have hlen : (zs.take len).length = len := by rw [List.length_take]; omega
    refine ⟨zs.take len, ⟨some x, cap, by rw [hlen], by rw [hlen]; exact hl, by simpa [maxLen] using hm, fun j hj => ⟨x, rfl, ?_⟩⟩, fun y hy => hwz y (List.mem_of_mem_take hy)⟩
    rw [hlen] at hj
    rw [hcell j (by omega)]
    have : at_ (zs.take len) j = zs.getD j 0 := by simp [at_, hj]
    rw [this]
end Go.Proofs.YtmobicccdmfnaaaDoor

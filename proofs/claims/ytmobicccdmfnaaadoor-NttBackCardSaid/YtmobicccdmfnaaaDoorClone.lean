/- Copies of slices of numbers. -/
import Derived.Test.YtmobicccdmfnaaaDoorBase
import Derived.WalkSpells
set_option linter.unusedVariables false
set_option linter.unusedSimpArgs false
namespace Go.Proofs.YtmobicccdmfnaaaDoor
open Go.RowKit Go.Proofs.Pl

theorem add_plain (g j : Nat) : (⟨g, 0, none⟩ : Addr).add j = ⟨g, j, none⟩ := by unfold Addr.add; split <;> simp_all

theorem own_ne {w : World} {base n size g : Nat} {e : TypeId} {v : Value} {xs : List Value} (h : w.ownsRow base e size v n xs) (hg : g < base) : v.ownBlock ≠ some g := by
  rcases h.2 with ⟨rfl, _⟩ | ⟨k, cap, cur, rfl, hb, _⟩
  · simp [Value.ownBlock]
  · simp [Value.ownBlock]; omega
theorem own_le_block {w : World} {base n size : Nat} {e : TypeId} {v : Value} {xs : List Value} (h : w.ownsRow base e size v n xs) : ∀ k, v.ownBlock = some k → base ≤ k := by
  intro k hk
  rcases h.2 with ⟨rfl, _⟩ | ⟨g, cap, cur, rfl, hb, _⟩
  · simp [Value.ownBlock] at hk
  · simp [Value.ownBlock] at hk; omega
/-- A row of the call's own, as an array. -/
theorem arr_of_own {w : World} {base n : Nat} {e : TypeId} {k : IntKind} {v : Value} {xs : List Int} (h : w.ownsRow base e 1 v n (xs.map (Value.int k))) (hn : n = xs.length) (hp : 0 < xs.length) :
    ∃ g c, base ≤ g ∧ v = .slice (some ⟨g, 0, none⟩) xs.length c ∧ xs.length ≤ c ∧ c ≤ 9223372036854775807 ∧ Arr w e k g xs := by
  subst hn
  rcases h.2 with ⟨rfl, h0⟩ | ⟨g, cap, cur, rfl, hb, hh, h1, h2, h3, h4⟩
  · omega
  · refine ⟨g, cap, hb, rfl, h1, by simpa [maxLen] using h2, cur, hh, fun j hj => ?_⟩
    have := congrArg (fun l => l[j]?) h4
    simp only [Nat.mul_one] at this
    rw [List.getElem?_take_of_lt hj] at this
    rw [← Array.getElem?_toList, this]
    simp [at_, hj]

set_option maxRecDepth 100000 in
set_option maxHeartbeats 2000000 in
theorem clone_int (v : Value) (xs : List Int) (w : World) (hs : RS w .i64 v xs) (hp : 0 < xs.length) (hm : xs.length ≤ 1048576) :
    Calls Tryd.prog 60 #[v] w fun e w' => ∃ r, e = .returned r ∧ Below w.heap.size w w' ∧ FV w w' 3 .i64 r xs := by
  obtain ⟨A, c, rfl, hc1, hc2, hxc⟩ := hs
  obtain ⟨ad, rfl, _⟩ := hxc 0 hp
  have hcells : ∀ j u, (xs.map (Value.int .i64))[j]? = some u → w.cell? (ad.add j) = some u := by
    intro j u hu
    rw [List.getElem?_map] at hu
    obtain ⟨x, hx, rfl⟩ := Option.map_eq_some_iff.1 hu
    have hj := (List.getElem?_eq_some_iff.1 hx).1
    obtain ⟨ad', e, hc⟩ := hxc j hj
    obtain rfl := Option.some.inj e
    rw [hc, at_get hj, (List.getElem?_eq_some_iff.1 hx).2]
  have HC := Lib.hid hcells
  clear hcells hxc
  obtain ⟨i0, hi, hz0, hz1, hz2⟩ := info_parts info_int
  have hm1 : xs.length ≤ maxLen := by unfold maxLen; omega
  have HM := Lib.hid hm1
  clear hm1
  have hnil := fun wx : World => Lib.run_eql_slice_nil (P := Tryd.prog) wx 22 3 (some ad) xs.length c 0 0 Tryd.underlying22
  go_enter Tryd.func60, Tryd.ntmps60
  go_wp2_with (at_builtin; refine wpList_append_own _ rfl _ _ 22 rfl w.heap.size 3 i0 (.int .i64 0) 1 8 Tryd.underlying22 hi hz0 hz1 hz2 rfl (by decide) _ 0 [] rfl ?own ad xs.length c (xs.map (Value.int .i64)) rfl ?len ?news ?one ?b1 ?b2 ?b3 ?_)
  case own => exact World.ownsRow_lit w #[] 0 (Nat.le_refl _) (by simp) rfl
  case len => simp
  case news => exact fun j u hu => cell_below (below_alloc_ _ _) (HC.out j u hu)
  case one => exact ints_oneCell .i64 xs
  case b1 => rw [Nat.zero_add]; exact HM.out
  case b2 => omega
  case b3 => simp
  intro v' w1 hown hg _
  have hB : Below w.heap.size w w1 := (below_alloc_ _ _).grown hg (by simp) (by intro k hk; simp [Value.ownBlock] at hk; omega)
  clear hg
  go_wp2
  go_ret
  obtain ⟨g, c', h1, h2, h3, h4, h5⟩ := arr_of_own hown rfl hp
  exact ⟨_, rfl, hB, g, c', h1, h2, h3, h4, h5⟩
end Go.Proofs.YtmobicccdmfnaaaDoor

/- Rings and vectors: what each function of package ring gives back. -/
import Derived.Test.YtmobicccdmfnaaaDoorBase
import Derived.BigQuiet
import Derived.StillTailTactics
set_option linter.unusedVariables false
set_option linter.unusedSimpArgs false
namespace Go.Proofs.YtmobicccdmfnaaaDoor
open Go.RowKit Go.Proofs.Pl

def isn (n : Int) : Bool := n == 4 || n == 8 || n == 16 || n == 32 || n == 64 || n == 128 || n == 256
/-- May the ring be? -/
def vld (q n : Int) : Bool := isn n && isq q
/-- What is amiss with a ring. -/
def rcode (q n : Int) : Nat := if vld q n then 0 else 101
theorem rcode_yes {q n : Int} (h : vld q n = true) : rcode q n = 0 := by simp [rcode, h]
theorem rcode_no {q n : Int} (h : vld q n = false) : rcode q n = 101 := by simp [rcode, h]

set_option maxHeartbeats 1000000 in
theorem ring_Valid_any (q n : Int) (er : Nat → Addr) (w : World) (h1 : GE w er 101) :
    Calls Tryd.prog 111 #[.agg #[.int .i64 q, .int .i64 n]] w (Out w (er0 er (rcode q n))) := by
  have hlt := h1.lt
  unfold GE gi at h1
  unfold gi at hlt
  simp only [] at h1 hlt
  go_enter Tryd.func111, Tryd.ntmps111
  go_wp2_with (go_at_call 114; refine (zq_Is _ _).mono ?_; rintro e w' ⟨rfl, rfl⟩)
  all_goals
    go_ret
    refine Out.mk ?_ ((Below.refl _ _).alloc (Nat.le_refl _) _)
    first
      | (rw [rcode_yes (by simp_all [vld, isn])]; rfl)
      | (rw [rcode_no (by simp_all [vld, isn])]; rfl)

theorem ring_Valid (q n : Int) (er : Nat → Addr) (w : World) (h1 : GE w er 101) (hv : vld q n = true) :
    Calls Tryd.prog 111 #[.agg #[.int .i64 q, .int .i64 n]] w fun e w' => e = .returned .nilIface ∧ Below w.heap.size w w' := by
  have := ring_Valid_any q n er w h1
  rwa [rcode_yes hv] at this
theorem ring_Valid_no (q n : Int) (er : Nat → Addr) (w : World) (h1 : GE w er 101) (hv : vld q n = false) :
    Calls Tryd.prog 111 #[.agg #[.int .i64 q, .int .i64 n]] w fun e w' => e = .returned (erv er 101) ∧ Below w.heap.size w w' := by
  have := ring_Valid_any q n er w h1
  rwa [rcode_no hv] at this

/-- What is amiss with a vector. -/
def inr (q : Int) (x : Int) : Bool := decide (0 ≤ x) && decide (x < q)
def vcode (q n : Int) (xs : List Int) : Nat := if vld q n then (if (xs.length : Int) = n then (if xs.all (inr q) then 0 else 101) else 102) else 101

theorem vcode_vec {q n : Int} {xs : List Int} (h : vcode q n xs = 0) : vld q n = true ∧ Vec q n xs := by
  unfold vcode at h
  split at h
  · rename_i hv
    split at h
    · rename_i hl
      split at h
      · rename_i ha
        refine ⟨hv, hl, fun i hi => ?_⟩
        have := List.all_eq_true.1 ha (at_ xs i) (by rw [at_get hi]; exact List.getElem_mem hi)
        simpa [inr] using this
      · cases h
    · cases h
  · cases h
theorem vec_vcode {q n : Int} {xs : List Int} (hv : vld q n = true) (h : Vec q n xs) : vcode q n xs = 0 := by
  unfold vcode
  rw [if_pos hv, if_pos h.1, if_pos]
  refine List.all_eq_true.2 fun x hx => ?_
  obtain ⟨i, hi, rfl⟩ := List.mem_iff_getElem.1 hx
  have := h.2 i hi
  rw [at_get hi] at this
  simp [inr, this]

theorem vcode_ok {q : Int} {xs : List Int} (hv : vld q xs.length = true) (h : ∀ j, j < xs.length → inr q (at_ xs j) = true) : vcode q xs.length xs = 0 :=
  vec_vcode hv ⟨rfl, fun i hi => by simpa [inr] using h i hi⟩
theorem vcode_bad {q : Int} {xs : List Int} {k : Nat} (hv : vld q xs.length = true) (hk : k < xs.length) (h : inr q (at_ xs k) = false) : vcode q xs.length xs = 101 := by
  unfold vcode
  rw [if_pos hv, if_pos rfl, if_neg]
  intro ha
  have := List.all_eq_true.1 ha (at_ xs k) (by rw [at_get hk]; exact List.getElem_mem hk)
  rw [h] at this; cases this
theorem vcode_len {q n : Int} {xs : List Int} (hv : vld q n = true) (h : ¬ (xs.length : Int) = n) : vcode q n xs = 102 := by
  unfold vcode
  rw [if_pos hv, if_neg h]
theorem vcode_ring {q n : Int} {xs : List Int} (hv : vld q n = false) : vcode q n xs = 101 := by
  unfold vcode
  rw [if_neg (by simp [hv])]

set_option maxHeartbeats 2000000 in
theorem ring_Vector_any (q n : Int) (v : Value) (xs : List Int) (er : Nat → Addr) (w : World) (h1 : GE w er 101) (h2 : GE w er 102) (hs : RS w .i64 v xs) :
    Calls Tryd.prog 58 #[.agg #[.int .i64 q, .int .i64 n], v] w (Out w (er0 er (vcode q n xs))) := by
  obtain ⟨A, c, rfl, hc1, hc2, hx⟩ := hs
  have g1 := h1
  have hlt1 := h1.lt
  have hlt2 := h2.lt
  unfold GE gi at g1 h2
  unfold gi at hlt1 hlt2
  simp only [] at g1 h2 hlt1 hlt2
  by_cases hv : vld q n = true
  · by_cases hl : (xs.length : Int) = n
    · subst hl
      go_enter Tryd.func58, Tryd.ntmps58
      go_wp2_with (go_at_call 111; refine (ring_Valid _ _ er _ (h1.below (below_alloc_ _ _)) hv).mono ?_; rintro e w1 ⟨rfl, hb1⟩; have hb2 := Below.then_ (below_alloc_ _ _) hb1; obtain ⟨hc, hf⟩ := bcell hb1)
      go_loop [21] (fun iv => ∃ k : Nat, k ≤ xs.length ∧ iv = .int .i64 k ∧ Hid (∀ j, j < k → inr q (at_ xs j) = true)) (fun iv => xs.length - (intOf iv).toNat)
      case atStart => exact ⟨0, Nat.zero_le _, rfl, Lib.hid fun j hj => absurd hj (Nat.not_lt_zero _)⟩
      case round =>
        obtain ⟨k, hk, rfl, hin⟩ := hrel
        by_cases hlt : k < xs.length
        · obtain ⟨ad, rfl, hcell⟩ := hx k hlt
          have hcell1 := cell_below hb2 hcell
          have HX := Lib.hid (And.intro hx hcell)
          clear hx hcell
          generalize hxk : at_ xs k = x at *
          have HXK := Lib.hid hxk
          clear hxk
          by_cases hx0 : x < 0
          · have hd : decide (x < 0) = true := by simp [hx0]
            go_wp2
            go_ret
            refine Out.mk ?_ hb2
            rw [vcode_bad hv hlt (by rw [HXK.out]; simp [inr]; omega)]
            rfl
          · by_cases hxq : q ≤ x
            · have hd : decide (x < 0) = false := by simp; omega
              go_wp2
              go_ret
              refine Out.mk ?_ hb2
              rw [vcode_bad hv hlt (by rw [HXK.out]; simp [inr]; omega)]
              rfl
            · have hd : decide (x < 0) = false := by simp; omega
              have hd' : decide (q ≤ x) = false := by simp; omega
              go_wp2
              go_round
              case rel => exact ⟨k + 1, by omega, by go_num, Lib.hid fun j hj => by
                rcases (by omega : j < k ∨ j = k) with h | h
                · exact hin.out j h
                · subst h; rw [HXK.out]; simp [inr]; omega⟩
              case measure => simp [intOf]; omega
        · obtain rfl : k = xs.length := by omega
          go_wp2
          go_ret
          refine Out.mk ?_ hb2
          rw [vcode_ok hv hin.out]
          rfl
    · have hl' : ((xs.length : Int) == n) = false := by simp [hl]
      go_enter Tryd.func58, Tryd.ntmps58
      go_wp2_with (go_at_call 111; refine (ring_Valid _ _ er _ (h1.below (below_alloc_ _ _)) hv).mono ?_; rintro e w1 ⟨rfl, hb1⟩; have hb2 := Below.then_ (below_alloc_ _ _) hb1; obtain ⟨hc, hf⟩ := bcell hb1)
      go_ret
      refine Out.mk ?_ hb2
      rw [vcode_len hv hl]
      rfl
  · have hv' : vld q n = false := by simpa using hv
    go_enter Tryd.func58, Tryd.ntmps58
    go_wp2_with (go_at_call 111; refine (ring_Valid_no _ _ er _ (h1.below (below_alloc_ _ _)) hv').mono ?_; rintro e w1 ⟨rfl, hb1⟩; have hb2 := Below.then_ (below_alloc_ _ _) hb1; obtain ⟨hc, hf⟩ := bcell hb1)
    go_ret
    refine Out.mk ?_ hb2
    rw [vcode_ring hv']
    rfl
end Go.Proofs.YtmobicccdmfnaaaDoor

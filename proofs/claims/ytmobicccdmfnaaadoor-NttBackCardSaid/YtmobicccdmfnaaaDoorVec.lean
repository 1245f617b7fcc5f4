/- Vectors as lists: there, back, products; what the statement on them says. No program in sight. -/
import Derived.Test.YtmobicccdmfnaaaDoorRng
set_option linter.unusedVariables false
set_option linter.unusedSimpArgs false
namespace Go.Proofs.Pl

/-- The number at a place of a list. -/
def at_ (l : List Int) (i : Nat) : Int := l.getD i 0
/-- The list of a function's first values. -/
def ofF (n : Nat) (f : Nat → Int) : List Int := (List.range n).map f

theorem at_get {l : List Int} {i : Nat} (h : i < l.length) : at_ l i = l[i] := by simp [at_, h]
theorem ofF_length (n : Nat) (f : Nat → Int) : (ofF n f).length = n := by simp [ofF]
theorem at_ofF {n i : Nat} (f : Nat → Int) (h : i < n) : at_ (ofF n f) i = f i := by
  simp [at_, ofF, h]
theorem list_eq {a b : List Int} (hl : a.length = b.length) (h : ∀ i, i < a.length → at_ a i = at_ b i) : a = b := by
  apply List.ext_getElem hl
  intro i h1 h2
  have := h i h1
  simpa [at_, h1, h2] using this
theorem ofF_at {n : Nat} {l : List Int} (h : l.length = n) : ofF n (at_ l) = l :=
  list_eq (by rw [ofF_length, h]) fun i hi => at_ofF _ (by rwa [ofF_length] at hi)
theorem ofF_succ (n : Nat) (f : Nat → Int) : ofF (n + 1) f = ofF n f ++ [f n] := by simp [ofF, List.range_succ]
theorem ofF_congr {n : Nat} {f g : Nat → Int} (h : ∀ i, i < n → f i = g i) : ofF n f = ofF n g :=
  list_eq (by rw [ofF_length, ofF_length]) fun i hi => by
    rw [ofF_length] at hi
    rw [at_ofF _ hi, at_ofF _ hi, h i hi]

theorem set_ofF {n i : Nat} (f : Nat → Int) (v : Int) : (ofF n f).set i v = ofF n fun p => if p = i then v else f p := by
  apply list_eq (by simp [ofF_length])
  intro j hj
  have hj' : j < n := by simpa [ofF_length] using hj
  rw [at_ofF _ hj']
  unfold at_
  simp only [List.getD_eq_getElem?_getD, List.getElem?_set, ofF_length]
  by_cases h : i = j
  · subst h; simp [hj']
  · rw [if_neg h, if_neg (fun e => h e.symm), ← List.getD_eq_getElem?_getD]; exact at_ofF f hj'
theorem ofF_null (n : Nat) : ofF n (fun _ => 0) = List.replicate n 0 := by
  apply list_eq (by simp [ofF_length])
  intro i hi
  rw [ofF_length] at hi
  rw [at_ofF _ hi]; simp [at_, hi]
theorem map_ofF (g : Int → Int) (l : List Int) : ofF l.length (fun i => g (at_ l i)) = l.map g := by
  apply list_eq (by simp [ofF_length])
  intro i hi
  rw [ofF_length] at hi
  rw [at_ofF _ hi]; simp [at_, hi]

/-- A vector of n numbers modulo q. -/
def Vec (q n : Int) (l : List Int) : Prop := (l.length : Int) = n ∧ ∀ i, i < l.length → 0 ≤ at_ l i ∧ at_ l i < q

section
variable (q n g : Int)
def byF (l b : Nat) : Int := g ^ rev (dep q n) (2 ^ l + b) % q
def ivF (l b : Nat) : Int := (byF q n g l b) ^ (q - 2).toNat % q
def parts : Int := (2 ^ dep q n) ^ (q - 2).toNat % q
/-- There. -/
def toV (a : List Int) : List Int := ofF n.toNat (toL q (byF q n g) (lg n) (dep q n) (at_ a))
/-- Back. -/
def fromV (a : List Int) : List Int := ofF n.toNat fun p => fromL q (ivF q n g) (lg n) (dep q n) (at_ a) p * parts q n % q
/-- How many numbers a part has. -/
def pl : Nat := 2 ^ (lg n - dep q n)
def zF (p : Nat) : Int := g ^ (2 * rev (dep q n) p + 1) % q
/-- Products, part by part. -/
def timesV (a b : List Int) : List Int := ofF n.toNat fun p =>
  C (pl q n) (zF q n g (p / pl q n)) (fun i => at_ a (p / pl q n * pl q n + i)) (fun i => at_ b (p / pl q n * pl q n + i)) (p % pl q n) % q
/-- The product of polynomials. -/
def convV (a b : List Int) : List Int := ofF n.toNat fun p => C n.toNat (-1) (at_ a) (at_ b) p % q
end

section
variable {q n g : Int}
theorem n_nat (hn : n ∈ ns) : n.toNat = 2 ^ lg n := by
  have h := lg_eq hn
  have : ((n.toNat : Nat) : Int) = ((2 ^ lg n : Nat) : Int) := by
    have := n_facts hn
    rw [Int.toNat_of_nonneg (by omega)]; simpa using h
  exact_mod_cast this

theorem ofF_vec (hq : q ∈ qs) (hn : n ∈ ns) (f : Nat → Int) : Vec q n (ofF n.toNat fun p => f p % q) := by
  have h1 := q_facts hq
  have h2 := n_facts hn
  refine ⟨by rw [ofF_length]; omega, fun i hi => ?_⟩
  rw [ofF_length] at hi
  rw [at_ofF _ hi]
  exact ⟨Int.emod_nonneg _ (by omega), Int.emod_lt_of_pos _ (by omega)⟩

theorem toL_mod (hq : q ∈ qs) (by_ : Nat → Nat → Int) (L : Nat) : ∀ l f, 0 < l → ∀ p, toL q by_ L l f p % q = toL q by_ L l f p := by
  intro l f hl p
  have h1 := q_facts hq
  obtain ⟨k, rfl⟩ : ∃ k, l = k + 1 := ⟨l - 1, by omega⟩
  show toF q _ _ _ p % q = toF q _ _ _ p
  unfold toF
  split <;> rw [Int.emod_emod_of_dvd _ (Int.dvd_refl q)]

theorem toV_vec (hq : q ∈ qs) (hn : n ∈ ns) (a : List Int) : Vec q n (toV q n g a) := by
  have := ofF_vec hq hn (toL q (byF q n g) (lg n) (dep q n) (at_ a))
  unfold toV
  rwa [ofF_congr (g := toL q (byF q n g) (lg n) (dep q n) (at_ a)) (fun p _ => toL_mod hq _ _ _ _ (dep_facts hq hn).1 p)] at this
theorem fromV_vec (hq : q ∈ qs) (hn : n ∈ ns) (a : List Int) : Vec q n (fromV q n g a) := ofF_vec hq hn _
theorem timesV_vec (hq : q ∈ qs) (hn : n ∈ ns) (a b : List Int) : Vec q n (timesV q n g a b) := ofF_vec hq hn _
theorem convV_vec (hq : q ∈ qs) (hn : n ∈ ns) (a b : List Int) : Vec q n (convV q n a b) := ofF_vec hq hn _

theorem inv_ok (hq : q ∈ qs) (hn : n ∈ ns) (hg : IsRoot q n g) (l b : Nat) : Eqm q (ivF q n g l b * byF q n g l b) 1 := root_inv hq hn hg _

theorem eq_of_mod {a b : List Int} (ha : Vec q n a) (hb : Vec q n b) (h : ∀ p, p < a.length → Eqm q (at_ a p) (at_ b p)) : a = b := by
  have hl : a.length = b.length := by have := ha.1; have := hb.1; omega
  exact list_eq hl fun i hi => (h i hi).eq_of (ha.2 i hi).1 (ha.2 i hi).2 (hb.2 i (by omega)).1 (hb.2 i (by omega)).2

theorem vm_ofF (hn : n ∈ ns) (f : Nat → Int) : Vm q (2 ^ lg n) (at_ (ofF n.toNat f)) f := by
  intro p hp
  rw [at_ofF f (by rw [n_nat hn]; exact hp)]
  exact Eqm.refl _ _

theorem from_to (hq : q ∈ qs) (hn : n ∈ ns) (hg : IsRoot q n g) {a : List Int} (ha : Vec q n a) : fromV q n g (toV q n g a) = a := by
  have hd := dep_facts hq hn
  have h1 := (fromL_congr (iv := ivF q n g) hd.2.1 (vm_ofF (q := q) hn (toL q (byF q n g) (lg n) (dep q n) (at_ a)))).trans
    (fromL_toL (at_ a) hd.2.1 (fun l b _ _ => inv_ok hq hn hg l b))
  refine eq_of_mod (fromV_vec hq hn _) ha fun p hp => ?_
  unfold fromV at hp ⊢
  rw [ofF_length] at hp
  rw [at_ofF _ hp]
  refine (Eqm.mod _ _).trans (((h1 p (by rw [← n_nat hn]; exact hp)).mul (Eqm.refl _ _)).trans ?_)
  have e : 2 ^ dep q n * at_ a p * parts q n = parts q n * 2 ^ dep q n * at_ a p := by grind
  rw [e]
  exact ((two_inv hq hn).mul (Eqm.refl _ _)).trans (Eqm.of_eq (Int.one_mul _))

theorem to_from (hq : q ∈ qs) (hn : n ∈ ns) (hg : IsRoot q n g) {a : List Int} (ha : Vec q n a) : toV q n g (fromV q n g a) = a := by
  have hd := dep_facts hq hn
  have h0 : Vm q (2 ^ lg n) (at_ (fromV q n g a)) (fun p => parts q n * fromL q (ivF q n g) (lg n) (dep q n) (at_ a) p) :=
    (vm_ofF hn _).trans fun p _ => (Eqm.mod _ _).trans (Eqm.of_eq (Int.mul_comm _ _))
  have h1 := ((toL_congr (by_ := byF q n g) hd.2.1 h0).trans (toL_scale _ _ hd.2.1))
  have h2 := toL_fromL (by_ := byF q n g) (iv := ivF q n g) (at_ a) hd.2.1 (fun l b _ _ => inv_ok hq hn hg l b)
  refine eq_of_mod (toV_vec hq hn _) ha fun p hp => ?_
  have hp' : p < n.toNat := by unfold toV at hp; rwa [ofF_length] at hp
  have hp2 : p < 2 ^ lg n := by rw [← n_nat hn]; exact hp'
  show Eqm q (at_ (ofF _ _) p) _
  rw [at_ofF _ hp']
  refine (h1 p hp2).trans (((Eqm.refl _ _).mul (h2 p hp2)).trans ?_)
  rw [← Int.mul_assoc]
  exact ((two_inv hq hn).mul (Eqm.refl _ _)).trans (Eqm.of_eq (Int.one_mul _))

/-- What is transformed is the remainders. -/
theorem toV_E (hq : q ∈ qs) (hn : n ∈ ns) (hg : IsRoot q n g) (a : Nat → Int) {p : Nat} (hp : p < n.toNat) :
    Eqm q (toL q (byF q n g) (lg n) (dep q n) a p) (E a (2 ^ dep q n) (pl q n) (g ^ (2 * rev (dep q n) (p / pl q n) + 1)) (p % pl q n)) := by
  have hd := dep_facts hq hn
  have h := toL_E (by_ := byF q n g) hd.2.1 (root_pow hq hn hg) (fun l b _ _ => Eqm.mod _ _) a (dep q n) (Nat.le_refl _) p (by rw [← n_nat hn]; exact hp)
  unfold ex at h
  rwa [Nat.sub_self, Nat.pow_zero, Nat.one_mul] at h

theorem times_to (hq : q ∈ qs) (hn : n ∈ ns) (hg : IsRoot q n g) (a b : List Int) :
    timesV q n g (toV q n g a) (toV q n g b) = toV q n g (convV q n a b) := by
  have hd := dep_facts hq hn
  have hq' := q_facts hq
  have hN : n.toNat = 2 ^ dep q n * pl q n := by
    rw [n_nat hn]; unfold pl; rw [← Nat.pow_add]; congr 1; omega
  have hpl : 0 < pl q n := Nat.pow_pos (by omega)
  refine eq_of_mod (timesV_vec hq hn _ _) (toV_vec hq hn _) fun p hp => ?_
  have hp' : p < n.toNat := by unfold timesV at hp; rwa [ofF_length] at hp
  unfold timesV
  rw [at_ofF _ hp']
  refine (Eqm.mod _ _).trans ?_
  -- the part's place
  have hb : p / pl q n < 2 ^ dep q n := Nat.div_lt_of_lt_mul (by rw [Nat.mul_comm, ← hN]; exact hp')
  have hr : p % pl q n < pl q n := Nat.mod_lt _ hpl
  have side : ∀ x : List Int, ∀ i, i < pl q n → Eqm q (at_ (toV q n g x) (p / pl q n * pl q n + i)) (E (at_ x) (2 ^ dep q n) (pl q n) (g ^ (2 * rev (dep q n) (p / pl q n) + 1)) i) := by
    intro x i hi
    have h1 : p / pl q n * pl q n + i < n.toNat := by
      rw [hN]
      have : (p / pl q n + 1) * pl q n ≤ 2 ^ dep q n * pl q n := Nat.mul_le_mul_right _ hb
      rw [Nat.add_mul, Nat.one_mul] at this
      omega
    have h2 := toV_E hq hn hg (at_ x) h1
    have e1 : (p / pl q n * pl q n + i) / pl q n = p / pl q n := by
      rw [Nat.mul_comm, Nat.mul_add_div hpl, Nat.div_eq_of_lt hi, Nat.add_zero]
    have e2 : (p / pl q n * pl q n + i) % pl q n = i := by
      rw [Nat.mul_comm, Nat.mul_add_mod, Nat.mod_eq_of_lt hi]
    rw [e1, e2] at h2
    unfold toV
    rw [at_ofF _ h1]; exact h2
  have hz : Eqm q (zF q n g (p / pl q n)) (g ^ (2 * rev (dep q n) (p / pl q n) + 1)) := Eqm.mod _ _
  have hyn : Eqm q ((g ^ (2 * rev (dep q n) (p / pl q n) + 1)) ^ 2 ^ dep q n) (-1) := by
    rw [← Int.pow_mul, Nat.mul_comm, Int.pow_mul]
    refine ((root_pow hq hn hg).pow _).trans (Eqm.of_eq ?_)
    rw [Int.pow_succ, Int.pow_mul, show ((-1 : Int)) ^ 2 = 1 from rfl, Int.one_pow, Int.one_mul]
  have hT := toV_E hq hn hg (C n.toNat (-1) (at_ a) (at_ b)) hp'
  generalize g ^ (2 * rev (dep q n) (p / pl q n) + 1) = y at *
  have hC : Eqm q (C (pl q n) (zF q n g (p / pl q n)) (fun i => at_ (toV q n g a) (p / pl q n * pl q n + i)) (fun i => at_ (toV q n g b) (p / pl q n * pl q n + i)) (p % pl q n))
      (C (pl q n) y (E (at_ a) (2 ^ dep q n) (pl q n) y) (E (at_ b) (2 ^ dep q n) (pl q n) y) (p % pl q n)) := by
    unfold C
    refine Eqm.S fun i hi => ?_
    by_cases h : i ≤ p % pl q n
    · rw [if_pos h, if_pos h]; exact (side a i hi).mul (side b _ (by omega))
    · rw [if_neg h, if_neg h]; exact hz.mul ((side a i hi).mul (side b _ (by omega)))
  refine hC.trans ((E_C hyn (at_ a) (at_ b) (p % pl q n) hr).symm.trans ?_)
  rw [← hN]
  have h3 : Vm q (2 ^ lg n) (C n.toNat (-1) (at_ a) (at_ b)) (at_ (convV q n a b)) := by
    refine (Vm.trans (vm_ofF hn _) fun p _ => Eqm.mod _ _).symm
  have h4 := toL_congr (by_ := byF q n g) hd.2.1 h3 p (by rw [← n_nat hn]; exact hp')
  unfold toV
  rw [at_ofF _ hp']
  exact hT.symm.trans h4

/-- A product there is the product of polynomials. -/
theorem from_times_to (hq : q ∈ qs) (hn : n ∈ ns) (hg : IsRoot q n g) (a b : List Int) :
    fromV q n g (timesV q n g (toV q n g a) (toV q n g b)) = convV q n a b := by
  rw [times_to hq hn hg, from_to hq hn hg (convV_vec hq hn a b)]

end
end Go.Proofs.Pl

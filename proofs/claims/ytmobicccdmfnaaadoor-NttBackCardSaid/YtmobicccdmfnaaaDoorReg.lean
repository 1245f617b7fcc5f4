/- A region whose order is open, of three parts: operations that hang on no memory, read anywhen; operations that read, or call what leaves memory as it is; and behind these the ones that write, in their only order. -/
import Derived.StillTail
import Derived.Orders
set_option linter.unusedVariables false
set_option linter.unusedSimpArgs false
namespace Go.Proofs.YtmobicccdmfnaaaDoor
open Go

section
variable {P : Program} {ops : Array Oper} {md : Region.Mode} {w : World} {E : List Nat} {n : Nat}

/-- Each operation ahead of n, but those of E, is waited for by a later one, up to n. -/
def sinkE (md : Region.Mode) (ops : Array Oper) (E : List Nat) (n : Nat) : Bool :=
  (List.range n).all fun i => E.contains i || (List.range (n + 1)).any fun j => decide (i < j) && Region.waitsFor md ops j i

def ListedE (E : List Nat) (listed : Array Bool) : Prop := ∀ i ∈ E, listed.getD i false = true

theorem ListedE.set {listed : Array Bool} (h : ListedE E listed) (j : Nat) : ListedE E (listed.setIfInBounds j true) := fun i hi => getD_set_true (h i hi)

theorem not_yet (hs : sinkE md ops E n = true) (hc : Region.chainB md ops n = true) (hn : n < ops.size) {listed : Array Bool} (inv : HeadInv md ops n listed) (hE : ListedE E listed) :
    ∀ (d i : Nat), n - i ≤ d → i < n → listed.getD i true = false → ∀ t, n ≤ t → t ∉ Region.ready md ops listed := by
  intro d
  induction d with
  | zero => intro i hd hi; omega
  | succ d ih =>
    intro i hd hi hun t ht hr
    obtain ⟨_, ot, hot, hall⟩ := mem_ready.1 hr
    have htlt : t < ops.size := (Array.getElem?_eq_some_iff.1 hot).1
    rcases Nat.lt_or_ge n t with hlt | hge
    · have h1 := List.all_eq_true.1 hc t (List.mem_range.2 htlt)
      simp only [Bool.or_eq_true, decide_eq_true_eq] at h1
      rcases h1 with h1 | h1
      · omega
      · obtain ⟨o', ho', e, he, hb, hon⟩ := Region.waitsFor_spec h1
        obtain rfl : o' = ot := Option.some.inj (ho'.symm.trans hot)
        have h2 := hall e he hb
        rw [hon, getD_both (inv.tail (t - 1) (by omega) (by omega))] at h2
        cases h2
    · obtain rfl : t = n := by omega
      have h1 := List.all_eq_true.1 hs i (List.mem_range.2 hi)
      simp only [Bool.or_eq_true] at h1
      rcases h1 with h1 | h1
      · have h2 := hE i (List.contains_iff_mem.1 h1)
        rw [getD_both hun] at h2; cases h2
      · obtain ⟨j, hj, hj2⟩ := List.any_eq_true.1 h1
        simp only [Bool.and_eq_true, decide_eq_true_eq] at hj2
        obtain ⟨oj, hoj, e, he, hb, hon⟩ := Region.waitsFor_spec hj2.2
        have hjle : j ≤ t := by have := List.mem_range.1 hj; omega
        rcases Nat.lt_or_ge j t with hjt | hjt
        · cases hl : listed.getD j false with
          | true =>
            have h2 := inv.closed j oj hoj hl e he hb
            rw [hon, getD_both hun] at h2; cases h2
          | false =>
            have hjs : j < listed.size := by rw [inv.size]; omega
            exact ih j (by omega) hjt (getD_in hjs hl) t (Nat.le_refl _) hr
        · obtain rfl : j = t := by omega
          obtain rfl : oj = ot := Option.some.inj (hoj.symm.trans hot)
          have h2 := hall e he hb
          rw [hon, getD_both hun] at h2; cases h2

theorem head_first {i : Nat} {oi : Oper} {v : Value} {L : Array Bool → Act → Prop} (hi : ops[i]? = some oi) (hsel : ∀ (j : Nat) (o : Oper) cs b, ops[j]? = some o → o.op ≠ .select cs b)
    (hs : sinkE md ops E n = true) (hc : Region.chainB md ops n = true) (hn : n < ops.size) (hin : i < n) (hdone : ∀ listed a, L listed a → ∀ j ∈ Region.ready md ops listed, n ≤ j) :
    ∀ (f : Nat) (listed : Array Bool) (a : Act), HeadInv md ops n listed → ListedE E listed →
      (∀ j oj, ops[j]? = some oj → j ≠ i → listed.getD j true = false → (∀ e ∈ oj.after, Region.binds md e = true → e.on ≠ i) → oi.apart ops oj = true) →
      i ∈ Region.ready md ops listed → YieldsAt P ops w oi v a →
      wpAnyL P md ops w n L f (listed.setIfInBounds i true) (a.put oi.dst v) → wpAnyL P md ops w n L (f + 1) listed a := by
  intro f
  induction f with
  | zero =>
    intro listed a inv hE _ hr hy H
    refine ⟨fun h => (by rw [h] at hr; cases hr), fun j hj => ?_⟩
    have hjn : j < n := Nat.lt_of_not_le fun h => not_yet hs hc hn inv hE n i (by omega) hin (mem_ready.1 hr).1 j h hj
    refine ⟨hjn, ?_⟩
    by_cases hji : j = i
    · subst hji; exact hy.stOp hi H
    · exact absurd (hdone _ _ H j (ready_mono hj hji)) (by omega)
  | succ f ih =>
    intro listed a inv hE hfree hr hy H
    refine ⟨fun h => (by rw [h] at hr; cases hr), fun j hj => ?_⟩
    have hjn : j < n := Nat.lt_of_not_le fun h => not_yet hs hc hn inv hE n i (by omega) hin (mem_ready.1 hr).1 j h hj
    refine ⟨hjn, ?_⟩
    by_cases hji : j = i
    · subst hji; exact hy.stOp hi H
    · obtain ⟨hjun, oj, hoj, hall⟩ := mem_ready.1 hj
      have hiun := (mem_ready.1 hr).1
      have hno : ∀ e ∈ oj.after, Region.binds md e = true → e.on ≠ i := fun e he hb heq => by
        have h2 := hall e he hb
        rw [heq, getD_both hiun] at h2; cases h2
      have hstep := stOp_put hoj (hfree j oj hoj hji hjun hno) (fun cs b => hsel i oi cs b hi) (fun cs b => hsel j oj cs b hoj) hy (H.2 j (ready_mono hj hji)).2
      refine stOp_mono (fun a' h3 => ih (listed.setIfInBounds j true) a' (inv.set hj hjn) (hE.set j) ?_ (ready_mono hr (Ne.symm hji)) h3.1 ?_) hstep
      · intro k ok hk hki hun hno2
        refine hfree k ok hk hki ?_ hno2
        by_cases hjk : j = k
        · subst hjk; exact hjun
        · rwa [getD_set_ne true hjk] at hun
      · rw [Array.setIfInBounds_comm _ _ hji]; exact h3.2

/-- The operations at these places. -/
def pick (l : List Oper) (H : List Nat) : List Oper := H.filterMap fun k => l[k]?

def lexH (md : Region.Mode) (ops : Array Oper) (g n : Nat) : List Nat → Array Bool → Bool
  | [], listed => Region.seqB md ops g n listed
  | k :: H, listed => decide (k < n) && (Region.ready md ops listed).contains k && Region.free md ops listed k && lexH md ops g n H (listed.setIfInBounds k true)

theorem head_lex {l : List Oper} {g : Nat} {Lq : Act → Prop} (hsel : Region.noSelect l.toArray = true) (hs : sinkE md l.toArray E n = true) (hc : Region.chainB md l.toArray n = true) (hn : n < l.toArray.size) :
    ∀ (H : List Nat) (listed : Array Bool) (a : Act), HeadInv md l.toArray n listed → ListedE E listed → lexH md l.toArray g n H listed = true → wpStill P l.toArray w Lq (pick l H) a →
    wpAnyL P md l.toArray w n (fun listed' a' => Region.seqB md l.toArray g n listed' = true ∧ Lq a') H.length listed a
  | [], listed, a, _, _, hB, h => ⟨hB, h⟩
  | k :: H, listed, a, inv, hE, hB, h => by
    simp only [lexH, Bool.and_eq_true, decide_eq_true_eq] at hB
    obtain ⟨⟨⟨hkn, hr⟩, hf⟩, hB'⟩ := hB
    have hks : k < l.length := by simp at hn; omega
    have h0 : l.toArray[k]? = some l[k] := by simp [hks]
    have hp : pick l (k :: H) = l[k] :: pick l H := by simp [pick, hks]
    rw [hp] at h
    have hst : stOp P l.toArray w k (wpStill P l.toArray w Lq (pick l H)) a := by unfold stOp; simp only [h0]; exact h
    obtain ⟨v, hy, hK⟩ := yieldsAt_of_stOp h0 hst
    have hr' : k ∈ Region.ready md l.toArray listed := by simpa using hr
    exact head_first h0 (Region.noSelect_spec hsel) hs hc hn hkn (fun listed' a' hL => seqB_ready hL.1) H.length listed a inv hE (Region.free_spec h0 hf) hr' hy
      (head_lex hsel hs hc hn H _ _ (inv.set hr' hkn) (hE.set k) hB' hK)

/-- Operations that give the same whatever the memory. -/
def wpPure (P : Program) (ops : Array Oper) (Q : Act → Prop) : List Oper → Act → Prop
  | [], a => Q a
  | o :: rest, a => ∃ v, Yields P ops o v a ∧ wpPure P ops Q rest (a.put o.dst v)
theorem wpPure_step {Q : Act → Prop} {o : Oper} {rest : List Oper} {a : Act} (v : Value) (hg : o.guard = none) (hr : ∀ w, (execOp a.eval o).run P w = .ok (.value v) w)
    (h : wpPure P ops Q rest (a.put o.dst v)) : wpPure P ops Q (o :: rest) a := ⟨v, .inl ⟨by simp [Region.wanted, hg], hr⟩, h⟩

def lexE (md : Region.Mode) (ops : Array Oper) (n : Nat) (K : Array Bool → Bool) : List Nat → Array Bool → Bool
  | [], listed => K listed
  | k :: E, listed => decide (k < n) && (Region.ready md ops listed).contains k && Region.free md ops listed k && lexE md ops n K E (listed.setIfInBounds k true)

theorem pure_lex {l : List Oper} {Q : Exit → Act → World → Prop} {K : Array Bool → Bool} {Lq : Act → Prop} {f : Nat} (hsel : Region.noSelect l.toArray = true) (hn : n < l.toArray.size)
    (hQ : ∀ d v c a w, Q (.panic c) (Act.put a d v) w → Q (.panic c) a w) (E0 : List Nat)
    (hK : ∀ listed a, HeadInv md l.toArray n listed → ListedE E0 listed → K listed = true → Lq a → wpAny P md l.toArray Q f listed a w) :
    ∀ (E D : List Nat) (listed : Array Bool) (a : Act), (∀ i ∈ E0, i ∈ E ∨ i ∈ D) → ListedE D listed → HeadInv md l.toArray n listed → lexE md l.toArray n K E listed = true → wpPure P l.toArray Lq (pick l E) a →
    wpAny P md l.toArray Q (E.length + f) listed a w
  | [], D, listed, a, hD, hl, inv, hB, h => by
    rw [List.length_nil, Nat.zero_add]
    exact hK listed a inv (fun i hi => hl i (by rcases hD i hi with h | h; cases h; exact h)) hB h
  | k :: E, D, listed, a, hD, hl, inv, hB, h => by
    simp only [lexE, Bool.and_eq_true, decide_eq_true_eq] at hB
    obtain ⟨⟨⟨hkn, hr⟩, hf⟩, hB'⟩ := hB
    have hks : k < l.length := by simp at hn; omega
    have h0 : l.toArray[k]? = some l[k] := by simp [hks]
    have hp : pick l (k :: E) = l[k] :: pick l E := by simp [pick, hks]
    rw [hp] at h
    obtain ⟨v, hy, h'⟩ := h
    have hr' : k ∈ Region.ready md l.toArray listed := by simpa using hr
    rw [List.length_cons, show E.length + 1 + f = (E.length + f) + 1 from by omega]
    refine wpAny_take h0 hsel hf hr (fun c a w => hQ _ _ c a w) hy (pure_lex hsel hn hQ E0 hK E (k :: D) _ _ ?_ ?_ (inv.set hr' hkn) hB' h')
    · intro i hi
      rcases hD i hi with h | h
      · rcases List.mem_cons.1 h with rfl | h
        · exact .inr (by simp)
        · exact .inl h
      · exact .inr (by simp [h])
    · intro i hi
      rcases List.mem_cons.1 hi with rfl | h
      · have hs : i < listed.size := by rw [inv.size]; simpa using hks
        simp [hs]
      · exact getD_set_true (hl i h)

def checkE (md : Region.Mode) (ops : Array Oper) (E H : List Nat) (n : Nat) : Bool :=
  Region.noSelect ops && decide (n < ops.size) && sinkE md ops E n && Region.chainB md ops n && decide (E.length + H.length = n) &&
    lexE md ops n (fun listed => lexH md ops (ops.size - n) n H listed) E (Array.replicate ops.size false)

theorem region_pure {id : Nat} {Q : Exit → Act → World → Prop} {a : Act} {l : List Oper} (E H : List Nat) (n : Nat) (hm : P.follows .mixedOrders = true) (hB : checkE .any l.toArray E H n = true)
    (hQ : ∀ d v c a w, Q (.panic c) (Act.put a d v) w → Q (.panic c) a w)
    (h : wpPure P l.toArray (fun a1 => wpStill P l.toArray w.drew (fun a' => wpList P l.toArray Q (l.drop n) a' w.drew) (pick l H) a1) (pick l E) a) : (Code.region id l.toArray true).wp P Q a w := by
  simp only [checkE, Bool.and_eq_true, decide_eq_true_eq] at hB
  obtain ⟨⟨⟨⟨⟨hsel, hn⟩, hs⟩, hc⟩, hlen⟩, hlex⟩ := hB
  have hdl : (l.drop n).length = l.toArray.size - n := by simp
  have inv0 : HeadInv .any l.toArray n (Array.replicate l.toArray.size false) :=
    ⟨by simp, fun j oj _ hl => (by rw [getD_replicate_false] at hl; cases hl), fun t _ ht => getD_in (by simpa using ht) (getD_replicate_false _ _)⟩
  refine wp_region_any hm ?_
  have key := pure_lex (md := .any) (P := P) (w := w.drew) (Q := Q) (f := H.length + (l.toArray.size - n)) hsel hn hQ E
    (fun listed a1 inv hE hK hst => wpAny_of_head (Q' := Q) (g := l.toArray.size - n) (fun listed a' hL => by
      have := wpAny_of_seq (md := .any) (Q' := Q) (l.drop n) n listed a' w.drew (fun j => by simp [List.getElem?_drop]) (by rw [hdl]; exact hL.1) hL.2
      rwa [hdl] at this) _ _ _ (head_lex hsel hs hc hn H listed a1 inv hE hK hst))
    E [] _ a (fun i hi => .inl hi) (fun i hi => by cases hi) inv0 hlex h
  rw [show E.length + (H.length + (l.toArray.size - n)) = l.toArray.size from by omega] at key
  exact key
end
end Go.Proofs.YtmobicccdmfnaaaDoor

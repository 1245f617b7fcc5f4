/- Words that all walks of this seat use: the errors' variables, slices of numbers that are read, what a call leaves. -/
import Derived.Test.YtmobicccdmfnaaaDoorZq
import Derived.StillTailTactics
import Derived.BigQuiet
import Derived.Deep.QuietTactic
set_option linter.unusedVariables false
set_option linter.unusedSimpArgs false
namespace Go.Proofs.YtmobicccdmfnaaaDoor
open Go.RowKit Go.Proofs.Pl

/-- The variable of an error's number. -/
def gi (c : Nat) : Nat := match c with
  | 101 => 0
  | 102 => 1
  | 103 => 3
  | 104 => 2
  | 105 => 4
  | 106 => 5
  | 107 => 6
  | 108 => 7
  | 109 => 8
  | 110 => 9
  | 111 => 10
  | 112 => 11
  | 113 => 12
  | _ => 13
/-- The error of a number, as a value: er tells where each lies. -/
abbrev erv (er : Nat → Addr) (c : Nat) : Value := .iface 223 (.pointer (some (er c)))
/-- The variable of error c holds it. -/
def GE (w : World) (er : Nat → Addr) (c : Nat) : Prop := w.cell? ⟨gi c, 0, none⟩ = some (erv er c)
theorem GE.below {w w' : World} {er : Nat → Addr} {c : Nat} (h : GE w er c) (hb : Below w.heap.size w w') : GE w' er c :=
  (hb.cell (World.block_lt_of_cell? w _ h)).trans h
theorem GE.lt {w : World} {er : Nat → Addr} {c : Nat} (h : GE w er c) : gi c < w.heap.size := World.block_lt_of_cell? w _ h

theorem below_alloc_ (w : World) (o : Obj) : Below w.heap.size w (w.alloc o) := (Below.refl _ _).alloc (Nat.le_refl _) _
theorem below_then {B : Nat} {w w1 w2 : World} (h : Below B w w1) (hB : B ≤ w1.heap.size) (k : Below w1.heap.size w1 w2) : Below B w w2 :=
  h.trans ⟨k.os, k.tape, k.output, k.size, fun i hi => k.block i (Nat.lt_of_lt_of_le hi hB)⟩
theorem Below.then_ {w w1 w2 : World} (h : Below w.heap.size w w1) (k : Below w1.heap.size w1 w2) : Below w.heap.size w w2 := below_then h h.size k
theorem cell_below {w w1 : World} (h : Below w.heap.size w w1) {a : Addr} {v : Value} (hc : w.cell? a = some v) : w1.cell? a = some v := (h.cell (World.block_lt_of_cell? w a hc)).trans hc

theorem bcell {W w1 : World} (hb : Below W.heap.size W w1) : (∀ b o, b < W.heap.size → w1.cell? ⟨b, o, none⟩ = W.cell? ⟨b, o, none⟩) ∧ (∀ b o, b < W.heap.size → w1.frozen? ⟨b, o, none⟩ = W.frozen? ⟨b, o, none⟩) :=
  ⟨fun b o h => hb.cell (p := ⟨b, o, none⟩) h, fun b o h => hb.frozen (p := ⟨b, o, none⟩) h⟩

theorem box2_0 {w w1 : World} {a b : Value} {t : TypeId} (hb : Below (w.alloc (.cells #[a, b] t)).heap.size (w.alloc (.cells #[a, b] t)) w1) : w1.cell? ⟨w.heap.size, 0, none⟩ = some a := cell_below hb (by simp)
theorem box2_1 {w w1 : World} {a b : Value} {t : TypeId} (hb : Below (w.alloc (.cells #[a, b] t)).heap.size (w.alloc (.cells #[a, b] t)) w1) : w1.cell? ⟨w.heap.size, 1, none⟩ = some b := cell_below hb (by simp)

/-- A slice whose elements are these numbers. -/
def RS (w : World) (k : IntKind) (v : Value) (xs : List Int) : Prop :=
  ∃ A c, v = .slice A xs.length c ∧ xs.length ≤ c ∧ c ≤ 9223372036854775807 ∧ ∀ j, j < xs.length → ∃ ad, A = some ad ∧ w.cell? (ad.add j) = some (.int k (at_ xs j))
theorem RS.below {w w1 : World} {k : IntKind} {v : Value} {xs : List Int} (h : RS w k v xs) (hb : Below w.heap.size w w1) : RS w1 k v xs := by
  obtain ⟨A, c, rfl, h1, h2, h3⟩ := h
  exact ⟨A, c, rfl, h1, h2, fun j hj => let ⟨ad, e, hc⟩ := h3 j hj; ⟨ad, e, cell_below hb hc⟩⟩

/-- Block g holds these numbers at its head; it may be written. -/
def Arr (w : World) (e : TypeId) (k : IntKind) (g : Nat) (xs : List Int) : Prop :=
  ∃ cur : Array Value, w.heap[g]? = some (.cells cur e (0, 0)) ∧ ∀ j, j < xs.length → cur[j]? = some (.int k (at_ xs j))
def ints (k : IntKind) (xs : List Int) : Array Value := (xs.map (Value.int k)).toArray
theorem Arr.lt {w : World} {e : TypeId} {k : IntKind} {g : Nat} {xs : List Int} (h : Arr w e k g xs) : g < w.heap.size := by
  obtain ⟨cur, h1, _⟩ := h
  exact (Array.getElem?_eq_some_iff.1 h1).1
theorem Arr.cell {w : World} {e : TypeId} {k : IntKind} {g : Nat} {xs : List Int} (h : Arr w e k g xs) {j : Nat} (hj : j < xs.length) : w.cell? ⟨g, j, none⟩ = some (.int k (at_ xs j)) := by
  obtain ⟨cur, h1, h2⟩ := h
  rw [cell_of_row w g j cur e (0, 0) h1]; exact h2 j hj
theorem Arr.free {w : World} {e : TypeId} {k : IntKind} {g : Nat} {xs : List Int} (h : Arr w e k g xs) (j : Nat) : w.frozen? ⟨g, j, none⟩ = false := by
  obtain ⟨cur, h1, _⟩ := h
  exact frozen_of_row w g j cur e h1
theorem Arr.below {w w1 : World} {e : TypeId} {k : IntKind} {g : Nat} {xs : List Int} (h : Arr w e k g xs) (hb : Below w.heap.size w w1) : Arr w1 e k g xs := by
  have hl := h.lt
  obtain ⟨cur, h1, h2⟩ := h
  exact ⟨cur, by rw [hb.block g hl]; exact h1, h2⟩
theorem Arr.same {w w1 : World} {e : TypeId} {k : IntKind} {g : Nat} {xs : List Int} (h : Arr w e k g xs) (hb : w1.heap[g]? = w.heap[g]?) : Arr w1 e k g xs := by
  obtain ⟨cur, h1, h2⟩ := h
  exact ⟨cur, by rw [hb]; exact h1, h2⟩
theorem Arr.drew {w : World} {e : TypeId} {k : IntKind} {g : Nat} {xs : List Int} (h : Arr w e k g xs) : Arr w.drew e k g xs := h
theorem Arr.drewN {w : World} {e : TypeId} {k : IntKind} {g : Nat} {xs : List Int} (h : Arr w e k g xs) (n : Nat) : Arr (w.drewN n) e k g xs := h
theorem Arr.other {w : World} {e : TypeId} {k : IntKind} {g b j : Nat} {xs : List Int} {v : Value} (h : Arr w e k g xs) (hne : g ≠ b) : Arr (w.setCell ⟨b, j, none⟩ v) e k g xs :=
  h.same (heap_setCell_other w _ g v hne)
theorem Arr.set {w : World} {e : TypeId} {k : IntKind} {g : Nat} {xs : List Int} (h : Arr w e k g xs) {j : Nat} (v : Int) (hj : j < xs.length) : Arr (w.setCell ⟨g, j, none⟩ (.int k v)) e k g (xs.set j v) := by
  obtain ⟨cur, h1, h2⟩ := h
  refine ⟨cur.setIfInBounds j (.int k v), heap_setCell_same w g j cur e _ h1, fun i hi => ?_⟩
  rw [List.length_set] at hi
  by_cases hij : j = i
  · subst hij
    have hs : j < cur.size := (Array.getElem?_eq_some_iff.1 (h2 j hi)).1
    have e1 : at_ (xs.set j v) j = v := by simp [at_, hj]
    rw [e1]; simp [hs]
  · have e1 : at_ (xs.set j v) i = at_ xs i := by simp [at_, hij]
    rw [e1, Array.getElem?_setIfInBounds, if_neg hij]; exact h2 i hi
theorem Arr.new (w : World) (e : TypeId) (k : IntKind) (xs : List Int) : Arr (w.alloc (.cells (ints k xs) e)) e k w.heap.size xs :=
  ⟨ints k xs, heap_alloc_new w _, fun j hj => by simp [ints, at_, hj]⟩
theorem Arr.RS {w : World} {e : TypeId} {k : IntKind} {g : Nat} {xs : List Int} (h : Arr w e k g xs) {c : Nat} (hc : xs.length ≤ c) (hc' : c ≤ 9223372036854775807) : RS w k (.slice (some ⟨g, 0, none⟩) xs.length c) xs :=
  ⟨_, c, rfl, hc, hc', fun j hj => ⟨_, rfl, by rw [show (⟨g, 0, none⟩ : Addr).add j = ⟨g, j, none⟩ from by unfold Addr.add; split <;> simp_all]; exact h.cell hj⟩⟩

/-- A new slice of these numbers, of the call's own. -/
def FV (w w' : World) (e : TypeId) (k : IntKind) (v : Value) (xs : List Int) : Prop :=
  ∃ g c, w.heap.size ≤ g ∧ v = .slice (some ⟨g, 0, none⟩) xs.length c ∧ xs.length ≤ c ∧ c ≤ 9223372036854775807 ∧ Arr w' e k g xs
theorem FV.RS {w w' : World} {e : TypeId} {k : IntKind} {v : Value} {xs : List Int} (h : FV w w' e k v xs) : RS w' k v xs := by
  obtain ⟨g, c, _, rfl, h1, h2, h3⟩ := h
  exact h3.RS h1 h2
theorem FV.below {w w' w1 : World} {e : TypeId} {k : IntKind} {v : Value} {xs : List Int} (h : FV w w' e k v xs) (hb : Below w'.heap.size w' w1) : FV w w1 e k v xs := by
  obtain ⟨g, c, h0, rfl, h1, h2, h3⟩ := h
  exact ⟨g, c, h0, rfl, h1, h2, h3.below hb⟩
theorem FV.lower {w0 w w' : World} {e : TypeId} {k : IntKind} {v : Value} {xs : List Int} (h : FV w w' e k v xs) (hw : w0.heap.size ≤ w.heap.size) : FV w0 w' e k v xs := by
  obtain ⟨g, c, h0, rfl, h1, h2, h3⟩ := h
  exact ⟨g, c, Nat.le_trans hw h0, rfl, h1, h2, h3⟩

/-- 'make([]int, n)', as the walk meets it. -/
theorem info_int : (Tryd.prog.info? 3).map (fun i => (i.zero, i.size, i.bytes)) = some (some (.int .i64 0), 1, 8) := by kernel_rfl
theorem madeCells_ints (n : Nat) : madeCells #[Value.int .i64 0] n = ints .i64 (List.replicate n 0) := by
  apply Array.toList_inj.1
  rw [toList_madeCells_one]; simp [ints]
theorem run_make_ints (n : Nat) (hn : n ≤ 1048576) : ∀ w : World, (Instr.makeSlice 22 (.int .i64 (n : Int)) (.int .i64 (n : Int))).run Tryd.prog w
    = .ok (.slice (some ⟨w.heap.size, 0, none⟩) n n) (w.alloc (.cells (ints .i64 (List.replicate n 0)) 3)) := by
  intro w
  obtain ⟨i, hi, hz0, hz1, hz2⟩ := info_parts info_int
  have h := run_make (P := Tryd.prog) w 22 3 i (.int .i64 0) Tryd.underlying22 hi hz0 .i64 .i64 n n (by omega) (Int.le_refl _) (by rw [hz2]; omega) (by omega)
  rw [hz1, Int.toNat_natCast, Nat.mul_one] at h
  rw [h]
  show _ = Result.ok _ (w.alloc (.cells _ _))
  rw [← madeCells_ints]; rfl

theorem info_int64 : (Tryd.prog.info? 2).map (fun i => (i.zero, i.size, i.bytes)) = some (some (.int .i64 0), 1, 8) := by kernel_rfl
theorem run_make_ints64 (n : Nat) (hn : n ≤ 1048576) : ∀ w : World, (Instr.makeSlice 109 (.int .i64 (n : Int)) (.int .i64 (n : Int))).run Tryd.prog w
    = .ok (.slice (some ⟨w.heap.size, 0, none⟩) n n) (w.alloc (.cells (ints .i64 (List.replicate n 0)) 2)) := by
  intro w
  obtain ⟨i, hi, hz0, hz1, hz2⟩ := info_parts info_int64
  have h := run_make (P := Tryd.prog) w 109 2 i (.int .i64 0) Tryd.underlying109 hi hz0 .i64 .i64 n n (by omega) (Int.le_refl _) (by rw [hz2]; omega) (by omega)
  rw [hz1, Int.toNat_natCast, Nat.mul_one] at h
  rw [h]
  show _ = Result.ok _ (w.alloc (.cells _ _))
  rw [← madeCells_ints]; rfl

theorem still_of {P : Program} {f : FuncId} {args : Array Value} {w : World} {v : Value} (h : Calls P f args w fun e w' => e = .returned v ∧ w = w') :
    Calls P f args w fun e w'' => e = .returned v ∧ w'' = w := h.mono fun _ _ h => ⟨h.1, h.2.symm⟩
theorem same_of {P : Program} {f : FuncId} {args : Array Value} {w : World} {v : Value} (h : Calls P f args w fun e w' => e = .returned v ∧ w = w') :
    Calls P f args w fun e w'' => e = .returned v ∧ w'' = w := still_of h
theorem cell_far {w : World} {g b i j : Nat} {v : Value} (h : b ≠ g) : (w.setCell ⟨g, i, none⟩ v).cell? ⟨b, j, none⟩ = w.cell? ⟨b, j, none⟩ :=
  World.cell?_setCell_other _ _ _ _ (by intro e; injection e with e1; exact h e1.symm)
/-- A region whose last operations alone write. -/
theorem still_tail {P : Program} {id : Nat} {Q : Exit → Act → World → Prop} {a : Act} {w : World} {l : List Oper} (n : Nat) (hm : P.follows .mixedOrders = true) (hB : Region.lexTailB .any l.toArray n = true)
    (h : wpStill P l.toArray w.drew (fun a' => wpList P l.toArray Q (l.drop n) a' w.drew) (l.take n) a) : (Code.region id l.toArray true).wp P Q a w :=
  wp_region_still_tail n hm hB h

/-- What a call gives back, where all that it leaves is new. -/
def Out (w : World) (v : Value) (e : Ending) (w' : World) : Prop := e = .returned v ∧ Below w.heap.size w w'
theorem Out.mk {w w' : World} {v u : Value} (h : u = v) (hb : Below w.heap.size w w') : Out w v (.returned u) w' := ⟨by rw [h], hb⟩
/-- nil, or the error of a number. -/
def er0 (er : Nat → Addr) (c : Nat) : Value := if c = 0 then .nilIface else erv er c
theorem er0_none (er : Nat → Addr) : er0 er 0 = .nilIface := rfl
theorem er0_some (er : Nat → Addr) (c : Nat) : er0 er (c + 1) = erv er (c + 1) := rfl

end Go.Proofs.YtmobicccdmfnaaaDoor

/-
  Opening structs of whole numbers, and slices of things, as they come in.
-/
import Derived.Test.YtcniahbliadgiaaDoorOpen
import Derived.Deep.Slices
import Derived.Deep.Fields
import Derived.ChangeSame
import Derived.Lib.SmallJoins
namespace Go.Proofs.YtcniahbliadgiaaDoor
open Go.ChangeShapes Go.WideShapes Go.ChangeAt Go.RowKit Go.Deep
open Go.Proofs.PnKit Go.Proofs.PnPath

section
variable {H : Type} {enc : TypeId × Value → H} {P : Program} {w : World} {base : Nat} {spare : Nat → Bool} {held : Bool}

theorem one_cell {cs : List Value} {j : Nat} (h : j < cs.length) : (cs.drop j).take 1 = [cs[j]] := by
  rw [List.drop_eq_getElem_cons h]; rfl
/-- a struct of whole numbers, by value -/
theorem open_nums {r : Reach} {b0 : Nat} {t : TypeId} {fs : Array Field} {v : Value} {d : DataW H} {p : List MemPlace} (hs : P.underlying t = some (.struct fs)) (hone : oneCellFields P fs = true) (hC : P.cellsOf t = fs.size)
    (hi : ∀ (j : Nat) (f : Field), fs[j]? = some f → P.underlying f.type = some (.int .i64)) (hv : Value.okWide P w r b0 t v) (h : DataW.Trod enc P w base spare held t v d p) :
    ∃ xs : List Int, v = .agg (xs.map (Value.int .i64)).toArray ∧ xs.length = fs.size ∧ ∀ x ∈ xs, -9223372036854775808 ≤ x ∧ x ≤ 9223372036854775807 := by
  obtain ⟨cs, rfl, hsz⟩ := okWide_struct hs hv
  obtain ⟨fuel, hf⟩ := h
  obtain ⟨ys, n, _, _, _, hyl, hg⟩ := DataW.trod_struct hs hf
  have hcl : cs.toList.length = fs.size := by rw [Array.length_toList, hsz, hC]
  have key : ∀ j (hj : j < cs.toList.length), ∃ x : Int, cs.toList[j] = .int .i64 x ∧ -9223372036854775808 ≤ x ∧ x ≤ 9223372036854775807 := fun j hj => by
    have hjf : j < fs.size := by omega
    have hf1 : fs[j]? = some fs[j] := Array.getElem?_eq_getElem hjf
    obtain ⟨ho, hk⟩ := hone_of hone j _ hf1
    have h1 := hg j _ hf1
    simp only [Value.cells, ho, hk] at h1
    rw [one_cell hj, List.getElem?_eq_getElem (by omega)] at h1
    obtain ⟨x, hx, _, hw⟩ := DataW.trod_int (hi j _ hf1) h1
    injection hx with hx _
    exact ⟨x, hx, bounds_i64 hw⟩
  refine ⟨cs.toList.map intOf, ?_, by rw [List.length_map, hcl], ?_⟩
  · have e : (cs.toList.map intOf).map (Value.int .i64) = cs.toList := by
      apply List.ext_getElem
      · simp
      · intro j h1 h2
        obtain ⟨x, hx, _⟩ := key j h2
        rw [List.getElem_map, List.getElem_map, hx]; rfl
    rw [e]
  · intro x hx
    obtain ⟨v, hv, rfl⟩ := List.mem_map.1 hx
    obtain ⟨j, hj, rfl⟩ := List.mem_iff_getElem.1 hv
    obtain ⟨y, hy, h2⟩ := key j hj
    rw [hy]; exact h2

/-- the kinds of a struct's fields that are read here: a text, a whole number -/
inductive Kd
  | str
  | num
def Kd.ok (P : Program) (t : TypeId) : Kd → Prop
  | .str => P.underlying t = some .string
  | .num => P.underlying t = some (.int .i64)
def Kd.has : Kd → Value → Prop
  | .str, v => ∃ s : ByteArray, v = .string s
  | .num, v => ∃ x : Int, v = .int .i64 x ∧ -9223372036854775808 ≤ x ∧ x ≤ 9223372036854775807
theorem Kd.read {k : Kd} {t : TypeId} {n : Nat} {v : Value} {y : DataW H × List MemPlace} (hk : k.ok P t) (h : DataW.trod enc P w base spare held n t [v] = some y) : k.has v := by
  cases k with
  | str =>
    obtain ⟨s, hs, _, _⟩ := DataW.trod_string hk h
    injection hs with hs _
    exact ⟨s, hs⟩
  | num =>
    obtain ⟨x, hx, _, hw⟩ := DataW.trod_int hk h
    injection hx with hx _
    exact ⟨x, hx, bounds_i64 hw⟩
/-- a slice of structs of texts and whole numbers: each element's cells -/
theorem open_structs {W : World} {t e : TypeId} {fs : Array Field} {ks : List Kd} {v : Value} {d : DataW H} {p : List MemPlace} {r : Reach} {b0 : Nat} (ht : P.underlying t = some (.slice e)) (he : P.underlying e = some (.struct fs))
    (hone : oneCellFields P fs = true) (hC : P.cellsOf e = fs.size) (hks : ks.length = fs.size) (hk : ∀ (j : Nat) (f : Field) (k : Kd), fs[j]? = some f → ks[j]? = some k → k.ok P f.type) (hpos : 0 < ks.length)
    (hv : Value.okWide P W r b0 t v) (h : DataW.Trod enc P W 0 (fun _ => true) true t v d p) :
    ∃ (A : Option Addr) (len cap : Nat), v = .slice A len cap ∧ len ≤ cap ∧ (A = none → cap = 0) ∧ ∀ i, i < len → ∃ b o, A = some ⟨b, o, none⟩ ∧ b < W.heap.size ∧ ∀ (j : Nat) (k : Kd), ks[j]? = some k → ∃ x, W.cell? ⟨b, o + i * fs.size + j, none⟩ = some x ∧ k.has x := by
  obtain ⟨A, len, cap, rfl⟩ := okWide_slice ht hv
  obtain ⟨fuel, hf⟩ := h
  rcases open_slice ht hf with ⟨hcs, _⟩ | ⟨a, len', cap', m, n, D, Pl, hcs, _, hl, hm, hmm, _, hi⟩
  · simp [Value.cells] at hcs
    obtain ⟨rfl, rfl, rfl⟩ := hcs
    exact ⟨none, 0, 0, rfl, Nat.le_refl _, fun _ => rfl, fun i hi => by omega⟩
  · simp [Value.cells] at hcs
    obtain ⟨rfl, rfl, rfl⟩ := hcs
    simp only [if_true] at hmm
    have each : ∀ i, i < len → ∀ (j : Nat) (k : Kd), ks[j]? = some k → ∃ x, W.cell? (a.add (i * fs.size + j)) = some x ∧ k.has x := by
      intro i him j k hj
      obtain ⟨cs', hc, ht'⟩ := hi i (by omega)
      rw [hC] at hc
      obtain ⟨ys, n', _, _, hlen, hyl, hg⟩ := DataW.trod_struct he ht'
      obtain ⟨_, hcl, hat⟩ := World.cells?_some hc
      have hjk : j < ks.length := (List.getElem?_eq_some_iff.1 hj).1
      have hjf : j < fs.size := by omega
      have hf1 : fs[j]? = some fs[j] := Array.getElem?_eq_getElem hjf
      obtain ⟨ho, hk1⟩ := hone_of hone j _ hf1
      have h1 := hg j _ hf1
      rw [ho, hk1, one_cell (by omega), List.getElem?_eq_getElem (by omega)] at h1
      have hcell := hat j hjf
      rw [List.getElem?_eq_getElem (by omega)] at hcell
      refine ⟨_, ?_, Kd.read (hk j _ k hf1 hj) h1⟩
      rw [← Go.Deep.add_add]; exact hcell
    refine ⟨some a, len, cap, rfl, hl, (fun h => by cases h), fun i him => ?_⟩
    obtain ⟨b, o, sp⟩ := a
    obtain ⟨x0, h0, _⟩ := each 0 (by omega) 0 _ (List.getElem?_eq_getElem hpos)
    have hspot : sp = none := by simpa [Addr.add] using World.cell?_spot h0
    subst hspot
    rw [add_at] at h0
    refine ⟨b, o, rfl, World.block_lt_of_cell? _ _ h0, fun j k hj => ?_⟩
    obtain ⟨x, hx, hh⟩ := each i him j k hj
    rw [add_at] at hx
    exact ⟨x, by rw [Nat.add_assoc]; exact hx, hh⟩
end
theorem all_nums {fs : Array Field} (h : (fs.toList.all fun f => f.type == 3 || f.type == 2) = true) : ∀ (j : Nat) (f : Field), fs[j]? = some f → Tryd.prog.underlying f.type = some (.int .i64) := fun j f hf => by
  have h1 := List.all_eq_true.1 h f (by rw [Array.mem_toList_iff]; exact Array.mem_of_getElem? hf)
  simp only [Bool.or_eq_true, beq_iff_eq] at h1
  rcases h1 with h1 | h1 <;> rw [h1]
  · exact Tryd.underlying3
  · exact Tryd.underlying2
theorem list4 {xs : List Int} (h : xs.length = 4) : ∃ a b c d, xs = [a, b, c, d] := by
  match xs, h with
  | [a, b, c, d], _ => exact ⟨a, b, c, d, rfl⟩
theorem list7 {xs : List Int} (h : xs.length = 7) : ∃ a b c d e f g, xs = [a, b, c, d, e, f, g] := by
  match xs, h with
  | [a, b, c, d, e, f, g], _ => exact ⟨a, b, c, d, e, f, g, rfl⟩
end Go.Proofs.YtcniahbliadgiaaDoor

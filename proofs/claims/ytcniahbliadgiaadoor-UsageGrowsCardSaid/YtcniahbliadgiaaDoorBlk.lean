/-
  Blocks that hold one row: stored whole, read whole.
-/
import Derived.Test.YtcniahbliadgiaaDoorTreeA
import Derived.Laws.ResultCell
import Derived.Laws.Rows
import Derived.Laws.Tables
import Derived.Laws.CopyOwn
namespace Go.Proofs.YtcniahbliadgiaaDoor
open Go.RowKit
open Go.Proofs.PnKit Go.Proofs.PnPath

/-- a known block's cells -/
theorem blk_cell {w : World} {g : Nat} {cs : List Value} {t : TypeId} (h : w.heap[g]? = some (.cells cs.toArray t (0, 0))) {j : Nat} {v : Value} (hj : cs[j]? = some v) : w.cell? ⟨g, j, none⟩ = some v := by
  have e : w.cell? ⟨g, j, none⟩ = cs.toArray[j]? := cell_of_row _ _ _ _ _ _ h
  rw [e, List.getElem?_toArray]; exact hj
theorem blk_frozen {w : World} {g : Nat} {cs : Array Value} {t : TypeId} (h : w.heap[g]? = some (.cells cs t (0, 0))) (j : Nat) : w.frozen? ⟨g, j, none⟩ = false := by
  simp [World.frozen?, h]
theorem row_cells {w : World} {g : Nat} {t : TypeId} {path : ByteArray} {id kind mode size : Int} {made : Bool} (h : w.heap[g]? = some (.cells (Rw.cells ⟨path, id, kind, mode, size, made⟩).toArray t (0, 0))) :
    w.cell? ⟨g, 0, none⟩ = some (.string path) ∧ w.cell? ⟨g, 1, none⟩ = some (.int .i64 id) ∧ w.cell? ⟨g, 2, none⟩ = some (.int .i64 kind) ∧ w.cell? ⟨g, 3, none⟩ = some (.int .i64 mode) ∧ w.cell? ⟨g, 4, none⟩ = some (.int .i64 0) ∧ w.cell? ⟨g, 5, none⟩ = some (.int .i64 0) ∧ w.cell? ⟨g, 6, none⟩ = some (.int .i64 0) ∧ w.cell? ⟨g, 7, none⟩ = some (.string nos) ∧ w.cell? ⟨g, 8, none⟩ = some (.string nos) ∧ w.cell? ⟨g, 9, none⟩ = some (.string nos) ∧ w.cell? ⟨g, 10, none⟩ = some (.slice none 0 0) ∧ w.cell? ⟨g, 11, none⟩ = some (.int .i64 size) ∧ w.cell? ⟨g, 12, none⟩ = some (.bool made) :=
  ⟨blk_cell h (j := 0) rfl, blk_cell h (j := 1) rfl, blk_cell h (j := 2) rfl, blk_cell h (j := 3) rfl, blk_cell h (j := 4) rfl, blk_cell h (j := 5) rfl, blk_cell h (j := 6) rfl, blk_cell h (j := 7) rfl, blk_cell h (j := 8) rfl, blk_cell h (j := 9) rfl, blk_cell h (j := 10) rfl, blk_cell h (j := 11) rfl, blk_cell h (j := 12) rfl⟩

theorem setCells_row (g : Nat) (t : TypeId) : ∀ (vs : List Value) (o : Nat) (c : Array Value) (w : World), w.heap[g]? = some (.cells c t (0, 0)) → o + vs.length ≤ c.size →
    w.setCells g o vs = w.setRow g (c.toList.take o ++ vs ++ c.toList.drop (o + vs.length)).toArray
  | [], o, c, w, hg, _ => by
    rw [World.setCells]
    simp only [List.append_nil, List.length_nil, Nat.add_zero, List.take_append_drop, Array.toArray_toList]
    rw [setRow_self w g c t (0, 0) hg]
  | v :: rest, o, c, w, hg, hl => by
    have e := setCell_eq_setRow w g o c t (0, 0) v hg
    have ih := setCells_row g t rest (o + 1) (c.setIfInBounds o v) (w.setRow g (c.setIfInBounds o v)) (setRow_heap w g c _ t _ hg) (by simp at hl ⊢; omega)
    rw [World.setCells, e, ih, setRow_setRow]
    congr 2
    have h := list_seg_step c.toList o v rest (by simp at hl ⊢; omega)
    simpa [Array.toList_setIfInBounds] using h
/-- thirteen stores are one -/
theorem set13 {w : World} {g : Nat} {t : TypeId} {old : Array Value} (hg : w.heap[g]? = some (.cells old t (0, 0))) (hs : old.size = 13) (v0 v1 v2 v3 v4 v5 v6 v7 v8 v9 v10 v11 v12 : Value) :
    ((((((((((((w.setCell ⟨g, 0, none⟩ v0).setCell ⟨g, 1, none⟩ v1).setCell ⟨g, 2, none⟩ v2).setCell ⟨g, 3, none⟩ v3).setCell ⟨g, 4, none⟩ v4).setCell ⟨g, 5, none⟩ v5).setCell ⟨g, 6, none⟩ v6).setCell ⟨g, 7, none⟩ v7).setCell ⟨g, 8, none⟩ v8).setCell ⟨g, 9, none⟩ v9).setCell ⟨g, 10, none⟩ v10).setCell ⟨g, 11, none⟩ v11).setCell ⟨g, 12, none⟩ v12 = w.setRow g #[v0, v1, v2, v3, v4, v5, v6, v7, v8, v9, v10, v11, v12] := by
  have h := setCells_row g t [v0, v1, v2, v3, v4, v5, v6, v7, v8, v9, v10, v11, v12] 0 old w hg (by rw [hs]; exact Nat.le_refl 13)
  have e : old.toList.drop 13 = [] := List.drop_eq_nil_of_le (by rw [Array.length_toList, hs]; exact Nat.le_refl _)
  simp only [List.take_zero, List.nil_append, List.length_cons, List.length_nil, Nat.zero_add, Nat.reduceAdd] at h
  rw [e, List.append_nil] at h
  exact h

/-- a result that lies in a block of its own, and one beside it -/
theorem results_row_tmp {P : Program} {fn : Func} {p u : Tmp} {ty : TypeId} (h : fn.results = #[.cell p ty, .tmp u]) (tmps : Array Value) (w : World) (g : Nat) (t : TypeId) (cs : Array Value) (fr : Nat × Nat) (d : TypeDesc)
    (hp : tmps.getD p undef = .pointer (some ⟨g, 0, none⟩)) (hg : w.heap[g]? = some (.cells cs t fr))
    (hu : P.underlying ty = some d) (hd : (match d with | .struct _ | .array _ _ => true | _ => false) = true) (hi : (P.info? ty).map (·.size) = some cs.size) :
    (results fn tmps).run P w = .ok (.tuple #[.agg cs, tmps.getD u undef]) w := by
  rw [results_cell_tmp h, hp]
  simp [asAddr, run_loadVar_row w g t ty cs fr d hg hu hd hi]

end Go.Proofs.YtcniahbliadgiaaDoor

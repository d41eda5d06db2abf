/-
  slices.Insert at a tree's rows: one row; no room.
-/
import Derived.Test.YtcniahbliadgiaaDoorInsB
import Derived.Laws.CopyOwn
namespace Go.Proofs.YtcniahbliadgiaaDoor
open Go.RowKit
open Go.Proofs.PnKit Go.Proofs.PnPath

/-- the new row's cells: behind the append, behind the first copy, behind the second one -/
def rowA (F : List Value) (i n G : Nat) : Array Value := (F.take (i * 13)).toArray ++ Builtin.zeroCells zrow.val.cells (n + 1 - i) ++ Builtin.zeroCells zrow.val.cells (G - (n + 1))
theorem rowA_size {F : List Value} {i n G : Nat} (hF : F.length = n * 13) (hi : i ≤ n) (hG : n + 1 ≤ G) : (rowA F i n G).size = G * 13 := by
  have h1 : zrow.val.cells.size = 13 := rfl
  simp only [rowA, Array.size_append, List.size_toArray, List.length_take, hF, size_zeroCells, h1]
  omega
def rowB (F R : List Value) (i n G : Nat) : List Value := (rowA F i n G).toList.take (i * 13) ++ R ++ (rowA F i n G).toList.drop (i * 13 + R.length)
def rowC (F R : List Value) (i n G : Nat) : List Value := (rowB F R i n G).take ((i + 1) * 13) ++ F.drop (i * 13) ++ (rowB F R i n G).drop ((i + 1) * 13 + (F.drop (i * 13)).length)
theorem rowB_len {F R : List Value} {i n G : Nat} (hF : F.length = n * 13) (hi : i < n) (hG : n + 1 ≤ G) (hR : R.length = 13) : (rowB F R i n G).length = G * 13 := by
  have h : (rowA F i n G).toList.length = G * 13 := by rw [Array.length_toList, rowA_size hF (by omega) hG]
  simp only [rowB, List.length_append, List.length_take, List.length_drop, h, hR]; omega
theorem rowC_len {F R : List Value} {i n G : Nat} (hF : F.length = n * 13) (hi : i < n) (hG : n + 1 ≤ G) (hR : R.length = 13) : (rowC F R i n G).length = G * 13 := by
  have h := rowB_len hF hi hG hR
  simp only [rowC, List.length_append, List.length_take, List.length_drop, h, hF]; omega
theorem rowC_take {F R : List Value} {i n G : Nat} (hF : F.length = n * 13) (hi : i < n) (hG : n + 1 ≤ G) (hR : R.length = 13) :
    (rowC F R i n G).take ((n + 1) * 13) = F.take (i * 13) ++ (R ++ F.drop (i * 13)) := by
  have ha : (rowA F i n G).toList.length = G * 13 := by rw [Array.length_toList, rowA_size hF (by omega) hG]
  have hb := rowB_len hF hi hG hR
  have h1 : (rowA F i n G).toList.take (i * 13) = F.take (i * 13) := by
    simp only [rowA, Array.toList_append, List.append_assoc]
    rw [List.take_left' (by rw [List.length_take]; omega)]
  have h2 : (rowB F R i n G).take ((i + 1) * 13) = F.take (i * 13) ++ R := by
    rw [rowB, h1, List.take_left' (by rw [List.length_append, List.length_take, hR]; omega)]
  have h3 : (F.take (i * 13) ++ R ++ F.drop (i * 13)).length = (n + 1) * 13 := by
    simp only [List.length_append, List.length_take, List.length_drop, hR, hF]; omega
  rw [rowC, h2, List.take_left' h3, List.append_assoc]

set_option maxRecDepth 100000 in
set_option maxHeartbeats 4000000 in
theorem insert_grow (g cap : Nat) (cur : Array Value) (L : List Rw) (r : Rw) (i vb : Nat) (w : World) (hi : i < L.length) (hl : L.length ≤ 100000)
    (hg : w.heap[g]? = some (.cells cur 44 (0, 0))) (hc : L.length ≤ cap) (hroom : cap < L.length + 1) (ht : cur.toList.take (L.length * 13) = flat L)
    (hvb : w.heap[vb]? = some (.cells r.cells.toArray 44 (0, 0))) :
    Calls Tryd.prog 61 #[.slice (some ⟨g, 0, none⟩) (List.length L) cap, .int .i64 i, .slice (some ⟨vb, 0, none⟩) 1 1] w fun e w' =>
      ∃ G : Nat, e = .returned (.slice (some ⟨w.heap.size, 0, none⟩) (L.length + 1) G) ∧ L.length + 1 ≤ G ∧ G ≤ maxLen ∧
        w'.heap[w.heap.size]? = some (.cells (rowC (flat L) r.cells i L.length G).toArray 44 (0, 0)) ∧ Below w.heap.size w w' := by
  obtain ⟨i0, hi0, hz0, hzs, hzb⟩ := info_parts info_row
  have hsz : (Tryd.prog.info? 44).map (·.size) = some 13 := by kernel_rfl
  have hfl : (flat L).length = L.length * 13 := flat_length L
  have hgw : g < w.heap.size := (Array.getElem?_eq_some_iff.1 hg).1
  have hvw : vb < w.heap.size := (Array.getElem?_eq_some_iff.1 hvb).1
  have hcell : ∀ j u, (flat L)[j]? = some u → w.cell? ⟨g, j, none⟩ = some u := fun j u hu => by
    have e : w.cell? ⟨g, j, none⟩ = cur[j]? := cell_of_row _ _ _ _ _ _ hg
    rw [e, ← Array.getElem?_toList]
    rw [← ht, List.getElem?_take] at hu
    split at hu
    · exact hu
    · cases hu
  have hold : (Builtin.firstCells i0.size i (.slice (some ⟨g, 0, none⟩) i cap)).run Tryd.prog w.drew = .ok ((flat L).take (i * 13)).toArray w.drew := by
    rw [hzs]
    exact run_firstCells_some w.drew 13 i ⟨g, 0, none⟩ i cap _ (by rw [List.length_take, hfl]; omega) (fun j v hj => by
      rw [add_at, Nat.zero_add]
      rw [List.getElem?_take] at hj
      split at hj
      · exact hcell j v hj
      · cases hj)
  have hik : i + (L.length + 1 - i) = L.length + 1 := by omega
  have hkk : (L.length : Int) + 1 - (i : Int) = ((L.length + 1 - i : Nat) : Int) := by omega
  obtain ⟨G, hG⟩ : ∃ G, G = grownCap w (L.length + 1) cap 44 := ⟨_, rfl⟩
  have hrz : ∀ ty, (Builtin.append_ #[33, 3] ty #[.slice (some ⟨g, 0, none⟩) i cap, .int .i64 ((L.length : Int) + 1 - (i : Int))]).run Tryd.prog w =
      .ok (.slice (some ⟨w.heap.size, 0, none⟩) (L.length + 1) G) (w.drew.alloc (.cells (rowA (flat L) i L.length G) 44)) := fun ty => by
    have h := Lib.run_append_grow_zeros w 33 3 ty 44 i0 _ .i64 .i64 Tryd.underlying33 Tryd.underlying3 hi0 hz0 (some ⟨g, 0, none⟩) i cap ((flat L).take (i * 13)) hold (L.length + 1 - i) (by omega) (by omega) (by omega) (by omega) (by rw [hzb]; omega) (by rw [hzb, hik]; exact growslice_fits hroom (by omega))
    rw [hik, ← hG] at h
    rw [hkk]
    exact h
  have hGn : L.length + 1 ≤ G := by rw [hG]; exact grownCap_ge w _ _ _
  have hGm : G ≤ maxLen := by rw [hG]; exact grownCap_le_maxLen w _ _ _ (by unfold maxLen; omega)
  have hG63 : G ≤ 9223372036854775807 := by unfold maxLen at hGm; omega
  have hcpA : ∀ (W : World), W.heap = (w.alloc (.cells (rowA (flat L) i L.length G) 44)).heap → ∀ ty dc, (Builtin.copy_ #[33, 33] ty #[.slice (some ⟨w.heap.size, i * 13, none⟩) (L.length + 1 - i) dc, .slice (some ⟨vb, 0, none⟩) 1 1]).run Tryd.prog W = .ok (goInt 1) (W.setRow w.heap.size (rowB (flat L) r.cells i L.length G).toArray) := fun W hW ty dc => by
    have hmin : Nat.min 1 (L.length + 1 - i) = 1 := by simp only [Nat.min_def]; split <;> omega
    have hN : W.heap[w.heap.size]? = some (.cells (rowA (flat L) i L.length G) 44 (0, 0)) := by rw [hW]; exact heap_alloc_new w _
    have hV : W.heap[vb]? = some (.cells r.cells.toArray 44 (0, 0)) := by rw [hW, Below.heap_alloc w _ vb hvw]; exact hvb
    have h := run_copy_rowK (P := Tryd.prog) W 33 33 ty 44 13 w.heap.size (i * 13) (L.length + 1 - i) dc ⟨vb, 0, none⟩ 1 1 _ _ r.cells Tryd.underlying33 hsz hN (by rw [hmin]; rfl)
      (fun j v hj => by
        rw [add_at, Nat.zero_add]
        have e : W.cell? ⟨vb, j, none⟩ = r.cells.toArray[j]? := cell_of_row _ _ _ _ _ _ hV
        rw [e, List.getElem?_toArray]; exact hj) (by rw [rowA_size hfl (by omega) hGn, r.len]; omega) (cells_one r)
    rw [hmin] at h
    exact h
  have hcpB : ∀ (W : World), W.heap = ((w.alloc (.cells (rowA (flat L) i L.length G) 44)).setRow w.heap.size (rowB (flat L) r.cells i L.length G).toArray).heap → ∀ ty dc sc, (Builtin.copy_ #[33, 33] ty #[.slice (some ⟨w.heap.size, (i + 1) * 13, none⟩) (L.length - i) dc, .slice (some ⟨g, i * 13, none⟩) (L.length - i) sc]).run Tryd.prog W = .ok (goInt (L.length - i : Nat)) (W.setRow w.heap.size (rowC (flat L) r.cells i L.length G).toArray) := fun W hW ty dc sc => by
    have hdl : ((flat L).drop (i * 13)).length = (L.length - i) * 13 := by rw [List.length_drop, hfl]; omega
    have hmin : Nat.min (L.length - i) (L.length - i) = L.length - i := by simp only [Nat.min_def]; split <;> omega
    have hN : W.heap[w.heap.size]? = some (.cells (rowB (flat L) r.cells i L.length G).toArray 44 (0, 0)) := by rw [hW]; exact setRow_heap _ _ _ _ _ _ (heap_alloc_new w _)
    have hO : ∀ j, W.cell? ⟨g, j, none⟩ = w.cell? ⟨g, j, none⟩ := fun j => by
      apply World.cell?_of_block
      rw [hW]
      unfold World.setRow
      simp only [Array.getElem?_modify]
      rw [if_neg (by omega)]
      exact Below.heap_alloc w _ g hgw
    have h := run_copy_rowK (P := Tryd.prog) W 33 33 ty 44 13 w.heap.size ((i + 1) * 13) (L.length - i) dc ⟨g, i * 13, none⟩ (L.length - i) sc _ _ ((flat L).drop (i * 13)) Tryd.underlying33 hsz hN (by rw [hdl, hmin])
      (fun j v hj => by rw [add_at, hO]; exact hcell _ v (by rwa [List.getElem?_drop] at hj)) (by rw [List.size_toArray, rowB_len hfl hi hGn r.len, hdl]; omega) (fun v hv => flat_one L v (List.mem_of_mem_drop hv))
    rw [hmin] at h
    exact h
  have mixed : Tryd.prog.follows Departure.mixedOrders = true := by kernel_rfl
  have hw1 : IntKind.i64.wrap ((i : Int) + 1) = (i : Int) + 1 := by rw [IntKind.wrap_i64]; omega
  have hb1 : (0 : Int) ≤ (i : Int) + 1 := by omega
  have hin : i ≤ L.length := by omega
  have hb3 : (i : Int) ≤ (L.length : Int) := by omega
  have hb5 : (i : Int) ≤ (L.length : Int) + 1 := by omega
  have htn : ((i : Int) + 1).toNat = i + 1 := by omega
  have hGi : ¬ (G = i) := by omega
  have hGim : ¬ (G = i + 1) := by omega
  have hci : ¬ (cap = i) := by omega
  have hz3 : (cap : Int) < (L.length : Int) + 1 := by omega
  have hz2 : ¬ ((i : Int) = (L.length : Int)) := by omega
  clear hkk hik hold hcell hG
  have hA := hcpA ((w.alloc (.cells (rowA (flat L) i L.length G) 44)).drew) rfl
  clear hcpA
  go_enter Tryd.func61, Tryd.ntmps61
  go_wp2_with (first
    | (at_builtin; refine Lib.wpList_append_run _ rfl _ _ _ _ rfl _ _ rfl rfl _ _ (hrz _) ?_))
  go_region_law_o (refine step_copy_runI rfl _ _ 33 33 rfl (.slice (some ⟨w.heap.size, (i + 1) * 13, none⟩) (L.length - i) (G - (i + 1))) (.slice (some ⟨g, i * 13, none⟩) (L.length - i) (cap - i)) (by simp [Act.eval, Act.put]) (by simp [Act.eval, Act.put]) (hcpB _ (by rfl) 3 (G - (i + 1)) (cap - i)) ?_)
  go_wp2
  go_ret
  refine ⟨G, rfl, hGn, hGm, ?_, ?_⟩
  · refine setRow_heap _ _ _ _ _ _ (setRow_heap _ _ _ _ _ _ (heap_alloc_new w _))
  · exact below_setRow (below_setRow ((Below.refl _ w).alloc (Nat.le_refl _) _).drew (Nat.le_refl _) _).drew (Nat.le_refl _) _

end Go.Proofs.YtcniahbliadgiaaDoor

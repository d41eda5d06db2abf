/-
  slices.Insert at a tree's rows: one row.
-/
import Derived.Test.YtcniahbliadgiaaDoorIns
namespace Go.Proofs.YtcniahbliadgiaaDoor
open Go.RowKit
open Go.Proofs.PnKit Go.Proofs.PnPath

def shift1 (C F : List Value) (i : Nat) : List Value := C.take ((i + 1) * 13) ++ F.drop (i * 13) ++ C.drop ((i + 1) * 13 + (F.drop (i * 13)).length)
theorem shift1_len {C F : List Value} {n i : Nat} (hF : C.take (n * 13) = F) (hi : i < n) (hC : (n + 1) * 13 ≤ C.length) : (shift1 C F i).length = C.length := by
  have h : F.length = n * 13 := by rw [← hF, List.length_take]; omega
  simp only [shift1, List.length_append, List.length_take, List.length_drop, h]
  omega
theorem shift1_take {C F : List Value} {n i : Nat} (hF : C.take (n * 13) = F) (hi : i < n) (hC : (n + 1) * 13 ≤ C.length) : (shift1 C F i).take (i * 13) = F.take (i * 13) := by
  rw [shift1, List.append_assoc, List.take_append_of_le_length (by rw [List.length_take]; omega), List.take_take, ← hF, List.take_take]
  congr 1; omega
theorem shift1_drop {C F : List Value} {n i : Nat} (hF : C.take (n * 13) = F) (hi : i < n) (hC : (n + 1) * 13 ≤ C.length) : ((shift1 C F i).drop (i * 13 + 13)).take ((n - i) * 13) = F.drop (i * 13) := by
  have h : F.length = n * 13 := by rw [← hF, List.length_take]; omega
  have h1 : (C.take ((i + 1) * 13)).length = i * 13 + 13 := by rw [List.length_take]; omega
  rw [shift1, List.append_assoc, List.drop_left' h1, List.take_left' (by rw [List.length_drop, h]; omega)]
theorem shift2 {C F R : List Value} {n i : Nat} (hF : C.take (n * 13) = F) (hi : i < n) (hC : (n + 1) * 13 ≤ C.length) (hR : R.length = 13) :
    ((shift1 C F i).take (i * 13) ++ R ++ (shift1 C F i).drop (i * 13 + R.length)).take ((n + 1) * 13) = F.take (i * 13) ++ (R ++ F.drop (i * 13)) := by
  have h : F.length = n * 13 := by rw [← hF, List.length_take]; omega
  rw [hR, shift1_take hF hi hC, List.append_assoc, List.take_append, List.take_of_length_le (l := F.take (i * 13)) (by rw [List.length_take]; omega), List.take_append,
    List.take_of_length_le (l := R) (by rw [hR, List.length_take]; omega)]
  congr 2
  rw [← shift1_drop hF hi hC]
  congr 1
  rw [hR, List.length_take]; omega

set_option maxRecDepth 100000 in
set_option maxHeartbeats 4000000 in
/-- there is room, and it is not the end: in place -/
theorem insert_shift (g cap : Nat) (cur : Array Value) (L : List Rw) (r : Rw) (i vb : Nat) (w : World) (hi : i < L.length) (hl : L.length ≤ 100000)
    (hg : w.heap[g]? = some (.cells cur 44 (0, 0))) (hc : L.length + 1 ≤ cap) (hm : cap ≤ maxLen) (hs : cur.size = cap * 13) (ht : cur.toList.take (L.length * 13) = flat L)
    (hvb : w.heap[vb]? = some (.cells r.cells.toArray 44 (0, 0))) (hne : vb ≠ g) :
    Calls Tryd.prog 61 #[.slice (some ⟨g, 0, none⟩) (List.length L) cap, .int .i64 i, .slice (some ⟨vb, 0, none⟩) 1 1] w fun e w' =>
      e = .returned (.slice (some ⟨g, 0, none⟩) (L.length + 1) cap) ∧ ∃ cur' : Array Value, w' = w.drew.setRow g cur' ∧ cur'.size = cap * 13 ∧ cur'.toList.take ((L.length + 1) * 13) = flat (L.take i ++ r :: L.drop i) := by
  have hsz : (Tryd.prog.info? 44).map (·.size) = some 13 := by kernel_rfl
  have hcap63 : cap ≤ 9223372036854775807 := by unfold maxLen at hm; omega
  have hsa : w.shape? vb = some (44, 13) := by simp [World.shape?, hvb, Rw.len]
  have hsb : w.shape? g = some (44, cap * 13) := by simp [World.shape?, hg, hs]
  have hfa : w.frozen? ⟨vb, 0, none⟩ = false := by simp [World.frozen?, hvb]
  have hfe : w.frozen? ⟨vb, 13, none⟩ = false := by simp [World.frozen?, hvb]
  have hov : ∀ lb cb, (callFunc 74 #[.slice (some ⟨vb, 0, none⟩) 1 1, .slice (some ⟨g, (i + 1) * 13, none⟩) lb cb]).run Tryd.prog w = .ok (.value (.bool false)) w := fun lb cb => by
    rw [run_callFunc_extern Tryd.func74 (by kernel_rfl) (by kernel_rfl) (by kernel_rfl) (e := Extern.SlicesOverlaps.overlaps #[33, 33] #[4]) (by kernel_rfl),
      Lib.run_overlaps_apart w 33 4 44 Tryd.underlying33 13 row_size ⟨vb, 0, none⟩ ⟨g, (i + 1) * 13, none⟩ 1 1 lb cb hne _ _ _ _ hsa hsb (by omega) hfa hfe]
    rfl
  have hF : cur.toList.take (L.length * 13) = flat L := ht
  have hC : (L.length + 1) * 13 ≤ cur.toList.length := by
    have e : cur.toList.length = cur.size := Array.length_toList
    omega
  have hfl : (flat L).length = L.length * 13 := flat_length L
  have hdl : ((flat L).drop (i * 13)).length = (L.length - i) * 13 := by rw [List.length_drop, hfl]; omega
  have hcell : ∀ j u, (flat L)[j]? = some u → w.cell? ⟨g, j, none⟩ = some u := fun j u hu => by
    have e : w.cell? ⟨g, j, none⟩ = cur[j]? := cell_of_row _ _ _ _ _ _ hg
    rw [e, ← Array.getElem?_toList]
    rw [← hF, List.getElem?_take] at hu
    split at hu
    · exact hu
    · cases hu
  have hcp1 : ∀ ty dc sc, (Builtin.copy_ #[33, 33] ty #[.slice (some ⟨g, (i + 1) * 13, none⟩) (L.length - i) dc, .slice (some ⟨g, i * 13, none⟩) (L.length + 1 - i) sc]).run Tryd.prog w.drew = .ok (goInt (L.length - i : Nat)) (w.drew.setRow g (shift1 cur.toList (flat L) i).toArray) := fun ty dc sc => by
    have hmin : Nat.min (L.length + 1 - i) (L.length - i) = L.length - i := by simp only [Nat.min_def]; split <;> omega
    have h := run_copy_rowK (P := Tryd.prog) w.drew 33 33 ty 44 13 g ((i + 1) * 13) (L.length - i) dc ⟨g, i * 13, none⟩ (L.length + 1 - i) sc cur _ ((flat L).drop (i * 13)) Tryd.underlying33 hsz hg (by rw [hdl, hmin])
      (fun j v hj => by rw [add_at]; exact hcell _ v (by rwa [List.getElem?_drop] at hj)) (by
        have e : cur.toList.length = cur.size := Array.length_toList
        rw [hdl]; omega) (fun v hv => flat_one L v (List.mem_of_mem_drop hv))
    rw [hmin] at h
    exact h
  obtain ⟨W1, hW1⟩ : ∃ W1, W1 = w.drew.setRow g (shift1 cur.toList (flat L) i).toArray := ⟨_, rfl⟩
  rw [← hW1] at hcp1
  have hg1 : W1.heap[g]? = some (.cells (shift1 cur.toList (flat L) i).toArray 44 (0, 0)) := by rw [hW1]; exact setRow_heap w.drew g cur _ _ _ hg
  have hvb1 : W1.heap[vb]? = some (.cells r.cells.toArray 44 (0, 0)) := by
    rw [hW1]
    have : (w.drew.setRow g (shift1 cur.toList (flat L) i).toArray).heap[vb]? = w.drew.heap[vb]? := by
      unfold World.setRow
      simp only [Array.getElem?_modify]
      rw [if_neg (fun h => hne h.symm)]
    rw [this]; exact hvb
  have hcp2 : ∀ ty dc, (Builtin.copy_ #[33, 33] ty #[.slice (some ⟨g, i * 13, none⟩) (L.length + 1 - i) dc, .slice (some ⟨vb, 0, none⟩) 1 1]).run Tryd.prog W1 = .ok (goInt 1) (W1.setRow g ((shift1 cur.toList (flat L) i).take (i * 13) ++ r.cells ++ (shift1 cur.toList (flat L) i).drop (i * 13 + r.cells.length)).toArray) := fun ty dc => by
    have hmin : Nat.min 1 (L.length + 1 - i) = 1 := by simp only [Nat.min_def]; split <;> omega
    have hlen := shift1_len hF hi hC
    have h := run_copy_rowK (P := Tryd.prog) W1 33 33 ty 44 13 g (i * 13) (L.length + 1 - i) dc ⟨vb, 0, none⟩ 1 1 (shift1 cur.toList (flat L) i).toArray _ r.cells Tryd.underlying33 hsz hg1 (by rw [hmin]; rfl)
      (fun j v hj => by
        rw [add_at, Nat.zero_add]
        have e : W1.cell? ⟨vb, j, none⟩ = r.cells.toArray[j]? := cell_of_row _ _ _ _ _ _ hvb1
        rw [e, List.getElem?_toArray]; exact hj) (by rw [List.size_toArray, hlen, r.len]; omega) (cells_one r)
    rw [hmin] at h
    simpa using h
  have hend : ((shift1 cur.toList (flat L) i).take (i * 13) ++ r.cells ++ (shift1 cur.toList (flat L) i).drop (i * 13 + r.cells.length)).take ((L.length + 1) * 13) = flat (L.take i ++ r :: L.drop i) := by
    rw [shift2 hF hi hC r.len, flat_append, flat_cons, flat_take, flat_drop]
  have hendl : ((shift1 cur.toList (flat L) i).take (i * 13) ++ r.cells ++ (shift1 cur.toList (flat L) i).drop (i * 13 + r.cells.length)).length = cap * 13 := by
    have hlen := shift1_len hF hi hC
    have e : cur.toList.length = cur.size := Array.length_toList
    rw [List.length_append, List.length_append, List.length_take, List.length_drop, hlen, r.len]; omega
  obtain ⟨C2, hC2⟩ : ∃ C2, C2 = (shift1 cur.toList (flat L) i).take (i * 13) ++ r.cells ++ (shift1 cur.toList (flat L) i).drop (i * 13 + r.cells.length) := ⟨_, rfl⟩
  rw [← hC2] at hcp2 hend hendl
  have HE : Hid (W1.setRow g C2.toArray = w.drew.setRow g C2.toArray) := by show _ = _; rw [hW1, setRow_setRow]
  have HEND := Lib.hid hend
  have HENDL := Lib.hid hendl
  have mixed : Tryd.prog.follows Departure.mixedOrders = true := by kernel_rfl
  have hw1 : IntKind.i64.wrap ((i : Int) + 1) = (i : Int) + 1 := by rw [IntKind.wrap_i64]; omega
  have hb1 : (0 : Int) ≤ (i : Int) + 1 := by omega
  have hb3 : (i : Int) ≤ (L.length : Int) := by omega
  have hb5 : (i : Int) ≤ (L.length : Int) + 1 := by omega
  have htn : ((i : Int) + 1).toNat = i + 1 := by omega
  have hb2 : ¬ (cap = i + 1) := by omega
  have hb4 : ¬ (cap = i) := by omega
  clear hend hendl hC2 hg1 hvb1 hW1 hcell hC hF hdl hfl
  go_enter Tryd.func61, Tryd.ntmps61
  go_wp2_with (simp only [hov])
  go_region_law_o (refine step_copy_runI rfl _ _ 33 33 rfl _ _ (by simp [Act.eval, Act.put]) (by simp [Act.eval, Act.put]) (hcp1 _ _ _) ?_)
  go_wp2_with (at_builtin; refine wpList_copy_runI _ rfl _ _ 33 33 rfl _ _ rfl rfl (hcp2 _ _) ?_)
  go_ret
  exact ⟨rfl, C2.toArray, HE.out, by rw [List.size_toArray]; exact HENDL.out, HEND.out⟩

end Go.Proofs.YtcniahbliadgiaaDoor

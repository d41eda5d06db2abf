/-
  Walks of package tree: Put.
-/
import Derived.Test.YtcniahbliadgiaaDoorTreeB
namespace Go.Proofs.YtcniahbliadgiaaDoor
open Go.RowKit
open Go.Proofs.PnKit Go.Proofs.PnPath

theorem heap_setRow_ne (w : World) (g k : Nat) (c : Array Value) (h : k ≠ g) : (w.setRow g c).heap[k]? = w.heap[k]? := by
  unfold World.setRow
  simp only [Array.getElem?_modify]
  rw [if_neg (fun e => h e.symm)]
theorem setCell_size (w : World) (a : Addr) (v : Value) : (w.setCell a v).heap.size = w.heap.size := by simp
theorem ownsRow_setRow_below {w : World} {base : Nat} {e : TypeId} {size : Nat} {v : Value} {n : Nat} {xs : List Value} (h : w.ownsRow base e size v n xs) {k : Nat} (hk : k < base) (c : Array Value) : (w.setRow k c).ownsRow base e size v n xs := by
  obtain ⟨h1, h2⟩ := h
  refine ⟨h1, ?_⟩
  rcases h2 with h2 | ⟨g, cap, cur, hv, hg, hh, r⟩
  · exact Or.inl h2
  · exact Or.inr ⟨g, cap, cur, hv, hg, by rw [heap_setRow_ne _ _ _ _ (by omega)]; exact hh, r⟩
/-- one row of the call's own, written over -/
theorem own_set {cur : Array Value} {cap n k : Nat} {L : List Rw} {r : Rw} (hn : L.length = n) (ht : cur.toList.take (n * 13) = flat L) (hs : cur.size = cap * 13) (hc : n ≤ cap) (hk : k < n) :
    (cur.toList.take (k * 13) ++ r.cells ++ cur.toList.drop (k * 13 + r.cells.length)).toArray.size = cap * 13 ∧ (cur.toList.take (k * 13) ++ r.cells ++ cur.toList.drop (k * 13 + r.cells.length)).toArray.toList.take (n * 13) = flat (L.set k r) := by
  have hl : cur.toList.length = cap * 13 := by rw [Array.length_toList, hs]
  constructor
  · rw [List.size_toArray]
    simp only [List.length_append, List.length_take, List.length_drop, hl, r.len]; omega
  · show (cur.toList.take (k * 13) ++ r.cells ++ cur.toList.drop (k * 13 + r.cells.length)).take (n * 13) = _
    have h1 : L.set k r = L.take k ++ r :: L.drop (k + 1) := by
      rw [List.set_eq_take_append_cons_drop, if_pos (by omega)]
    rw [h1, flat_append, flat_cons, flat_take, flat_drop, ← ht, r.len, List.take_take, List.append_assoc, List.take_append, List.length_take, List.take_append, r.len,
      List.take_of_length_le (l := cur.toList.take (k * 13)) (by rw [List.length_take]; omega), List.take_of_length_le (l := r.cells) (by rw [r.len]; omega)]
    rw [show min (k * 13) (n * 13) = k * 13 by omega]
    congr 2
    rw [List.drop_take, show (k + 1) * 13 = k * 13 + 13 by omega]
    congr 1; omega

set_option maxRecDepth 100000 in
set_option maxHeartbeats 4000000 in
theorem put_any (A : Option Addr) (c : Nat) (L : List Rw) (next : Int) (r : Rw) (w : World) (hE : Env w) (hR : RT w A c L) (hO : OkT L) (ht : r.path.size ≤ 100000) (hl : L.length ≤ 50000) :
    Calls Tryd.prog 47 #[.agg #[.slice A (List.length L) c, .int .i64 next], r.val] w fun e w' =>
      ∃ A' c', e = .returned (.agg #[.slice A' (putR L r).length c', .int .i64 next]) ∧ RT w' A' c' (putR L r) ∧ (∀ a, A' = some a → w.heap.size ≤ a.block) ∧ Below w.heap.size w w' := by
  have P := Lib.hid (fun (w : World) (hE : Env w) (hR : RT w A c L) => search_any A c L r.path w hE hR hO.sorted (fun x hx => by have := hO.psize x hx; omega) ht (by omega))
  have C := Lib.hid (fun (w : World) (hR : RT w A c L) => clone_any A c L w hR (by omega))
  have HR := Lib.hid hR
  have HS := Lib.hid hO.sorted
  clear hR hO
  obtain ⟨path, id, kind, mode, size, made⟩ := r
  show Calls Tryd.prog 47 #[.agg #[.slice A (List.length L) c, .int .i64 next], .agg #[.string path, .int .i64 id, .int .i64 kind, .int .i64 mode, .int .i64 0, .int .i64 0, .int .i64 0, .string nos, .string nos, .string nos, .slice none 0 0, .int .i64 size, .bool made]] w _
  go_enter Tryd.func47, Tryd.ntmps47
  go_wp2_with fail
  have hal := fun o p q : Obj => (((Below.refl w.heap.size w).alloc (Nat.le_refl _) o).alloc (by simp) p).alloc (by simp; omega) q
  refine (P.out _ (hE.below (hal _ _ _)) (HR.out.below (hal _ _ _))).mono ?_
  rintro e w1 ⟨k, b, rfl, hF, hb⟩
  have hB1 := bch (hal _ _ _) hb
  have HPUT := Lib.hid (putR_found (r := ⟨path, id, kind, mode, size, made⟩) hF)
  have HF := Lib.hid hF
  have b0 : w1.heap[w.heap.size]? = some (.cells [.slice A (List.length L) c, .int .i64 next].toArray 35 (0, 0)) := by
    rw [hb.block _ (by simp; omega), Below.heap_alloc _ _ _ (by simp; omega), Below.heap_alloc _ _ _ (by simp)]
    exact heap_alloc_new w _
  have b1 : w1.heap[w.heap.size + 1]? = some (.cells (Rw.cells ⟨path, id, kind, mode, size, made⟩).toArray 44 (0, 0)) := by
    rw [hb.block _ (by simp), Below.heap_alloc _ _ _ (by simp)]
    exact heap_alloc2_new w _ _
  have b2 : w1.heap[w.heap.size + 1 + 1]? = some (.cells [.slice none 0 0, .int .i64 0].toArray 35 (0, 0)) := by
    rw [hb.block _ (by simp)]
    have h := heap_alloc_new ((w.alloc (.cells #[.slice A (List.length L) c, .int .i64 next] 35)).alloc (.cells (Rw.cells ⟨path, id, kind, mode, size, made⟩).toArray 44)) (.cells [.slice none 0 0, .int .i64 0].toArray 35)
    have e : ((w.alloc (.cells #[.slice A (List.length L) c, .int .i64 next] 35)).alloc (.cells (Rw.cells ⟨path, id, kind, mode, size, made⟩).toArray 44)).heap.size = w.heap.size + 1 + 1 := by simp
    rw [e] at h
    exact h
  have hn1 : w.heap.size + 1 + 1 < w1.heap.size := (Array.getElem?_eq_some_iff.1 b2).1
  have c0 := blk_cell b0 (j := 0) rfl
  have HRl := HR.out.below hB1
  clear hF hb P
  go_wp2_with fail
  refine (C.out _ HRl).mono ?_
  rintro e w2 ⟨v', rfl, hown, hb2⟩
  rw [← hb2.block _ (by omega)] at b0 b1 b2
  have hB2 := bch hB1 hb2
  have hn2 := hb2.size
  have d0 := blk_cell b0 (j := 0) rfl
  have d1 := blk_cell b0 (j := 1) rfl
  obtain ⟨z0, z1, z2, z3, z4, z5, z6, z7, z8, z9, z10, z11, z12⟩ := row_cells b1
  have y0 := blk_cell b2 (j := 0) rfl
  have y1 := blk_cell b2 (j := 1) rfl
  have f0 := blk_frozen b0
  have f2 := blk_frozen b2
  have B0 := Lib.hid b0
  have B2 := Lib.hid b2
  clear b0 b1 b2 c0 HRl C
  have HOWN := Lib.hid hown
  cases b with
  | true =>
    obtain ⟨x, hx, hx0⟩ := HF.out.hit.1 rfl
    have hk : k < L.length := (List.getElem?_eq_some_iff.1 hx).1
    rcases hown.2 with ⟨_, h0⟩ | ⟨g, cap, cur, rfl, hbg, hg, hc, hm, hs, htk⟩
    · omega
    obtain ⟨A', c', e', hRT⟩ := RT.of_own hown
    injection e' with e1 _ e2
    subst e1 e2
    obtain ⟨px, ix, kx, mx, sx, dx⟩ := x
    obtain ⟨q0, q1, q2, q3, q4, q5, q6, q7, q8, q9, q10, q11, q12⟩ := hRT.cells hx
    simp only [Nat.zero_add] at q0 q1 q2 q3 q4 q5 q6 q7 q8 q9 q10 q11 q12
    have fg := blk_frozen hg
    have HG := Lib.hid hg
    have HTK := Lib.hid htk
    clear hx hx0 hown hRT hg htk
    go_wp2_with fail
    clear q0 q1 q2 q3 q4 q5 q6 q7 q8 q9 q10 q11 q12 z0 z1 z2 z3 z4 z5 z6 z7 z8 z9 z10 z11 z12 d0 d1 y0 y1 f0 f2 fg
    have hY : (w2.setCell ⟨w.heap.size, 0, none⟩ (.slice (some ⟨g, 0, none⟩) L.length cap)).heap[g]? = some (.cells cur 44 (0, 0)) := by
      rw [Below.heap_setCell _ _ _ _ (by show g ≠ w.heap.size; omega)]; exact HG.out
    have e1 := setCells_row g _ (Rw.cells ⟨path, id, kind, mode, size, made⟩) (k * 13) cur _ hY (by rw [Rw.len, hs]; omega)
    obtain ⟨C2, hC2⟩ : ∃ C2, C2 = (cur.toList.take (k * 13) ++ Rw.cells ⟨path, id, kind, mode, size, made⟩ ++ cur.toList.drop (k * 13 + (Rw.cells ⟨path, id, kind, mode, size, made⟩).length)).toArray := ⟨_, rfl⟩
    have hown2 := own_set (r := ⟨path, id, kind, mode, size, made⟩) rfl HTK.out hs hc hk
    rw [← hC2] at e1 hown2
    have hX : ((w2.setCell ⟨w.heap.size, 0, none⟩ (.slice (some ⟨g, 0, none⟩) L.length cap)).setRow g C2).heap[w.heap.size + 1 + 1]? = some (.cells [.slice none 0 0, .int .i64 0].toArray 35 (0, 0)) := by
      rw [heap_setRow_ne _ _ _ _ (by omega), Below.heap_setCell _ _ _ _ (by show w.heap.size + 1 + 1 ≠ w.heap.size; omega)]
      exact B2.out
    have e2 := setCells_row (w.heap.size + 1 + 1) _ [.slice (some ⟨g, 0, none⟩) L.length cap, .int .i64 next] 0 _ _ hX (Nat.le_refl _)
    show bodyPost _ _ _ _ _ (((w2.setCell ⟨w.heap.size, 0, none⟩ (.slice (some ⟨g, 0, none⟩) L.length cap)).setCells g (k * 13) (Rw.cells ⟨path, id, kind, mode, size, made⟩)).setCells (w.heap.size + 1 + 1) 0 [.slice (some ⟨g, 0, none⟩) L.length cap, .int .i64 next])
    rw [e1, e2]
    have hlen : (putR L ⟨path, id, kind, mode, size, made⟩) = L.set k ⟨path, id, kind, mode, size, made⟩ := HPUT.out
    refine bodyPost_ret (results_cell_row rfl _ _ (w.heap.size + 1 + 1) _ #[.slice (some ⟨g, 0, none⟩) L.length cap, .int .i64 next] _ _ rfl (setRow_heap _ _ _ _ _ _ hX) Tryd.underlying35 rfl (by kernel_rfl)) rfl ?_
    have hfin : (((w2.setCell ⟨w.heap.size, 0, none⟩ (.slice (some ⟨g, 0, none⟩) L.length cap)).setRow g C2).setRow (w.heap.size + 1 + 1) #[.slice (some ⟨g, 0, none⟩) L.length cap, .int .i64 next]).ownsRow w1.heap.size 44 13 (.slice (some ⟨g, 0, none⟩) L.length cap) L.length (flat (L.set k ⟨path, id, kind, mode, size, made⟩)) :=
      ⟨by rw [flat_length, List.length_set], .inr ⟨g, cap, C2, rfl, hbg, by rw [heap_setRow_ne _ _ _ _ (by omega)]; exact setRow_heap _ _ _ _ _ _ hY, hc, hm, hown2.1, hown2.2⟩⟩
    have hll : L.length = (L.set k ⟨path, id, kind, mode, size, made⟩).length := by simp
    rw [hlen]
    rw [hll] at hfin
    obtain ⟨A', c', e', hRT⟩ := RT.of_own hfin
    injection e' with e3 _ e4
    subst e3 e4
    refine ⟨_, _, by rw [← hll], ?_, (fun a ha => by cases ha; show w.heap.size ≤ g; omega), below_setRow (below_setRow (Below.setCell hB2 (Nat.le_refl _) _) (by omega) _) (by omega) _⟩
    rw [← hll] at hRT
    exact hRT
  | false =>
    have hlt := hown.lt
    obtain ⟨A2, c2, rfl, hc2⟩ := own_form hown
    go_wp2_with fail
    have hW : ∀ o : Obj, ((w2.setCell ⟨w.heap.size, 0, none⟩ (.slice A2 L.length c2)).alloc o).ownsRow w1.heap.size 44 13 (.slice A2 L.length c2) L.length (flat L) := fun o =>
      (ownsRow_setCell_below HOWN.out (by show w.heap.size < w1.heap.size; omega) _).alloc o
    refine (insert_any _ L ⟨path, id, kind, mode, size, made⟩ k w1.heap.size w2.heap.size _ HF.out.le (by omega) (by simp; omega) (hW _) ?_ ?_).mono ?_
    · have h := heap_alloc_new (w2.setCell ⟨w.heap.size, 0, none⟩ (.slice A2 L.length c2)) (.cells (Rw.cells ⟨path, id, kind, mode, size, made⟩).toArray 44)
      rw [setCell_size] at h
      exact h
    · intro e
      have := (hlt _ e).2
      omega
    rintro e w5 ⟨v5, rfl, hown5, hb5⟩
    have k0 : w5.heap[w.heap.size]? = some (.cells [.slice A2 L.length c2, .int .i64 next].toArray 35 (0, 0)) := by
      rw [hb5.block _ (by omega), Below.heap_alloc _ _ _ (by rw [setCell_size]; omega), setCell_eq_setRow w2 w.heap.size 0 _ _ _ _ B0.out]
      exact setRow_heap _ _ _ _ _ _ B0.out
    have k2 : w5.heap[w.heap.size + 1 + 1]? = some (.cells [.slice none 0 0, .int .i64 0].toArray 35 (0, 0)) := by
      rw [hb5.block _ (by omega), Below.heap_alloc _ _ _ (by rw [setCell_size]; omega), Below.heap_setCell _ _ _ _ (by show w.heap.size + 1 + 1 ≠ w.heap.size; omega)]
      exact B2.out
    have hB5 : Below w.heap.size w w5 := (Below.alloc (Below.setCell hB2 (p := ⟨w.heap.size, 0, none⟩) (Nat.le_refl _) (.slice A2 L.length c2)) (by rw [setCell_size]; omega) _).trans (hb5.mono (by omega))
    have g0 := blk_cell k0 (j := 0) rfl
    have g1 := blk_cell k0 (j := 1) rfl
    have g2 := blk_cell k2 (j := 0) rfl
    have g3 := blk_cell k2 (j := 1) rfl
    have t0 := blk_frozen k0
    have t2 := blk_frozen k2
    have K2 := Lib.hid k2
    have hP : putR L ⟨path, id, kind, mode, size, made⟩ = L.take k ++ ⟨path, id, kind, mode, size, made⟩ :: L.drop k := HPUT.out
    rw [← hP] at hown5
    clear hP HPUT
    obtain ⟨M, hM⟩ : ∃ M, putR L ⟨path, id, kind, mode, size, made⟩ = M := ⟨_, rfl⟩
    rw [hM] at hown5
    have HM := Lib.hid hM
    clear hM
    have HO5 := Lib.hid hown5
    obtain ⟨A5, c5, rfl, hc5⟩ := own_form hown5
    clear k0 k2 d0 d1 z0 z1 z2 z3 z4 z5 z6 z7 z8 z9 z10 z11 z12 y0 y1 f0 f2 hW hb5 hown5 hown
    go_wp2_with fail
    have hY : (w5.setCell ⟨w.heap.size, 0, none⟩ (.slice A5 M.length c5)).heap[w.heap.size + 1 + 1]? = some (.cells [.slice none 0 0, .int .i64 0].toArray 35 (0, 0)) := by
      rw [Below.heap_setCell _ _ _ _ (by show w.heap.size + 1 + 1 ≠ w.heap.size; omega)]
      exact K2.out
    have e2 := setCells_row (w.heap.size + 1 + 1) _ [.slice A5 M.length c5, .int .i64 next] 0 _ _ hY (Nat.le_refl _)
    show bodyPost _ _ _ _ _ ((w5.setCell ⟨w.heap.size, 0, none⟩ (.slice A5 M.length c5)).setCells (w.heap.size + 1 + 1) 0 [.slice A5 M.length c5, .int .i64 next])
    rw [e2]
    refine bodyPost_ret (results_cell_row rfl _ _ (w.heap.size + 1 + 1) _ #[.slice A5 M.length c5, .int .i64 next] _ _ rfl (setRow_heap _ _ _ _ _ _ hY) Tryd.underlying35 rfl (by kernel_rfl)) rfl ?_
    have h1 : ((w5.setCell ⟨w.heap.size, 0, none⟩ (.slice A5 M.length c5)).setRow (w.heap.size + 1 + 1) #[.slice A5 M.length c5, .int .i64 next]).ownsRow w1.heap.size 44 13 (.slice A5 M.length c5) M.length (flat M) :=
      ownsRow_setRow_below (ownsRow_setCell_below HO5.out (by show w.heap.size < w1.heap.size; omega) _) (by omega) _
    obtain ⟨A', c', e', hRT⟩ := RT.of_own h1
    injection e' with e3 _ e4
    subst e3 e4
    rw [HM.out]
    exact ⟨_, _, rfl, hRT, (fun a ha => by have := (HO5.out.lt a.block (by rw [ha]; rfl)).1; omega), below_setRow (Below.setCell hB5 (Nat.le_refl _) _) (by omega) _⟩

end Go.Proofs.YtcniahbliadgiaaDoor

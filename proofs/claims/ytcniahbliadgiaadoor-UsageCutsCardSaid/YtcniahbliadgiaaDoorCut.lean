/-
  Walks of package tree: Cut.
-/
import Derived.Test.YtcniahbliadgiaaDoorDel
namespace Go.Proofs.YtcniahbliadgiaaDoor
open Go.RowKit
open Go.Proofs.PnKit Go.Proofs.PnPath

def cutV (L : List Rw) (s : ByteArray) : List Rw := L.filter fun r => !under (bl s) (bl r.path)
def cutE (L : List Rw) (s : ByteArray) : Int := if (look L (parts (bl s))).isNone ∧ bl s ≠ [] then 4 else 0
theorem rows_of_own {w : World} {base : Nat} {v : Value} {L : List Rw} (h : w.ownsRow base 44 13 v L.length (flat L)) :
    (v = .slice none 0 0 ∧ L = []) ∨ ∃ g cap cur, v = .slice (some ⟨g, 0, none⟩) L.length cap ∧ base ≤ g ∧ Rows w g cap cur L := by
  rcases h.2 with ⟨h1, h2⟩ | ⟨g, cap, cur, h1, hb, hg, hc, hm, hs, ht⟩
  · exact Or.inl ⟨h1, List.eq_nil_of_length_eq_zero h2⟩
  · exact Or.inr ⟨g, cap, cur, h1, hb, ⟨hg, hs, ht, hc, hm⟩⟩

set_option maxRecDepth 100000 in
set_option maxHeartbeats 1000000 in
theorem del_nil (gs : Nat) (s : ByteArray) (w : World) (hs : w.cell? ⟨gs, 0, none⟩ = some (.string s)) (hz : s.size ≤ 1000000) :
    Calls Tryd.prog 52 #[.slice none 0 0, cutF gs] w fun e w' => e = .returned (.slice none 0 0) ∧ Below w.heap.size w w' := by
  have IX := Lib.hid (index_any none 0 [] s gs w (RT.nil w) hs hz (by decide))
  clear hs
  go_enter Tryd.func52, Tryd.ntmps52
  go_wp2_with fail
  refine IX.out.mono ?_
  rintro e w1 ⟨hix, hb1⟩
  rcases hix with ⟨rfl, -⟩ | ⟨k0, x0, -, hx0, -⟩
  · have HB1 := Lib.hid hb1
    clear hb1 IX
    go_wp2_with fail
    go_ret
    exact ⟨rfl, HB1.out⟩
  · simp at hx0

set_option maxRecDepth 100000 in
set_option maxHeartbeats 4000000 in
theorem cut_any (A : Option Addr) (c : Nat) (L : List Rw) (next : Int) (s : ByteArray) (w : World) (hE : Env w) (hR : RT w A c L) (hO : OkT L) (hz : s.size ≤ 100000) (hl : L.length ≤ 50000) :
    Calls Tryd.prog 36 #[.agg #[.slice A (List.length L) c, .int .i64 next], .string s] w fun e w' =>
      ∃ M A' c', e = .returned (.tuple #[.agg #[.slice A' (List.length M) c', .int .i64 next], .int .i64 (cutE L s)]) ∧ M = (if cutE L s = 0 then cutV L s else L) ∧ RT w' A' c' M ∧ Below w.heap.size w w' := by
  have HR := Lib.hid hR
  have HE := Lib.hid hE
  obtain ⟨gp, gi, gk, gm, gs, gd, there, hlk, hget⟩ := get_gen A c L next s hO (by omega) (by omega)
  have GT := Lib.hid hget
  have HLK := Lib.hid hlk
  have CL := Lib.hid (fun (w : World) (hR : RT w A c L) => clone_any A c L w hR (by omega))
  clear hR hE hO hlk hget
  have hcase : (there = false ∧ s.toList.isEmpty = false ∧ ¬ s.toList = [] ∧ cutE L s = 4) ∨ (there = true ∧ cutE L s = 0) ∨ (there = false ∧ s.toList.isEmpty = true ∧ s.toList = [] ∧ cutE L s = 0) := by
    have hk := HLK.out
    unfold cutE
    rw [hk]
    cases there
    · by_cases h : bl s = []
      · have h2 : s.toList = [] := by rw [ByteArray.toList_eq]; exact h
        exact Or.inr (Or.inr ⟨rfl, by rw [h2]; rfl, h2, by simp [h]⟩)
      · have h2 : ¬ s.toList = [] := by rw [ByteArray.toList_eq]; exact h
        exact Or.inl ⟨rfl, by simpa using h2, h2, by simp [h]⟩
    · exact Or.inr (Or.inl ⟨rfl, by simp⟩)
  clear HLK
  have hsplit : (there = false ∧ s.toList.isEmpty = false ∧ ¬ s.toList = [] ∧ cutE L s = 4) ∨ cutE L s = 0 := by
    rcases hcase with h | h | h
    · exact Or.inl h
    · exact Or.inr h.2
    · exact Or.inr h.2.2.2
  have HCASE := Lib.hid hcase
  clear hcase
  rcases hsplit with ⟨rfl, hse, hsl, hce⟩ | hce
  · rw [hce, if_neg (by decide)]
    clear hce HCASE CL
    go_enter Tryd.func36, Tryd.ntmps36
    go_wp2_with fail
    have hN := fun o q u : Obj => (((Below.refl w.heap.size w).alloc (Nat.le_refl _) o).alloc (by simp) q).alloc (by simp; omega) u
    refine (GT.out _ (HE.out.below (hN _ _ _)) (HR.out.below (hN _ _ _))).mono ?_
    rintro e w1 ⟨rfl, hb1⟩
    obtain ⟨b0, b1, b2, hn1⟩ := three_blocks (a := [.slice A (List.length L) c, .int .i64 next]) (b := [.string s]) (d := [.slice none 0 0, .int .i64 0]) hb1
    have HB1 := Lib.hid (bch (hN _ _ _) hb1)
    have c0 := blk_cell b0 (j := 0) rfl
    have c1 := blk_cell b0 (j := 1) rfl
    have f0 := blk_frozen b0
    have s0 := blk_cell b1 (j := 0) rfl
    have d0 := blk_cell b2 (j := 0) rfl
    have d1 := blk_cell b2 (j := 1) rfl
    have f2 := blk_frozen b2
    have B0 := Lib.hid b0
    have B1 := Lib.hid b1
    have B2 := Lib.hid b2
    have hn10 : w.heap.size < w1.heap.size := by omega
    have hn11 : w.heap.size + 1 < w1.heap.size := by omega
    clear b0 b1 b2 hb1 hN
    go_wp2_with fail
    rw [set2 B2.out]
    refine bodyPost_ret (results_row_tmp rfl _ _ (w.heap.size + 1 + 1) _ _ _ _ rfl (set_alloc B2.out _ _) Tryd.underlying35 rfl (by kernel_rfl)) rfl ?_
    have hb := fun (o : Obj) (cs : Array Value) => (below_setRow (g := w.heap.size + 1 + 1) HB1.out (by omega) cs).alloc (by rw [setRow_size]; omega) o
    exact ⟨L, A, c, rfl, rfl, HR.out.below (hb _ _), hb _ _⟩
  · have hrest : (there = true) ∨ (there = false ∧ s.toList.isEmpty = true ∧ s.toList = []) := by
      rcases HCASE.out with h | h | h
      · rw [h.2.2.2] at hce; exact absurd hce (by decide)
      · exact Or.inl h.1
      · exact Or.inr ⟨h.1, h.2.1, h.2.2.1⟩
    rw [hce, if_pos rfl]
    clear hce HCASE
    go_enter Tryd.func36, Tryd.ntmps36
    go_wp2_with fail
    have hN := fun o q u : Obj => (((Below.refl w.heap.size w).alloc (Nat.le_refl _) o).alloc (by simp) q).alloc (by simp; omega) u
    refine (GT.out _ (HE.out.below (hN _ _ _)) (HR.out.below (hN _ _ _))).mono ?_
    rintro e w1 ⟨rfl, hb1⟩
    obtain ⟨b0, b1, b2, hn1⟩ := three_blocks (a := [.slice A (List.length L) c, .int .i64 next]) (b := [.string s]) (d := [.slice none 0 0, .int .i64 0]) hb1
    have HB1 := Lib.hid (bch (hN _ _ _) hb1)
    have c0 := blk_cell b0 (j := 0) rfl
    have c1 := blk_cell b0 (j := 1) rfl
    have f0 := blk_frozen b0
    have s0 := blk_cell b1 (j := 0) rfl
    have d0 := blk_cell b2 (j := 0) rfl
    have d1 := blk_cell b2 (j := 1) rfl
    have f2 := blk_frozen b2
    have B0 := Lib.hid b0
    have B1 := Lib.hid b1
    have B2 := Lib.hid b2
    have hn10 : w.heap.size < w1.heap.size := by omega
    have hn11 : w.heap.size + 1 < w1.heap.size := by omega
    clear b0 b1 b2 hb1 hN
    rcases hrest with rfl | ⟨rfl, hse, hsl⟩
    all_goals
      have hRow := HR.out.below HB1.out
      go_wp2_with fail
      refine (CL.out _ (hRow.alloc _)).mono ?_
      rintro e w2 ⟨v2, rfl, hown, hb2⟩
      have HB2 := Lib.hid (bch (HB1.out.alloc (by omega) _) hb2)
      have k0 : w2.heap[w.heap.size]? = _ := (hb2.block _ (by simp; omega)).trans ((Below.heap_alloc _ _ _ hn10).trans B0.out)
      have k1 : w2.heap[w.heap.size + 1]? = _ := (hb2.block _ (by simp; omega)).trans ((Below.heap_alloc _ _ _ hn11).trans B1.out)
      have k2 : w2.heap[w.heap.size + 1 + 1]? = _ := (hb2.block _ (by simp; omega)).trans ((Below.heap_alloc _ _ _ hn1).trans B2.out)
      have hn12 : w1.heap.size + 1 ≤ w2.heap.size := by have := hb2.size; simpa using this
      have hsb : w2.cell? ⟨w.heap.size + 1, 0, none⟩ = some (.string s) := blk_cell k1 (j := 0) rfl
      have hro := rows_of_own hown
      have K0 := Lib.hid k0
      have K2 := Lib.hid k2
      have HSB := Lib.hid hsb
      have HRO := Lib.hid hro
      clear c0 c1 f0 s0 d0 d1 f2 k0 k1 k2 hb2 hown hsb hro B0 B1 B2 CL GT
      have c0 := blk_cell K0.out (j := 0) rfl
      have c1 := blk_cell K0.out (j := 1) rfl
      have f0 := blk_frozen K0.out
      have d0 := blk_cell K2.out (j := 0) rfl
      have d1 := blk_cell K2.out (j := 1) rfl
      have f2 := blk_frozen K2.out
      have DEL : Hid (Calls Tryd.prog 52 #[v2, cutF (w.heap.size + 1)] w2 fun e w' => ∃ A' c', e = .returned (.slice A' (cutV L s).length c') ∧ RT w' A' c' (cutV L s) ∧ (∀ k, k ≤ w.heap.size + 1 + 1 → w'.heap[k]? = w2.heap[k]?) ∧ Below w.heap.size w w') := by
        refine Lib.hid ?_
        rcases HRO.out with ⟨rfl, hL0⟩ | ⟨g, cap, cur, rfl, hg, hrows⟩
        · have hc0 : cutV L s = [] := by rw [hL0]; rfl
          refine (del_nil (w.heap.size + 1) s w2 HSB.out (by omega)).mono ?_
          rintro e w' ⟨rfl, hb⟩
          exact ⟨none, 0, by rw [hc0]; rfl, by rw [hc0]; exact RT.nil _, fun k hk => hb.block k (by omega), bch HB2.out hb⟩
        · have hg2 : w1.heap.size + 1 ≤ g := by simpa using hg
          refine (del_any g cap (w.heap.size + 1) cur L s w2 hrows HSB.out (by omega) (by omega) (by omega)).mono ?_
          rintro e w' ⟨rfl, hrt, _, hgr⟩
          exact ⟨some ⟨g, 0, none⟩, cap, rfl, hrt, fun k hk => hgr.block k (by omega) (by simp; omega), HB2.out.grown hgr HB2.out.size (fun k hk => by injection hk with hk; omega)⟩
      go_wp2_with fail
      refine DEL.out.mono ?_
      rintro e w3 ⟨A3, c3, rfl, hrt, hblk, hb3⟩
      have k0 : w3.heap[w.heap.size]? = _ := (hblk _ (by omega)).trans K0.out
      have k2 : w3.heap[w.heap.size + 1 + 1]? = _ := (hblk _ (by omega)).trans K2.out
      have HK0 := Lib.hid k0
      have HK2 := Lib.hid k2
      have HRT := Lib.hid hrt
      have HB3 := Lib.hid hb3
      clear c0 c1 f0 d0 d1 f2 K0 K2 hrt hblk hb3
      have c0 := blk_cell k0 (j := 0) rfl
      have c1 := blk_cell k0 (j := 1) rfl
      have f0 := blk_frozen k0
      have d0 := blk_cell k2 (j := 0) rfl
      have d1 := blk_cell k2 (j := 1) rfl
      have f2 := blk_frozen k2
      clear k0 k2
      go_wp2_with fail
      have e0 : w3.setCell ⟨w.heap.size, 0, none⟩ (.slice A3 (cutV L s).length c3) = w3.setRow w.heap.size #[.slice A3 (cutV L s).length c3, .int .i64 next] := setCell_eq_setRow w3 _ 0 _ _ (0, 0) _ HK0.out
      have hX : (w3.setRow w.heap.size #[.slice A3 (cutV L s).length c3, .int .i64 next]).heap[w.heap.size + 1 + 1]? = some (.cells [.slice none 0 0, .int .i64 0].toArray 35 (0, 0)) := by
        rw [heap_setRow_ne _ _ _ _ (by omega)]; exact HK2.out
      rw [e0, set2 hX]
      refine bodyPost_ret (results_row_tmp rfl _ _ (w.heap.size + 1 + 1) _ _ _ _ rfl (setRow_heap _ _ _ _ _ _ hX) Tryd.underlying35 rfl (by kernel_rfl)) rfl ?_
      exact ⟨cutV L s, A3, c3, rfl, rfl, (HRT.out.setOther HK0.out tree_no _).setOther hX tree_no _, below_setRow (below_setRow HB3.out (Nat.le_refl _) _) (by omega) _⟩

end Go.Proofs.YtcniahbliadgiaaDoor

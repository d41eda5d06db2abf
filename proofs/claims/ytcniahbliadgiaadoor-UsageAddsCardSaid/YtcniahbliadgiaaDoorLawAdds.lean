/-
  pannierlaw14.UsageAdds: the walk.
-/
import Derived.Test.YtcniahbliadgiaaDoorMeas
import Derived.Deep.DeepCutAuto
import Derived.Deep.LoopGhost
import Derived.Deep.RegionHeld3
import Derived.Deep.RegionWith
import Derived.Deep.DrawnRows
namespace Go.Proofs.YtcniahbliadgiaaDoor
open Go.RowKit
open Go.Proofs.PnKit Go.Proofs.PnPath

def okU (u : Us) : Prop := 0 ≤ u.bytes ∧ u.bytes ≤ 1152921504606846976 ∧ 0 ≤ u.inodes ∧ u.inodes ≤ 1152921504606846976 ∧ 0 ≤ u.depth ∧ 0 ≤ u.length
theorem three_cells {w : World} {g : Nat} {t : TypeId} {u v z : Us} (h : w.heap[g]? = some (.cells (usC u ++ (usC v ++ usC z)).toArray t (0, 0))) {k : Nat} {x : Us} (hx : [u, v, z][k]? = some x) :
    w.cell? ⟨g, k * 4, none⟩ = some (.int .i64 x.bytes) ∧ w.cell? ⟨g, k * 4 + 1, none⟩ = some (.int .i64 x.inodes) ∧ w.cell? ⟨g, k * 4 + 2, none⟩ = some (.int .i64 x.depth) ∧ w.cell? ⟨g, k * 4 + 3, none⟩ = some (.int .i64 x.length) := by
  have hk : k < 3 := (List.getElem?_eq_some_iff.1 hx).1
  have : k = 0 ∨ k = 1 ∨ k = 2 := by omega
  rcases this with rfl | rfl | rfl <;> (simp at hx; subst hx)
  · exact ⟨blk_cell h (j := 0) rfl, blk_cell h (j := 1) rfl, blk_cell h (j := 2) rfl, blk_cell h (j := 3) rfl⟩
  · exact ⟨blk_cell h (j := 4) rfl, blk_cell h (j := 5) rfl, blk_cell h (j := 6) rfl, blk_cell h (j := 7) rfl⟩
  · exact ⟨blk_cell h (j := 8) rfl, blk_cell h (j := 9) rfl, blk_cell h (j := 10) rfl, blk_cell h (j := 11) rfl⟩

attribute [local go_sem ↓] Go.wp_at_zero Go.wp_at_succ

set_option maxRecDepth 100000 in
set_option maxHeartbeats 2000000 in
theorem adds_walk (u v z : Us) (w : World) (hE : Env w) :
    Calls Tryd.prog 3 #[usV u, usV v, usV z] w fun e w' => e = .returned (.bool true) ∧ Below w.heap.size w w' := by
  have PU := Lib.hid (fun (u v : Us) (w : World) => plus_any u v w)
  have ME := Lib.hid measures_any
  have HE := Lib.hid hE
  obtain ⟨a, b, c, d⟩ := u
  obtain ⟨a', b', c', d'⟩ := v
  obtain ⟨a2, b2, c2, d2⟩ := z
  have hN := fun o q s : Obj => (((Below.refl w.heap.size w).alloc (Nat.le_refl _) o).alloc (by simp) q).alloc (by simp; omega) s
  go_enter Tryd.func3, Tryd.ntmps3
  go_wp2_with fail
  refine (ME.out _ (HE.out.below (hN _ _ _))).mono ?_
  rintro e w1 ⟨rfl, hb1⟩
  obtain ⟨k0, k1, k2, hn1⟩ := three_blocks (a := [.int .i64 a, .int .i64 b, .int .i64 c, .int .i64 d]) (b := [.int .i64 a', .int .i64 b', .int .i64 c', .int .i64 d']) (d := [.int .i64 a2, .int .i64 b2, .int .i64 c2, .int .i64 d2]) hb1
  have HB1 : Hid (Below w.heap.size w w1) := bch (hN _ _ _) hb1
  have p0 := blk_cell k0 (j := 0) rfl
  have p1 := blk_cell k0 (j := 1) rfl
  have p2 := blk_cell k0 (j := 2) rfl
  have p3 := blk_cell k0 (j := 3) rfl
  have q0 := blk_cell k1 (j := 0) rfl
  have q1 := blk_cell k1 (j := 1) rfl
  have q2 := blk_cell k1 (j := 2) rfl
  have q3 := blk_cell k1 (j := 3) rfl
  have r0 := blk_cell k2 (j := 0) rfl
  have r1 := blk_cell k2 (j := 1) rfl
  have r2 := blk_cell k2 (j := 2) rfl
  have r3 := blk_cell k2 (j := 3) rfl
  have K0 := Lib.hid k0
  have K1 := Lib.hid k1
  have K2 := Lib.hid k2
  clear k0 k1 k2 hb1 hN hE
  go_wp2_with fail
  have hA := fun cs : Array Value => heap_alloc_new w1 (.cells cs 23)
  have hS := hA (usC ⟨a, b, c, d⟩ ++ (usC ⟨a', b', c', d'⟩ ++ usC ⟨a2, b2, c2, d2⟩)).toArray
  have hBl := (Below.refl w1.heap.size w1).alloc (Nat.le_refl _) (.cells (usC ⟨a, b, c, d⟩ ++ (usC ⟨a', b', c', d'⟩ ++ usC ⟨a2, b2, c2, d2⟩)).toArray 23)
  clear hA
  generalize hw2 : w1.alloc _ = w2
  have hS2 : w2.heap[w1.heap.size]? = some (.cells (usC ⟨a, b, c, d⟩ ++ (usC ⟨a', b', c', d'⟩ ++ usC ⟨a2, b2, c2, d2⟩)).toArray 23 (0, 0)) := by rw [← hw2]; exact hS
  have hBl2 : Below w1.heap.size w1 w2 := by rw [← hw2]; exact hBl
  have HS := Lib.hid hS2
  have HBL := Lib.hid hBl2
  have hn2 : w1.heap.size < w2.heap.size := (Array.getElem?_eq_some_iff.1 hS2).1
  clear hS hBl hS2 hBl2 hw2
  go_loopg [16] 3 (fun g i wr => ∃ k : Nat, g = 3 - k ∧ i = .int .i64 k ∧ k ≤ 3 ∧ Hid (Below w2.heap.size w2 wr) ∧ Hid (∀ (j : Nat) (x : Us), j < k → [(⟨a, b, c, d⟩ : Us), ⟨a', b', c', d'⟩, ⟨a2, b2, c2, d2⟩][j]? = some x → okU x))
  case atStart => exact ⟨0, rfl, rfl, by omega, Lib.hid (Below.refl _ _), Lib.hid (fun j x hj => by omega)⟩
  case round =>
    obtain ⟨k, rfl, rfl, hk, HBR, HOK⟩ := hrel
    have HBW : Hid (Below w.heap.size w wr) := Lib.hid (bch HB1.out (bch HBL.out HBR.out))
    by_cases hlt : k < 3
    case neg =>
      obtain ⟨o1, o2, o3, o4, o5, o6⟩ := HOK.out 0 _ (by omega) rfl
      obtain ⟨o7, o8, o9, o10, o11, o12⟩ := HOK.out 1 _ (by omega) rfl
      obtain ⟨o13, o14, o15, o16, o17, o18⟩ := HOK.out 2 _ (by omega) rfl
      simp only at o1 o2 o3 o4 o5 o6 o7 o8 o9 o10 o11 o12 o13 o14 o15 o16 o17 o18
      have K0' : Hid (wr.heap[w.heap.size]? = _) := Lib.hid ((HBR.out.block _ (by omega)).trans ((HBL.out.block _ (by omega)).trans K0.out))
      have K1' : Hid (wr.heap[w.heap.size + 1]? = _) := Lib.hid ((HBR.out.block _ (by omega)).trans ((HBL.out.block _ (by omega)).trans K1.out))
      have K2' : Hid (wr.heap[w.heap.size + 1 + 1]? = _) := Lib.hid ((HBR.out.block _ (by omega)).trans ((HBL.out.block _ (by omega)).trans K2.out))
      have hnr : w.heap.size + 1 + 1 < wr.heap.size := (Array.getElem?_eq_some_iff.1 K2'.out).1
      clear p0 p1 p2 p3 q0 q1 q2 q3 r0 r1 r2 r3 K0 K1 K2 HOK HBR
      have p0 := blk_cell K0'.out (j := 0) rfl
      have p1 := blk_cell K0'.out (j := 1) rfl
      have p2 := blk_cell K0'.out (j := 2) rfl
      have p3 := blk_cell K0'.out (j := 3) rfl
      have q0 := blk_cell K1'.out (j := 0) rfl
      have q1 := blk_cell K1'.out (j := 1) rfl
      have q2 := blk_cell K1'.out (j := 2) rfl
      have q3 := blk_cell K1'.out (j := 3) rfl
      have r0 := blk_cell K2'.out (j := 0) rfl
      have r1 := blk_cell K2'.out (j := 1) rfl
      have r2 := blk_cell K2'.out (j := 2) rfl
      have r3 := blk_cell K2'.out (j := 3) rfl
      obtain ⟨S12, h12, h21⟩ : ∃ S, plusV ⟨a, b, c, d⟩ ⟨a', b', c', d'⟩ = S ∧ plusV ⟨a', b', c', d'⟩ ⟨a, b, c, d⟩ = S := ⟨_, rfl, by unfold plusV wrap64; simp only [Us.mk.injEq]; omega⟩
      obtain ⟨S23, h23⟩ : ∃ S, plusV ⟨a', b', c', d'⟩ ⟨a2, b2, c2, d2⟩ = S := ⟨_, rfl⟩
      obtain ⟨S, hS1, hS2⟩ : ∃ S, plusV S12 ⟨a2, b2, c2, d2⟩ = S ∧ plusV ⟨a, b, c, d⟩ S23 = S := ⟨_, rfl, by rw [← h12, ← h23]; unfold plusV wrap64; simp only [Us.mk.injEq]; omega⟩
      have h0 : plusV ⟨a, b, c, d⟩ ⟨0, 0, 0, 0⟩ = ⟨a, b, c, d⟩ := by unfold plusV wrap64; simp only [Us.mk.injEq]; omega
      have F1 := Lib.hid (fun W : World => PU.out ⟨a, b, c, d⟩ ⟨a', b', c', d'⟩ W)
      have F2 := Lib.hid (fun W : World => PU.out ⟨a', b', c', d'⟩ ⟨a, b, c, d⟩ W)
      have F3 := Lib.hid (fun W : World => PU.out S12 ⟨a2, b2, c2, d2⟩ W)
      have F4 := Lib.hid (fun W : World => PU.out ⟨a', b', c', d'⟩ ⟨a2, b2, c2, d2⟩ W)
      have F5 := Lib.hid (fun W : World => PU.out ⟨a, b, c, d⟩ S23 W)
      have F6 := Lib.hid (fun W : World => PU.out ⟨a, b, c, d⟩ ⟨0, 0, 0, 0⟩ W)
      rw [h12] at F1
      rw [h21] at F2
      rw [hS1] at F3
      rw [h23] at F4
      rw [hS2] at F5
      rw [h0] at F6
      clear h12 h21 h23 hS1 hS2 h0 o1 o2 o3 o4 o5 o6 o7 o8 o9 o10 o11 o12 o13 o14 o15 o16 o17 o18 PU
      obtain ⟨e1, e2, e3, e4⟩ := S12
      obtain ⟨g1, g2, g3, g4⟩ := S23
      obtain ⟨s1, s2, s3, s4⟩ := S
      go_wp2_with fail
      have hn0 : w.heap.size < wr.heap.size := by omega
      have hn10 : w.heap.size + 1 < wr.heap.size := by omega
      go_region_held3 (fun w' => Below wr.heap.size wr w' ∧ w'.cell? ⟨w.heap.size, 0, none⟩ = some (.int .i64 a) ∧ w'.cell? ⟨w.heap.size, 1, none⟩ = some (.int .i64 b) ∧ w'.cell? ⟨w.heap.size, 2, none⟩ = some (.int .i64 c) ∧ w'.cell? ⟨w.heap.size, 3, none⟩ = some (.int .i64 d) ∧ w'.cell? ⟨w.heap.size + 1, 0, none⟩ = some (.int .i64 a') ∧ w'.cell? ⟨w.heap.size + 1, 1, none⟩ = some (.int .i64 b') ∧ w'.cell? ⟨w.heap.size + 1, 2, none⟩ = some (.int .i64 c') ∧ w'.cell? ⟨w.heap.size + 1, 3, none⟩ = some (.int .i64 d') ∧ w'.cell? ⟨w.heap.size + 1 + 1, 0, none⟩ = some (.int .i64 a2) ∧ w'.cell? ⟨w.heap.size + 1 + 1, 1, none⟩ = some (.int .i64 b2) ∧ w'.cell? ⟨w.heap.size + 1 + 1, 2, none⟩ = some (.int .i64 c2) ∧ w'.cell? ⟨w.heap.size + 1 + 1, 3, none⟩ = some (.int .i64 d2))
        ((go_split_ands; refine ⟨?_, ?_, ?_, ?_, ?_, ?_, ?_, ?_, ?_, ?_, ?_, ?_, ?_⟩; (first | exact (Below.refl _ _).drew | exact Below.refl _ _ | exact bch (by assumption) hbn); all_goals (first | assumption | exact (hbn.cell (lt_of_below (a := wr) (by assumption) (by assumption))).trans (by assumption))))
        (first | (go_at_call 16; with_reducible refine (F1.out _).mono ?_; rintro e w3 ⟨rfl, hbn⟩) | (go_at_call 16; with_reducible refine (F2.out _).mono ?_; rintro e w3 ⟨rfl, hbn⟩) | (go_at_call 16; with_reducible refine (F3.out _).mono ?_; rintro e w3 ⟨rfl, hbn⟩) | (go_at_call 16; with_reducible refine (F4.out _).mono ?_; rintro e w3 ⟨rfl, hbn⟩) | (go_at_call 16; with_reducible refine (F5.out _).mono ?_; rintro e w3 ⟨rfl, hbn⟩) | (go_at_call 16; with_reducible refine (F6.out _).mono ?_; rintro e w3 ⟨rfl, hbn⟩))
      all_goals
        have hz : Below wr.heap.size wr w3 := by first | assumption | exact bch (And.left (by assumption)) (Below.refl _ _) | exact And.left (by assumption)
        go_wp2_with fail
        go_ret
        exact ⟨rfl, bch HBW.out hz⟩
    have hx : ∃ x, [(⟨a, b, c, d⟩ : Us), ⟨a', b', c', d'⟩, ⟨a2, b2, c2, d2⟩][k]? = some x := ⟨_, List.getElem?_eq_getElem hlt⟩
    obtain ⟨x, hx⟩ := hx
    obtain ⟨z0, z1, z2, z3⟩ := three_cells ((HBR.out.block _ hn2).trans HS.out) hx
    obtain ⟨x0, x1, x2, x3⟩ := x
    simp only at z0 z1 z2 z3
    have HX := Lib.hid hx
    clear hx p0 p1 p2 p3 q0 q1 q2 q3 r0 r1 r2 r3
    go_wp2_with fail
    all_goals
      first
      | (go_ret; exact ⟨rfl, HBW.out.alloc HBW.out.size _⟩)
      | (have hok : okU ⟨x0, x1, x2, x3⟩ := (by refine ⟨?_, ?_, ?_, ?_, ?_, ?_⟩ <;> (simp only; omega))
         go_roundg (3 - (k + 1))
         case measure => omega
         case rel => exact ⟨k + 1, rfl, by go_num, by omega, Lib.hid (HBR.out.alloc HBR.out.size _), Lib.hid (fun j y hj hy => by
          rcases Nat.lt_or_ge j k with h | h
          · exact HOK.out j y h hy
          · obtain rfl : j = k := by omega
            rw [HX.out] at hy; cases hy; exact hok)⟩)

end Go.Proofs.YtcniahbliadgiaaDoor

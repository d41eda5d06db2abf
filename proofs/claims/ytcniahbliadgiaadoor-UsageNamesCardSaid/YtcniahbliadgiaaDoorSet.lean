/-
  Walks of package tree: Set.
-/
import Derived.Test.YtcniahbliadgiaaDoorMeas
import Derived.Test.YtcniahbliadgiaaDoorUseB
import Derived.Deep.LoopGhost
namespace Go.Proofs.YtcniahbliadgiaaDoor
open Go.RowKit
open Go.Proofs.PnKit Go.Proofs.PnPath

theorem setV_length (L : List Rw) (id size : Int) : (setV L id size).length = L.length := by simp [setV]
theorem setV_append (L M : List Rw) (id size : Int) : setV (L ++ M) id size = setV L id size ++ setV M id size := by simp [setV]
theorem cell_other {w : World} {a b : Addr} {v : Value} (h : a ≠ b) : (w.setCell a v).cell? b = w.cell? b := by rw [World.cell?_setCell_other]; exact h
theorem cell_same {w : World} {a : Addr} {u v : Value} (h : w.cell? a = some u) : (w.setCell a v).cell? a = some v := World.cell?_setCell_same' w a v (by rw [h]; rfl)
/-- two cells of a row are stored over: its content -/
theorem RT.store {w : World} {b o c : Nat} {M : List Rw} (h : RT w (some ⟨b, o, none⟩) c M) {k : Nat} {r : Rw} (hk : M[k]? = some r) (size : Int) :
    RT ((w.setCell ⟨b, o + k * 13 + 10, none⟩ (.slice none 0 0)).setCell ⟨b, o + k * 13 + 11, none⟩ (.int .i64 size)) (some ⟨b, o, none⟩) c (M.set k { r with size := size }) := by
  refine ⟨by rw [List.length_set]; exact h.cap, (fun h => by cases h), fun j x hx => ?_⟩
  have hkl : k < M.length := (List.getElem?_eq_some_iff.1 hk).1
  obtain ⟨b', o', e, hb, hc⟩ := h.cell k r hk
  simp only [Option.some.injEq, Addr.mk.injEq, and_true] at e
  obtain ⟨rfl, rfl⟩ := e
  have far : ∀ q : Nat, q ≠ o + k * 13 + 10 → q ≠ o + k * 13 + 11 → ((w.setCell ⟨b, o + k * 13 + 10, none⟩ (.slice none 0 0)).setCell ⟨b, o + k * 13 + 11, none⟩ (.int .i64 size)).cell? ⟨b, q, none⟩ = w.cell? ⟨b, q, none⟩ := fun q h1 h2 => by
    rw [cell_other (fun e => by injection e; omega), cell_other (fun e => by injection e; omega)]
  refine ⟨b, o, rfl, by simpa using hb, fun i v hi => ?_⟩
  have hi13 : i < 13 := (List.getElem?_eq_some_iff.1 hi).1
  by_cases hjk : j = k
  · subst hjk
    rw [List.getElem?_set_self hkl] at hx
    have hx := Option.some.inj hx
    subst hx
    by_cases h10 : i = 10
    · subst h10
      have hv : v = .slice none 0 0 := by
        have : (Rw.cells { r with size := size })[10]? = some (.slice none 0 0) := rfl
        rw [this] at hi; exact (Option.some.inj hi).symm
      subst hv
      rw [cell_other (by simp)]
      exact cell_same (hc 10 _ rfl)
    · by_cases h11 : i = 11
      · subst h11
        have hv : v = .int .i64 size := by
          have : (Rw.cells { r with size := size })[11]? = some (.int .i64 size) := rfl
          rw [this] at hi; exact (Option.some.inj hi).symm
        subst hv
        exact cell_same (by rw [cell_other (by simp)]; exact hc 11 _ rfl)
      · rw [far _ (by omega) (by omega)]
        refine hc i v ?_
        obtain ⟨path, id, kind, mode, sz, made⟩ := r
        match i, h10, h11, hi with
        | 0, _, _, hi => exact hi
        | 1, _, _, hi => exact hi
        | 2, _, _, hi => exact hi
        | 3, _, _, hi => exact hi
        | 4, _, _, hi => exact hi
        | 5, _, _, hi => exact hi
        | 6, _, _, hi => exact hi
        | 7, _, _, hi => exact hi
        | 8, _, _, hi => exact hi
        | 9, _, _, hi => exact hi
        | 12, _, _, hi => exact hi
        | n + 13, _, _, _ => omega
  · rw [List.getElem?_set_ne (Ne.symm hjk)] at hx
    rw [far _ (by omega) (by omega)]
    exact h.row hx hi

/-- where the loop stands -/
structure SetAt (w wr : World) (A : Option Addr) (c : Nat) (next id size : Int) (L : List Rw) (k : Nat) : Prop where
  b0 : wr.heap[w.heap.size]? = some (.cells [.slice A (List.length L) c, .int .i64 next].toArray 35 (0, 0))
  b1 : wr.heap[w.heap.size + 1]? = some (.cells [.slice none 0 0, .int .i64 size].toArray 40 (0, 0))
  b2 : wr.heap[w.heap.size + 1 + 1]? = some (.cells [.slice none 0 0, .int .i64 0].toArray 35 (0, 0))
  rows : RT wr A c (setV (L.take k) id size ++ L.drop k)
  far : ∀ a, A = some a → w.heap.size + 1 + 1 < a.block ∧ ∃ cs t, wr.heap[a.block]? = some (.cells cs t (0, 0))
  below : Below w.heap.size w wr
theorem set_next {L : List Rw} {k : Nat} {r : Rw} (hk : L[k]? = some r) (id size : Int) : (setV (L.take k) id size ++ L.drop k)[k]? = some r ∧
    setV (L.take (k + 1)) id size ++ L.drop (k + 1) = (setV (L.take k) id size ++ L.drop k).set k (if r.id = id ∧ r.kind = 1 then { r with size := size } else r) := by
  obtain ⟨hlt, rfl⟩ := List.getElem?_eq_some_iff.1 hk
  have hl : (setV (L.take k) id size).length = k := by rw [setV_length, List.length_take]; omega
  constructor
  · rw [List.getElem?_append_right (by omega), hl, Nat.sub_self, List.getElem?_drop]; simp [hlt]
  · rw [List.take_succ_eq_append_getElem hlt, setV_append, List.append_assoc, List.drop_eq_getElem_cons hlt, List.set_append_right _ _ (by omega), hl, Nat.sub_self]
    rfl

set_option maxRecDepth 100000 in
set_option maxHeartbeats 2000000 in
theorem set_any (A : Option Addr) (c : Nat) (L : List Rw) (next id size : Int) (w : World) (hR : RT w A c L) (hl : L.length ≤ 50000) :
    Calls Tryd.prog 24 #[.agg #[.slice A (List.length L) c, .int .i64 next], .int .i64 id, .agg #[.slice none 0 0, .int .i64 size]] w fun e w' =>
      ∃ A' c', e = .returned (.agg #[.slice A' (setV L id size).length c', .int .i64 next]) ∧ RT w' A' c' (setV L id size) ∧ Below w.heap.size w w' := by
  have C := Lib.hid (fun (w : World) (hR : RT w A c L) => clone_any A c L w hR (by omega))
  have HR := Lib.hid hR
  clear hR
  go_enter Tryd.func24, Tryd.ntmps24
  go_wp2_with fail
  have hN := fun o q s : Obj => (((Below.refl w.heap.size w).alloc (Nat.le_refl _) o).alloc (by simp) q).alloc (by simp; omega) s
  refine (C.out _ (HR.out.below (hN _ _ _))).mono ?_
  rintro e w1 ⟨v1, rfl, hown, hb1⟩
  obtain ⟨b0, b1, b2, hn1⟩ := three_blocks (a := [.slice A (List.length L) c, .int .i64 next]) (b := [.slice none 0 0, .int .i64 size]) (d := [.slice none 0 0, .int .i64 0]) hb1
  have HB1 := Lib.hid (bch (hN _ _ _) hb1)
  obtain ⟨A1, c1, hv1, hR1⟩ := RT.of_own hown
  have hfar : ∀ a, A1 = some a → w.heap.size + 1 + 1 < a.block ∧ ∃ cs t, w1.heap[a.block]? = some (.cells cs t (0, 0)) := fun a ha => by
    subst ha
    rcases hown.2 with ⟨h, _⟩ | ⟨g, cap, cur, h, hg, hh, _⟩
    · rw [h] at hv1; cases hv1
    · rw [h] at hv1
      injection hv1 with hv1 _ _
      injection hv1 with hv1
      subst hv1
      exact ⟨by have : w.heap.size + 1 + 1 + 1 ≤ g := by simpa using hg
                show w.heap.size + 1 + 1 < g; omega, _, _, hh⟩
  subst hv1
  have c0 := blk_cell b0 (j := 0) rfl
  have c1' := blk_cell b0 (j := 1) rfl
  have f0 := blk_frozen b0
  have B0 := Lib.hid b0
  have B1 := Lib.hid b1
  have B2 := Lib.hid b2
  have HR1 := Lib.hid hR1
  have HFAR := Lib.hid hfar
  clear b0 b1 b2 hb1 hown hR1 hfar hN C HR
  go_wp2_with fail
  have HW : Hid (SetAt w (w1.setCell ⟨w.heap.size, 0, none⟩ (.slice A1 (List.length L) c1)) A1 c1 next id size L 0) := Lib.hid (by
    have e : w1.setCell ⟨w.heap.size, 0, none⟩ (.slice A1 (List.length L) c1) = w1.setRow w.heap.size #[.slice A1 (List.length L) c1, .int .i64 next] := setCell_eq_setRow w1 _ 0 _ _ (0, 0) _ B0.out
    rw [e]
    refine ⟨setRow_heap _ _ _ _ _ _ B0.out, ?_, ?_, ?_, ?_, below_setRow HB1.out (Nat.le_refl _) _⟩
    · rw [heap_setRow_ne _ _ _ _ (by omega)]; exact B1.out
    · rw [heap_setRow_ne _ _ _ _ (by omega)]; exact B2.out
    · show RT _ _ _ ([] ++ L)
      exact HR1.out.setOther B0.out tree_no _
    · intro a ha
      obtain ⟨h1, cs, t, h2⟩ := HFAR.out a ha
      exact ⟨h1, cs, t, by rw [heap_setRow_ne _ _ _ _ (by omega)]; exact h2⟩)
  generalize w1.setCell ⟨w.heap.size, 0, none⟩ (.slice A1 (List.length L) c1) = w2 at HW ⊢
  clear B0 B1 B2 c0 c1' f0 HR1 HFAR HB1
  have s0 := blk_cell HW.out.b0 (j := 0) rfl
  go_wp2_with fail
  go_loopg [7, 15] L.length (fun g _ i wr => ∃ k : Nat, g = L.length - k ∧ i = .int .i64 k ∧ k ≤ L.length ∧ Hid (SetAt w wr A1 c1 next id size L k))
  case atStart => exact ⟨0, rfl, rfl, Nat.zero_le _, HW⟩
  case round =>
    obtain ⟨k, rfl, rfl, hk, HA⟩ := hrel
    have b0 := HA.out.b0
    have b1 := HA.out.b1
    have b2 := HA.out.b2
    have t0 := blk_cell b0 (j := 0) rfl
    have t1 := blk_cell b0 (j := 1) rfl
    have d0 := blk_cell b1 (j := 0) rfl
    have d1 := blk_cell b1 (j := 1) rfl
    have y0 := blk_cell b2 (j := 0) rfl
    have y1 := blk_cell b2 (j := 1) rfl
    have yf := blk_frozen b2
    have B2 := Lib.hid b2
    have hnr : w.heap.size + 1 + 1 < wr.heap.size := (Array.getElem?_eq_some_iff.1 b2).1
    clear b0 b1 b2 s0 HW
    by_cases hlt : k < L.length
    case neg =>
      have hfin : Hid (RT wr A1 c1 (setV L id size)) := Lib.hid (by
        have h := HA.out.rows
        rw [List.take_of_length_le (by omega), List.drop_eq_nil_of_le (by omega), List.append_nil] at h
        exact h)
      have hlen : Hid ((setV L id size).length = L.length) := Lib.hid (setV_length L id size)
      go_wp2_with fail
      rw [set2 B2.out]
      refine bodyPost_ret (results_cell_row rfl _ _ (w.heap.size + 1 + 1) _ #[.slice A1 L.length c1, .int .i64 next] _ _ rfl (setRow_heap _ _ _ _ _ _ B2.out) Tryd.underlying35 rfl (by kernel_rfl)) rfl ?_
      exact ⟨A1, c1, by rw [hlen.out], hfin.out.setOther B2.out tree_no _, below_setRow HA.out.below (by omega) _⟩
    have hx : L[k]? = some L[k] := List.getElem?_eq_getElem hlt
    generalize L[k] = r at hx
    obtain ⟨hx1, hx2⟩ := set_next hx id size
    have hlen : (setV (L.take k) id size ++ L.drop k).length = L.length := by rw [List.length_append, setV_length, List.length_take, List.length_drop]; omega
    obtain ⟨b, o, rfl, hbw⟩ := HA.out.rows.pos (by omega)
    obtain ⟨path, rid, kind, mode, sz, made⟩ := r
    obtain ⟨q0, q1, q2, q3, q4, q5, q6, q7, q8, q9, q10, q11, q12⟩ := HA.out.rows.cells hx1
    obtain ⟨hfb, cs, tt, hcs⟩ := HA.out.far _ rfl
    simp only at hfb hcs hx2
    have HX1 := Lib.hid hx1
    have HX2 := Lib.hid hx2
    have qf : ∀ j, wr.frozen? ⟨b, j, none⟩ = false := blk_frozen hcs
    clear hx hx1 hx2 hlen hcs q0 q3 q4 q5 q6 q7 q8 q9 q12
    have hk1 : (rid = id ∧ kind = 1) ∨ ¬ (rid = id ∧ kind = 1) := by omega
    rcases hk1 with ⟨rfl, rfl⟩ | hk1
    · have hst := HA.out.rows.store HX1.out size
      have HST := Lib.hid hst
      have hnb : w.heap.size ≠ b ∧ w.heap.size + 1 ≠ b ∧ w.heap.size + 1 + 1 ≠ b := by omega
      clear hst
      go_wp2_with fail
      go_roundg (L.length - (k + 1))
      case measure => omega
      case rel =>
        refine ⟨k + 1, rfl, by go_num, by omega, Lib.hid ⟨?_, ?_, ?_, ?_, ?_, ?_⟩⟩
        · rw [heap_setCell_ne _ hnb.1, heap_setCell_ne _ hnb.1]; exact HA.out.b0
        · rw [heap_setCell_ne _ hnb.2.1, heap_setCell_ne _ hnb.2.1]; exact HA.out.b1
        · rw [heap_setCell_ne _ hnb.2.2, heap_setCell_ne _ hnb.2.2]; exact HA.out.b2
        · rw [HX2.out, if_pos ⟨trivial, trivial⟩]; exact HST.out
        · intro a ha
          injection ha with ha
          subst ha
          obtain ⟨_, cs, tt, hcs⟩ := HA.out.far _ rfl
          exact ⟨hfb, _, tt, setCell_heap (setCell_heap hcs _) _⟩
        · exact (HA.out.below.setCell (p := ⟨b, _, none⟩) (by simp; omega) _).setCell (p := ⟨b, _, none⟩) (by simp; omega) _
    · have hcc : ((rid == id) = true ∧ (kind == 1) = false) ∨ (rid == id) = false := by
        by_cases h : rid = id
        · exact Or.inl ⟨by simp [h], by simp; omega⟩
        · exact Or.inr (by simp [h])
      have HN := Lib.hid hk1
      clear hk1
      rcases hcc with ⟨h1, h2⟩ | h1
      all_goals
        go_wp2_with fail
        go_roundg (L.length - (k + 1))
        case measure => omega
        case rel =>
          refine ⟨k + 1, rfl, by go_num, by omega, Lib.hid ⟨HA.out.b0, HA.out.b1, HA.out.b2, ?_, HA.out.far, HA.out.below⟩⟩
          rw [HX2.out, if_neg HN.out]
          have h := HA.out.rows
          have hs : (setV (L.take k) id size ++ L.drop k).set k ⟨path, rid, kind, mode, sz, made⟩ = setV (L.take k) id size ++ L.drop k := by
            apply List.ext_getElem?
            intro j
            by_cases hj : k = j
            · subst hj
              rw [List.getElem?_set_self (List.getElem?_eq_some_iff.1 HX1.out).1, HX1.out]
            · rw [List.getElem?_set_ne hj]
          rw [hs]; exact h

end Go.Proofs.YtcniahbliadgiaaDoor

/-
  Walks of package tree: parents.
-/
import Derived.Test.YtcniahbliadgiaaDoorTreeD
namespace Go.Proofs.YtcniahbliadgiaaDoor
open Go.RowKit
open Go.Proofs.PnKit Go.Proofs.PnPath

def treeV (A : Option Addr) (n c : Nat) (next : Int) : Value := .agg #[.slice A n c, .int .i64 next]
/-- 'parents' of a path of these parts does as it should, wherever it is called -/
def ParsAt (P : List (List UInt8)) : Prop :=
  ∀ (A : Option Addr) (c : Nat) (L : List Rw) (next : Int) (w : World), Env w → RT w A c L → OkT L → L.length + P.length ≤ 50000 → 0 ≤ next → next + P.length ≤ 1000000 →
    Calls Tryd.prog 46 #[.agg #[.slice A (List.length L) c, .int .i64 next], .string (pathOf P)] w fun e w' =>
      ∃ A' c', e = .returned (.tuple #[.agg #[.slice A' (parV L next P.reverse).1.length c', .int .i64 (parV L next P.reverse).2.1], .int .i64 (parV L next P.reverse).2.2]) ∧ RT w' A' c' (parV L next P.reverse).1 ∧ Below w.heap.size w w'

theorem get_some (A : Option Addr) (c : Nat) (L : List Rw) (next : Int) (s : ByteArray) (w : World) (hE : Env w) (hR : RT w A c L) (hO : OkT L) (ht : s.size ≤ 100000) (hl : L.length ≤ 100000) {path : ByteArray} {id kind mode size : Int} {made : Bool}
    (h : look L (parts (bl s)) = some ⟨path, id, kind, mode, size, made⟩) :
    Calls Tryd.prog 22 #[.agg #[.slice A (List.length L) c, .int .i64 next], .string s] w fun e w' =>
      e = .returned (.tuple #[.agg #[.string path, .int .i64 id, .int .i64 kind, .int .i64 mode, .int .i64 0, .int .i64 0, .int .i64 0, .string nos, .string nos, .string nos, .slice none 0 0, .int .i64 size, .bool made], .bool true]) ∧ Below w.heap.size w w' := by
  have := get_any A c L next s w hE hR hO ht hl
  rw [h] at this
  exact this
theorem get_none (A : Option Addr) (c : Nat) (L : List Rw) (next : Int) (s : ByteArray) (w : World) (hE : Env w) (hR : RT w A c L) (hO : OkT L) (ht : s.size ≤ 100000) (hl : L.length ≤ 100000)
    (h : look L (parts (bl s)) = none) :
    Calls Tryd.prog 22 #[.agg #[.slice A (List.length L) c, .int .i64 next], .string s] w fun e w' =>
      e = .returned (.tuple #[.agg #[.string nos, .int .i64 0, .int .i64 0, .int .i64 0, .int .i64 0, .int .i64 0, .int .i64 0, .string nos, .string nos, .string nos, .slice none 0 0, .int .i64 0, .bool false], .bool false]) ∧ Below w.heap.size w w' := by
  have := get_any A c L next s w hE hR hO ht hl
  rw [h] at this
  exact this
theorem set2 {w : World} {g : Nat} {t : TypeId} {x y : Value} (hg : w.heap[g]? = some (.cells [x, y].toArray t (0, 0))) (v0 v1 : Value) :
    (w.setCell ⟨g, 0, none⟩ v0).setCell ⟨g, 1, none⟩ v1 = w.setRow g #[v0, v1] := by
  have h := setCells_row g t [v0, v1] 0 _ w hg (Nat.le_refl _)
  exact h

theorem set2_again {w : World} {g : Nat} {t : TypeId} {x y : Value} (hg : w.heap[g]? = some (.cells [x, y].toArray t (0, 0))) (a b c : Value) :
    ((w.setCell ⟨g, 0, none⟩ a).setCell ⟨g, 1, none⟩ b).setCell ⟨g, 1, none⟩ c = w.setRow g #[a, c] := by
  rw [set2 hg, setCell_eq_setRow (w.setRow g #[a, b]) g 1 _ _ _ c (setRow_heap w g _ #[a, b] _ _ hg), setRow_setRow]
  rfl
theorem cell_again {w : World} {g : Nat} {t : TypeId} {x y : Value} (hg : w.heap[g]? = some (.cells [x, y].toArray t (0, 0))) (a b c : Value) :
    (((w.setCell ⟨g, 0, none⟩ a).setCell ⟨g, 1, none⟩ b).setCell ⟨g, 1, none⟩ c).cell? ⟨g, 1, none⟩ = some c := by
  rw [set2_again hg]
  exact blk_cell (cs := [a, c]) (setRow_heap w g _ #[a, c] _ _ hg) rfl
theorem RT.setRow {w : World} {A : Option Addr} {c : Nat} {L : List Rw} (h : RT w A c L) {k : Nat} (hk : ∀ a, A = some a → k < a.block) (cs : Array Value) : RT (w.setRow k cs) A c L :=
  ⟨h.cap, h.nil0, fun j x hx => by
    obtain ⟨b, o, e, hb, hc⟩ := h.cell j x hx
    have hne := hk _ e
    refine ⟨b, o, e, by simpa [World.setRow] using hb, fun i v hi => ?_⟩
    rw [World.cell?_of_block (w := w) (heap_setRow_ne w k b cs (by show b ≠ k; have : k < b := hne; omega))]
    exact hc i v hi⟩
theorem setRow_size (w : World) (g : Nat) (c : Array Value) : (w.setRow g c).heap.size = w.heap.size := by simp [World.setRow]
/-- a boxed result, set, and a block behind it -/
theorem set_alloc {w : World} {g : Nat} {t : TypeId} {x y : Value} (h : w.heap[g]? = some (.cells [x, y].toArray t (0, 0))) (o : Obj) (cs : Array Value) : ((w.setRow g cs).alloc o).heap[g]? = some (.cells cs t (0, 0)) := by
  rw [Below.heap_alloc _ _ _ (by rw [setRow_size]; exact (Array.getElem?_eq_some_iff.1 h).1)]
  exact setRow_heap _ _ _ _ _ _ h
/-- a boxed parameter and a boxed result, behind a call -/
theorem two_blocks {w w3 : World} {a b : List Value} {ta tb : TypeId} (h : Below ((w.alloc (.cells a.toArray ta)).alloc (.cells b.toArray tb)).heap.size ((w.alloc (.cells a.toArray ta)).alloc (.cells b.toArray tb)) w3) :
    w3.heap[w.heap.size]? = some (.cells a.toArray ta (0, 0)) ∧ w3.heap[w.heap.size + 1]? = some (.cells b.toArray tb (0, 0)) ∧ w.heap.size + 1 < w3.heap.size := by
  have e2 : w3.heap[w.heap.size + 1]? = some (.cells b.toArray tb (0, 0)) := by
    rw [h.block _ (by simp)]; exact heap_alloc2_new w _ _
  refine ⟨?_, e2, (Array.getElem?_eq_some_iff.1 e2).1⟩
  rw [h.block _ (by simp; omega)]; exact heap_alloc2_old w _ _

set_option maxRecDepth 100000 in
set_option maxHeartbeats 4000000 in
theorem parents_any : ∀ (P : List (List UInt8)), G P → (join P).length ≤ 1000 → ParsAt P := by
  have main : ∀ (V : List (List UInt8)), G V → (join V.reverse).length ≤ 1000 → ParsAt V.reverse := by
    intro V
    induction V with
    | nil =>
      intro _ _ A c L next w hE hR hO hl hn hn2
      have U := Lib.hid up_root
      show Calls Tryd.prog 46 #[.agg #[.slice A (List.length L) c, .int .i64 next], .string ⟨#[]⟩] w _
      go_enter Tryd.func46, Tryd.ntmps46
      go_wp2_with fail
      refine (U.out _).mono ?_
      rintro e w1 ⟨rfl, rfl⟩
      go_wp2_with fail
      refine bodyPost_ret (results_row_tmp rfl _ _ (w.heap.size + 1) _ _ _ _ rfl (heap_alloc2_new _ _ _) Tryd.underlying35 rfl (by kernel_rfl)) rfl ?_
      have hb := fun o q : Obj => ((Below.refl w.heap.size w).alloc (Nat.le_refl _) o).alloc (by simp) q
      exact ⟨A, c, rfl, hR.below (hb _ _), hb _ _⟩
    | cons p U ih =>
      intro hG hlen A c L next w hE hR hO hl hn hn2
      have hGU : G U := fun q hq => hG q (by simp [hq])
      have hlU : (join U.reverse).length ≤ 1000 := by
        have h := join_drop (P := (p :: U).reverse) (by simp)
        rw [List.reverse_cons, List.dropLast_concat] at h
        rw [List.reverse_cons] at hlen
        omega
      have hdrop : ((p :: U).reverse).dropLast = U.reverse := by rw [List.reverse_cons, List.dropLast_concat]
      have UP := Lib.hid (fun (w : World) => up_any (pathOf (p :: U).reverse) (p :: U).reverse w (bl_pathOf _) (by simp) (G_rev hG) (by rw [← bl_size]; exact Nat.le_trans hlen (by decide)))
      rw [hdrop] at UP
      obtain ⟨st, hst⟩ : ∃ st, pathOf (p :: U).reverse = st := ⟨_, rfl⟩
      rw [hst] at UP ⊢
      rw [List.reverse_reverse]
      have hr2 : ((p :: U).reverse).length = U.length + 1 := by simp
      rw [hr2] at hl hn2
      clear hst hdrop hlen hr2
      by_cases hU : U = []
      · subst hU
        rw [parV_one]
        go_enter Tryd.func46, Tryd.ntmps46
        go_wp2_with fail
        refine (UP.out _).mono ?_
        rintro e w1 ⟨r, rfl, hr, rfl⟩
        obtain rfl : (⟨#[]⟩ : ByteArray) = r := bl_inj hr.symm
        clear hr
        go_wp2_with fail
        refine bodyPost_ret (results_row_tmp rfl _ _ (w.heap.size + 1) _ _ _ _ rfl (heap_alloc2_new _ _ _) Tryd.underlying35 rfl (by kernel_rfl)) rfl ?_
        have hb := fun o q : Obj => ((Below.refl w.heap.size w).alloc (Nat.le_refl _) o).alloc (by simp) q
        exact ⟨A, c, rfl, hR.below (hb _ _), hb _ _⟩
      · have hkey : parts (bl (pathOf U.reverse)) = U.reverse := by rw [bl_pathOf, parts_join _ (G_rev hGU)]
        have hps : (pathOf U.reverse).size ≤ 1000 := by rw [← bl_size]; exact hlU
        have hne : (pathOf U.reverse).toList.isEmpty = false := by
          have h2 : bl (pathOf U.reverse) ≠ [] := by rw [bl_pathOf]; exact join_ne _ (by simpa using hU) (fun q hq => (G_rev hGU q hq).ne)
          rw [ByteArray.toList_eq]; simpa using h2
        have HPK := Lib.hid (parV_kept hO next U hGU hlU)
        have hN := fun o q : Obj => ((Below.refl w.heap.size w).alloc (Nat.le_refl _) o).alloc (by simp) q
        rcases ho : look L U.reverse with _ | x
        · rw [parV_miss hU ho]
          have GN := Lib.hid (fun (w : World) (hE : Env w) (hR : RT w A c L) => get_none A c L next (pathOf U.reverse) w hE hR hO (by omega) (by omega) (by rw [hkey]; exact ho))
          have IH := Lib.hid (fun (w : World) (hE : Env w) (hR : RT w A c L) => ih hGU hlU A c L next w hE hR hO (by rw [List.length_reverse]; omega) hn (by rw [List.length_reverse]; omega))
          rw [List.reverse_reverse] at IH
          generalize parV L next U = Q at IH HPK ⊢
          obtain ⟨L2, n2, e2⟩ := Q
          have HPK2 : Kept L next (L2, n2, e2) U.length := HPK.out
          have hk1 : L2.length ≤ L.length + U.length := HPK2.len.2
          have hk2 : next ≤ n2 ∧ n2 ≤ next + U.length := HPK2.next
          have hk3 : OkT L2 := HPK2.ok
          have PU := Lib.hid (fun (A' : Option Addr) (c' : Nat) (w : World) (hE : Env w) (hR : RT w A' c' L2) => put_any A' c' L2 n2 (dirRow U.reverse n2) w hE hR hk3 (by show (pathOf U.reverse).size ≤ _; omega) (by omega))
          clear ho HPK HPK2 hk3
          go_enter Tryd.func46, Tryd.ntmps46
          go_wp2_with fail
          refine (UP.out _).mono ?_
          rintro e w1 ⟨r, rfl, hr, rfl⟩
          obtain rfl := path_eq hr
          clear hr
          go_wp2_with fail
          refine (GN.out _ (hE.below (hN _ _)) (hR.below (hN _ _))).mono ?_
          rintro e w3 ⟨rfl, hb3⟩
          obtain ⟨b0, b1, hn3⟩ := two_blocks (a := [.slice A (List.length L) c, .int .i64 next]) (b := [.slice none 0 0, .int .i64 0]) hb3
          have hn0 : w.heap.size < w3.heap.size := by omega
          have c0 := blk_cell b0 (j := 0) rfl
          have c1 := blk_cell b0 (j := 1) rfl
          have hB3 := bch (hN _ _) hb3
          have B0 := Lib.hid b0
          have B1 := Lib.hid b1
          clear b0 b1 hb3
          go_wp2_with fail
          have hal3 := fun o : Obj => hB3.alloc (o := o) (by omega)
          refine (IH.out _ (hE.below (hal3 _)) (hR.below (hal3 _))).mono ?_
          rintro e w4 ⟨A', c', rfl, hR4, hb4⟩
          have b0 : w4.heap[w.heap.size]? = some (.cells [.slice A (List.length L) c, .int .i64 next].toArray 35 (0, 0)) := by
            rw [hb4.block _ (by simp; omega), Below.heap_alloc _ _ _ hn0]; exact B0.out
          have b1 : w4.heap[w.heap.size + 1]? = some (.cells [.slice none 0 0, .int .i64 0].toArray 35 (0, 0)) := by
            rw [hb4.block _ (by simp; omega), Below.heap_alloc _ _ _ hn3]; exact B1.out
          have hn4 : w.heap.size + 1 < w4.heap.size := (Array.getElem?_eq_some_iff.1 b1).1
          have hn40 : w.heap.size < w4.heap.size := by omega
          have hB4 := bch (hal3 _) hb4
          clear c0 c1 hb4 B0 B1 hB3 hal3 hn3 hn0 IH GN UP
          have c0 := blk_cell b0 (j := 0) rfl
          have c1 := blk_cell b0 (j := 1) rfl
          have d0 := blk_cell b1 (j := 0) rfl
          have d1 := blk_cell b1 (j := 1) rfl
          have f1 := blk_frozen b1
          have B1 := Lib.hid b1
          clear b0 b1
          by_cases he : e2 = 0
          case neg =>
            have heb : (e2 != 0) = true := by simp [he]
            go_wp2_with fail
            rw [set2 B1.out]
            refine bodyPost_ret (results_row_tmp rfl _ _ (w.heap.size + 1) _ _ _ _ rfl (set_alloc B1.out _ _) Tryd.underlying35 rfl (by kernel_rfl)) rfl ?_
            have hb := fun (o : Obj) (cs : Array Value) => (below_setRow (g := w.heap.size + 1) hB4 (by omega) cs).alloc (by rw [setRow_size]; omega) o
            exact ⟨A, c, rfl, hR.below (hb _ _), hb _ _⟩
          case pos =>
            subst he
            go_wp2_with fail
            have hal4 := fun o : Obj => hB4.alloc (o := o) (by omega)
            refine (PU.out A' c' _ (hE.below (hal4 _)) (hR4.alloc _)).mono ?_
            rintro e w5 ⟨A5, c5, rfl, hR5, hA5, hb5⟩
            have k1 : w5.heap[w.heap.size + 1]? = some (.cells [.slice none 0 0, .int .i64 0].toArray 35 (0, 0)) := by
              rw [hb5.block _ (by simp; omega), Below.heap_alloc _ _ _ hn4]; exact B1.out
            have k4 : w5.heap[w4.heap.size]? = some (.cells [.slice A' L2.length c', .int .i64 n2].toArray 35 (0, 0)) := by
              rw [hb5.block _ (by simp)]; exact heap_alloc_new w4 _
            have hn5 : w4.heap.size < w5.heap.size := (Array.getElem?_eq_some_iff.1 k4).1
            have hB5 := bch (hal4 _) hb5
            clear c0 c1 d0 d1 f1 B1 hB4 hal4 hb5 PU hR4
            have d0 := blk_cell k1 (j := 0) rfl
            have d1 := blk_cell k1 (j := 1) rfl
            have f1 := blk_frozen k1
            have m0 := blk_cell k4 (j := 0) rfl
            have m1 := blk_cell k4 (j := 1) rfl
            have f4 := blk_frozen k4
            have hag := cell_again k4
            have K1 := Lib.hid k1
            have K4 := Lib.hid k4
            clear k1 k4
            go_wp2_with fail
            have hK : (w5.setRow w4.heap.size #[.slice A5 (putR L2 (dirRow U.reverse n2)).length c5, .int .i64 (n2 + 1)]).heap[w.heap.size + 1]? = some (.cells [.slice none 0 0, .int .i64 0].toArray 35 (0, 0)) := by
              rw [heap_setRow_ne _ _ _ _ (by omega)]; exact K1.out
            rw [set2_again K4.out, set2 hK]
            refine bodyPost_ret (results_row_tmp rfl _ _ (w.heap.size + 1) _ _ _ _ rfl (setRow_heap _ _ _ _ _ _ hK) Tryd.underlying35 rfl (by kernel_rfl)) rfl ?_
            have hA6 : ∀ a, A5 = some a → w4.heap.size < a.block := fun a ha => by have := hA5 a ha; simp at this; omega
            exact ⟨A5, c5, rfl, (hR5.setRow hA6 _).setRow (fun a ha => by have := hA6 a ha; omega) _, below_setRow (below_setRow hB5 (by omega) _) (by omega) _⟩
        · rw [parV_hit hU ho]
          obtain ⟨path, id, kind, mode, size, made⟩ := x
          have GS := Lib.hid (fun (w : World) (hE : Env w) (hR : RT w A c L) => get_some A c L next (pathOf U.reverse) w hE hR hO (by omega) (by omega) (by rw [hkey]; exact ho))
          by_cases hkd : kind = 4
          · subst hkd
            rw [if_pos rfl]
            clear ho
            go_enter Tryd.func46, Tryd.ntmps46
            go_wp2_with fail
            refine (UP.out _).mono ?_
            rintro e w1 ⟨r, rfl, hr, rfl⟩
            obtain rfl := path_eq hr
            clear hr
            go_wp2_with fail
            refine (GS.out _ (hE.below (hN _ _)) (hR.below (hN _ _))).mono ?_
            rintro e w3 ⟨rfl, hb3⟩
            obtain ⟨b0, b1, hn3⟩ := two_blocks (a := [.slice A (List.length L) c, .int .i64 next]) (b := [.slice none 0 0, .int .i64 0]) hb3
            have hn0 : w.heap.size < w3.heap.size := by omega
            have c0 := blk_cell b0 (j := 0) rfl
            have c1 := blk_cell b0 (j := 1) rfl
            have d0 := blk_cell b1 (j := 0) rfl
            have d1 := blk_cell b1 (j := 1) rfl
            have f1 := blk_frozen b1
            have hB3 := bch (hN _ _) hb3
            have B1 := Lib.hid b1
            clear b0 b1 hb3
            go_wp2_with fail
            rw [set2 B1.out]
            refine bodyPost_ret (results_row_tmp rfl _ _ (w.heap.size + 1) _ _ _ _ rfl (set_alloc B1.out _ _) Tryd.underlying35 rfl (by kernel_rfl)) rfl ?_
            have hb := fun (o : Obj) (cs : Array Value) => (below_setRow (g := w.heap.size + 1) hB3 (by omega) cs).alloc (by rw [setRow_size]; omega) o
            exact ⟨A, c, rfl, hR.below (hb _ _), hb _ _⟩
          · rw [if_neg hkd]
            have hkb : (kind != 4) = true := by simp [hkd]
            clear ho hkd
            go_enter Tryd.func46, Tryd.ntmps46
            go_wp2_with fail
            refine (UP.out _).mono ?_
            rintro e w1 ⟨r, rfl, hr, rfl⟩
            obtain rfl := path_eq hr
            clear hr
            go_wp2_with fail
            refine (GS.out _ (hE.below (hN _ _)) (hR.below (hN _ _))).mono ?_
            rintro e w3 ⟨rfl, hb3⟩
            obtain ⟨b0, b1, hn3⟩ := two_blocks (a := [.slice A (List.length L) c, .int .i64 next]) (b := [.slice none 0 0, .int .i64 0]) hb3
            have hn0 : w.heap.size < w3.heap.size := by omega
            have c0 := blk_cell b0 (j := 0) rfl
            have c1 := blk_cell b0 (j := 1) rfl
            have d0 := blk_cell b1 (j := 0) rfl
            have d1 := blk_cell b1 (j := 1) rfl
            have f1 := blk_frozen b1
            have hB3 := bch (hN _ _) hb3
            have B1 := Lib.hid b1
            clear b0 b1 hb3
            go_wp2_with fail
            rw [set2 B1.out]
            refine bodyPost_ret (results_row_tmp rfl _ _ (w.heap.size + 1) _ _ _ _ rfl (set_alloc B1.out _ _) Tryd.underlying35 rfl (by kernel_rfl)) rfl ?_
            have hb := fun (o : Obj) (cs : Array Value) => (below_setRow (g := w.heap.size + 1) hB3 (by omega) cs).alloc (by rw [setRow_size]; omega) o
            exact ⟨A, c, rfl, hR.below (hb _ _), hb _ _⟩
  intro P hG hl
  have h := main P.reverse (G_rev hG) (by rw [List.reverse_reverse]; exact hl)
  rw [List.reverse_reverse] at h
  exact h

end Go.Proofs.YtcniahbliadgiaaDoor

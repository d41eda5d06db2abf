/-
  Walks of package merge: over.
  Walks of package merge: Over.
-/
import Derived.Test.YtcniahbliadgiaaDoorMergeP
import Derived.Test.YtcniahbliadgiaaDoorMeas
import Derived.Deep.DeepCutAuto
import Derived.Deep.LoopGhost
import Derived.Deep.RegionWith
import Derived.Deep.DrawnRows
namespace Go.Proofs.YtcniahbliadgiaaDoor
open Go.RowKit
open Go.Proofs.PnKit Go.Proofs.PnPath

theorem blk_lt {w : World} {g : Nat} {o : Obj} (h : w.heap[g]? = some o) : g < w.heap.size := (Array.getElem?_eq_some_iff.1 h).1

set_option maxRecDepth 100000 in
set_option maxHeartbeats 2000000 in
theorem over_any (A : Option Addr) (c : Nat) (L : List Rw) (next : Int) (r : Rw) (more : Int) (w : World) (hE : Env w) (hR : RT w A c L) (hO : OkT L) (hp : r.path.size ≤ 1000) (hl : L.length ≤ 49000) (hid : 0 ≤ r.id ∧ r.id ≤ 1000000) (hmo : 0 ≤ more ∧ more ≤ 1000000) :
    Calls Tryd.prog 50 #[.agg #[.slice A (List.length L) c, .int .i64 next], r.val, .int .i64 more] w fun e w' =>
      ∃ A' c', e = .returned (.tuple #[.agg #[.slice A' (moveR L r more).1.length c', .int .i64 next], .int .i64 (moveR L r more).2]) ∧ RT w' A' c' (moveR L r more).1 ∧ Below w.heap.size w w' := by
  obtain ⟨gp, gi, gk, gm, gs, gd, there, hlk, hget⟩ := get_gen A c L next r.path hO (by omega) (by omega)
  obtain ⟨path, id, kind, mode, size, made⟩ := r
  simp only at hp hid hlk hget
  have GT := Lib.hid hget
  have hk0 : key (⟨path, id, kind, mode, size, made⟩ : Rw) = parts (bl path) := rfl
  have hcase : (∃ b, there = true ∧ (gk == 4) = b ∧ (kind == 4) = !b ∧ moveR L ⟨path, id, kind, mode, size, made⟩ more = (L, 130)) ∨
      (∃ b, there = true ∧ (gk == 4) = b ∧ (kind == 4) = b ∧ made = true ∧ moveR L ⟨path, id, kind, mode, size, made⟩ more = (L, 0)) ∨
      (there = true ∧ (gk == 4) = true ∧ (kind == 4) = true ∧ made = false ∧ moveR L ⟨path, id, kind, mode, size, made⟩ more = (putR L ⟨path, gi, kind, mode, size, made⟩, 0)) ∨
      (there = true ∧ (gk == 4) = false ∧ (kind == 4) = false ∧ made = false ∧ moveR L ⟨path, id, kind, mode, size, made⟩ more = (putR L ⟨path, id + more, kind, mode, size, made⟩, 0)) ∨
      (there = false ∧ moveR L ⟨path, id, kind, mode, size, made⟩ more = (putR L ⟨path, id + more, kind, mode, size, made⟩, 0)) := by
    unfold moveR
    rw [hk0, hlk]
    cases there
    · right; right; right; right
      exact ⟨rfl, rfl⟩
    · rw [if_pos rfl]
      cases hg4 : (gk == 4) <;> cases hk4 : (kind == 4)
      · cases made
        · right; right; right; left
          have hkn : ¬ kind = 4 := fun h => by rw [h] at hk4; cases hk4
          refine ⟨rfl, rfl, rfl, rfl, ?_⟩
          simp only [hg4, if_neg hkn]; rfl
        · right; left
          refine ⟨false, rfl, rfl, rfl, rfl, ?_⟩
          simp only [hg4]; rfl
      · left
        refine ⟨false, rfl, rfl, rfl, ?_⟩
        simp only [hg4]; rfl
      · left
        refine ⟨true, rfl, rfl, rfl, ?_⟩
        simp only [hg4]; rfl
      · have hky : kind = 4 := beq_iff_eq.1 hk4
        cases made
        · right; right; left
          refine ⟨rfl, rfl, rfl, rfl, ?_⟩
          simp only [hg4, if_pos hky]; rfl
        · right; left
          refine ⟨true, rfl, rfl, rfl, rfl, ?_⟩
          simp only [hg4]; rfl
  have HCASE := Lib.hid hcase
  have HR := Lib.hid hR
  have HE := Lib.hid hE
  have hpu : ∀ (i : Int) (w : World) (hE : Env w) (hR : RT w A c L), Calls Tryd.prog 47 #[.agg #[.slice A (List.length L) c, .int .i64 next], .agg #[.string path, .int .i64 i, .int .i64 kind, .int .i64 mode, .int .i64 0, .int .i64 0, .int .i64 0, .string nos, .string nos, .string nos, .slice none 0 0, .int .i64 size, .bool made]] w fun e w' =>
      ∃ A' c', e = .returned (.agg #[.slice A' (putR L ⟨path, i, kind, mode, size, made⟩).length c', .int .i64 next]) ∧ RT w' A' c' (putR L ⟨path, i, kind, mode, size, made⟩) ∧ (∀ a, A' = some a → w.heap.size ≤ a.block) ∧ Below w.heap.size w w' :=
    fun i w hE hR => put_any A c L next ⟨path, i, kind, mode, size, made⟩ w hE hR hO (by show path.size ≤ _; omega) (by omega)
  have PU := Lib.hid hpu
  obtain ⟨RES, hRES⟩ : ∃ RES, moveR L ⟨path, id, kind, mode, size, made⟩ more = RES := ⟨_, rfl⟩
  rw [hRES] at HCASE ⊢
  clear hlk hget hR hE hRES hcase hk0 hpu hO
  show Calls Tryd.prog 50 #[.agg #[.slice A (List.length L) c, .int .i64 next], .agg #[.string path, .int .i64 id, .int .i64 kind, .int .i64 mode, .int .i64 0, .int .i64 0, .int .i64 0, .string nos, .string nos, .string nos, .slice none 0 0, .int .i64 size, .bool made], .int .i64 more] w _
  go_enter Tryd.func50, Tryd.ntmps50
  go_wp2_with fail
  have hN := fun o q u : Obj => (((Below.refl w.heap.size w).alloc (Nat.le_refl _) o).alloc (by simp) q).alloc (by simp; omega) u
  refine (GT.out _ (HE.out.below (hN _ _ _)) (HR.out.below (hN _ _ _))).mono ?_
  rintro e w1 ⟨rfl, hb1⟩
  obtain ⟨b0, b1, b2, hn1⟩ := three_blocks (a := [.slice A (List.length L) c, .int .i64 next]) (b := Rw.cells ⟨path, id, kind, mode, size, made⟩) (d := [.slice none 0 0, .int .i64 0]) hb1
  have HB1 := Lib.hid (bch (hN _ _ _) hb1)
  have c0 := blk_cell b0 (j := 0) rfl
  have c1 := blk_cell b0 (j := 1) rfl
  obtain ⟨z0, z1, z2, z3, z4, z5, z6, z7, z8, z9, z10, z11, z12⟩ := row_cells b1
  have f1 := blk_frozen b1
  have d0 := blk_cell b2 (j := 0) rfl
  have d1 := blk_cell b2 (j := 1) rfl
  have f2 := blk_frozen b2
  have B2 := Lib.hid b2
  have hn10 : w.heap.size < w1.heap.size := by omega
  have hn11 : w.heap.size + 1 < w1.heap.size := by omega
  have hb := fun (o : Obj) (cs : Array Value) => (below_setRow (g := w.heap.size + 1 + 1) HB1.out (by omega) cs).alloc (by rw [setRow_size]; omega) o
  have HBB := Lib.hid hb
  clear b0 b1 b2 hb1 hN hb
  rcases HCASE.out with ⟨b, rfl, h1, h3, h2⟩ | ⟨b, rfl, h1, h3, rfl, h2⟩ | ⟨rfl, h1, h3, rfl, h2⟩ | ⟨rfl, h1, h3, rfl, h2⟩ | ⟨rfl, h2⟩
  · have HRE := Lib.hid h2
    clear h2 HCASE
    cases b
    all_goals
      simp only [Bool.not_true, Bool.not_false] at h3
      go_wp2_with fail
      rw [set2 B2.out]
      refine bodyPost_ret (results_row_tmp rfl _ _ (w.heap.size + 1 + 1) _ _ _ _ rfl (set_alloc B2.out _ _) Tryd.underlying35 rfl (by kernel_rfl)) rfl ?_
      rw [HRE.out]
      exact ⟨A, c, rfl, HR.out.below (HBB.out _ _), HBB.out _ _⟩
  · have HRE := Lib.hid h2
    clear h2 HCASE
    cases b
    all_goals
      go_wp2_with fail
      rw [set2 B2.out]
      refine bodyPost_ret (results_row_tmp rfl _ _ (w.heap.size + 1 + 1) _ _ _ _ rfl (set_alloc B2.out _ _) Tryd.underlying35 rfl (by kernel_rfl)) rfl ?_
      rw [HRE.out]
      exact ⟨A, c, rfl, HR.out.below (HBB.out _ _), HBB.out _ _⟩
  all_goals
    have HRE := Lib.hid h2
    clear h2 HCASE
    have hB1 := fun v : Value => HB1.out.setCell (p := ⟨w.heap.size + 1, 1, none⟩) (by simp) v
    have hBA := fun (v : Value) (o : Obj) => (hB1 v).alloc (by simp; omega) o
    have hBB := fun (v u : Value) (o : Obj) => ((hB1 v).setCell (p := ⟨w.heap.size + 1, 1, none⟩) (by simp) u).alloc (by simp; omega) o
    have HBA := Lib.hid hBA
    have HBB2 := Lib.hid hBB
    have hk2 := fun (v : Value) (o : Obj) => (show ((w1.setCell ⟨w.heap.size + 1, 1, none⟩ v).alloc o).heap[w.heap.size + 1 + 1]? = _ from ((Below.heap_alloc _ _ _ (by simp; omega)).trans (heap_setCell_ne v (by omega))).trans B2.out)
    have hk3 := fun (v u : Value) (o : Obj) => (show (((w1.setCell ⟨w.heap.size + 1, 1, none⟩ v).setCell ⟨w.heap.size + 1, 1, none⟩ u).alloc o).heap[w.heap.size + 1 + 1]? = _ from (((Below.heap_alloc _ _ _ (by simp; omega)).trans (heap_setCell_ne u (by omega))).trans (heap_setCell_ne v (by omega))).trans B2.out)
    have HK2 := Lib.hid hk2
    have HK3 := Lib.hid hk3
    clear hB1 hBA hBB hk2 hk3
    go_wp2_with fail
    first
      | (refine (PU.out _ _ (HE.out.below (HBA.out _ _)) (HR.out.below (HBA.out _ _))).mono ?_
         rintro e w2 ⟨A2, c2, rfl, hR2, -, hb2⟩
         have k2 := (hb2.block (w.heap.size + 1 + 1) (blk_lt (HK2.out _ _))).trans (HK2.out _ _)
         have hB2 := bch (HBA.out _ _) hb2)
      | (refine (PU.out _ _ (HE.out.below (HBB2.out _ _ _)) (HR.out.below (HBB2.out _ _ _))).mono ?_
         rintro e w2 ⟨A2, c2, rfl, hR2, -, hb2⟩
         have k2 := (hb2.block (w.heap.size + 1 + 1) (blk_lt (HK3.out _ _ _))).trans (HK3.out _ _ _)
         have hB2 := bch (HBB2.out _ _ _) hb2)
    have HR2 := Lib.hid hR2
    have HB2 := Lib.hid hB2
    have K2 := Lib.hid k2
    clear d0 d1 f2 z0 z1 z2 z3 z4 z5 z6 z7 z8 z9 z10 z11 z12 c0 c1 f1 hR2 hb2 hB2
    have d0 := blk_cell k2 (j := 0) rfl
    have d1 := blk_cell k2 (j := 1) rfl
    have f2 := blk_frozen k2
    clear k2
    go_wp2_with fail
    rw [set2 K2.out]
    refine bodyPost_ret (results_row_tmp rfl _ _ (w.heap.size + 1 + 1) _ _ _ _ rfl (setRow_heap _ _ _ _ _ _ K2.out) Tryd.underlying35 rfl (by kernel_rfl)) rfl ?_
    rw [HRE.out]
    exact ⟨A2, c2, rfl, HR2.out.setOther K2.out tree_no _, below_setRow HB2.out (by omega) _⟩

end Go.Proofs.YtcniahbliadgiaaDoor

namespace Go.Proofs.YtcniahbliadgiaaDoor
open Go.RowKit
open Go.Proofs.PnKit Go.Proofs.PnPath

theorem moveR_OkT {L : List Rw} (h : OkT L) {r : Rw} (hr : ∃ P, G P ∧ P ≠ [] ∧ bl r.path = join P) (hs : r.path.size ≤ 1000) (more : Int) : OkT (moveR L r more).1 := by
  obtain ⟨P, h1, h2, h3⟩ := hr
  unfold moveR
  rcases look L (key r) with _ | o
  · exact h.putR h1 h2 h3 hs
  · simp only
    split
    · exact h
    · split
      · exact h
      · exact h.putR h1 h2 h3 hs
theorem moveR_len {L : List Rw} (h : OkT L) (r : Rw) (more : Int) : (moveR L r more).1.length ≤ L.length + 1 := by
  unfold moveR
  rcases look L (key r) with _ | o
  · exact putR_length_le h.sorted
  · simp only
    split
    · exact Nat.le_succ _
    · split
      · exact Nat.le_succ _
      · exact putR_length_le h.sorted

/-- where the loop stands: the tree that is made lies in a block of the call's own -/
structure OvAt (w wr : World) (A : Option Addr) (c n : Nat) (na : Int) (B : Option Addr) (d m : Nat) (nb : Int) (cur : List Rw) : Prop where
  b0 : wr.heap[w.heap.size]? = some (.cells [.slice A n c, .int .i64 na].toArray 35 (0, 0))
  b1 : wr.heap[w.heap.size + 1]? = some (.cells [.slice B m d, .int .i64 nb].toArray 35 (0, 0))
  b2 : wr.heap[w.heap.size + 1 + 1]? = some (.cells [.slice none 0 0, .int .i64 0].toArray 35 (0, 0))
  b3 : ∃ A' c', wr.heap[w.heap.size + 1 + 1 + 1]? = some (.cells [.slice A' cur.length c', .int .i64 na].toArray 35 (0, 0)) ∧ RT wr A' c' cur
  below : Below w.heap.size w wr
section
variable {w wr w' : World} {A B : Option Addr} {c n d m : Nat} {na nb : Int} {cur cur' : List Rw}
theorem OvAt.next (h : OvAt w wr A c n na B d m nb cur) (hb : Below wr.heap.size wr w') : OvAt w w' A c n na B d m nb cur := by
  obtain ⟨A', c', h1, h2⟩ := h.b3
  exact ⟨(hb.block _ (blk_lt h.b0)).trans h.b0, (hb.block _ (blk_lt h.b1)).trans h.b1, (hb.block _ (blk_lt h.b2)).trans h.b2, ⟨A', c', (hb.block _ (blk_lt h1)).trans h1, h2.below hb⟩, h.below.trans (hb.mono h.below.size)⟩
theorem OvAt.lt (h : OvAt w wr A c n na B d m nb cur) : w.heap.size + 1 + 1 + 1 < wr.heap.size := by
  obtain ⟨A', c', h1, _⟩ := h.b3
  exact blk_lt h1
theorem OvAt.put (h : OvAt w wr A c n na B d m nb cur) {A' : Option Addr} {c' : Nat} (hR : RT wr A' c' cur') : OvAt w (wr.setRow (w.heap.size + 1 + 1 + 1) #[.slice A' cur'.length c', .int .i64 na]) A c n na B d m nb cur' := by
  obtain ⟨A0, c0, h1, _⟩ := h.b3
  refine ⟨?_, ?_, ?_, ⟨A', c', setRow_heap _ _ _ _ _ _ h1, hR.setOther h1 tree_no _⟩, below_setRow h.below (by omega) _⟩
  · rw [heap_setRow_ne _ _ _ _ (by omega)]; exact h.b0
  · rw [heap_setRow_ne _ _ _ _ (by omega)]; exact h.b1
  · rw [heap_setRow_ne _ _ _ _ (by omega)]; exact h.b2
end

set_option maxRecDepth 100000 in
set_option maxHeartbeats 2000000 in
theorem Over_any (A : Option Addr) (c : Nat) (La : List Rw) (na : Int) (B : Option Addr) (d : Nat) (Lb : List Rw) (nb : Int) (w : World) (hE : Env w) (hA : RT w A c La) (hB : RT w B d Lb) (hOa : OkT La) (hOb : OkT Lb)
    (hla : La.length ≤ 20000) (hlb : Lb.length ≤ 20000) (hid : ∀ r ∈ Lb, 0 ≤ r.id ∧ r.id ≤ 1000000) (hna : 0 ≤ na ∧ na ≤ 1000000) (hnb : 0 ≤ nb ∧ nb ≤ 1000000) :
    Calls Tryd.prog 28 #[.agg #[.slice A (List.length La) c, .int .i64 na], .agg #[.slice B (List.length Lb) d, .int .i64 nb]] w fun e w' =>
      ∃ A' c', e = .returned (.tuple #[.agg #[.slice A' (mergeV (La, na) (Lb, nb)).1.length c', .int .i64 (mergeV (La, na) (Lb, nb)).2.1], .int .i64 (mergeV (La, na) (Lb, nb)).2.2]) ∧ RT w' A' c' (mergeV (La, na) (Lb, nb)).1 ∧ Below w.heap.size w w' := by
  have HE := Lib.hid hE
  have HA := Lib.hid hA
  have HB := Lib.hid hB
  have HOB := Lib.hid hOb
  have HID := Lib.hid hid
  obtain ⟨RES, hRES⟩ : ∃ RES, overR La na Lb = RES := ⟨_, rfl⟩
  have hmv : mergeV (La, na) (Lb, nb) = if RES.2 ≠ 0 then (La, na, RES.2) else (RES.1, na + nb, 0) := by rw [← hRES]; rfl
  obtain ⟨RM, hRM⟩ : ∃ RM, mergeV (La, na) (Lb, nb) = RM := ⟨_, rfl⟩
  rw [hRM] at hmv ⊢
  have HRM := Lib.hid hmv
  have HRES := Lib.hid hRES
  have HOA := Lib.hid hOa
  clear hE hA hB hOb hOa hid hRES hmv hRM
  go_enter Tryd.func28, Tryd.ntmps28
  go_wp2_with fail
  go_loopg [15] Lb.length (fun g i wr => ∃ (k : Nat) (cur : List Rw), g = Lb.length - k ∧ i = .int .i64 k ∧ k ≤ Lb.length ∧ cur.length ≤ La.length + k ∧ Hid (overR cur na (Lb.drop k) = RES) ∧ Hid (OkT cur) ∧ Hid (OvAt w wr A c La.length na B d Lb.length nb cur))
  case atStart =>
    refine ⟨0, La, rfl, rfl, Nat.zero_le _, Nat.le_refl _, (show Hid _ from HRES.out), HOA, Lib.hid ⟨?_, ?_, ?_, ⟨A, c, ?_, ?_⟩, ?_⟩⟩
    · rw [Below.heap_alloc _ _ _ (by simp; omega), Below.heap_alloc _ _ _ (by simp; omega), Below.heap_alloc _ _ _ (by simp)]; exact heap_alloc_new w _
    · rw [Below.heap_alloc _ _ _ (by simp), Below.heap_alloc _ _ _ (by simp)]; exact heap_alloc2_new w _ _
    · rw [Below.heap_alloc _ _ _ (by simp)]
      have h := heap_alloc_new ((w.alloc (.cells #[.slice A (List.length La) c, .int .i64 na] 35)).alloc (.cells #[.slice B (List.length Lb) d, .int .i64 nb] 35)) (.cells #[.slice none 0 0, .int .i64 0] 35)
      have e : ((w.alloc (.cells #[.slice A (List.length La) c, .int .i64 na] 35)).alloc (.cells #[.slice B (List.length Lb) d, .int .i64 nb] 35)).heap.size = w.heap.size + 1 + 1 := by simp
      rw [e] at h; exact h
    · have h := heap_alloc_new (((w.alloc (.cells #[.slice A (List.length La) c, .int .i64 na] 35)).alloc (.cells #[.slice B (List.length Lb) d, .int .i64 nb] 35)).alloc (.cells #[.slice none 0 0, .int .i64 0] 35)) (.cells #[.slice A (List.length La) c, .int .i64 na] 35)
      have e : (((w.alloc (.cells #[.slice A (List.length La) c, .int .i64 na] 35)).alloc (.cells #[.slice B (List.length Lb) d, .int .i64 nb] 35)).alloc (.cells #[.slice none 0 0, .int .i64 0] 35)).heap.size = w.heap.size + 1 + 1 + 1 := by simp
      rw [e] at h; exact h
    · exact (((HA.out.alloc _).alloc _).alloc _).alloc _
    · exact (((Below.refl w.heap.size w).alloc (Nat.le_refl _) _).alloc (by simp) _).alloc (by simp; omega) _ |>.alloc (by simp; omega) _
  case round =>
    obtain ⟨k, cur, rfl, rfl, hk, hcl, HF, HOC, HAT⟩ := hrel
    obtain ⟨A1, c1, hb3, hR1⟩ := HAT.out.b3
    have HB3 := Lib.hid hb3
    have HR1 := Lib.hid hR1
    have hn3 : w.heap.size + 1 + 1 + 1 < wr.heap.size := HAT.out.lt
    have hn0 : w.heap.size < wr.heap.size := by omega
    have hn1 : w.heap.size + 1 < wr.heap.size := by omega
    have hn2 : w.heap.size + 1 + 1 < wr.heap.size := by omega
    have a0 := blk_cell HAT.out.b0 (j := 0) rfl
    have a1 := blk_cell HAT.out.b0 (j := 1) rfl
    have u0 := blk_cell HAT.out.b1 (j := 0) rfl
    have u1 := blk_cell HAT.out.b1 (j := 1) rfl
    have y0 := blk_cell HAT.out.b2 (j := 0) rfl
    have y1 := blk_cell HAT.out.b2 (j := 1) rfl
    have yf := blk_frozen HAT.out.b2
    have t0 := blk_cell hb3 (j := 0) rfl
    have t1 := blk_cell hb3 (j := 1) rfl
    have tf := blk_frozen hb3
    clear hb3 hR1
    by_cases hlt : k < Lb.length
    case neg =>
      have hres : RES = (cur, 0) := by rw [← HF.out, List.drop_eq_nil_of_le (by omega)]; rfl
      have HRE := Lib.hid hres
      have hz2 : (wr.setCell ⟨w.heap.size + 1 + 1 + 1, 1, none⟩ (.int .i64 (na + nb))).heap[w.heap.size + 1 + 1]? = some (.cells [.slice none 0 0, .int .i64 0].toArray 35 (0, 0)) := (heap_setCell_ne _ (by omega)).trans HAT.out.b2
      have HZ2 := Lib.hid hz2
      have hr2 : RT (wr.setCell ⟨w.heap.size + 1 + 1 + 1, 1, none⟩ (.int .i64 (na + nb))) A1 c1 cur := by
        rw [setCell_eq_setRow wr _ _ _ _ _ _ HB3.out]
        exact HR1.out.setOther HB3.out tree_no _
      have HR2 := Lib.hid hr2
      have HBW := Lib.hid (HAT.out.below.setCell (p := ⟨w.heap.size + 1 + 1 + 1, 1, none⟩) (by simp; omega) (.int .i64 (na + nb)))
      clear hres hz2 hr2
      go_wp2_with fail
      rw [set2 HZ2.out]
      refine bodyPost_ret (results_row_tmp rfl _ _ (w.heap.size + 1 + 1) _ _ _ _ rfl (setRow_heap _ _ _ _ _ _ HZ2.out) Tryd.underlying35 rfl (by kernel_rfl)) rfl ?_
      rw [HRM.out, HRE.out, if_neg (fun h => h rfl)]
      exact ⟨A1, c1, rfl, HR2.out.setOther HZ2.out tree_no _, below_setRow HBW.out (by omega) _⟩
    have hx : Lb[k]? = some Lb[k] := List.getElem?_eq_getElem hlt
    have hdr : Lb.drop k = Lb[k] :: Lb.drop (k + 1) := List.drop_eq_getElem_cons hlt
    have hmem : Lb[k] ∈ Lb := List.getElem_mem hlt
    generalize Lb[k] = r at hx hdr hmem
    obtain ⟨b, o, rfl, hbw⟩ := HB.out.pos (by omega)
    have hpz := HOB.out.psize _ hmem
    have hpp := HOB.out.path _ hmem
    have hidb := HID.out _ hmem
    have HOM := Lib.hid (moveR_OkT HOC.out hpp hpz na)
    have hml := moveR_len HOC.out r na
    have hover := fun (w : World) (hE : Env w) (hR : RT w A1 c1 cur) => over_any A1 c1 cur na r na w hE hR HOC.out hpz (by omega) hidb hna
    obtain ⟨path, id, kind, mode, size, made⟩ := r
    obtain ⟨q0, q1, q2, q3, q4, q5, q6, q7, q8, q9, q10, q11, q12⟩ := (HB.out.below HAT.out.below).cells hx
    have hov : ∀ (w : World), Env w → RT w A1 c1 cur → Calls Tryd.prog 50 #[.agg #[.slice A1 (List.length cur) c1, .int .i64 na], .agg #[.string path, .int .i64 id, .int .i64 kind, .int .i64 mode, .int .i64 0, .int .i64 0, .int .i64 0, .string nos, .string nos, .string nos, .slice none 0 0, .int .i64 size, .bool made], .int .i64 na] w fun e w' =>
      ∃ A' c', e = .returned (.tuple #[.agg #[.slice A' (moveR cur ⟨path, id, kind, mode, size, made⟩ na).1.length c', .int .i64 na], .int .i64 (moveR cur ⟨path, id, kind, mode, size, made⟩ na).2]) ∧ RT w' A' c' (moveR cur ⟨path, id, kind, mode, size, made⟩ na).1 ∧ Below w.heap.size w w' := hover
    have OV := Lib.hid hov
    have HDR := Lib.hid hdr
    have hov2 : overR cur na (⟨path, id, kind, mode, size, made⟩ :: Lb.drop (k + 1)) = RES := by rw [← HDR.out]; exact HF.out
    rw [overR] at hov2
    generalize moveR cur ⟨path, id, kind, mode, size, made⟩ na = MV at hml HOM OV hov2
    obtain ⟨M, ec⟩ := MV
    simp only at hml HOM OV hov2
    have HOV2 := Lib.hid hov2
    clear hx hdr hmem hover hov hpp hov2 HF HDR
    go_wp2_with fail
    clear q0 q1 q2 q3 q4 q5 q6 q7 q8 q9 q10 q11 q12 a0 a1 u0 u1 y0 y1 yf t0 t1 tf
    have HAL := Lib.hid (fun o : Obj => HAT.out.next ((Below.refl wr.heap.size wr).alloc (Nat.le_refl _) o))
    refine (OV.out _ (HE.out.below (HAL.out _).below) (HR1.out.alloc _)).mono ?_
    rintro e w2 ⟨A2, c2, rfl, hR2, hb2⟩
    have HA2 := Lib.hid ((HAL.out _).next hb2)
    have HR2 := Lib.hid hR2
    have hn32 : w.heap.size + 1 + 1 + 1 < w2.heap.size := HA2.out.lt
    have hn20 : w.heap.size < w2.heap.size := by omega
    have hn21 : w.heap.size + 1 < w2.heap.size := by omega
    have hn22 : w.heap.size + 1 + 1 < w2.heap.size := by omega
    clear hb2 hR2 HAL HR1 HB3 HAT
    obtain ⟨A3, c3, hb3, -⟩ := HA2.out.b3
    have a0 := blk_cell HA2.out.b0 (j := 0) rfl
    have a1 := blk_cell HA2.out.b0 (j := 1) rfl
    have y0 := blk_cell HA2.out.b2 (j := 0) rfl
    have y1 := blk_cell HA2.out.b2 (j := 1) rfl
    have yf := blk_frozen HA2.out.b2
    have t0 := blk_cell hb3 (j := 0) rfl
    have t1 := blk_cell hb3 (j := 1) rfl
    have tf := blk_frozen hb3
    have HB3 := Lib.hid hb3
    clear hb3
    by_cases he : ec = 0
    case neg =>
      have heb : (ec != 0) = true := by simp [he]
      have hres : RES = (cur, ec) := by rw [← HOV2.out, if_pos he]
      have HNE := Lib.hid he
      have HRE := Lib.hid hres
      clear he hres
      go_wp2_with fail
      rw [set2 HA2.out.b2]
      refine bodyPost_ret (results_row_tmp rfl _ _ (w.heap.size + 1 + 1) _ _ _ _ rfl (set_alloc HA2.out.b2 _ _) Tryd.underlying35 rfl (by kernel_rfl)) rfl ?_
      rw [HRM.out, HRE.out, if_pos HNE.out]
      have hb := (below_setRow HA2.out.below (g := w.heap.size + 1 + 1) (by omega) #[.slice A (List.length La) c, .int .i64 na]).alloc (by rw [setRow_size]; omega) (.cells #[.slice A2 M.length c2, .int .i64 na] 35)
      exact ⟨A, c, rfl, HA.out.below hb, hb⟩
    case pos =>
      subst he
      have HF2 : Hid (overR M na (Lb.drop (k + 1)) = RES) := Lib.hid (by rw [← HOV2.out, if_neg (by decide)])
      go_wp2_with fail
      rw [set2 HB3.out]
      go_roundg (Lb.length - (k + 1))
      case measure => omega
      case rel =>
        refine ⟨k + 1, M, rfl, by go_num, by omega, by omega, HF2, HOM, Lib.hid ?_⟩
        exact (HA2.out.put HR2.out).next ((Below.refl _ _).alloc (Nat.le_refl _) _)

end Go.Proofs.YtcniahbliadgiaaDoor

/-
  usage.Of: the walk.
-/
import Derived.Test.YtcniahbliadgiaaDoorSeen
import Derived.Test.YtcniahbliadgiaaDoorUse
import Derived.Carry
import Derived.Deep.RegionHeld3
import Derived.Deep.RegionWith
import Derived.Deep.DeepCutAuto
import Derived.Deep.LoopGhost
import Derived.Deep.DrawnRows
namespace Go.Proofs.YtcniahbliadgiaaDoor
open Go.RowKit
open Go.Proofs.PnKit Go.Proofs.PnPath

theorem lt_of_below {a b : World} {k : Nat} (h : Below a.heap.size a b) (hk : k < a.heap.size) : k < b.heap.size := Nat.lt_of_lt_of_le hk h.size
theorem setCell_heap {w : World} {g j : Nat} {cs : Array Value} {t : TypeId} (h : w.heap[g]? = some (.cells cs t (0, 0))) (v : Value) : (w.setCell ⟨g, j, none⟩ v).heap[g]? = some (.cells (cs.setIfInBounds j v) t (0, 0)) := by
  rw [setCell_eq_setRow w g j cs t (0, 0) v h]
  exact setRow_heap w g cs _ t _ h
theorem heap_setCell_ne {w : World} {g j k : Nat} (v : Value) (h : k ≠ g) : (w.setCell ⟨g, j, none⟩ v).heap[k]? = w.heap[k]? := Below.heap_setCell w ⟨g, j, none⟩ v k h

theorem set4 {w : World} {g : Nat} {t : TypeId} {x y z v : Value} (hg : w.heap[g]? = some (.cells [x, y, z, v].toArray t (0, 0))) (v0 v1 v2 v3 : Value) :
    (((w.setCell ⟨g, 0, none⟩ v0).setCell ⟨g, 1, none⟩ v1).setCell ⟨g, 2, none⟩ v2).setCell ⟨g, 3, none⟩ v3 = w.setRow g #[v0, v1, v2, v3] := by
  have h := setCells_row g t [v0, v1, v2, v3] 0 _ w hg (Nat.le_refl _)
  exact h

abbrev usC (u : Us) : List Value := [.int .i64 u.bytes, .int .i64 u.inodes, .int .i64 u.depth, .int .i64 u.length]
/-- where the loop stands behind k rows -/
structure OfAt (w wr : World) (A : Option Addr) (n c : Nat) (next : Int) (k : Nat) (ids : List Int) (u : Us) : Prop where
  b0 : wr.heap[w.heap.size]? = some (.cells [.slice A n c, .int .i64 next].toArray 35 (0, 0))
  b1 : wr.heap[w.heap.size + 1]? = some (.cells [.int .i64 0, .int .i64 0, .int .i64 0, .int .i64 0].toArray 23 (0, 0))
  b2 : wr.heap[w.heap.size + 1 + 1]? = some (.cells (usC u).toArray 23 (0, 0))
  seen : Seen wr (w.heap.size + 1 + 1 + 1) k ids
  bd : 0 ≤ u.bytes ∧ u.bytes ≤ 2000000 * k ∧ 0 ≤ u.inodes ∧ u.inodes ≤ k ∧ 0 ≤ u.depth ∧ u.depth ≤ 2000 ∧ 0 ≤ u.length ∧ u.length ≤ 2000
  below : Below w.heap.size w wr
/-- the world behind the set, but for what was written into the result -/
theorem OfAt.step {w wr w3 w4 : World} {A : Option Addr} {n c : Nat} {next : Int} {k : Nat} {ids : List Int} {u u' : Us} (h : OfAt w wr A n c next k ids u) {r : Rw} (h3 : ∀ j, j < wr.heap.size → j ≠ w.heap.size + 1 + 1 → j ≠ w.heap.size + 1 + 1 + 1 → w3.heap[j]? = wr.heap[j]?) (hs3 : Seen w3 (w.heap.size + 1 + 1 + 1) (k + 1) (r.id :: ids))
    (h4 : ∀ j, j ≠ w.heap.size + 1 + 1 → w4.heap[j]? = w3.heap[j]?) (hb4 : Below w.heap.size w w4) (hu : w4.heap[w.heap.size + 1 + 1]? = some (.cells (usC u').toArray 23 (0, 0))) (he : u' = usOne ids u r) (hsz : 0 ≤ r.size ∧ r.size ≤ 2000000) (hp : r.path.size ≤ 1000) :
    OfAt w w4 A n c next (k + 1) (r.id :: ids) (usOne ids u r) := by
  have hlt := h.seen.lt
  have hd : (key r).length ≤ 1001 := by
    have h1 := length_le_tot (parts (bl r.path))
    have h2 := tot_parts (bl r.path)
    rw [bl_size] at h2
    show (parts (bl r.path)).length ≤ 1001
    omega
  obtain ⟨a1, a2, a3, a4, a5, a6, a7, a8⟩ := h.bd
  rw [← he]
  refine ⟨?_, ?_, hu, hs3.block (h4 _ (by omega)), ?_, hb4⟩
  · rw [h4 _ (by omega), h3 _ (by omega) (by omega) (by omega)]; exact h.b0
  · rw [h4 _ (by omega), h3 _ (by omega) (by omega) (by omega)]; exact h.b1
  · rw [he]
    unfold usOne
    simp only
    refine ⟨?_, ?_, ?_, ?_, ?_, ?_, ?_, ?_⟩
    · split
      · exact a1
      · split <;> omega
    · split
      · push_cast; omega
      · split <;> push_cast <;> omega
    · split <;> omega
    · split <;> push_cast <;> omega
    · omega
    · omega
    · omega
    · omega

attribute [local go_sem ↓] Go.wp_at_zero Go.wp_at_succ

set_option maxRecDepth 100000 in
set_option maxHeartbeats 2000000 in
theorem of_any (A : Option Addr) (c : Nat) (L : List Rw) (next : Int) (w : World) (hE : Env w) (hR : RT w A c L) (hO : OkT L) (hl : L.length ≤ 50000) (hid : ∀ r ∈ L, 0 ≤ r.id ∧ r.id ≤ 1000000) (hsz : ∀ r ∈ L, 0 ≤ r.size ∧ r.size ≤ 2000000) :
    Calls Tryd.prog 19 #[.agg #[.slice A (List.length L) c, .int .i64 next]] w fun e w' =>
      e = .returned (.agg #[.int .i64 (us L).bytes, .int .i64 (us L).inodes, .int .i64 (us L).depth, .int .i64 (us L).length]) ∧ Below w.heap.size w w' := by
  have HR := Lib.hid hR
  have hmm := @run_makeMap Tryd.prog
  obtain ⟨RES, hRES⟩ : ∃ RES, us L = RES := ⟨_, rfl⟩
  rw [hRES]
  have HRES := Lib.hid hRES
  clear hRES
  go_enter Tryd.func19, Tryd.ntmps19
  go_wp2_with fail
  go_loopg [11] L.length (fun g i wr => ∃ (k : Nat) (ids : List Int) (u : Us), g = L.length - k ∧ i = .int .i64 k ∧ k ≤ L.length ∧ Hid (usF ids u (L.drop k) = RES) ∧ Hid (OfAt w wr A (List.length L) c next k ids u))
  case atStart =>
    refine ⟨0, [], ⟨0, 0, 0, 0⟩, rfl, rfl, Nat.zero_le _, (show Hid _ from HRES.out), (show Hid _ from ⟨?_, ?_, ?_, ?_, ⟨by decide, by decide, by decide, by decide, by decide, by decide, by decide, by decide⟩, ?_⟩)⟩
    · rw [Below.heap_alloc _ _ _ (by simp; omega), Below.heap_alloc _ _ _ (by simp; omega), Below.heap_alloc _ _ _ (by simp)]; exact heap_alloc_new w _
    · rw [Below.heap_alloc _ _ _ (by simp), Below.heap_alloc _ _ _ (by simp)]; exact heap_alloc2_new w _ _
    · rw [Below.heap_alloc _ _ _ (by simp)]
      have h := heap_alloc_new ((w.alloc (.cells #[.slice A (List.length L) c, .int .i64 next] 35)).alloc (.cells #[.int .i64 0, .int .i64 0, .int .i64 0, .int .i64 0] 23)) (.cells #[.int .i64 0, .int .i64 0, .int .i64 0, .int .i64 0] 23)
      have e : ((w.alloc (.cells #[.slice A (List.length L) c, .int .i64 next] 35)).alloc (.cells #[.int .i64 0, .int .i64 0, .int .i64 0, .int .i64 0] 23)).heap.size = w.heap.size + 1 + 1 := by simp
      rw [e] at h; exact h
    · have h := seen_made (((w.alloc (.cells #[.slice A (List.length L) c, .int .i64 next] 35)).alloc (.cells #[.int .i64 0, .int .i64 0, .int .i64 0, .int .i64 0] 23)).alloc (.cells #[.int .i64 0, .int .i64 0, .int .i64 0, .int .i64 0] 23))
      have e : (((w.alloc (.cells #[.slice A (List.length L) c, .int .i64 next] 35)).alloc (.cells #[.int .i64 0, .int .i64 0, .int .i64 0, .int .i64 0] 23)).alloc (.cells #[.int .i64 0, .int .i64 0, .int .i64 0, .int .i64 0] 23)).heap.size = w.heap.size + 1 + 1 + 1 := by simp
      rw [e] at h; exact h
    · exact (((Below.refl w.heap.size w).alloc (Nat.le_refl _) _).alloc (by simp) _).alloc (by simp; omega) _ |>.alloc (by simp; omega) _
  case round =>
    obtain ⟨k, ids, u, rfl, rfl, hk, HF, HA⟩ := hrel
    have hsz1 : w.heap.size + 1 + 1 + 1 < wr.heap.size := HA.out.seen.lt
    have u0 := blk_cell HA.out.b2 (j := 0) rfl
    have u1 := blk_cell HA.out.b2 (j := 1) rfl
    have u2 := blk_cell HA.out.b2 (j := 2) rfl
    have u3 := blk_cell HA.out.b2 (j := 3) rfl
    have uf := blk_frozen HA.out.b2
    by_cases hlt : k < L.length
    case neg =>
      have hu : RES = u := by rw [← HF.out, List.drop_eq_nil_of_le (by omega)]; rfl
      have HU := Lib.hid hu
      have HB1 := Lib.hid HA.out.b1
      have y0 := blk_cell HA.out.b1 (j := 0) rfl
      have y1 := blk_cell HA.out.b1 (j := 1) rfl
      have y2 := blk_cell HA.out.b1 (j := 2) rfl
      have y3 := blk_cell HA.out.b1 (j := 3) rfl
      have yf := blk_frozen HA.out.b1
      have HS4 := Lib.hid (set4 HA.out.b1)
      have HZ := Lib.hid (setRow_heap wr (w.heap.size + 1) _ #[.int .i64 u.bytes, .int .i64 u.inodes, .int .i64 u.depth, .int .i64 u.length] _ _ HA.out.b1)
      have HBW := Lib.hid (below_setRow HA.out.below (Nat.le_add_right w.heap.size 1) #[.int .i64 u.bytes, .int .i64 u.inodes, .int .i64 u.depth, .int .i64 u.length])
      clear hu
      go_wp2_with fail
      rw [HS4.out]
      refine bodyPost_ret (results_cell_row rfl _ _ (w.heap.size + 1) _ #[.int .i64 u.bytes, .int .i64 u.inodes, .int .i64 u.depth, .int .i64 u.length] _ _ rfl HZ.out Tryd.underlying23 rfl (by kernel_rfl)) rfl ?_
      rw [HU.out]
      exact ⟨rfl, HBW.out⟩
    have hx : L[k]? = some L[k] := List.getElem?_eq_getElem hlt
    have hdr : L.drop k = L[k] :: L.drop (k + 1) := List.drop_eq_getElem_cons hlt
    have hmem : L[k] ∈ L := List.getElem_mem hlt
    generalize L[k] = r at hx hdr hmem
    have HRW := Lib.hid hmem
    obtain ⟨path, id, kind, mode, size, made⟩ := r
    obtain ⟨b, o, rfl, hbw⟩ := HR.out.pos (by omega)
    obtain ⟨q0, q1, q2, q3, q4, q5, q6, q7, q8, q9, q10, q11, q12⟩ := (HR.out.below HA.out.below).cells hx
    have hpz := hO.psize _ hmem
    have hidb := hid _ hmem
    have hszb := hsz _ hmem
    simp only at hpz hidb hszb
    have P := Lib.hid (fun (w : World) (hE : Env w) => parts_any path w hE (by omega))
    have HDR := Lib.hid hdr
    have HE := Lib.hid hE
    have HO := Lib.hid hO
    have HID := Lib.hid hid
    have HSZ := Lib.hid hsz
    clear hx hdr hE hO hid hsz hR hmem
    go_wp2_with fail
    clear q0 q1 q2 q3 q4 q5 q6 q7 q8 q9 q10 q11 q12
    generalize hw1 : wr.alloc (.cells #[.string path, .int .i64 id, .int .i64 kind, .int .i64 mode, .int .i64 0, .int .i64 0, .int .i64 0, .string nos, .string nos, .string nos, .slice none 0 0, .int .i64 size, .bool made] 44) = w1
    have hr0 : w1.heap[wr.heap.size]? = some (.cells (Rw.cells ⟨path, id, kind, mode, size, made⟩).toArray 44 (0, 0)) := by rw [← hw1]; exact heap_alloc_new wr _
    have hbl : Below wr.heap.size wr w1 := by rw [← hw1]; exact (Below.refl _ _).alloc (Nat.le_refl _) _
    clear hw1
    have hw1s : wr.heap.size < w1.heap.size := (Array.getElem?_eq_some_iff.1 hr0).1
    have k2 : w1.heap[w.heap.size + 1 + 1]? = some (.cells (usC u).toArray 23 (0, 0)) := by rw [hbl.block _ (by omega)]; exact HA.out.b2
    have v2 := blk_cell k2 (j := 2) rfl
    have vf := blk_frozen k2
    obtain ⟨z0, -⟩ := row_cells hr0
    have HB1 : Hid (Below w.heap.size w w1) := HA.out.below.trans (hbl.mono HA.out.below.size)
    have HR0 := Lib.hid hr0
    have K2 := Lib.hid k2
    have HBL := Lib.hid hbl
    have HS1 : Hid (Seen w1 (w.heap.size + 1 + 1 + 1) k ids) := HA.out.seen.block (hbl.block _ (by omega))
    have hn2 : w.heap.size + 1 + 1 < w1.heap.size := by omega
    clear u0 u1 u2 u3 uf hr0 k2 hbl
    have HE1 : Hid (Env w1.drew) := HE.out.below (HB1.out.trans (Below.refl _ _).drew)
    go_upto_region 6 with fail
    go_cut [6] (fun s6 wx => s6 = .pointer (some ⟨wr.heap.size, 0, none⟩) ∧ ∃ (w2 : World) (d : Nat), Below w1.heap.size w1 w2 ∧ wx = w2.setCell ⟨w.heap.size + 1 + 1, 2, none⟩ (.int .i64 (max u.depth d)) ∧ d = (parts (bl path)).length)
    case first =>
      go_region_with ((go_at_call 38; refine (P.out _ HE1.out).mono ?_; rintro e w2 ⟨A', c', LP, rfl, hLP, hLe, hb2⟩; have HLE := Lib.hid hLe; clear hLP hLe; have hc2 : w2.cell? ⟨w.heap.size + 1 + 1, 2, none⟩ = some (.int .i64 u.depth) := (hb2.cell (p := ⟨w.heap.size + 1 + 1, 2, none⟩) hn2).trans v2; have hf2 : w2.frozen? ⟨w.heap.size + 1 + 1, 2, none⟩ = false := (hb2.frozen (p := ⟨w.heap.size + 1 + 1, 2, none⟩) hn2).trans (vf 2)))
      all_goals (go_wp2_with fail)
      all_goals go_meet
      all_goals exact ⟨rfl, w2, LP.length, (Below.refl _ _).drew.trans hb2, rfl, by rw [← HLE.out, bls_length]⟩
    case rest =>
      obtain ⟨rfl, w2, d, hb2, rfl, hd⟩ := hcut
      have HD := Lib.hid hd
      have hr2 : w2.heap[wr.heap.size]? = some (.cells (Rw.cells ⟨path, id, kind, mode, size, made⟩).toArray 44 (0, 0)) := by rw [hb2.block _ hw1s]; exact HR0.out
      have k2 : w2.heap[w.heap.size + 1 + 1]? = some (.cells (usC u).toArray 23 (0, 0)) := by rw [hb2.block _ hn2]; exact K2.out
      obtain ⟨z0, z1, z2, z3, z4, z5, z6, z7, z8, z9, z10, z11, z12⟩ := row_cells hr2
      have v0 := blk_cell k2 (j := 0) rfl
      have v1 := blk_cell k2 (j := 1) rfl
      have v3 := blk_cell k2 (j := 3) rfl
      have vf := blk_frozen k2
      have HR2 := Lib.hid hr2
      have K22 := Lib.hid k2
      have HB2 := Lib.hid hb2
      have ne1 : wr.heap.size ≠ w.heap.size + 1 + 1 := by omega
      clear v2 hd hr2 k2 hb2 z3 z4 z5 z6 z7 z8 z9 z10 z12
      have HS2 : Hid (Seen ((w2.setCell ⟨w.heap.size + 1 + 1, 2, none⟩ (.int .i64 (max u.depth d))).setCell ⟨w.heap.size + 1 + 1, 3, none⟩ (.int .i64 (max u.length path.size))) (w.heap.size + 1 + 1 + 1) k ids) :=
        HS1.out.block (by rw [heap_setCell_ne _ (by omega), heap_setCell_ne _ (by omega), HB2.out.block _ (by omega)])
      have HWF : Hid ((Lit.int .i64 id).wf = true) := WalkArith.wf_i64 (by omega)
      have HAG := Lib.hid (fun (hn : k < maxLen) => again_any (w.heap.size + 1 + 1 + 1) k ids id HWF.out _ HS2.out hn)
      have hbd : 0 ≤ u.bytes ∧ u.bytes ≤ 100000000000 ∧ 0 ≤ u.inodes ∧ u.inodes ≤ 50000 := by have := HA.out.bd; omega
      go_wp2_with fail
      refine (HAG.out (by unfold maxLen; omega)).mono ?_
      rintro e w3 ⟨rfl, hS3, hg3⟩
      have k3 : w3.heap[w.heap.size + 1 + 1]? = some (.cells (usC ⟨u.bytes, u.inodes, max u.depth d, max u.length path.size⟩).toArray 23 (0, 0)) := by
        rw [hg3.block _ (by simp; exact lt_of_below HB2.out hn2) (by simp)]
        exact setCell_heap (setCell_heap K22.out _) _
      have hr3 : w3.heap[wr.heap.size]? = some (.cells (Rw.cells ⟨path, id, kind, mode, size, made⟩).toArray 44 (0, 0)) := by
        rw [hg3.block _ (by simp; exact lt_of_below HB2.out hw1s) (by simp; omega), heap_setCell_ne _ ne1, heap_setCell_ne _ ne1]
        exact HR2.out
      have HO3 : Hid (∀ j, j < wr.heap.size → j ≠ w.heap.size + 1 + 1 → j ≠ w.heap.size + 1 + 1 + 1 → w3.heap[j]? = wr.heap[j]?) := by
        show ∀ j, _
        intro j h1 h2 h3
        rw [hg3.block _ (by simp; exact lt_of_below HB2.out (by omega)) (by simp; exact h3), heap_setCell_ne _ h2, heap_setCell_ne _ h2, HB2.out.block _ (by omega), HBL.out.block _ h1]
      have HBW3 : Hid (Below w.heap.size w w3) := by
        have h1 : Below w.heap.size w w2 := HB1.out.trans (HB2.out.mono HB1.out.size)
        have h2 := ((h1.setCell (p := ⟨w.heap.size + 1 + 1, 2, none⟩) (by simp; omega) (.int .i64 (max u.depth d))).setCell (p := ⟨w.heap.size + 1 + 1, 3, none⟩) (by simp; omega) (.int .i64 (max u.length path.size)))
        exact h2.grown hg3 h2.size (fun j hj => by injection hj with hj; omega)
      have HS3 := Lib.hid hS3
      have HMAX : Hid (max u.depth (d : Int) = max u.depth ((parts (bl path)).length : Int)) := by show _ = _; rw [HD.out]
      have HFN : Hid (usF (id :: ids) (usOne ids u ⟨path, id, kind, mode, size, made⟩) (L.drop (k + 1)) = RES) := by
        have h := HF.out
        rw [HDR.out] at h
        exact h
      obtain ⟨-, -, z2, -, -, -, -, -, -, -, -, z11, -⟩ := row_cells hr3
      have v0 := blk_cell k3 (j := 0) rfl
      have v1 := blk_cell k3 (j := 1) rfl
      have vf := blk_frozen k3
      have K3 := Lib.hid k3
      have hn3 : w.heap.size + 1 + 1 < w3.heap.size := (Array.getElem?_eq_some_iff.1 k3).1
      clear k3 hr3 hS3 hg3 z0 z1 HAG HS2 HR2 HB2 HBL HF HDR HS1 HB1 HE1 v3
      by_cases hs : id ∈ ids
      · rw [decide_eq_true hs]
        have HIS := Lib.hid hs
        clear hs
        go_wp2_with fail
        go_roundg (L.length - (k + 1))
        case measure => omega
        case rel =>
          refine ⟨k + 1, id :: ids, _, rfl, by go_num, by omega, HFN, ?_⟩
          refine Lib.hid ?_
          exact HA.out.step (r := ⟨path, id, kind, mode, size, made⟩) (u' := ⟨u.bytes, u.inodes, max u.depth d, max u.length path.size⟩) HO3.out HS3.out (fun _ _ => rfl) HBW3.out K3.out (by rw [HD.out, usOne]; simp only [if_pos HIS.out]) hszb hpz
      · rw [decide_eq_false hs]
        have HIS := Lib.hid hs
        clear hs
        cases hk1 : (kind == 1)
        all_goals
          have HK1 := Lib.hid hk1
          go_wp2_with fail
          go_roundg (L.length - (k + 1))
          case measure => omega
        case rel =>
          refine ⟨k + 1, id :: ids, _, rfl, by go_num, by omega, HFN, ?_⟩
          refine Lib.hid ?_
          exact HA.out.step (r := ⟨path, id, kind, mode, size, made⟩) (u' := ⟨u.bytes, u.inodes + 1, max u.depth d, max u.length path.size⟩) HO3.out HS3.out (fun j hj => heap_setCell_ne _ hj) (HBW3.out.setCell (p := ⟨w.heap.size + 1 + 1, 1, none⟩) (by simp; omega) _) (setCell_heap K3.out _)
            (by rw [HD.out, usOne]; simp only [if_neg HIS.out, if_neg (fun h : kind = 1 => by have := HK1.out; rw [h] at this; cases this)]) hszb hpz
        case rel =>
          refine ⟨k + 1, id :: ids, _, rfl, by go_num, by omega, HFN, ?_⟩
          refine Lib.hid ?_
          exact HA.out.step (r := ⟨path, id, kind, mode, size, made⟩) (u' := ⟨u.bytes + size, u.inodes + 1, max u.depth d, max u.length path.size⟩) HO3.out HS3.out (fun j hj => (heap_setCell_ne _ hj).trans (heap_setCell_ne _ hj)) ((HBW3.out.setCell (p := ⟨w.heap.size + 1 + 1, 1, none⟩) (by simp; omega) _).setCell (p := ⟨w.heap.size + 1 + 1, 0, none⟩) (by simp; omega) _) (setCell_heap (setCell_heap K3.out _) _)
            (by rw [HD.out, usOne]; simp only [if_neg HIS.out, if_pos (beq_iff_eq.1 HK1.out)]) hszb hpz

end Go.Proofs.YtcniahbliadgiaaDoor

/-
  Walks of package tree: Link.
-/
import Derived.Test.YtcniahbliadgiaaDoorTreeF
namespace Go.Proofs.YtcniahbliadgiaaDoor
open Go.RowKit
open Go.Proofs.PnKit Go.Proofs.PnPath

/-- the tree with one more name of a file -/
def linkV (L : List Rw) (next : Int) (P Q : List (List UInt8)) : List Rw × Int × Int :=
  if P = [] then (L, next, 100) else
  match look L Q with
  | none => (L, next, 4)
  | some r =>
    if r.kind ≠ 1 then (L, next, 130) else
    if ∃ o, look L P = some o ∧ o.kind = 4 then (L, next, 130) else
    if (parV L next P.reverse).2.2 ≠ 0 then (L, next, (parV L next P.reverse).2.2) else
    (putR (parV L next P.reverse).1 ⟨pathOf P, r.id, r.kind, r.mode, r.size, r.made⟩, (parV L next P.reverse).2.1, 0)
theorem linkV_root (L : List Rw) (next : Int) (Q : List (List UInt8)) : linkV L next [] Q = (L, next, 100) := by rw [linkV, if_pos rfl]
theorem linkV_none {L : List Rw} {next : Int} {P Q : List (List UInt8)} (hP : P ≠ []) (h : look L Q = none) : linkV L next P Q = (L, next, 4) := by rw [linkV, if_neg hP, h]
theorem linkV_kind {L : List Rw} {next : Int} {P Q : List (List UInt8)} {r : Rw} (hP : P ≠ []) (h : look L Q = some r) (hk : r.kind ≠ 1) : linkV L next P Q = (L, next, 130) := by
  rw [linkV, if_neg hP, h]; simp only [if_pos hk]
theorem linkV_dir {L : List Rw} {next : Int} {P Q : List (List UInt8)} {r o : Rw} (hP : P ≠ []) (h : look L Q = some r) (ho : look L P = some o) (h4 : o.kind = 4) : linkV L next P Q = (L, next, 130) := by
  rw [linkV, if_neg hP, h]
  by_cases hk : r.kind ≠ 1
  · simp only [if_pos hk]
  · simp only [if_neg hk]; rw [if_pos ⟨o, ho, h4⟩]
theorem linkV_err {L : List Rw} {next : Int} {P Q : List (List UInt8)} {r : Rw} (hP : P ≠ []) (h : look L Q = some r) (hk : r.kind = 1) (ho : ∀ o, look L P = some o → o.kind ≠ 4) (he : (parV L next P.reverse).2.2 ≠ 0) :
    linkV L next P Q = (L, next, (parV L next P.reverse).2.2) := by
  rw [linkV, if_neg hP, h]
  simp only [if_neg (not_not_intro hk)]
  rw [if_neg (fun ⟨o, h1, h2⟩ => ho o h1 h2), if_pos he]
theorem linkV_ok {L : List Rw} {next : Int} {P Q : List (List UInt8)} {r : Rw} (hP : P ≠ []) (h : look L Q = some r) (hk : r.kind = 1) (ho : ∀ o, look L P = some o → o.kind ≠ 4) (he : (parV L next P.reverse).2.2 = 0) :
    linkV L next P Q = (putR (parV L next P.reverse).1 ⟨pathOf P, r.id, r.kind, r.mode, r.size, r.made⟩, (parV L next P.reverse).2.1, 0) := by
  rw [linkV, if_neg hP, h]
  simp only [if_neg (not_not_intro hk)]
  rw [if_neg (fun ⟨o, h1, h2⟩ => ho o h1 h2), if_neg (by rw [he]; decide)]

set_option maxRecDepth 100000 in
set_option maxHeartbeats 1000000 in
theorem link_any (A : Option Addr) (c : Nat) (L : List Rw) (next : Int) (P Q : List (List UInt8)) (w : World) (hE : Env w) (hR : RT w A c L) (hO : OkT L) (hG : G P) (hP : (join P).length ≤ 1000) (hGQ : G Q) (hQ : (join Q).length ≤ 5000)
    (hl : L.length + P.length ≤ 49000) (hn : 0 ≤ next) (hn2 : next + P.length ≤ 900000) :
    Calls Tryd.prog 25 #[.agg #[.slice A (List.length L) c, .int .i64 next], .string (pathOf P), .string (pathOf Q)] w fun e w' =>
      ∃ A' c', e = .returned (.tuple #[.agg #[.slice A' (linkV L next P Q).1.length c', .int .i64 (linkV L next P Q).2.1], .int .i64 (linkV L next P Q).2.2]) ∧
        RT w' A' c' (linkV L next P Q).1 ∧ Below w.heap.size w w' := by
  have hN := fun o q : Obj => ((Below.refl w.heap.size w).alloc (Nat.le_refl _) o).alloc (by simp) q
  have hkP : parts (bl (pathOf P)) = P := by rw [bl_pathOf, parts_join P hG]
  have hkQ : parts (bl (pathOf Q)) = Q := by rw [bl_pathOf, parts_join Q hGQ]
  have hpP : (pathOf P).size ≤ 1000 := by rw [← bl_size]; exact hP
  have hpQ : (pathOf Q).size ≤ 5000 := by rw [← bl_size]; exact hQ
  obtain ⟨rpath, rid, rkind, rmode, rsize, rmade, rb, hrk, hrget⟩ := get_gen A c L next (pathOf Q) hO (by omega) (by omega)
  rw [hkQ] at hrk
  have RLK := Lib.hid hrk
  have RGT := Lib.hid hrget
  obtain ⟨opath, oid, okind, omode, osize, omade, ob, hok, hoget⟩ := get_gen A c L next (pathOf P) hO (by omega) (by omega)
  rw [hkP] at hok
  have OLK := Lib.hid hok
  have OGT := Lib.hid hoget
  have PA := Lib.hid (fun (w : World) (hE : Env w) (hR : RT w A c L) => parents_any P hG hP A c L next w hE hR hO (by omega) hn (by omega))
  have HPK := Lib.hid (parV_kept hO next P.reverse (G_rev hG) (by rw [List.reverse_reverse]; exact hP))
  obtain ⟨RES, hRES⟩ : ∃ RES, linkV L next P Q = RES := ⟨_, rfl⟩
  rw [hRES]
  have HRES := Lib.hid hRES
  have HEMP : Hid ((pathOf P).toList.isEmpty = decide (P = [])) := by
    show _ = _
    by_cases h : P = []
    · subst h; rw [decide_eq_true rfl, ByteArray.toList_eq]; rfl
    · have h2 : bl (pathOf P) ≠ [] := by rw [bl_pathOf]; exact join_ne _ h (fun q hq => (hG q hq).ne)
      rw [decide_eq_false h, ByteArray.toList_eq]; simpa using h2
  rcases hQ2 : parV L next P.reverse with ⟨L2, n2, e2⟩
  rw [hQ2] at PA HPK
  have HQ := Lib.hid hQ2
  have HPK2 : Kept L next (L2, n2, e2) P.reverse.length := HPK.out
  have hk1 : L2.length ≤ L.length + P.length := by have := HPK2.len.2; rw [List.length_reverse] at this; exact this
  have HOK : Hid (OkT L2) := HPK2.ok
  obtain ⟨st, hst⟩ : ∃ st, pathOf P = st := ⟨_, rfl⟩
  obtain ⟨qt, hqt⟩ : ∃ qt, pathOf Q = qt := ⟨_, rfl⟩
  rw [hst] at OGT PA hpP HEMP ⊢
  rw [hqt] at RGT hpQ ⊢
  have HST := Lib.hid hst
  clear hrk hrget hok hoget hRES hQ2 HPK HPK2 hkP hkQ hst hqt
  go_enter Tryd.func25, Tryd.ntmps25
  go_wp2_with fail
  refine (RGT.out _ (hE.below (hN _ _)) (hR.below (hN _ _))).mono ?_
  rintro e w3 ⟨rfl, hb3⟩
  obtain ⟨b0, b1, hn3⟩ := two_blocks (a := [.slice A (List.length L) c, .int .i64 next]) (b := [.slice none 0 0, .int .i64 0]) hb3
  have hn30 : w.heap.size < w3.heap.size := by omega
  have c0 := blk_cell b0 (j := 0) rfl
  have c1 := blk_cell b0 (j := 1) rfl
  have d0 := blk_cell b1 (j := 0) rfl
  have d1 := blk_cell b1 (j := 1) rfl
  have f1 := blk_frozen b1
  have hB3 := bch (hN _ _) hb3
  have B0 := Lib.hid b0
  have B1 := Lib.hid b1
  clear b0 b1 hb3
  have hal3 := fun o : Obj => hB3.alloc (o := o) (by omega)
  have hb := fun (o : Obj) (cs : Array Value) => (below_setRow (g := w.heap.size + 1) hB3 (by omega) cs).alloc (by rw [setRow_size]; omega) o
  by_cases hP0 : P = []
  · have hemp : st.toList.isEmpty = true := by rw [HEMP.out, decide_eq_true hP0]
    have hr : RES = (L, next, 100) := by rw [← HRES.out, hP0]; exact linkV_root L next Q
    have HR := Lib.hid hr
    clear hr hP0
    go_wp2_with fail
    rw [set2 B1.out]
    refine bodyPost_ret (results_row_tmp rfl _ _ (w.heap.size + 1) _ _ _ _ rfl (set_alloc B1.out _ _) Tryd.underlying35 rfl (by kernel_rfl)) rfl ?_
    rw [HR.out]
    exact ⟨A, c, rfl, hR.below (hb _ _), hb _ _⟩
  have hemp : st.toList.isEmpty = false := by rw [HEMP.out, decide_eq_false hP0]
  have HP0 := Lib.hid hP0
  clear hP0
  cases rb
  · have hr : RES = (L, next, 4) := by rw [← HRES.out]; exact linkV_none HP0.out RLK.out
    have HR := Lib.hid hr
    clear hr
    go_wp2_with fail
    rw [set2 B1.out]
    refine bodyPost_ret (results_row_tmp rfl _ _ (w.heap.size + 1) _ _ _ _ rfl (set_alloc B1.out _ _) Tryd.underlying35 rfl (by kernel_rfl)) rfl ?_
    rw [HR.out]
    exact ⟨A, c, rfl, hR.below (hb _ _), hb _ _⟩
  have RL : Hid (look L Q = some ⟨rpath, rid, rkind, rmode, rsize, rmade⟩) := RLK.out
  by_cases hk : rkind = 1
  case neg =>
    have hr : RES = (L, next, 130) := by rw [← HRES.out]; exact linkV_kind HP0.out RL.out hk
    have HR := Lib.hid hr
    have hkb : (rkind != 1) = true := by simp [hk]
    clear hr hk
    go_wp2_with fail
    rw [set2 B1.out]
    refine bodyPost_ret (results_row_tmp rfl _ _ (w.heap.size + 1) _ _ _ _ rfl (set_alloc B1.out _ _) Tryd.underlying35 rfl (by kernel_rfl)) rfl ?_
    rw [HR.out]
    exact ⟨A, c, rfl, hR.below (hb _ _), hb _ _⟩
  subst hk
  clear RLK
  go_wp2_with fail
  refine (OGT.out _ (hE.below (hal3 _)) (hR.below (hal3 _))).mono ?_
  rintro e w4 ⟨rfl, hb4⟩
  have b0 : w4.heap[w.heap.size]? = some (.cells [.slice A (List.length L) c, .int .i64 next].toArray 35 (0, 0)) := by
    rw [hb4.block _ (by simp; omega), Below.heap_alloc _ _ _ hn30]; exact B0.out
  have b1 : w4.heap[w.heap.size + 1]? = some (.cells [.slice none 0 0, .int .i64 0].toArray 35 (0, 0)) := by
    rw [hb4.block _ (by simp; omega), Below.heap_alloc _ _ _ hn3]; exact B1.out
  have b3 : w4.heap[w3.heap.size]? = some (.cells (Rw.cells ⟨rpath, rid, 1, rmode, rsize, rmade⟩).toArray 44 (0, 0)) := by
    rw [hb4.block _ (by simp)]; exact heap_alloc_new w3 _
  have hn4 : w.heap.size + 1 < w4.heap.size := (Array.getElem?_eq_some_iff.1 b1).1
  have hn40 : w.heap.size < w4.heap.size := by omega
  have hn43 : w3.heap.size < w4.heap.size := (Array.getElem?_eq_some_iff.1 b3).1
  have hB4 := bch (hal3 _) hb4
  clear c0 c1 d0 d1 f1 hb4 B0 B1 hal3 hB3 RGT OGT hb
  have c0 := blk_cell b0 (j := 0) rfl
  have c1 := blk_cell b0 (j := 1) rfl
  have d0 := blk_cell b1 (j := 0) rfl
  have d1 := blk_cell b1 (j := 1) rfl
  have f1 := blk_frozen b1
  have B0 := Lib.hid b0
  have B1 := Lib.hid b1
  have B3 := Lib.hid b3
  clear b0 b1 b3
  have hal4 := fun o : Obj => hB4.alloc (o := o) (by omega)
  have hb := fun (o : Obj) (cs : Array Value) => (below_setRow (g := w.heap.size + 1) hB4 (by omega) cs).alloc (by rw [setRow_size]; omega) o
  have HCL : Hid (∀ o, look L P = some o → o.kind ≠ 4) ∧ (ob = true → (okind == 4) = false) ∨ (ob = true ∧ okind = 4) := by
    cases ob
    · exact Or.inl ⟨(show Hid _ from fun o ho => by have h2 : look L P = none := OLK.out; rw [h2] at ho; cases ho), (fun h => by cases h)⟩
    · by_cases hx : okind = 4
      · exact Or.inr ⟨rfl, hx⟩
      · exact Or.inl ⟨(show Hid _ from fun o ho => by have h2 : look L P = some ⟨opath, oid, okind, omode, osize, omade⟩ := OLK.out; rw [h2] at ho; cases ho; exact hx), (fun _ => by simp [hx])⟩
  rcases HCL with ⟨HNO, hx⟩ | ⟨rfl, rfl⟩
  case inr =>
    have OL : Hid (look L P = some ⟨opath, oid, 4, omode, osize, omade⟩) := OLK.out
    have hr : RES = (L, next, 130) := by rw [← HRES.out]; exact linkV_dir HP0.out RL.out OL.out rfl
    have HR := Lib.hid hr
    clear hr OLK
    go_wp2_with fail
    rw [set2 B1.out]
    refine bodyPost_ret (results_row_tmp rfl _ _ (w.heap.size + 1) _ _ _ _ rfl (set_alloc B1.out _ _) Tryd.underlying35 rfl (by kernel_rfl)) rfl ?_
    rw [HR.out]
    exact ⟨A, c, rfl, hR.below (hb _ _), hb _ _⟩
  case inl =>
    clear OLK
    cases ob
    case' true => have hx := hx rfl
    all_goals
      go_wp2_with fail
      refine (PA.out _ (hE.below (hal4 _)) (hR.below (hal4 _))).mono ?_
      rintro e w5 ⟨A', c', rfl, hR5, hb5⟩
      have b0 : w5.heap[w.heap.size]? = some (.cells [.slice A (List.length L) c, .int .i64 next].toArray 35 (0, 0)) := by
        rw [hb5.block _ (by simp; omega), Below.heap_alloc _ _ _ hn40]; exact B0.out
      have b1 : w5.heap[w.heap.size + 1]? = some (.cells [.slice none 0 0, .int .i64 0].toArray 35 (0, 0)) := by
        rw [hb5.block _ (by simp; omega), Below.heap_alloc _ _ _ hn4]; exact B1.out
      have b3 : w5.heap[w3.heap.size]? = some (.cells (Rw.cells ⟨rpath, rid, 1, rmode, rsize, rmade⟩).toArray 44 (0, 0)) := by
        rw [hb5.block _ (by simp; omega), Below.heap_alloc _ _ _ hn43]; exact B3.out
      have hn5 : w.heap.size + 1 < w5.heap.size := (Array.getElem?_eq_some_iff.1 b1).1
      have hn50 : w.heap.size < w5.heap.size := by omega
      have hn53 : w3.heap.size < w5.heap.size := (Array.getElem?_eq_some_iff.1 b3).1
      have hB5 := bch (hal4 _) hb5
      clear c0 c1 d0 d1 f1 hb5 B0 B1 B3 hal4 hB4 PA hb
      have c0 := blk_cell b0 (j := 0) rfl
      have c1 := blk_cell b0 (j := 1) rfl
      have d0 := blk_cell b1 (j := 0) rfl
      have d1 := blk_cell b1 (j := 1) rfl
      have f1 := blk_frozen b1
      obtain ⟨z0, z1, z2, z3, z4, z5, z6, z7, z8, z9, z10, z11, z12⟩ := row_cells b3
      have B1 := Lib.hid b1
      clear b0 b1 b3
      have hal5 := fun o : Obj => hB5.alloc (o := o) (by omega)
      by_cases he : e2 = 0
      case neg =>
        have heb : (e2 != 0) = true := by simp [he]
        have hr : RES = (L, next, e2) := by
          rw [← HRES.out]
          have h := linkV_err (next := next) HP0.out RL.out rfl HNO.out (by rw [HQ.out]; exact he)
          rw [HQ.out] at h
          exact h
        have HR := Lib.hid hr
        clear hr HRES HQ RL HNO
        go_wp2_with fail
        rw [set2 B1.out]
        refine bodyPost_ret (results_row_tmp rfl _ _ (w.heap.size + 1) _ _ _ _ rfl (set_alloc B1.out _ _) Tryd.underlying35 rfl (by kernel_rfl)) rfl ?_
        have hb := fun (o : Obj) (cs : Array Value) => (below_setRow (g := w.heap.size + 1) hB5 (by omega) cs).alloc (by rw [setRow_size]; omega) o
        rw [HR.out]
        exact ⟨A, c, rfl, hR.below (hb _ _), hb _ _⟩
      subst he
      have hr : RES = (putR L2 ⟨st, rid, 1, rmode, rsize, rmade⟩, n2, 0) := by
        rw [← HRES.out, ← HST.out]
        have h := linkV_ok (next := next) HP0.out RL.out rfl HNO.out (by rw [HQ.out])
        rw [HQ.out] at h
        exact h
      have HR := Lib.hid hr
      have PU := Lib.hid (fun (A' : Option Addr) (c' : Nat) (w : World) (hE : Env w) (hR : RT w A' c' L2) => put_any A' c' L2 n2 ⟨st, rid, 1, rmode, rsize, rmade⟩ w hE hR HOK.out (by show st.size ≤ _; omega) (by omega))
      clear hr HRES HQ RL HNO
      go_wp2_with fail
      refine (PU.out A' c' _ (hE.below (hal5 _)) (hR5.alloc _)).mono ?_
      rintro e w6 ⟨A6, c6, rfl, hR6, hA6, hb6⟩
      have k1 : w6.heap[w.heap.size + 1]? = some (.cells [.slice none 0 0, .int .i64 0].toArray 35 (0, 0)) := by
        rw [hb6.block _ (by simp; omega), Below.heap_alloc _ _ _ hn5]; exact B1.out
      have hB6 := bch (hal5 _) hb6
      have hA7 : ∀ a, A6 = some a → w5.heap.size < a.block := fun a ha => by have := hA6 a ha; simp at this; omega
      have hn6 := hb6.size
      clear c0 c1 z0 z1 z2 z3 z4 z5 z6 z7 z8 z9 z10 z11 z12 d0 d1 f1 B1 hal5 hB5 hb6 hR5 hA6 PU
      have d0 := blk_cell k1 (j := 0) rfl
      have d1 := blk_cell k1 (j := 1) rfl
      have f1 := blk_frozen k1
      have K1 := Lib.hid k1
      clear k1
      go_wp2_with fail
      rw [set2 K1.out]
      refine bodyPost_ret (results_row_tmp rfl _ _ (w.heap.size + 1) _ _ _ _ rfl (setRow_heap _ _ _ _ _ _ K1.out) Tryd.underlying35 rfl (by kernel_rfl)) rfl ?_
      rw [HR.out]
      exact ⟨A6, c6, rfl, hR6.setRow (fun a ha => by have := hA7 a ha; omega) _, below_setRow hB6 (by omega) _⟩

end Go.Proofs.YtcniahbliadgiaaDoor

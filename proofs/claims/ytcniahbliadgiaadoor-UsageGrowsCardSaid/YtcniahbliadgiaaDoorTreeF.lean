/-
  Walks of package tree: Add.
-/
import Derived.Test.YtcniahbliadgiaaDoorTreeE
namespace Go.Proofs.YtcniahbliadgiaaDoor
open Go.RowKit
open Go.Proofs.PnKit Go.Proofs.PnPath

/-- the tree with a thing at a path of these parts -/
def addV (L : List Rw) (next : Int) (P : List (List UInt8)) (kind mode size : Int) (made : Bool) : List Rw × Int × Int :=
  if P = [] then (L, next, 100) else
  if ∃ o, look L P = some o ∧ ((o.kind == 4) == (kind == 4)) = false then (L, next, 130) else
  if (parV L next P.reverse).2.2 ≠ 0 then (L, next, (parV L next P.reverse).2.2) else
  match look L P with
  | some o => if kind = 4 then (putR (parV L next P.reverse).1 ⟨pathOf P, o.id, kind, mode, size, made⟩, (parV L next P.reverse).2.1, 0)
    else (putR (parV L next P.reverse).1 ⟨pathOf P, (parV L next P.reverse).2.1, kind, mode, size, made⟩, (parV L next P.reverse).2.1 + 1, 0)
  | none => (putR (parV L next P.reverse).1 ⟨pathOf P, (parV L next P.reverse).2.1, kind, mode, size, made⟩, (parV L next P.reverse).2.1 + 1, 0)

theorem three_blocks {w w3 : World} {a b d : List Value} {ta tb td : TypeId} (h : Below (((w.alloc (.cells a.toArray ta)).alloc (.cells b.toArray tb)).alloc (.cells d.toArray td)).heap.size (((w.alloc (.cells a.toArray ta)).alloc (.cells b.toArray tb)).alloc (.cells d.toArray td)) w3) :
    w3.heap[w.heap.size]? = some (.cells a.toArray ta (0, 0)) ∧ w3.heap[w.heap.size + 1]? = some (.cells b.toArray tb (0, 0)) ∧ w3.heap[w.heap.size + 1 + 1]? = some (.cells d.toArray td (0, 0)) ∧ w.heap.size + 1 + 1 < w3.heap.size := by
  have e3 : w3.heap[w.heap.size + 1 + 1]? = some (.cells d.toArray td (0, 0)) := by
    rw [h.block _ (by simp)]
    have h := heap_alloc_new ((w.alloc (.cells a.toArray ta)).alloc (.cells b.toArray tb)) (.cells d.toArray td)
    have e : ((w.alloc (.cells a.toArray ta)).alloc (.cells b.toArray tb)).heap.size = w.heap.size + 1 + 1 := by simp
    rw [e] at h; exact h
  refine ⟨?_, ?_, e3, (Array.getElem?_eq_some_iff.1 e3).1⟩
  · rw [h.block _ (by simp; omega), Below.heap_alloc _ _ _ (by simp; omega)]; exact heap_alloc2_old w _ _
  · rw [h.block _ (by simp), Below.heap_alloc _ _ _ (by simp)]; exact heap_alloc2_new w _ _

theorem node_cells {w : World} {g : Nat} {t : TypeId} {kind mode size : Int} {made : Bool} (h : w.heap[g]? = some (.cells (nodeC kind mode size made).toArray t (0, 0))) :
    w.cell? ⟨g, 0, none⟩ = some (.int .i64 kind) ∧ w.cell? ⟨g, 1, none⟩ = some (.int .i64 mode) ∧ w.cell? ⟨g, 2, none⟩ = some (.int .i64 0) ∧ w.cell? ⟨g, 3, none⟩ = some (.int .i64 0) ∧ w.cell? ⟨g, 4, none⟩ = some (.int .i64 0) ∧ w.cell? ⟨g, 5, none⟩ = some (.string nos) ∧ w.cell? ⟨g, 6, none⟩ = some (.string nos) ∧ w.cell? ⟨g, 7, none⟩ = some (.string nos) ∧ w.cell? ⟨g, 8, none⟩ = some (.slice none 0 0) ∧ w.cell? ⟨g, 9, none⟩ = some (.int .i64 size) ∧ w.cell? ⟨g, 10, none⟩ = some (.bool made) :=
  ⟨blk_cell h (j := 0) rfl, blk_cell h (j := 1) rfl, blk_cell h (j := 2) rfl, blk_cell h (j := 3) rfl, blk_cell h (j := 4) rfl, blk_cell h (j := 5) rfl, blk_cell h (j := 6) rfl, blk_cell h (j := 7) rfl, blk_cell h (j := 8) rfl, blk_cell h (j := 9) rfl, blk_cell h (j := 10) rfl⟩
/-- Get, whatever it finds -/
theorem get_gen (A : Option Addr) (c : Nat) (L : List Rw) (next : Int) (s : ByteArray) (hO : OkT L) (ht : s.size ≤ 100000) (hl : L.length ≤ 100000) :
    ∃ (path : ByteArray) (id kind mode size : Int) (made b : Bool), look L (parts (bl s)) = (if b then some ⟨path, id, kind, mode, size, made⟩ else none) ∧
      ∀ w, Env w → RT w A c L → Calls Tryd.prog 22 #[.agg #[.slice A (List.length L) c, .int .i64 next], .string s] w fun e w' =>
        e = .returned (.tuple #[.agg #[.string path, .int .i64 id, .int .i64 kind, .int .i64 mode, .int .i64 0, .int .i64 0, .int .i64 0, .string nos, .string nos, .string nos, .slice none 0 0, .int .i64 size, .bool made], .bool b]) ∧ Below w.heap.size w w' := by
  rcases h : look L (parts (bl s)) with _ | ⟨path, id, kind, mode, size, made⟩
  · exact ⟨nos, 0, 0, 0, 0, false, false, rfl, fun w hE hR => get_none A c L next s w hE hR hO ht hl h⟩
  · exact ⟨path, id, kind, mode, size, made, true, rfl, fun w hE hR => get_some A c L next s w hE hR hO ht hl h⟩

theorem addV_root (L : List Rw) (next kind mode size : Int) (made : Bool) : addV L next [] kind mode size made = (L, next, 100) := by rw [addV, if_pos rfl]
theorem addV_clash {L : List Rw} {next kind mode size : Int} {made : Bool} {P : List (List UInt8)} (hP : P ≠ []) {o : Rw} (ho : look L P = some o) (hk : ((o.kind == 4) == (kind == 4)) = false) : addV L next P kind mode size made = (L, next, 130) := by
  rw [addV, if_neg hP, if_pos ⟨o, ho, hk⟩]
theorem addV_err {L : List Rw} {next kind mode size : Int} {made : Bool} {P : List (List UInt8)} (hP : P ≠ []) (hc : ∀ o, look L P = some o → ((o.kind == 4) == (kind == 4)) = true) (he : (parV L next P.reverse).2.2 ≠ 0) :
    addV L next P kind mode size made = (L, next, (parV L next P.reverse).2.2) := by
  rw [addV, if_neg hP, if_neg (fun ⟨o, h1, h2⟩ => by rw [hc o h1] at h2; cases h2), if_pos he]
theorem addV_dir {L : List Rw} {next kind mode size : Int} {made : Bool} {P : List (List UInt8)} (hP : P ≠ []) {o : Rw} (ho : look L P = some o) (hk : ((o.kind == 4) == (kind == 4)) = true) (he : (parV L next P.reverse).2.2 = 0) (h4 : kind = 4) :
    addV L next P kind mode size made = (putR (parV L next P.reverse).1 ⟨pathOf P, o.id, kind, mode, size, made⟩, (parV L next P.reverse).2.1, 0) := by
  rw [addV, if_neg hP, if_neg (fun ⟨o', h1, h2⟩ => by rw [ho] at h1; cases h1; rw [hk] at h2; cases h2), if_neg (by rw [he]; decide), ho]
  simp only [if_pos h4]
theorem addV_new {L : List Rw} {next kind mode size : Int} {made : Bool} {P : List (List UInt8)} (hP : P ≠ []) (hc : ∀ o, look L P = some o → ((o.kind == 4) == (kind == 4)) = true ∧ kind ≠ 4) (he : (parV L next P.reverse).2.2 = 0) :
    addV L next P kind mode size made = (putR (parV L next P.reverse).1 ⟨pathOf P, (parV L next P.reverse).2.1, kind, mode, size, made⟩, (parV L next P.reverse).2.1 + 1, 0) := by
  rw [addV, if_neg hP, if_neg (fun ⟨o', h1, h2⟩ => by rw [(hc o' h1).1] at h2; cases h2), if_neg (by rw [he]; decide)]
  rcases ho : look L P with _ | o
  · rfl
  · simp only [if_neg (hc o ho).2]

set_option maxRecDepth 100000 in
set_option maxHeartbeats 1000000 in
theorem add_any (A : Option Addr) (c : Nat) (L : List Rw) (next : Int) (P : List (List UInt8)) (kind mode size : Int) (made : Bool) (w : World) (hE : Env w) (hR : RT w A c L) (hO : OkT L) (hG : G P) (hP : (join P).length ≤ 1000)
    (hl : L.length + P.length ≤ 49000) (hn : 0 ≤ next) (hn2 : next + P.length ≤ 900000) :
    Calls Tryd.prog 37 #[.agg #[.slice A (List.length L) c, .int .i64 next], .string (pathOf P), .agg #[.int .i64 kind, .int .i64 mode, .int .i64 0, .int .i64 0, .int .i64 0, .string nos, .string nos, .string nos, .slice none 0 0, .int .i64 size, .bool made]] w fun e w' =>
      ∃ A' c', e = .returned (.tuple #[.agg #[.slice A' (addV L next P kind mode size made).1.length c', .int .i64 (addV L next P kind mode size made).2.1], .int .i64 (addV L next P kind mode size made).2.2]) ∧
        RT w' A' c' (addV L next P kind mode size made).1 ∧ Below w.heap.size w w' := by
  have hN := fun o q u : Obj => (((Below.refl w.heap.size w).alloc (Nat.le_refl _) o).alloc (by simp) q).alloc (by simp; omega) u
  by_cases hP0 : P = []
  · subst hP0
    rw [addV_root]
    show Calls Tryd.prog 37 #[.agg #[.slice A (List.length L) c, .int .i64 next], .string ⟨#[]⟩, .agg #[.int .i64 kind, .int .i64 mode, .int .i64 0, .int .i64 0, .int .i64 0, .string nos, .string nos, .string nos, .slice none 0 0, .int .i64 size, .bool made]] w _
    go_enter Tryd.func37, Tryd.ntmps37
    go_wp2_with fail
    have hr := heap_alloc_new ((w.alloc (.cells #[.slice A (List.length L) c, .int .i64 next] 35)).alloc (.cells (nodeC kind mode size made).toArray 42)) (.cells #[.slice A (List.length L) c, .int .i64 next] 35)
    have e : ((w.alloc (.cells #[.slice A (List.length L) c, .int .i64 next] 35)).alloc (.cells (nodeC kind mode size made).toArray 42)).heap.size = w.heap.size + 1 + 1 := by simp
    rw [e] at hr
    refine bodyPost_ret (results_row_tmp rfl _ _ (w.heap.size + 1 + 1) _ _ _ _ rfl hr Tryd.underlying35 rfl (by kernel_rfl)) rfl ?_
    exact ⟨A, c, rfl, hR.below (hN _ _ _), hN _ _ _⟩
  · have hkey : parts (bl (pathOf P)) = P := by rw [bl_pathOf, parts_join P hG]
    have hps : (pathOf P).size ≤ 1000 := by rw [← bl_size]; exact hP
    have hne : (pathOf P).toList.isEmpty = false := by
      have h2 : bl (pathOf P) ≠ [] := by rw [bl_pathOf]; exact join_ne _ hP0 (fun q hq => (hG q hq).ne)
      rw [ByteArray.toList_eq]; simpa using h2
    obtain ⟨opath, oid, okind, omode, osize, omade, b, hlk, hget⟩ := get_gen A c L next (pathOf P) hO (by omega) (by omega)
    rw [hkey] at hlk
    have HLK := Lib.hid hlk
    have GT := Lib.hid hget
    have PA := Lib.hid (fun (w : World) (hE : Env w) (hR : RT w A c L) => parents_any P hG hP A c L next w hE hR hO (by omega) hn (by omega))
    have HPK := Lib.hid (parV_kept hO next P.reverse (G_rev hG) (by rw [List.reverse_reverse]; exact hP))
    have HP0 := Lib.hid hP0
    obtain ⟨RES, hRES⟩ : ∃ RES, addV L next P kind mode size made = RES := ⟨_, rfl⟩
    rw [hRES]
    have HRES := Lib.hid hRES
    rcases hQ : parV L next P.reverse with ⟨L2, n2, e2⟩
    rw [hQ] at PA HPK
    have HQ := Lib.hid hQ
    have HPK2 : Kept L next (L2, n2, e2) P.reverse.length := HPK.out
    have hk1 : L2.length ≤ L.length + P.length := by have := HPK2.len.2; rw [List.length_reverse] at this; exact this
    have hk2 : next ≤ n2 ∧ n2 ≤ next + P.length := by have := HPK2.next; rw [List.length_reverse] at this; exact this
    have HOK : Hid (OkT L2) := HPK2.ok
    obtain ⟨st, hst⟩ : ∃ st, pathOf P = st := ⟨_, rfl⟩
    rw [hst] at GT PA hne hps ⊢
    have HST := Lib.hid hst
    clear hlk hget hRES hQ HPK HPK2 hkey hst hP0
    go_enter Tryd.func37, Tryd.ntmps37
    go_wp2_with fail
    refine (GT.out _ (hE.below (hN _ _ _)) (hR.below (hN _ _ _))).mono ?_
    rintro e w3 ⟨rfl, hb3⟩
    obtain ⟨b0, b1, b2, hn3⟩ := three_blocks (a := [.slice A (List.length L) c, .int .i64 next]) (b := nodeC kind mode size made) (d := [.slice none 0 0, .int .i64 0]) hb3
    have hn30 : w.heap.size < w3.heap.size := by omega
    have hn31 : w.heap.size + 1 < w3.heap.size := by omega
    have c0 := blk_cell b0 (j := 0) rfl
    have c1 := blk_cell b0 (j := 1) rfl
    obtain ⟨m0, m1, m2, m3, m4, m5, m6, m7, m8, m9, m10⟩ := node_cells b1
    have d0 := blk_cell b2 (j := 0) rfl
    have d1 := blk_cell b2 (j := 1) rfl
    have f2 := blk_frozen b2
    have hB3 := bch (hN _ _ _) hb3
    have B0 := Lib.hid b0
    have B1 := Lib.hid b1
    have B2 := Lib.hid b2
    clear b0 b1 b2 hb3
    have hal3 := fun o : Obj => hB3.alloc (o := o) (by omega)
    have HCL : Hid (b = true → ((okind == 4) == (kind == 4)) = true) ∨ (b = true ∧ ((okind == 4) == (kind == 4)) = false) := by
      cases b
      · exact Or.inl (show Hid _ from fun h => by cases h)
      · cases hx : ((okind == 4) == (kind == 4))
        · exact Or.inr ⟨rfl, rfl⟩
        · exact Or.inl (show Hid _ from fun _ => rfl)
    rcases HCL with HCL | ⟨rfl, hx⟩
    case inr =>
      have HO : Hid (look L P = some ⟨opath, oid, okind, omode, osize, omade⟩) := HLK.out
      go_wp2_with fail
      rw [set2 B2.out]
      refine bodyPost_ret (results_row_tmp rfl _ _ (w.heap.size + 1 + 1) _ _ _ _ rfl (set_alloc B2.out _ _) Tryd.underlying35 rfl (by kernel_rfl)) rfl ?_
      have hb := fun (o : Obj) (cs : Array Value) => (below_setRow (g := w.heap.size + 1 + 1) hB3 (by omega) cs).alloc (by rw [setRow_size]; omega) o
      have hr : RES = (L, next, 130) := by
        rw [← HRES.out]
        exact addV_clash HP0.out HO.out hx
      rw [hr]
      exact ⟨A, c, rfl, hR.below (hb _ _), hb _ _⟩
    case inl =>
      cases b
      case' true =>
        have hx := HCL.out rfl
        have HO : Hid (∀ o, look L P = some o → ((o.kind == 4) == (kind == 4)) = true ∧ o.id = oid) := by
          show ∀ o, _
          intro o ho
          have h2 : look L P = some ⟨opath, oid, okind, omode, osize, omade⟩ := HLK.out
          rw [h2] at ho; cases ho; exact ⟨hx, rfl⟩
        have HO2 : Hid (∃ o, look L P = some o) := ⟨_, HLK.out⟩
      case' false =>
        have HO : Hid (look L P = none) := HLK.out
      all_goals
        clear HLK HCL
        go_wp2_with fail
        refine (PA.out _ (hE.below (hal3 _)) (hR.below (hal3 _))).mono ?_
        rintro e w4 ⟨A', c', rfl, hR4, hb4⟩
        have b0 : w4.heap[w.heap.size]? = some (.cells [.slice A (List.length L) c, .int .i64 next].toArray 35 (0, 0)) := by
          rw [hb4.block _ (by simp; omega), Below.heap_alloc _ _ _ hn30]; exact B0.out
        have b1 : w4.heap[w.heap.size + 1]? = some (.cells (nodeC kind mode size made).toArray 42 (0, 0)) := by
          rw [hb4.block _ (by simp; omega), Below.heap_alloc _ _ _ hn31]; exact B1.out
        have b2 : w4.heap[w.heap.size + 1 + 1]? = some (.cells [.slice none 0 0, .int .i64 0].toArray 35 (0, 0)) := by
          rw [hb4.block _ (by simp; omega), Below.heap_alloc _ _ _ hn3]; exact B2.out
        have b3 : w4.heap[w3.heap.size]? = some (.cells (Rw.cells ⟨opath, oid, okind, omode, osize, omade⟩).toArray 44 (0, 0)) := by
          rw [hb4.block _ (by simp)]; exact heap_alloc_new w3 _
        have hn4 : w.heap.size + 1 + 1 < w4.heap.size := (Array.getElem?_eq_some_iff.1 b2).1
        have hn40 : w.heap.size < w4.heap.size := by omega
        have hn41 : w.heap.size + 1 < w4.heap.size := by omega
        have hn43 : w3.heap.size < w4.heap.size := (Array.getElem?_eq_some_iff.1 b3).1
        have hB4 := bch (hal3 _) hb4
        clear c0 c1 m0 m1 m2 m3 m4 m5 m6 m7 m8 m9 m10 d0 d1 f2 hb4 B0 B1 B2 hal3 hB3 GT PA
        have c0 := blk_cell b0 (j := 0) rfl
        have c1 := blk_cell b0 (j := 1) rfl
        obtain ⟨m0, m1, m2, m3, m4, m5, m6, m7, m8, m9, m10⟩ := node_cells b1
        have d0 := blk_cell b2 (j := 0) rfl
        have d1 := blk_cell b2 (j := 1) rfl
        have f2 := blk_frozen b2
        have o1 := blk_cell b3 (j := 1) rfl
        have B1 := Lib.hid b1
        have B2 := Lib.hid b2
        clear b0 b1 b2 b3
        have hal4 := fun o : Obj => hB4.alloc (o := o) (by omega)
        by_cases he : e2 = 0
        case neg =>
          have heb : (e2 != 0) = true := by simp [he]
          go_wp2_with fail
          rw [set2 B2.out]
          refine bodyPost_ret (results_row_tmp rfl _ _ (w.heap.size + 1 + 1) _ _ _ _ rfl (set_alloc B2.out _ _) Tryd.underlying35 rfl (by kernel_rfl)) rfl ?_
          have hb := fun (o : Obj) (cs : Array Value) => (below_setRow (g := w.heap.size + 1 + 1) hB4 (by omega) cs).alloc (by rw [setRow_size]; omega) o
          have hr : RES = (L, next, e2) := by
            rw [← HRES.out]
            have h := addV_err (next := next) (kind := kind) (mode := mode) (size := size) (made := made) HP0.out (fun o ho => (by first | exact (HO.out o ho).1 | (rw [HO.out] at ho; cases ho))) (by rw [HQ.out]; exact he)
            rw [HQ.out] at h
            exact h
          rw [hr]
          exact ⟨A, c, rfl, hR.below (hb _ _), hb _ _⟩
        subst he
      focus
        have hr : RES = (putR L2 ⟨st, n2, kind, mode, size, made⟩, n2 + 1, 0) := by
          rw [← HRES.out, ← HST.out]
          have h := addV_new (next := next) (kind := kind) (mode := mode) (size := size) (made := made) HP0.out (fun o ho => by rw [HO.out] at ho; cases ho) (by rw [HQ.out])
          rw [HQ.out] at h
          exact h
        have PU := Lib.hid (fun (A' : Option Addr) (c' : Nat) (w : World) (hE : Env w) (hR : RT w A' c' L2) => put_any A' c' L2 (n2 + 1) ⟨st, n2, kind, mode, size, made⟩ w hE hR HOK.out (by show st.size ≤ _; omega) (by omega))
      rotate_left 1
      focus
        cases hk : (kind == 4)
        case' true =>
          have h4 : kind = 4 := beq_iff_eq.1 hk
          have hr : RES = (putR L2 ⟨st, oid, kind, mode, size, made⟩, n2, 0) := by
            rw [← HRES.out, ← HST.out]
            obtain ⟨o, ho⟩ := HO2.out
            have h := addV_dir (next := next) (mode := mode) (size := size) (made := made) HP0.out ho (HO.out o ho).1 (by rw [HQ.out]) h4
            rw [HQ.out, (HO.out o ho).2] at h
            exact h
          have PU := Lib.hid (fun (A' : Option Addr) (c' : Nat) (w : World) (hE : Env w) (hR : RT w A' c' L2) => put_any A' c' L2 n2 ⟨st, oid, kind, mode, size, made⟩ w hE hR HOK.out (by show st.size ≤ _; omega) (by omega))
          clear h4
        case' false =>
          have h4 : kind ≠ 4 := fun h => by rw [h] at hk; cases hk
          have hr : RES = (putR L2 ⟨st, n2, kind, mode, size, made⟩, n2 + 1, 0) := by
            rw [← HRES.out, ← HST.out]
            have h := addV_new (next := next) (mode := mode) (size := size) (made := made) HP0.out (fun o ho => ⟨(HO.out o ho).1, h4⟩) (by rw [HQ.out])
            rw [HQ.out] at h
            exact h
          have PU := Lib.hid (fun (A' : Option Addr) (c' : Nat) (w : World) (hE : Env w) (hR : RT w A' c' L2) => put_any A' c' L2 (n2 + 1) ⟨st, n2, kind, mode, size, made⟩ w hE hR HOK.out (by show st.size ≤ _; omega) (by omega))
          clear h4
      all_goals
        have HR := Lib.hid hr
        clear hr HRES HQ HO
        go_wp2_with fail
        refine (PU.out A' c' _ (hE.below (hal4 _)) (hR4.alloc _)).mono ?_
        rintro e w5 ⟨A5, c5, rfl, hR5, hA5, hb5⟩
        have k2 : w5.heap[w.heap.size + 1 + 1]? = some (.cells [.slice none 0 0, .int .i64 0].toArray 35 (0, 0)) := by
          rw [hb5.block _ (by simp; omega), Below.heap_alloc _ _ _ hn4]; exact B2.out
        have hB5 := bch (hal4 _) hb5
        have hA6 : ∀ a, A5 = some a → w4.heap.size < a.block := fun a ha => by have := hA5 a ha; simp at this; omega
        have hn5 := hb5.size
        clear c0 c1 m0 m1 m2 m3 m4 m5 m6 m7 m8 m9 m10 d0 d1 f2 o1 B1 B2 hal4 hB4 hb5 hR4 hA5 PU
        have d0 := blk_cell k2 (j := 0) rfl
        have d1 := blk_cell k2 (j := 1) rfl
        have f2 := blk_frozen k2
        have K2 := Lib.hid k2
        clear k2
        go_wp2_with fail
        rw [set2 K2.out]
        refine bodyPost_ret (results_row_tmp rfl _ _ (w.heap.size + 1 + 1) _ _ _ _ rfl (setRow_heap _ _ _ _ _ _ K2.out) Tryd.underlying35 rfl (by kernel_rfl)) rfl ?_
        rw [HR.out]
        exact ⟨A5, c5, rfl, hR5.setRow (fun a ha => by have := hA6 a ha; omega) _, below_setRow hB5 (by omega) _⟩

end Go.Proofs.YtcniahbliadgiaaDoor

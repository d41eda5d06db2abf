/-
  slices.IndexFunc and DeleteFunc at rows, by the function that tree.Cut hands them.
-/
import Derived.Test.YtcniahbliadgiaaDoorMeas
import Derived.Deep.LoopGhost
import Derived.Laws.IdiomCopy
namespace Go.Proofs.YtcniahbliadgiaaDoor
open Go.RowKit
open Go.Proofs.PnKit Go.Proofs.PnPath

abbrev cutF (g : Nat) : Value := .func (.func 53) #[] #[.pointer (some ⟨g, 0, none⟩)]
set_option maxRecDepth 100000 in
theorem cutf_any (r : Rw) (s : ByteArray) (g : Nat) (w : World) (hs : w.cell? ⟨g, 0, none⟩ = some (.string s)) (hz : s.size ≤ 1000000) :
    Calls Tryd.prog 53 #[r.val, .pointer (some ⟨g, 0, none⟩)] w fun e w' => e = .returned (.bool (under (bl s) (bl r.path))) ∧ Below w.heap.size w w' := by
  obtain ⟨path, id, kind, mode, size, made⟩ := r
  have U := Lib.hid (fun (w : World) => under_any s path w hz)
  have hg := World.block_lt_of_cell? _ _ hs
  show Calls Tryd.prog 53 #[.agg #[.string path, .int .i64 id, .int .i64 kind, .int .i64 mode, .int .i64 0, .int .i64 0, .int .i64 0, .string nos, .string nos, .string nos, .slice none 0 0, .int .i64 size, .bool made], .pointer (some ⟨g, 0, none⟩)] w _
  simp only at hg
  go_enter Tryd.func53, Tryd.ntmps53
  go_wp2_with fail
  refine (U.out _).mono ?_
  rintro e w' ⟨rfl, rfl⟩
  go_wp2_with fail
  go_ret
  exact ⟨rfl, (Below.refl _ _).alloc (Nat.le_refl _) _⟩

set_option maxRecDepth 100000 in
set_option maxHeartbeats 2000000 in
theorem index_any (A : Option Addr) (c : Nat) (L : List Rw) (s : ByteArray) (gs : Nat) (w : World) (hR : RT w A c L) (hs : w.cell? ⟨gs, 0, none⟩ = some (.string s)) (hz : s.size ≤ 1000000) (hl : L.length ≤ 100000) :
    Calls Tryd.prog 65 #[.slice A (List.length L) c, cutF gs] w fun e w' =>
      ((e = .returned (.int .i64 (-1)) ∧ ∀ r ∈ L, under (bl s) (bl r.path) = false) ∨ ∃ k x, e = .returned (.int .i64 (k : Nat)) ∧ L[k]? = some x ∧ under (bl s) (bl x.path) = true ∧ ∀ j y, j < k → L[j]? = some y → under (bl s) (bl y.path) = false) ∧ Below w.heap.size w w' := by
  have HR := Lib.hid hR
  have HS := Lib.hid hs
  have hgs := World.block_lt_of_cell? _ _ hs
  simp only at hgs
  have CF := Lib.hid (fun (r : Rw) (w : World) (hs : w.cell? ⟨gs, 0, none⟩ = some (.string s)) => cutf_any r s gs w hs hz)
  clear hR hs
  go_enter Tryd.func65, Tryd.ntmps65
  go_wp2_with fail
  go_loopg [5, 8] L.length (fun g _ i wr => ∃ k : Nat, g = L.length - k ∧ i = .int .i64 k ∧ k ≤ L.length ∧ Hid (∀ (j : Nat) (y : Rw), j < k → L[j]? = some y → under (bl s) (bl y.path) = false) ∧ Hid (Below w.heap.size w wr))
  case atStart => exact ⟨0, rfl, rfl, Nat.zero_le _, Lib.hid (fun j y hj => by omega), Lib.hid (Below.refl _ _)⟩
  case round =>
    obtain ⟨k, rfl, rfl, hk, HN, HB⟩ := hrel
    by_cases hlt : k < L.length
    case neg =>
      go_wp2_with fail
      go_ret
      refine ⟨Or.inl ⟨rfl, fun r hr => ?_⟩, HB.out⟩
      obtain ⟨j, hj⟩ := List.mem_iff_getElem?.1 hr
      exact HN.out j r (by have := (List.getElem?_eq_some_iff.1 hj).1; omega) hj
    have hx : L[k]? = some L[k] := List.getElem?_eq_getElem hlt
    generalize L[k] = r at hx
    obtain ⟨b, o, rfl, hbw⟩ := HR.out.pos (by omega)
    obtain ⟨path, id, kind, mode, size, made⟩ := r
    obtain ⟨q0, q1, q2, q3, q4, q5, q6, q7, q8, q9, q10, q11, q12⟩ := (HR.out.below HB.out).cells hx
    have HX := Lib.hid hx
    have hsr : Hid (wr.cell? ⟨gs, 0, none⟩ = some (.string s)) := Lib.hid ((HB.out.cell hgs).trans HS.out)
    clear hx
    cases hu : under (bl s) (bl path)
    case false =>
      have HU := Lib.hid hu
      have C1 := CF.out ⟨path, id, kind, mode, size, made⟩ wr hsr.out
      simp only at C1
      rw [hu] at C1
      have CC := Lib.hid C1
      clear C1 hu
      go_wp2_with fail
      refine CC.out.mono ?_
      rintro e w1 ⟨rfl, hb1⟩
      have HB1 := Lib.hid (bch HB.out hb1)
      clear hb1
      go_wp2_with fail
      go_roundg (L.length - (k + 1))
      case measure => omega
      case rel => exact ⟨k + 1, rfl, by go_num, by omega, Lib.hid (fun j y hj hy => by
        rcases Nat.lt_or_ge j k with h | h
        · exact HN.out j y h hy
        · obtain rfl : j = k := by omega
          rw [HX.out] at hy; cases hy; exact HU.out), HB1⟩
    case true =>
      have HU := Lib.hid hu
      have C1 := CF.out ⟨path, id, kind, mode, size, made⟩ wr hsr.out
      simp only at C1
      rw [hu] at C1
      have CC := Lib.hid C1
      clear C1 hu
      go_wp2_with fail
      refine CC.out.mono ?_
      rintro e w1 ⟨rfl, hb1⟩
      have HB1 := Lib.hid (bch HB.out hb1)
      clear hb1
      go_wp2_with fail
      go_ret
      exact ⟨Or.inr ⟨k, _, rfl, HX.out, HU.out, HN.out⟩, HB1.out⟩

/-- rows that lie whole at the head of a block -/
structure Rows (w : World) (g cap : Nat) (cur : Array Value) (M : List Rw) : Prop where
  hg : w.heap[g]? = some (.cells cur 44 (0, 0))
  sz : cur.size = cap * 13
  fl : cur.toList.take (M.length * 13) = flat M
  le : M.length ≤ cap
  mx : cap ≤ maxLen
theorem Rows.rt {w : World} {g cap : Nat} {cur : Array Value} {M : List Rw} (h : Rows w g cap cur M) : RT w (some ⟨g, 0, none⟩) cap M := by
  have ho : w.ownsRow 0 44 13 (.slice (some ⟨g, 0, none⟩) M.length cap) M.length (flat M) := ⟨flat_length M, Or.inr ⟨g, cap, cur, rfl, Nat.zero_le _, h.hg, h.le, h.mx, h.sz, h.fl⟩⟩
  obtain ⟨A, c, e, hR⟩ := RT.of_own ho
  injection e with e1 _ e2
  subst e1 e2
  exact hR
theorem Rows.same {w w' : World} {g cap : Nat} {cur : Array Value} {M : List Rw} (h : Rows w g cap cur M) (e : w'.heap[g]? = w.heap[g]?) : Rows w' g cap cur M := ⟨e.trans h.hg, h.sz, h.fl, h.le, h.mx⟩
/-- a row is stored over -/
theorem Rows.put {w : World} {g cap : Nat} {cur : Array Value} {M : List Rw} (h : Rows w g cap cur M) {i : Nat} (hi : i < M.length) (x : Rw) :
    ∃ C, w.setCells g (i * 13) x.cells = w.setRow g C ∧ Rows (w.setCells g (i * 13) x.cells) g cap C (M.set i x) := by
  have e1 := setCells_row g _ x.cells (i * 13) cur w h.hg (by rw [Rw.len, h.sz]; have := h.le; omega)
  have h2 := own_set (r := x) rfl h.fl h.sz h.le hi
  refine ⟨_, e1, ?_⟩
  rw [e1]
  exact ⟨setRow_heap _ _ _ _ _ _ h.hg, h2.1, by rw [List.length_set]; exact h2.2, by rw [List.length_set]; exact h.le, h.mx⟩

theorem zrow_one : ∀ k : Nat, k < 13 → (zrow.val.cells[k]!).oneCell' = true := by decide
/-- 'clear' of rows: some cells are written over -/
theorem run_clear_rows (w : World) (g o n c : Nat) (hn : 0 < n) (hc : ∀ j, j < n * 13 → (w.cell? ⟨g, o + j, none⟩).isSome = true) (hf : ∀ j, j < n * 13 → w.frozen? ⟨g, o + j, none⟩ = false) :
    ∃ zs, zs.length = n * 13 ∧ (Builtin.clear_ #[33] 0 #[.slice (some ⟨g, o, none⟩) n c]).run Tryd.prog w = .ok (.tuple #[]) (w.setCells g o zs) := by
  have hzl : (Builtin.zeroCells zrow.val.cells n).toList.length = n * 13 := by
    have : zrow.val.cells.size = 13 := rfl
    simp [Builtin.zeroCells, this]
  have hone : ∀ v ∈ (Builtin.zeroCells zrow.val.cells n).toList, v.oneCell' = true := by
    intro v hv
    have hs : zrow.val.cells.size = 13 := rfl
    simp only [Builtin.zeroCells, Array.toList_map, List.mem_map] at hv
    obtain ⟨k, _, rfl⟩ := hv
    rw [hs]
    exact zrow_one _ (Nat.mod_lt _ (by decide))
  have hst := run_storeCells_cells (P := Tryd.prog) g o (Builtin.zeroCells zrow.val.cells n).toList 0 w (by rw [hzl]; simpa using hc) (by rw [hzl]; simpa using hf) hone
  simp only [Nat.add_zero] at hst
  have hv : ∀ w, (zeroValue 44).run Tryd.prog w = .ok zrow.val w := fun w => by kernel_rfl
  refine ⟨_, hzl, ?_⟩
  obtain ⟨m, rfl⟩ : ∃ m, n = m + 1 := ⟨n - 1, by omega⟩
  simp [Builtin.clear_, run_underlying Tryd.underlying33, hv, hst]
/-- where the second loop stands: of the first j rows what stays lies at the head -/
structure DelAt (w wr : World) (g gs cap : Nat) (s : ByteArray) (L : List Rw) (i j : Nat) (cur : Array Value) (M : List Rw) : Prop where
  rows : Rows wr g cap cur M
  len : M.length = L.length
  done : M.take i = (L.take j).filter fun r => !under (bl s) (bl r.path)
  rest : ∀ q, j ≤ q → M[q]? = L[q]?
  box : wr.cell? ⟨gs, 0, none⟩ = some (.string s)
  grown : w.grownBy wr (some g)
theorem grown_alloc {w wr : World} {row : Option Nat} (h : w.grownBy wr row) (o : Obj) : w.grownBy (wr.alloc o) row :=
  ⟨h.os, h.tape, h.output, by simp; have := h.size; omega, fun k hk hr => (Below.heap_alloc wr o k (by have := h.size; omega)).trans (h.block k hk hr)⟩
theorem grown_below {w wr w' : World} {row : Option Nat} (h : w.grownBy wr row) (hb : Below wr.heap.size wr w') : w.grownBy w' row :=
  ⟨hb.os.trans h.os, hb.tape.trans h.tape, hb.output.trans h.output, by have := h.size; have := hb.size; omega, fun k hk hr => (hb.block k (by have := h.size; omega)).trans (h.block k hk hr)⟩
theorem grown_row {w wr : World} {g : Nat} (h : w.grownBy wr (some g)) (cs : Array Value) : w.grownBy (wr.setRow g cs) (some g) :=
  ⟨h.os, h.tape, h.output, by rw [setRow_size]; exact h.size, fun k hk hr => (heap_setRow_ne wr g k cs (fun e => hr (by rw [e]))).trans (h.block k hk hr)⟩

set_option maxRecDepth 100000 in
set_option maxHeartbeats 4000000 in
theorem del_any (g cap gs : Nat) (cur : Array Value) (L : List Rw) (s : ByteArray) (w : World) (hR : Rows w g cap cur L) (hs : w.cell? ⟨gs, 0, none⟩ = some (.string s)) (hz : s.size ≤ 1000000) (hl : L.length ≤ 100000) (hne : gs ≠ g) :
    Calls Tryd.prog 52 #[.slice (some ⟨g, 0, none⟩) (List.length L) cap, cutF gs] w fun e w' =>
      e = .returned (.slice (some ⟨g, 0, none⟩) (L.filter fun r => !under (bl s) (bl r.path)).length cap) ∧ RT w' (some ⟨g, 0, none⟩) cap (L.filter fun r => !under (bl s) (bl r.path)) ∧ (∃ cs, w'.heap[g]? = some (.cells cs 44 (0, 0))) ∧ w.grownBy w' (some g) := by
  have HR := Lib.hid hR
  have HS := Lib.hid hs
  have hgs := World.block_lt_of_cell? _ _ hs
  have hgl : g < w.heap.size := (Array.getElem?_eq_some_iff.1 hR.hg).1
  simp only at hgs
  have IX := Lib.hid (index_any (some ⟨g, 0, none⟩) cap L s gs w hR.rt hs hz hl)
  have hcap := hR.le
  obtain ⟨FL, hFL⟩ : ∃ FL, (L.filter fun r => !under (bl s) (bl r.path)) = FL := ⟨_, rfl⟩
  rw [hFL]
  have HFL := Lib.hid hFL
  clear hR hs hFL
  go_enter Tryd.func52, Tryd.ntmps52
  go_wp2_with fail
  refine IX.out.mono ?_
  rintro e w1 ⟨hix, hb1⟩
  have HB1 := Lib.hid hb1
  rcases hix with ⟨rfl, hno⟩ | ⟨k0, x0, rfl, hx0, hu0, hbf⟩
  · have HNO := Lib.hid hno
    clear hno hb1 IX
    go_wp2_with fail
    go_ret
    have e : L = FL := by
      rw [← HFL.out]
      exact (List.filter_eq_self.2 fun r hr => by rw [HNO.out r hr]; rfl).symm
    refine ⟨by rw [← e]; rfl, by rw [← e]; exact HR.out.rt.below HB1.out, ⟨cur, (HB1.out.block _ hgl).trans HR.out.hg⟩, grown_below (World.grownBy.refl w _) HB1.out⟩
  · have hk0 : k0 < L.length := (List.getElem?_eq_some_iff.1 hx0).1
    have HD0 : Hid (DelAt w w1 g gs cap s L k0 (k0 + 1) cur L) := Lib.hid (by
      refine ⟨HR.out.same (hb1.block _ hgl), rfl, ?_, fun q _ => rfl, (hb1.cell hgs).trans HS.out, grown_below (World.grownBy.refl w _) hb1⟩
      rw [List.take_succ_eq_append_getElem hk0, List.filter_append]
      have e0 : L[k0] = x0 := by have := List.getElem?_eq_getElem hk0; rw [hx0] at this; exact (Option.some.inj this).symm
      have e1 : (L.take k0).filter (fun r => !under (bl s) (bl r.path)) = L.take k0 := List.filter_eq_self.2 fun r hr => by
        obtain ⟨j, hj⟩ := List.mem_iff_getElem?.1 hr
        rw [List.getElem?_take] at hj
        split at hj
        · rw [hbf j r (by assumption) hj]; rfl
        · cases hj
      rw [e1, e0]
      simp [hu0])
    have HX0 := Lib.hid hx0
    have HU0 := Lib.hid hu0
    have HBF := Lib.hid hbf
    clear hx0 hu0 hbf hb1 IX
    go_wp2_with fail
    go_loopg [5, 6, 7] (L.length - (k0 + 1)) (fun gk vi vj _ wr => ∃ (i j : Nat) (C : Array Value) (M : List Rw), gk = L.length - j ∧ vi = .int .i64 i ∧ vj = .int .i64 j ∧ i < j ∧ j ≤ L.length ∧ Hid (DelAt w wr g gs cap s L i j C M))
    case atStart => exact ⟨k0, k0 + 1, cur, L, rfl, rfl, by go_num, by omega, by omega, HD0⟩
    case round =>
      obtain ⟨i, j, C, M, rfl, rfl, rfl, hij, hj, HD⟩ := hrel
      have hgr : g < wr.heap.size := (Array.getElem?_eq_some_iff.1 HD.out.rows.hg).1
      have hfg := blk_frozen HD.out.rows.hg
      by_cases hlt : j < L.length
      case neg =>
        have hM := HD.out.len
        have hsz := HD.out.rows.sz
        have hcell : ∀ q, q < (L.length - i) * 13 → (wr.cell? ⟨g, i * 13 + q, none⟩).isSome = true := fun q hq => by
          have e : wr.cell? ⟨g, i * 13 + q, none⟩ = C[i * 13 + q]? := cell_of_row _ _ _ _ _ _ HD.out.rows.hg
          rw [e, Array.getElem?_eq_getElem (by rw [hsz]; omega)]; rfl
        obtain ⟨zs, hzl, hclr⟩ := run_clear_rows wr g (i * 13) (L.length - i) (cap - i) (by omega) hcell (fun q _ => hfg _)
        have hFLM : FL = M.take i := by
          rw [HD.out.done, List.take_of_length_le (by omega), HFL.out]
        have hset := setCells_row g _ zs (i * 13) C wr HD.out.rows.hg (by rw [hzl, hsz]; omega)
        have HSET := Lib.hid hset
        have HFM := Lib.hid hFLM
        have hlen : FL.length = i := by rw [hFLM, List.length_take]; omega
        have HLEN := Lib.hid hlen
        have hcell2 : ∀ q, q < i * 13 → (wr.setCells g (i * 13) zs).cell? ⟨g, q, none⟩ = wr.cell? ⟨g, q, none⟩ := fun q hq => World.cell?_setCells_out g zs (i * 13) wr ⟨g, q, none⟩ (fun _ _ => Or.inl hq)
        have HC2 := Lib.hid hcell2
        clear hcell hset hFLM hlen hcell2 hzl hfg hsz
        go_wp2_with fail
        go_ret
        rw [HLEN.out]
        refine ⟨rfl, ?_, ?_, ?_⟩
        · rw [HFM.out]
          refine ⟨by rw [List.length_take]; omega, (fun h => by cases h), fun q x hx => ⟨g, 0, rfl, ?_, fun n v hv => ?_⟩⟩
          · rw [HSET.out, setRow_size]; exact hgr
          · have hq : q < i := by have := (List.getElem?_eq_some_iff.1 hx).1; rw [List.length_take] at this; omega
            have hn13 : n < 13 := (List.getElem?_eq_some_iff.1 hv).1
            rw [HC2.out _ (by omega)]
            rw [List.getElem?_take_of_lt hq] at hx
            exact HD.out.rows.rt.row hx hv
        · rw [HSET.out]; exact ⟨_, setRow_heap _ _ _ _ _ _ HD.out.rows.hg⟩
        · rw [HSET.out]; exact grown_row HD.out.grown _
      have hx : L[j]? = some L[j] := List.getElem?_eq_getElem hlt
      have htk : L.take (j + 1) = L.take j ++ [L[j]] := List.take_succ_eq_append_getElem hlt
      generalize L[j] = x at hx htk
      have hxM := (HD.out.rest j (Nat.le_refl _)).trans hx
      obtain ⟨path, id, kind, mode, size, made⟩ := x
      obtain ⟨q0, q1, q2, q3, q4, q5, q6, q7, q8, q9, q10, q11, q12⟩ := HD.out.rows.rt.cells hxM
      simp only [Nat.zero_add] at q0 q1 q2 q3 q4 q5 q6 q7 q8 q9 q10 q11 q12
      have HX := Lib.hid hx
      have HTK := Lib.hid htk
      clear hx htk hxM
      go_wp2_with fail
      clear q0 q1 q2 q3 q4 q5 q6 q7 q8 q9 q10 q11 q12
      generalize hw2 : wr.alloc (.cells #[.string path, .int .i64 id, .int .i64 kind, .int .i64 mode, .int .i64 0, .int .i64 0, .int .i64 0, .string nos, .string nos, .string nos, .slice none 0 0, .int .i64 size, .bool made] 44) = w2
      have hr2 : w2.heap[wr.heap.size]? = some (.cells (Rw.cells ⟨path, id, kind, mode, size, made⟩).toArray 44 (0, 0)) := by rw [← hw2]; exact heap_alloc_new wr _
      have hbl : Below wr.heap.size wr w2 := by rw [← hw2]; exact (Below.refl _ _).alloc (Nat.le_refl _) _
      clear hw2
      have hgsr : gs < wr.heap.size := World.block_lt_of_cell? _ _ HD.out.box
      refine (cutf_any ⟨path, id, kind, mode, size, made⟩ s gs w2 ((hbl.cell hgsr).trans HD.out.box) hz).mono ?_
      rintro e w3 ⟨rfl, hb3⟩
      have hb23 := bch hbl hb3
      have hr3 : w3.heap[wr.heap.size]? = _ := (hb3.block _ (Array.getElem?_eq_some_iff.1 hr2).1).trans hr2
      have HB23 := Lib.hid hb23
      have HR3 := Lib.hid hr3
      clear hbl hr2 hb3 hb23
      cases hu : under (bl s) (bl path)
      case true =>
        have HU := Lib.hid hu
        clear hu hr3
        go_wp2_with fail
        go_roundg (L.length - (j + 1))
        case measure => omega
        case rel =>
          refine ⟨i, j + 1, C, M, rfl, rfl, by go_num, by omega, by omega, Lib.hid ⟨HD.out.rows.same (HB23.out.block _ hgr), HD.out.len, ?_, fun q hq => HD.out.rest q (by omega), (HB23.out.cell hgsr).trans HD.out.box, grown_below HD.out.grown HB23.out⟩⟩
          rw [HD.out.done, HTK.out, List.filter_append]
          simp [HU.out]
      case false =>
        have HU := Lib.hid hu
        obtain ⟨z0, z1, z2, z3, z4, z5, z6, z7, z8, z9, z10, z11, z12⟩ := row_cells hr3
        have hiM : i < M.length := by rw [HD.out.len]; omega
        obtain ⟨b0, b1, b2, b3, b4, b5, b6, b7, b8, b9, b10, b11, b12⟩ := (HD.out.rows.same (HB23.out.block _ hgr)).rt.cells (path := M[i].path) (id := M[i].id) (kind := M[i].kind) (mode := M[i].mode) (size := M[i].size) (made := M[i].made) (List.getElem?_eq_getElem hiM)
        simp only [Nat.zero_add] at b0 b1 b2 b3 b4 b5 b6 b7 b8 b9 b10 b11 b12
        have hf3 : ∀ q, w3.frozen? ⟨g, q, none⟩ = false := blk_frozen ((HB23.out.block _ hgr).trans HD.out.rows.hg)
        obtain ⟨C2, hset, hrows⟩ := (HD.out.rows.same (HB23.out.block _ hgr)).put hiM ⟨path, id, kind, mode, size, made⟩
        have HSET := Lib.hid hset
        have HROWS := Lib.hid hrows
        clear hu hr3 hset hrows
        go_wp2_with fail
        clear z0 z1 z2 z3 z4 z5 z6 z7 z8 z9 z10 z11 z12 b0 b1 b2 b3 b4 b5 b6 b7 b8 b9 b10 b11 b12
        go_roundg (L.length - (j + 1))
        case measure => omega
        case rel =>
          refine ⟨i + 1, j + 1, C2, M.set i ⟨path, id, kind, mode, size, made⟩, rfl, by go_num, by go_num, by omega, by omega, Lib.hid ?_⟩
          show DelAt w (w3.setCells g (i * 13) (Rw.cells ⟨path, id, kind, mode, size, made⟩)) g gs cap s L (i + 1) (j + 1) C2 (M.set i ⟨path, id, kind, mode, size, made⟩)
          refine ⟨HROWS.out, by rw [List.length_set]; exact HD.out.len, ?_, fun q hq => ?_, ?_, ?_⟩
          · rw [List.take_succ_eq_append_getElem (by rw [List.length_set]; exact hiM), List.getElem_set_self, List.take_set, List.set_eq_of_length_le (by rw [List.length_take]; omega), HD.out.done, HTK.out, List.filter_append]
            simp [HU.out]
          · rw [List.getElem?_set_ne (by omega)]; exact HD.out.rest q (by omega)
          · rw [HSET.out, World.cell?_of_block (heap_setRow_ne w3 g gs C2 hne)]; exact (HB23.out.cell hgsr).trans HD.out.box
          · rw [HSET.out]; exact grown_row (grown_below HD.out.grown HB23.out) _

end Go.Proofs.YtcniahbliadgiaaDoor

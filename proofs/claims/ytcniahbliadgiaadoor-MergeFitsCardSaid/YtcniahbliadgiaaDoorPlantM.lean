/-
  pannierlaw17.planted: the walk.
-/
import Derived.Test.YtcniahbliadgiaaDoorPlanM
import Derived.Test.YtcniahbliadgiaaDoorContP
import Derived.Deep.RegionWith
import Derived.Deep.DrawnRows
namespace Go.Proofs.YtcniahbliadgiaaDoor
open Go.RowKit
open Go.Proofs.PnKit Go.Proofs.PnPath

/-- the slice '.slice A n c' reads as these things -/
structure RQ (w : World) (A : Option Addr) (c : Nat) (L : List Oq) : Prop where
  cap : L.length ≤ c
  nil0 : A = none → c = 0
  cell : ∀ (j : Nat) (x : Oq), L[j]? = some x → ∃ b o, A = some ⟨b, o, none⟩ ∧ b < w.heap.size ∧ w.cell? ⟨b, o + j * 4, none⟩ = some (.int .i64 x.thing) ∧ w.cell? ⟨b, o + j * 4 + 1, none⟩ = some (.int .i64 x.mark) ∧ w.cell? ⟨b, o + j * 4 + 2, none⟩ = some (.string x.path) ∧ w.cell? ⟨b, o + j * 4 + 3, none⟩ = some (.string x.dest)
theorem RQ.below {w w' : World} {A : Option Addr} {c : Nat} {L : List Oq} (h : RQ w A c L) (hb : Below w.heap.size w w') : RQ w' A c L :=
  ⟨h.cap, h.nil0, fun j x hx => by
    obtain ⟨b, o, e, hlt, h0, h1, h2, h3⟩ := h.cell j x hx
    have := hb.size
    exact ⟨b, o, e, by omega, (hb.cell (p := ⟨b, _, none⟩) hlt).trans h0, (hb.cell (p := ⟨b, _, none⟩) hlt).trans h1, (hb.cell (p := ⟨b, _, none⟩) hlt).trans h2, (hb.cell (p := ⟨b, _, none⟩) hlt).trans h3⟩⟩
theorem RQ.at {w : World} {A : Option Addr} {c : Nat} {L : List Oq} (h : RQ w A c L) {j : Nat} {x : Oq} (hx : L[j]? = some x) : ∃ b o, A = some ⟨b, o, none⟩ := by
  obtain ⟨b, o, e, _⟩ := h.cell j x hx
  exact ⟨b, o, e⟩
theorem RQ.four {w : World} {b o c : Nat} {L : List Oq} (h : RQ w (some ⟨b, o, none⟩) c L) {j : Nat} {x : Oq} (hx : L[j]? = some x) :
    w.cell? ⟨b, o + j * 4, none⟩ = some (.int .i64 x.thing) ∧ w.cell? ⟨b, o + j * 4 + 1, none⟩ = some (.int .i64 x.mark) ∧ w.cell? ⟨b, o + j * 4 + 2, none⟩ = some (.string x.path) ∧ w.cell? ⟨b, o + j * 4 + 3, none⟩ = some (.string x.dest) := by
  obtain ⟨b', o', e, _, h1⟩ := h.cell j x hx
  simp only [Option.some.injEq, Addr.mk.injEq, and_true] at e
  obtain ⟨rfl, rfl⟩ := e
  exact h1
abbrev oqC (x : Oq) : List Value := [.int .i64 x.thing, .int .i64 x.mark, .string x.path, .string x.dest]
theorem oq_cells {w : World} {g : Nat} {t : TypeId} {path dest : ByteArray} {thing mark : Int} (h : w.heap[g]? = some (.cells (oqC ⟨thing, mark, path, dest⟩).toArray t (0, 0))) :
    w.cell? ⟨g, 0, none⟩ = some (.int .i64 thing) ∧ w.cell? ⟨g, 1, none⟩ = some (.int .i64 mark) ∧ w.cell? ⟨g, 2, none⟩ = some (.string path) ∧ w.cell? ⟨g, 3, none⟩ = some (.string dest) :=
  ⟨blk_cell h (j := 0) rfl, blk_cell h (j := 1) rfl, blk_cell h (j := 2) rfl, blk_cell h (j := 3) rfl⟩

/-- where the loop stands: both trees lie in blocks of the call's own -/
structure PmAt (w wr : World) (t : List Rw × Int) (u : List Th × Int) : Prop where
  b0 : wr.heap[w.heap.size]? = some (.cells [.slice none 0 0, .int .i64 0].toArray 35 (0, 0))
  b1 : wr.heap[w.heap.size + 1]? = some (.cells [.slice none 0 0, .int .i64 0].toArray 64 (0, 0))
  b2 : ∃ A c, wr.heap[w.heap.size + 1 + 1]? = some (.cells [.slice A t.1.length c, .int .i64 t.2].toArray 35 (0, 0)) ∧ RT wr A c t.1
  b3 : ∃ A c, wr.heap[w.heap.size + 1 + 1 + 1]? = some (.cells [.slice A u.1.length c, .int .i64 u.2].toArray 64 (0, 0)) ∧ RH wr A c u.1
  below : Below w.heap.size w wr
section
variable {w wr w' : World} {t t' : List Rw × Int} {u u' : List Th × Int}
theorem PmAt.next (h : PmAt w wr t u) (hb : Below wr.heap.size wr w') : PmAt w w' t u := by
  obtain ⟨A, c, h1, h2⟩ := h.b2
  obtain ⟨B, d, h3, h4⟩ := h.b3
  exact ⟨(hb.block _ (blk_lt h.b0)).trans h.b0, (hb.block _ (blk_lt h.b1)).trans h.b1, ⟨A, c, (hb.block _ (blk_lt h1)).trans h1, h2.below hb⟩, ⟨B, d, (hb.block _ (blk_lt h3)).trans h3, h4.below hb⟩, h.below.trans (hb.mono h.below.size)⟩
theorem PmAt.lt (h : PmAt w wr t u) : w.heap.size + 1 + 1 + 1 < wr.heap.size := by
  obtain ⟨B, d, h3, _⟩ := h.b3
  exact blk_lt h3
theorem PmAt.putT (h : PmAt w wr t u) {A : Option Addr} {c : Nat} (hR : RT wr A c t'.1) : PmAt w (wr.setRow (w.heap.size + 1 + 1) #[.slice A t'.1.length c, .int .i64 t'.2]) t' u := by
  obtain ⟨A0, c0, h1, _⟩ := h.b2
  obtain ⟨B, d, h3, h4⟩ := h.b3
  refine ⟨?_, ?_, ⟨A, c, setRow_heap _ _ _ _ _ _ h1, hR.setOther h1 tree_no _⟩, ⟨B, d, ?_, h4.setOther h1 tree_no _⟩, below_setRow h.below (by omega) _⟩
  · rw [heap_setRow_ne _ _ _ _ (by omega)]; exact h.b0
  · rw [heap_setRow_ne _ _ _ _ (by omega)]; exact h.b1
  · rw [heap_setRow_ne _ _ _ _ (by omega)]; exact h3
theorem PmAt.putW (h : PmAt w wr t u) {B : Option Addr} {d : Nat} (hR : RH wr B d u'.1) : PmAt w (wr.setRow (w.heap.size + 1 + 1 + 1) #[.slice B u'.1.length d, .int .i64 u'.2]) t u' := by
  obtain ⟨A, c, h1, h2⟩ := h.b2
  obtain ⟨B0, d0, h3, _⟩ := h.b3
  refine ⟨?_, ?_, ⟨A, c, ?_, h2.setOther h3 tree_no _⟩, ⟨B, d, setRow_heap _ _ _ _ _ _ h3, hR.setOther h3 tree_no _⟩, below_setRow h.below (by omega) _⟩
  · rw [heap_setRow_ne _ _ _ _ (by omega)]; exact h.b0
  · rw [heap_setRow_ne _ _ _ _ (by omega)]; exact h.b1
  · rw [heap_setRow_ne _ _ _ _ (by omega)]; exact h1
theorem PmAt.tree (h : PmAt w wr t u) : ∃ A c, wr.heap[w.heap.size + 1 + 1]? = some (.cells [.slice A t.1.length c, .int .i64 t.2].toArray 35 (0, 0)) ∧ RT wr A c t.1 ∧
    wr.cell? ⟨w.heap.size + 1 + 1, 0, none⟩ = some (.slice A t.1.length c) ∧ wr.cell? ⟨w.heap.size + 1 + 1, 1, none⟩ = some (.int .i64 t.2) ∧ ∀ j, wr.frozen? ⟨w.heap.size + 1 + 1, j, none⟩ = false := by
  obtain ⟨A, c, h1, h2⟩ := h.b2
  exact ⟨A, c, h1, h2, blk_cell h1 (j := 0) rfl, blk_cell h1 (j := 1) rfl, blk_frozen h1⟩
theorem PmAt.ref (h : PmAt w wr t u) : ∃ A c, wr.heap[w.heap.size + 1 + 1 + 1]? = some (.cells [.slice A u.1.length c, .int .i64 u.2].toArray 64 (0, 0)) ∧ RH wr A c u.1 ∧
    wr.cell? ⟨w.heap.size + 1 + 1 + 1, 0, none⟩ = some (.slice A u.1.length c) ∧ wr.cell? ⟨w.heap.size + 1 + 1 + 1, 1, none⟩ = some (.int .i64 u.2) ∧ ∀ j, wr.frozen? ⟨w.heap.size + 1 + 1 + 1, j, none⟩ = false := by
  obtain ⟨A, c, h1, h2⟩ := h.b3
  exact ⟨A, c, h1, h2, blk_cell h1 (j := 0) rfl, blk_cell h1 (j := 1) rfl, blk_frozen h1⟩
end
theorem plant_take {more : Int} {L : List Oq} {k : Nat} {x : Oq} (h : L[k]? = some x) : plantM more (L.take (k + 1)) = stepM more (plantM more (L.take k)) x ∧ plantW (L.take (k + 1)) = stepW (plantW (L.take k)) x := by
  obtain ⟨hlt, rfl⟩ := List.getElem?_eq_some_iff.1 h
  rw [List.take_succ_eq_append_getElem hlt, plantM_snoc, plantW_snoc]
  exact ⟨rfl, rfl⟩

/-- two results that lie in blocks of their own -/
theorem results_row_row {P : Program} {fn : Func} {p q : Tmp} {ty tz : TypeId} (h : fn.results = #[.cell p ty, .cell q tz]) (tmps : Array Value) (w : World) (g : Nat) (t : TypeId) (cs : Array Value) (fr : Nat × Nat) (d : TypeDesc) (g2 : Nat) (t2 : TypeId) (cs2 : Array Value) (fr2 : Nat × Nat) (d2 : TypeDesc)
    (hp : tmps.getD p undef = .pointer (some ⟨g, 0, none⟩)) (hg : w.heap[g]? = some (.cells cs t fr)) (hq : tmps.getD q undef = .pointer (some ⟨g2, 0, none⟩)) (hg2 : w.heap[g2]? = some (.cells cs2 t2 fr2))
    (hu : P.underlying ty = some d) (hd : (match d with | .struct _ | .array _ _ => true | _ => false) = true) (hi : (P.info? ty).map (·.size) = some cs.size)
    (hu2 : P.underlying tz = some d2) (hd2 : (match d2 with | .struct _ | .array _ _ => true | _ => false) = true) (hi2 : (P.info? tz).map (·.size) = some cs2.size) :
    (results fn tmps).run P w = .ok (.tuple #[.agg cs, .agg cs2]) w := by
  have hp' : tmps[p]?.getD undef = .pointer (some ⟨g, 0, none⟩) := by simpa using hp
  have hq' : tmps[q]?.getD undef = .pointer (some ⟨g2, 0, none⟩) := by simpa using hq
  simp [results, h, hp', hq', asAddr, run_loadVar_row w g t ty cs fr d hg hu hd hi, run_loadVar_row w g2 t2 tz cs2 fr2 d2 hg2 hu2 hd2 hi2]

attribute [local go_sem ↓] Go.wp_at_zero Go.wp_at_succ

set_option maxRecDepth 100000 in
set_option maxHeartbeats 4000000 in
theorem plantedM_any (A : Option Addr) (c : Nat) (L : List Oq) (more : Int) (w : World) (hE : Env w) (hR : RQ w A c L) (hl : L.length ≤ 40) (hm : 0 ≤ more ∧ more ≤ 5000) :
    Calls Tryd.prog 27 #[.slice A (List.length L) c, .int .i64 more] w fun e w' =>
      ∃ A' c' B' d', e = .returned (.tuple #[.agg #[.slice A' (plantM more L).1.length c', .int .i64 (plantM more L).2], .agg #[.slice B' (plantW L).1.length d', .int .i64 (plantW L).2]]) ∧ RT w' A' c' (plantM more L).1 ∧ RH w' B' d' (plantW L).1 ∧ Below w.heap.size w w' := by
  have HR := Lib.hid hR
  have HE := Lib.hid hE
  clear hR hE
  go_enter Tryd.func27, Tryd.ntmps27
  go_wp2_with fail
  go_loopg [19] L.length (fun g i wr => ∃ k : Nat, g = L.length - k ∧ i = .int .i64 k ∧ k ≤ L.length ∧ Hid (PmAt w wr (plantM more (L.take k)) (plantW (L.take k))))
  case atStart =>
    refine ⟨0, rfl, rfl, Nat.zero_le _, Lib.hid ⟨?_, ?_, ⟨none, 0, ?_, RT.nil _⟩, ⟨none, 0, ?_, RH.nil _⟩, ?_⟩⟩
    · rw [Below.heap_alloc _ _ _ (by simp; omega), Below.heap_alloc _ _ _ (by simp; omega), Below.heap_alloc _ _ _ (by simp)]; exact heap_alloc_new w _
    · rw [Below.heap_alloc _ _ _ (by simp), Below.heap_alloc _ _ _ (by simp)]; exact heap_alloc2_new w _ _
    · rw [Below.heap_alloc _ _ _ (by simp)]
      have h := heap_alloc_new ((w.alloc (.cells #[.slice none 0 0, .int .i64 0] 35)).alloc (.cells #[.slice none 0 0, .int .i64 0] 64)) (.cells #[.slice none 0 0, .int .i64 0] 35)
      have e : ((w.alloc (.cells #[.slice none 0 0, .int .i64 0] 35)).alloc (.cells #[.slice none 0 0, .int .i64 0] 64)).heap.size = w.heap.size + 1 + 1 := by simp
      rw [e] at h; exact h
    · have h := heap_alloc_new (((w.alloc (.cells #[.slice none 0 0, .int .i64 0] 35)).alloc (.cells #[.slice none 0 0, .int .i64 0] 64)).alloc (.cells #[.slice none 0 0, .int .i64 0] 35)) (.cells #[.slice none 0 0, .int .i64 0] 64)
      have e : (((w.alloc (.cells #[.slice none 0 0, .int .i64 0] 35)).alloc (.cells #[.slice none 0 0, .int .i64 0] 64)).alloc (.cells #[.slice none 0 0, .int .i64 0] 35)).heap.size = w.heap.size + 1 + 1 + 1 := by simp
      rw [e] at h; exact h
    · exact (((Below.refl w.heap.size w).alloc (Nat.le_refl _) _).alloc (by simp) _).alloc (by simp; omega) _ |>.alloc (by simp; omega) _
  case round =>
    obtain ⟨k, rfl, rfl, hk, HA⟩ := hrel
    by_cases hlt : k < L.length
    case neg =>
      have hL : L.take k = L := List.take_of_length_le (by omega)
      have hat := HA.out
      rw [hL] at hat
      obtain ⟨A1, c1, h2, hR1, t0, t1, -⟩ := hat.tree
      obtain ⟨B1, d1, h3, hR2, u0, u1, -⟩ := hat.ref
      have y0 := blk_cell hat.b0 (j := 0) rfl
      have y1 := blk_cell hat.b0 (j := 1) rfl
      have yf := blk_frozen hat.b0
      have v0 := blk_cell hat.b1 (j := 0) rfl
      have v1 := blk_cell hat.b1 (j := 1) rfl
      have vf := blk_frozen hat.b1
      have HAT := Lib.hid hat
      have HR1 := Lib.hid hR1
      have HR2 := Lib.hid hR2
      clear hL hat h2 h3 hR1 hR2 HA
      have hX : (wr.setRow w.heap.size #[.slice A1 (plantM more L).1.length c1, .int .i64 (plantM more L).2]).heap[w.heap.size + 1]? = some (.cells [.slice none 0 0, .int .i64 0].toArray 64 (0, 0)) := (heap_setRow_ne _ _ _ _ (by omega)).trans HAT.out.b1
      have HX := Lib.hid hX
      clear hX
      go_wp2_with fail
      go_region_with fail
      all_goals
        go_wp2_with fail
        rw [set2 HAT.out.b0, set2 HX.out]
        have e0 : (((wr.setRow w.heap.size #[.slice A1 (plantM more L).1.length c1, .int .i64 (plantM more L).2]).setRow (w.heap.size + 1) #[.slice B1 (plantW L).1.length d1, .int .i64 (plantW L).2]).drew).heap[w.heap.size]? = _ := (heap_setRow_ne _ _ _ _ (by omega)).trans (setRow_heap _ _ _ _ _ _ HAT.out.b0)
        have e1 : (((wr.setRow w.heap.size #[.slice A1 (plantM more L).1.length c1, .int .i64 (plantM more L).2]).setRow (w.heap.size + 1) #[.slice B1 (plantW L).1.length d1, .int .i64 (plantW L).2]).drew).heap[w.heap.size + 1]? = _ := setRow_heap _ _ _ _ _ _ HX.out
        refine bodyPost_ret (results_row_row rfl _ _ w.heap.size _ #[.slice A1 (plantM more L).1.length c1, .int .i64 (plantM more L).2] _ _ (w.heap.size + 1) _ #[.slice B1 (plantW L).1.length d1, .int .i64 (plantW L).2] _ _ rfl e0 rfl e1 Tryd.underlying35 rfl (by kernel_rfl) Tryd.underlying64 rfl (by kernel_rfl)) rfl ?_
        have hR1 := (HR1.out.setOther HAT.out.b0 tree_no #[.slice A1 (plantM more L).1.length c1, .int .i64 (plantM more L).2]).setOther HX.out tree_no #[.slice B1 (plantW L).1.length d1, .int .i64 (plantW L).2]
        have hR2 := (HR2.out.setOther HAT.out.b0 tree_no #[.slice A1 (plantM more L).1.length c1, .int .i64 (plantM more L).2]).setOther HX.out tree_no #[.slice B1 (plantW L).1.length d1, .int .i64 (plantW L).2]
        exact ⟨A1, c1, B1, d1, rfl, hR1.below (Below.refl _ _).drew, hR2.below (Below.refl _ _).drew, (below_setRow (below_setRow HAT.out.below (Nat.le_refl _) _) (Nat.le_succ _) _).drew⟩
    have hx : L[k]? = some L[k] := List.getElem?_eq_getElem hlt
    generalize L[k] = x at hx
    have hst := plant_take (more := more) hx
    have hltr : w.heap.size + 1 + 1 + 1 < wr.heap.size := HA.out.lt
    have HST := Lib.hid hst
    have HG := Lib.hid (plantM_grown more (L.take k))
    have HGW := Lib.hid (plantW_grown (L.take k))
    obtain ⟨b, o, rfl⟩ := HR.out.at hx
    obtain ⟨q0, q1, q2, q3⟩ := (HR.out.below HA.out.below).four hx
    obtain ⟨thing, mark, path, dest⟩ := x
    simp only at q0 q1 q2 q3
    clear hx hst
    go_wp2_with fail
    clear q0 q1 q2 q3
    generalize hw1 : wr.alloc (.cells #[.int .i64 thing, .int .i64 mark, .string path, .string dest] 95) = w1
    have hx1 : w1.heap[wr.heap.size]? = some (.cells (oqC ⟨thing, mark, path, dest⟩).toArray 95 (0, 0)) := by rw [← hw1]; exact heap_alloc_new wr _
    have hbl : Below wr.heap.size wr w1 := by rw [← hw1]; exact (Below.refl _ _).alloc (Nat.le_refl _) _
    clear hw1
    have HA1 := Lib.hid (HA.out.next hbl)
    clear hbl
    refine (clean_any path _ (HE.out.below HA1.out.below)).mono ?_
    rintro e w2 ⟨Aa, ca, La, ea, rfl, hRa, hca, hb2⟩
    have HA2 := Lib.hid (HA1.out.next hb2)
    have hx2 : w2.heap[wr.heap.size]? = _ := (hb2.block _ (blk_lt hx1)).trans hx1
    obtain ⟨x0, x1, x2, x3⟩ := oq_cells hx2
    have HX2 := Lib.hid hx2
    have HCA := Lib.hid hca
    have HRA := Lib.hid hRa
    clear hb2 hx1 hx2 hca hRa HA1 HA
    go_wp2_with fail
    refine (clean_any dest _ (HE.out.below HA2.out.below)).mono ?_
    rintro e w3 ⟨Ab, cb, Lb, eb, rfl, hRb, hcb, hb3⟩
    have HA3 := Lib.hid (HA2.out.next hb3)
    have HRA3 := Lib.hid (HRA.out.below hb3)
    have hx3 : w3.heap[wr.heap.size]? = _ := (hb3.block _ (blk_lt HX2.out)).trans HX2.out
    have HX3 := Lib.hid hx3
    have HCB := Lib.hid hcb
    have HRB := Lib.hid hRb
    have hta : tot (bls La) ≤ 100000000 := by have := clean_size HCA.out; omega
    have htb : tot (bls Lb) ≤ 100000000 := by have := clean_size hcb; omega
    clear x0 x1 x2 x3 hb3 hcb hRb HX2 HA2 HRA hx3
    go_wp2_with fail
    refine (join_any Aa ca La _ HRA3.out hta).mono ?_
    rintro e w4 ⟨ra, rfl, hra, hb4⟩
    obtain rfl := path_eq hra
    have HA4 := Lib.hid (HA3.out.next hb4)
    have HRB4 := Lib.hid (HRB.out.below hb4)
    have hx4 : w4.heap[wr.heap.size]? = _ := (hb4.block _ (blk_lt HX3.out)).trans HX3.out
    have HX4 := Lib.hid hx4
    clear hra hb4 hx4 HX3 HA3 HRB HRA3
    go_wp2_with fail
    refine (join_any Ab cb Lb _ HRB4.out htb).mono ?_
    rintro e w5 ⟨rb, rfl, hrb, hb5⟩
    obtain rfl := path_eq hrb
    have HA5 := Lib.hid (HA4.out.next hb5)
    have hx5 : w5.heap[wr.heap.size]? = _ := (hb5.block _ (blk_lt HX4.out)).trans HX4.out
    have HX5 := Lib.hid hx5
    obtain ⟨x0, x1, x2, x3⟩ := oq_cells hx5
    have hnx : wr.heap.size < w5.heap.size := blk_lt hx5
    clear hrb hb5 hx5 HX4 HA4 HRB4
    by_cases hbad : ea ≠ 0 ∨ path.size > 300 ∨ mark < 0 ∨ mark > 1000
    · have HSAME : Hid (plantM more (L.take (k + 1)) = plantM more (L.take k) ∧ plantW (L.take (k + 1)) = plantW (L.take k)) := by
        refine Lib.hid ?_
        rw [HST.out.1, HST.out.2, stepM, stepW, if_pos (by rw [HCA.out]; exact hbad), if_pos (by rw [HCA.out]; exact hbad)]
        exact ⟨rfl, rfl⟩
      have hb4 : (ea != 0) = true ∨ (ea = 0 ∧ 300 < (path.size : Int)) ∨ (ea = 0 ∧ (path.size : Int) ≤ 300 ∧ mark < 0) ∨ (ea = 0 ∧ (path.size : Int) ≤ 300 ∧ 0 ≤ mark ∧ 1000 < mark) := by
        by_cases h : ea = 0
        · right; omega
        · left; simp [h]
      clear hbad
      rcases hb4 with h | ⟨rfl, h⟩ | ⟨rfl, h, h2⟩ | ⟨rfl, h, h2, h3⟩
      all_goals
        go_wp2_with fail
        go_roundg (L.length - (k + 1))
        case measure => omega
        case rel => exact ⟨k + 1, rfl, by go_num, by omega, Lib.hid (by rw [HSAME.out.1, HSAME.out.2]; exact HA5.out)⟩
    obtain ⟨he0, hp0, hs0, hs1⟩ : ea = 0 ∧ path.size ≤ 300 ∧ 0 ≤ mark ∧ mark ≤ 1000 := by omega
    subst he0
    have HNB := Lib.hid hbad
    clear hbad
    have hcb := clean_bounds (s := path) (L := bls La) HCA.out
    have HGa : Hid (G (bls La)) := hcb.1
    have hjl : (join (bls La)).length ≤ 300 := by have := hcb.2; omega
    have hlenP : (bls La).length ≤ 150 := G_len HGa.out (by omega)
    clear hcb
    have hG4 : (plantM more (L.take k)).1.length ≤ 6100 ∧ 0 ≤ (plantM more (L.take k)).2 ∧ (plantM more (L.take k)).2 ≤ 6100 := by
      have h1 := HG.out.len
      have h2 := HG.out.next
      have h3 := HG.out.nat
      rw [List.length_take] at h1 h2
      omega
    have hW4 : (plantW (L.take k)).1.length ≤ 6100 ∧ 0 ≤ (plantW (L.take k)).2 ∧ (plantW (L.take k)).2 ≤ 6100 := by
      have h1 := HGW.out.len
      have h2 := HGW.out.next
      have h3 := HGW.out.nat
      rw [List.length_take] at h1 h2
      omega
    have HSTEP : Hid (plantM more (L.take (k + 1)) = if dest.size ≠ 0 then
        if eb = 0 then ((linkV (plantM more (L.take k)).1 (plantM more (L.take k)).2 (bls La) (bls Lb)).1, (linkV (plantM more (L.take k)).1 (plantM more (L.take k)).2 (bls La) (bls Lb)).2.1) else plantM more (L.take k)
      else if thing = 1 ∨ thing = 3 ∨ thing = 4 then ((addV (plantM more (L.take k)).1 (plantM more (L.take k)).2 (bls La) thing (mark + more) (if thing = 1 then mark else 0) false).1, (addV (plantM more (L.take k)).1 (plantM more (L.take k)).2 (bls La) thing (mark + more) (if thing = 1 then mark else 0) false).2.1)
      else plantM more (L.take k)) := by
      refine Lib.hid ?_
      rw [HST.out.1, stepM, HCA.out, HCB.out, if_neg HNB.out]
    have HSTEW : Hid (plantW (L.take (k + 1)) = if dest.size ≠ 0 then
        if eb = 0 then ((rlinkV (plantW (L.take k)).1 (plantW (L.take k)).2 (bls La) (bls Lb)).1, (rlinkV (plantW (L.take k)).1 (plantW (L.take k)).2 (bls La) (bls Lb)).2.1) else plantW (L.take k)
      else if thing = 1 ∨ thing = 3 ∨ thing = 4 then ((raddV (plantW (L.take k)).1 (plantW (L.take k)).2 (bls La) thing mark).1, (raddV (plantW (L.take k)).1 (plantW (L.take k)).2 (bls La) thing mark).2.1)
      else plantW (L.take k)) := by
      refine Lib.hid ?_
      rw [HST.out.2, stepW, HCA.out, HCB.out, if_neg HNB.out]
    clear HST HCA HNB HGW
    obtain ⟨TT, hTT⟩ : ∃ TT, plantM more (L.take k) = TT := ⟨_, rfl⟩
    obtain ⟨UU, hUU⟩ : ∃ UU, plantW (L.take k) = UU := ⟨_, rfl⟩
    rw [hTT] at HSTEP HG hG4 HA5
    rw [hUU] at HSTEW hW4 HA5
    clear hTT hUU
    obtain ⟨M, n⟩ := TT
    obtain ⟨U, m⟩ := UU
    simp only at HSTEP HSTEW hG4 hW4
    obtain ⟨A5, c5, hb2, hR5, t0, t1, tf⟩ := HA5.out.tree
    obtain ⟨B5, d5, hb3, -, u0, u1, uf⟩ := HA5.out.ref
    have HB2 := Lib.hid hb2
    have HR5 := Lib.hid hR5
    simp only at t0 t1 u0 u1
    have hltn := HA5.out.lt
    have hlt2 : w.heap.size + 1 + 1 < w5.heap.size := by omega
    clear hb2 hb3 hR5
    by_cases hd : dest.size = 0
    case neg =>
      have hdn : bl dest ≠ [] := fun h => hd (by rw [← bl_size, h]; rfl)
      have hdl : ¬ dest.toList = [] := by rw [ByteArray.toList_eq]; exact hdn
      have hde : dest.toList.isEmpty = false := by simpa using hdl
      have HDN := Lib.hid hd
      clear hdn hd
      by_cases hbz : eb = 0
      case neg =>
        have hbf : (eb == 0) = false := by simp [hbz]
        have HSAME : Hid (plantM more (L.take (k + 1)) = (M, n) ∧ plantW (L.take (k + 1)) = (U, m)) := Lib.hid ⟨by rw [HSTEP.out, if_pos HDN.out, if_neg hbz], by rw [HSTEW.out, if_pos HDN.out, if_neg hbz]⟩
        clear HSTEP HSTEW hbz
        go_wp2_with fail
        go_roundg (L.length - (k + 1))
        case measure => omega
        case rel => exact ⟨k + 1, rfl, by go_num, by omega, Lib.hid (by rw [HSAME.out.1, HSAME.out.2]; exact HA5.out)⟩
      subst hbz
      have hcb := clean_bounds (s := dest) (L := bls Lb) HCB.out
      have HGb : Hid (G (bls Lb)) := hcb.1
      have hjb : (join (bls Lb)).length ≤ 5000 := by have := hcb.2; omega
      have HSAME : Hid (plantM more (L.take (k + 1)) = ((linkV M n (bls La) (bls Lb)).1, (linkV M n (bls La) (bls Lb)).2.1) ∧ plantW (L.take (k + 1)) = ((rlinkV U m (bls La) (bls Lb)).1, (rlinkV U m (bls La) (bls Lb)).2.1)) := Lib.hid ⟨by rw [HSTEP.out, if_pos HDN.out, if_pos rfl], by rw [HSTEW.out, if_pos HDN.out, if_pos rfl]⟩
      have LNK := Lib.hid (fun (w : World) (hE : Env w) (hR : RT w A5 c5 M) => link_any A5 c5 M n (bls La) (bls Lb) w hE hR HG.out.inv.ok HGa.out (by omega) HGb.out hjb (by omega) hG4.2.1 (by omega))
      have RLK := Lib.hid (fun (B : Option Addr) (d : Nat) (w : World) (hR : RH w B d U) => rlink_any B d U m (bls La) (bls Lb) w hR HGa.out (by omega) (by omega) (by omega))
      clear HSTEP HSTEW hcb
      go_wp2_with fail
      refine (LNK.out _ (HE.out.below HA5.out.below) HR5.out).mono ?_
      rintro e w6 ⟨A6, c6, rfl, hR6, hb6⟩
      have HA6 := Lib.hid (HA5.out.next hb6)
      have hx6 : w6.heap[wr.heap.size]? = _ := (hb6.block _ (blk_lt HX5.out)).trans HX5.out
      have HP6 := Lib.hid (HA6.out.putT (t' := ((linkV M n (bls La) (bls Lb)).1, (linkV M n (bls La) (bls Lb)).2.1)) hR6)
      clear hb6 hR6 t0 t1 tf u0 u1 uf x0 x1 x2 x3 HA5 HX5 hx6
      obtain ⟨A7, c7, h72, -, t0, t1, tf⟩ := HA6.out.tree
      obtain ⟨B6, d6, h3, hRH6, u0, u1, uf⟩ := HA6.out.ref
      have HS6 := Lib.hid (set2 h72)
      have HRH := Lib.hid (hRH6.setOther h72 tree_no #[.slice A6 (linkV M n (bls La) (bls Lb)).1.length c6, .int .i64 (linkV M n (bls La) (bls Lb)).2.1])
      simp only at t0 t1 u0 u1
      have hlt63 := HA6.out.lt
      have hlt62 : w.heap.size + 1 + 1 < w6.heap.size := by omega
      clear h72 h3 hRH6
      go_wp2_with fail
      rw [HS6.out]
      refine (RLK.out B6 d6 _ HRH.out).mono ?_
      rintro e w7 ⟨B8, d8, rfl, hR8, hb8⟩
      have HA7 := Lib.hid (HP6.out.next hb8)
      have HP7 := Lib.hid (HA7.out.putW (u' := ((rlinkV U m (bls La) (bls Lb)).1, (rlinkV U m (bls La) (bls Lb)).2.1)) hR8)
      clear hb8 hR8 t0 t1 tf u0 u1 uf
      obtain ⟨B9, d9, h93, -, u0, u1, uf⟩ := HA7.out.ref
      have HS7 := Lib.hid (set2 h93)
      clear h93
      go_wp2_with fail
      rw [HS7.out]
      go_roundg (L.length - (k + 1))
      case measure => omega
      case rel => exact ⟨k + 1, rfl, by go_num, by omega, Lib.hid (by rw [HSAME.out.1, HSAME.out.2]; exact HP7.out)⟩
    have hdl : dest.toList = [] := by
      have h : bl dest = [] := List.eq_nil_of_length_eq_zero (by rw [bl_size]; exact hd)
      rw [ByteArray.toList_eq]; exact h
    have hde : dest.toList.isEmpty = true := by rw [hdl]; rfl
    have HDN : Hid (¬ dest.size ≠ 0) := Lib.hid (fun h => h hd)
    clear hd
    by_cases hk3 : thing = 1 ∨ thing = 3 ∨ thing = 4
    case neg =>
      have h1 : (thing == 1) = false := by simp; omega
      have h3 : (thing == 3) = false := by simp; omega
      have h4 : (thing == 4) = false := by simp; omega
      have HSAME : Hid (plantM more (L.take (k + 1)) = (M, n) ∧ plantW (L.take (k + 1)) = (U, m)) := Lib.hid ⟨by rw [HSTEP.out, if_neg HDN.out, if_neg hk3], by rw [HSTEW.out, if_neg HDN.out, if_neg hk3]⟩
      clear HSTEP HSTEW hk3
      go_wp2_with fail
      go_roundg (L.length - (k + 1))
      case measure => omega
      case rel => exact ⟨k + 1, rfl, by go_num, by omega, Lib.hid (by rw [HSAME.out.1, HSAME.out.2]; exact HA5.out)⟩
    have hSAME := And.intro (HSTEP.out.trans (by rw [if_neg HDN.out, if_pos hk3])) (HSTEW.out.trans (by rw [if_neg HDN.out, if_pos hk3]))
    have hmm : 0 ≤ mark + more ∧ mark + more ≤ 10000 := by omega
    have ADD := Lib.hid (fun (kd sz : Int) (w : World) (hE : Env w) (hR : RT w A5 c5 M) => add_any A5 c5 M n (bls La) kd (mark + more) sz false w hE hR HG.out.inv.ok HGa.out (by omega) (by omega) hG4.2.1 (by omega))
    have RAD := Lib.hid (fun (kd : Int) (B : Option Addr) (d : Nat) (w : World) (hR : RH w B d U) => radd_any B d U m (bls La) kd mark w hR HGa.out (by omega) (by omega) (by omega))
    have HSAME := Lib.hid hSAME
    clear HSTEP HSTEW hSAME
    have hcase : ∃ kd sz : Int, thing = kd ∧ (if thing = 1 then mark else 0) = sz := ⟨_, _, rfl, rfl⟩
    obtain ⟨kd, sz, hkd, hsz⟩ := hcase
    rw [hsz] at HSAME
    have HSZ := Lib.hid hsz
    have HRH5 := Lib.hid HA5.out.ref
    clear hsz hkd kd
    rcases hk3 with rfl | rfl | rfl
    case' inl =>
      have hs2 := HSZ.out
      simp only [if_true] at hs2
      subst hs2
      have AX := Lib.hid (ADD.out 1 mark)
      have RX := Lib.hid (RAD.out 1)
      have HP := Lib.hid (fun (w6 : World) (A6 : Option Addr) (c6 : Nat) (hA6 : PmAt w w6 (M, n) (U, m)) (hR6 : RT w6 A6 c6 (addV M n (bls La) 1 (mark + more) mark false).1) => hA6.putT (t' := ((addV M n (bls La) 1 (mark + more) mark false).1, (addV M n (bls La) 1 (mark + more) mark false).2.1)) hR6)
      have HW := Lib.hid (fun (w7 : World) (B8 : Option Addr) (d8 : Nat) (t : List Rw × Int) (hA7 : PmAt w w7 t (U, m)) (hR8 : RH w7 B8 d8 (raddV U m (bls La) 1 mark).1) => hA7.putW (u' := ((raddV U m (bls La) 1 mark).1, (raddV U m (bls La) 1 mark).2.1)) hR8)
    case' inr.inl =>
      have hs2 := HSZ.out
      simp only [show ¬ (3 : Int) = 1 by decide, if_false] at hs2
      subst hs2
      have AX := Lib.hid (ADD.out 3 0)
      have RX := Lib.hid (RAD.out 3)
      have HP := Lib.hid (fun (w6 : World) (A6 : Option Addr) (c6 : Nat) (hA6 : PmAt w w6 (M, n) (U, m)) (hR6 : RT w6 A6 c6 (addV M n (bls La) 3 (mark + more) 0 false).1) => hA6.putT (t' := ((addV M n (bls La) 3 (mark + more) 0 false).1, (addV M n (bls La) 3 (mark + more) 0 false).2.1)) hR6)
      have HW := Lib.hid (fun (w7 : World) (B8 : Option Addr) (d8 : Nat) (t : List Rw × Int) (hA7 : PmAt w w7 t (U, m)) (hR8 : RH w7 B8 d8 (raddV U m (bls La) 3 mark).1) => hA7.putW (u' := ((raddV U m (bls La) 3 mark).1, (raddV U m (bls La) 3 mark).2.1)) hR8)
    case' inr.inr =>
      have hs2 := HSZ.out
      simp only [show ¬ (4 : Int) = 1 by decide, if_false] at hs2
      subst hs2
      have AX := Lib.hid (ADD.out 4 0)
      have RX := Lib.hid (RAD.out 4)
      have HP := Lib.hid (fun (w6 : World) (A6 : Option Addr) (c6 : Nat) (hA6 : PmAt w w6 (M, n) (U, m)) (hR6 : RT w6 A6 c6 (addV M n (bls La) 4 (mark + more) 0 false).1) => hA6.putT (t' := ((addV M n (bls La) 4 (mark + more) 0 false).1, (addV M n (bls La) 4 (mark + more) 0 false).2.1)) hR6)
      have HW := Lib.hid (fun (w7 : World) (B8 : Option Addr) (d8 : Nat) (t : List Rw × Int) (hA7 : PmAt w w7 t (U, m)) (hR8 : RH w7 B8 d8 (raddV U m (bls La) 4 mark).1) => hA7.putW (u' := ((raddV U m (bls La) 4 mark).1, (raddV U m (bls La) 4 mark).2.1)) hR8)
    all_goals
      clear HSZ ADD RAD HRH5
      go_wp2_with fail
      have HAL := Lib.hid (fun o : Obj => HA5.out.next ((Below.refl w5.heap.size w5).alloc (Nat.le_refl _) o))
      refine (AX.out _ (HE.out.below (HAL.out _).below) (HR5.out.alloc _)).mono ?_
      rintro e w6 ⟨A6, c6, rfl, hR6, hb6⟩
      have HA6 := Lib.hid ((HAL.out _).next hb6)
      have hx6 : w6.heap[wr.heap.size]? = _ := (hb6.block _ (by simp; omega)).trans ((Below.heap_alloc _ _ _ hnx).trans HX5.out)
      have HP6 := Lib.hid (HP.out _ _ _ HA6.out hR6)
      clear hb6 hR6 t0 t1 tf u0 u1 uf x0 x1 x2 x3 HA5 HX5 HAL
      obtain ⟨x0, x1, x2, x3⟩ := oq_cells hx6
      have hnx6 : wr.heap.size < w6.heap.size := blk_lt hx6
      obtain ⟨A7, c7, h72, -, t0, t1, tf⟩ := HA6.out.tree
      obtain ⟨B6, d6, h3, hRH6, u0, u1, uf⟩ := HA6.out.ref
      have HS6 := Lib.hid (set2 h72)
      have HRH := Lib.hid (fun cs => hRH6.setOther h72 tree_no cs)
      simp only at t0 t1 u0 u1
      have hlt63 := HA6.out.lt
      have hlt62 : w.heap.size + 1 + 1 < w6.heap.size := by omega
      clear h72 h3 hRH6 hx6
      go_wp2_with fail
      rw [HS6.out]
      refine (RX.out B6 d6 _ (HRH.out _)).mono ?_
      rintro e w7 ⟨B8, d8, rfl, hR8, hb8⟩
      have HA7 := Lib.hid (HP6.out.next hb8)
      have HP7 := Lib.hid (HW.out _ _ _ _ HA7.out hR8)
      clear hb8 hR8 t0 t1 tf u0 u1 uf x0 x1 x2 x3
      obtain ⟨B9, d9, h93, -, u0, u1, uf⟩ := HA7.out.ref
      have HS7 := Lib.hid (set2 h93)
      clear h93
      go_wp2_with fail
      rw [HS7.out]
      go_roundg (L.length - (k + 1))
      case measure => omega
      case rel => exact ⟨k + 1, rfl, by go_num, by omega, Lib.hid (by rw [HSAME.out.1, HSAME.out.2]; exact HP7.out)⟩

end Go.Proofs.YtcniahbliadgiaaDoor

/-
  pannierlaw14.planted: the walk.
-/
import Derived.Test.YtcniahbliadgiaaDoorMeas
import Derived.Deep.DeepCutAuto
import Derived.Deep.LoopGhost
import Derived.Deep.RegionWith
import Derived.Deep.DrawnRows
namespace Go.Proofs.YtcniahbliadgiaaDoor
open Go.RowKit
open Go.Proofs.PnKit Go.Proofs.PnPath

/-- the slice '.slice A n c' reads as these things -/
structure Rg (w : World) (A : Option Addr) (c : Nat) (L : List Tg) : Prop where
  cap : L.length ≤ c
  nil0 : A = none → c = 0
  cell : ∀ (j : Nat) (x : Tg), L[j]? = some x → ∃ b o, A = some ⟨b, o, none⟩ ∧ b < w.heap.size ∧ w.cell? ⟨b, o + j * 4, none⟩ = some (.string x.path) ∧ w.cell? ⟨b, o + j * 4 + 1, none⟩ = some (.string x.dest) ∧ w.cell? ⟨b, o + j * 4 + 2, none⟩ = some (.int .i64 x.kind) ∧ w.cell? ⟨b, o + j * 4 + 3, none⟩ = some (.int .i64 x.size)
theorem Rg.below {w w' : World} {A : Option Addr} {c : Nat} {L : List Tg} (h : Rg w A c L) (hb : Below w.heap.size w w') : Rg w' A c L :=
  ⟨h.cap, h.nil0, fun j x hx => by
    obtain ⟨b, o, e, hlt, h0, h1, h2, h3⟩ := h.cell j x hx
    have := hb.size
    exact ⟨b, o, e, by omega, (hb.cell (p := ⟨b, _, none⟩) hlt).trans h0, (hb.cell (p := ⟨b, _, none⟩) hlt).trans h1, (hb.cell (p := ⟨b, _, none⟩) hlt).trans h2, (hb.cell (p := ⟨b, _, none⟩) hlt).trans h3⟩⟩
abbrev tgC (x : Tg) : List Value := [.string x.path, .string x.dest, .int .i64 x.kind, .int .i64 x.size]

theorem blk_lt {w : World} {g : Nat} {o : Obj} (h : w.heap[g]? = some o) : g < w.heap.size := (Array.getElem?_eq_some_iff.1 h).1
/-- where the loop stands: the tree lies in a block of the call's own -/
structure PlAt (w wr : World) (t : List Rw × Int) : Prop where
  b0 : wr.heap[w.heap.size]? = some (.cells [.slice none 0 0, .int .i64 0].toArray 35 (0, 0))
  b1 : ∃ A c, wr.heap[w.heap.size + 1]? = some (.cells [.slice A t.1.length c, .int .i64 t.2].toArray 35 (0, 0)) ∧ RT wr A c t.1
  below : Below w.heap.size w wr
theorem PlAt.next {w wr w' : World} {t : List Rw × Int} (h : PlAt w wr t) (hb : Below wr.heap.size wr w') : PlAt w w' t := by
  obtain ⟨A, c, h1, h2⟩ := h.b1
  exact ⟨(hb.block _ (Array.getElem?_eq_some_iff.1 h.b0).1).trans h.b0, ⟨A, c, (hb.block _ (Array.getElem?_eq_some_iff.1 h1).1).trans h1, h2.below hb⟩, h.below.trans (hb.mono h.below.size)⟩
theorem tg_cells {w : World} {g : Nat} {t : TypeId} {path dest : ByteArray} {kind size : Int} (h : w.heap[g]? = some (.cells (tgC ⟨path, dest, kind, size⟩).toArray t (0, 0))) :
    w.cell? ⟨g, 0, none⟩ = some (.string path) ∧ w.cell? ⟨g, 1, none⟩ = some (.string dest) ∧ w.cell? ⟨g, 2, none⟩ = some (.int .i64 kind) ∧ w.cell? ⟨g, 3, none⟩ = some (.int .i64 size) :=
  ⟨blk_cell h (j := 0) rfl, blk_cell h (j := 1) rfl, blk_cell h (j := 2) rfl, blk_cell h (j := 3) rfl⟩
theorem PlAt.tree {w wr : World} {t : List Rw × Int} (h : PlAt w wr t) : ∃ A c, wr.heap[w.heap.size + 1]? = some (.cells [.slice A t.1.length c, .int .i64 t.2].toArray 35 (0, 0)) ∧ RT wr A c t.1 ∧
    wr.cell? ⟨w.heap.size + 1, 0, none⟩ = some (.slice A t.1.length c) ∧ wr.cell? ⟨w.heap.size + 1, 1, none⟩ = some (.int .i64 t.2) ∧ ∀ j, wr.frozen? ⟨w.heap.size + 1, j, none⟩ = false := by
  obtain ⟨A, c, h1, h2⟩ := h.b1
  exact ⟨A, c, h1, h2, blk_cell h1 (j := 0) rfl, blk_cell h1 (j := 1) rfl, blk_frozen h1⟩
theorem PlAt.lt {w wr : World} {t : List Rw × Int} (h : PlAt w wr t) : w.heap.size + 1 < wr.heap.size := by
  obtain ⟨A, c, h1, _⟩ := h.b1
  exact blk_lt h1
/-- the tree is another one -/
theorem PlAt.put {w wr : World} {t t' : List Rw × Int} (h : PlAt w wr t) {A : Option Addr} {c : Nat} (hR : RT wr A c t'.1) : PlAt w (wr.setRow (w.heap.size + 1) #[.slice A t'.1.length c, .int .i64 t'.2]) t' := by
  obtain ⟨A0, c0, h1, _⟩ := h.b1
  refine ⟨?_, ⟨A, c, setRow_heap _ _ _ _ _ _ h1, hR.setOther h1 tree_no _⟩, below_setRow h.below (Nat.le_add_right _ _) _⟩
  rw [heap_setRow_ne _ _ _ _ (by omega)]; exact h.b0
theorem Rg.at {w : World} {A : Option Addr} {c : Nat} {L : List Tg} (h : Rg w A c L) {j : Nat} {x : Tg} (hx : L[j]? = some x) : ∃ b o, A = some ⟨b, o, none⟩ := by
  obtain ⟨b, o, e, _⟩ := h.cell j x hx
  exact ⟨b, o, e⟩
theorem Rg.four {w : World} {b o c : Nat} {L : List Tg} (h : Rg w (some ⟨b, o, none⟩) c L) {j : Nat} {x : Tg} (hx : L[j]? = some x) :
    w.cell? ⟨b, o + j * 4, none⟩ = some (.string x.path) ∧ w.cell? ⟨b, o + j * 4 + 1, none⟩ = some (.string x.dest) ∧ w.cell? ⟨b, o + j * 4 + 2, none⟩ = some (.int .i64 x.kind) ∧ w.cell? ⟨b, o + j * 4 + 3, none⟩ = some (.int .i64 x.size) := by
  obtain ⟨b', o', e, _, h1⟩ := h.cell j x hx
  simp only [Option.some.injEq, Addr.mk.injEq, and_true] at e
  obtain ⟨rfl, rfl⟩ := e
  exact h1
theorem plantV_take {L : List Tg} {k : Nat} {x : Tg} (h : L[k]? = some x) : plantV (L.take (k + 1)) = stepT (plantV (L.take k)) x := by
  obtain ⟨hlt, rfl⟩ := List.getElem?_eq_some_iff.1 h
  rw [List.take_succ_eq_append_getElem hlt, plantV_snoc]

attribute [local go_sem ↓] Go.wp_at_zero Go.wp_at_succ

set_option maxRecDepth 100000 in
set_option maxHeartbeats 2000000 in
theorem planted_any (A : Option Addr) (c : Nat) (L : List Tg) (w : World) (hE : Env w) (hR : Rg w A c L) (hl : L.length ≤ 100) :
    Calls Tryd.prog 18 #[.slice A (List.length L) c] w fun e w' =>
      ∃ A' c', e = .returned (.agg #[.slice A' (plantV L).1.length c', .int .i64 (plantV L).2]) ∧ RT w' A' c' (plantV L).1 ∧ Below w.heap.size w w' := by
  have HR := Lib.hid hR
  have HE := Lib.hid hE
  clear hR hE
  go_enter Tryd.func18, Tryd.ntmps18
  go_wp2_with fail
  go_loopg [12] L.length (fun g i wr => ∃ k : Nat, g = L.length - k ∧ i = .int .i64 k ∧ k ≤ L.length ∧ Hid (PlAt w wr (plantV (L.take k))))
  case atStart =>
    refine ⟨0, rfl, rfl, Nat.zero_le _, Lib.hid ⟨?_, ⟨none, 0, ?_, RT.nil _⟩, ?_⟩⟩
    · exact heap_alloc2_old w _ _
    · exact heap_alloc2_new w _ _
    · exact ((Below.refl w.heap.size w).alloc (Nat.le_refl _) _).alloc (by simp) _
  case round =>
    obtain ⟨k, rfl, rfl, hk, HA⟩ := hrel
    obtain ⟨A1, c1, hb1, hR1⟩ := HA.out.b1
    have hb0 := HA.out.b0
    have y0 := blk_cell hb0 (j := 0) rfl
    have y1 := blk_cell hb0 (j := 1) rfl
    have yf := blk_frozen hb0
    have t0 := blk_cell hb1 (j := 0) rfl
    have t1 := blk_cell hb1 (j := 1) rfl
    have tf := blk_frozen hb1
    have HB0 := Lib.hid hb0
    have HB1 := Lib.hid hb1
    have HR1 := Lib.hid hR1
    have hn1 : w.heap.size + 1 < wr.heap.size := blk_lt hb1
    clear hb0 hb1 hR1
    by_cases hlt : k < L.length
    case neg =>
      have hL : L.take k = L := List.take_of_length_le (by omega)
      rw [hL] at HB1 HR1 t0 t1
      have HBW := Lib.hid HA.out.below
      clear hL
      go_wp2_with fail
      rw [set2 HB0.out]
      refine bodyPost_ret (results_cell_row rfl _ _ w.heap.size _ #[.slice A1 (plantV L).1.length c1, .int .i64 (plantV L).2] _ _ rfl (setRow_heap _ _ _ _ _ _ HB0.out) Tryd.underlying35 rfl (by kernel_rfl)) rfl ?_
      exact ⟨A1, c1, rfl, HR1.out.setOther HB0.out tree_no _, below_setRow HBW.out (Nat.le_refl _) _⟩
    have hx : L[k]? = some L[k] := List.getElem?_eq_getElem hlt
    generalize L[k] = x at hx
    have HST := Lib.hid (plantV_take hx)
    have HG := Lib.hid (plantV_grown (L.take k))
    obtain ⟨b, o, rfl⟩ := HR.out.at hx
    obtain ⟨q0, q1, q2, q3⟩ := (HR.out.below HA.out.below).four hx
    obtain ⟨path, dest, kind, size⟩ := x
    simp only at q0 q1 q2 q3
    clear hx
    go_wp2_with fail
    clear q0 q1 q2 q3 t0 t1 tf y0 y1 yf
    generalize hw1 : wr.alloc (.cells #[.string path, .string dest, .int .i64 kind, .int .i64 size] 49) = w1
    have hx1 : w1.heap[wr.heap.size]? = some (.cells (tgC ⟨path, dest, kind, size⟩).toArray 49 (0, 0)) := by rw [← hw1]; exact heap_alloc_new wr _
    have hbl : Below wr.heap.size wr w1 := by rw [← hw1]; exact (Below.refl _ _).alloc (Nat.le_refl _) _
    clear hw1
    have HA1 := Lib.hid (HA.out.next hbl)
    clear HB0 HB1 HR1 hbl
    refine (clean_any path _ (HE.out.below HA1.out.below)).mono ?_
    rintro e w2 ⟨Aa, ca, La, ea, rfl, hRa, hca, hb2⟩
    have HA2 := Lib.hid (HA1.out.next hb2)
    have hx2 : w2.heap[wr.heap.size]? = _ := (hb2.block _ (blk_lt hx1)).trans hx1
    obtain ⟨x0, x1, x2, x3⟩ := tg_cells hx2
    have HX2 := Lib.hid hx2
    have HCA := Lib.hid hca
    have HRA := Lib.hid hRa
    clear hb2 hx1 hx2 hca hRa HA1 HA
    go_wp2_with fail
    refine (clean_any dest _ (HE.out.below HA2.out.below)).mono ?_
    rintro e w3 ⟨Ab, cb, Lb, eb, rfl, hRb, hcb, hb3⟩
    have HA3 := Lib.hid (HA2.out.next hb3)
    have HRA3 := Lib.hid (HRA.out.below hb3)
    have hx3 : w3.heap[wr.heap.size]? = _ := (hb3.block _ (blk_lt HX2.out)).trans HX2.out
    have HX3 := Lib.hid hx3
    have HCB := Lib.hid hcb
    have HRB := Lib.hid hRb
    clear x0 x1 x2 x3 hb3 hcb hRb HX2 HA2 HRA
    obtain ⟨x0, x1, x2, x3⟩ := tg_cells hx3
    clear hx3
    by_cases hbad : ea ≠ 0 ∨ size < 0 ∨ size > 1048576 ∨ path.size > 300
    · have HSAME : Hid (plantV (L.take (k + 1)) = plantV (L.take k)) := by
        refine Lib.hid ?_
        rw [HST.out, stepT, if_pos (by rw [HCA.out]; exact hbad)]
      have hb4 : (ea != 0) = true ∨ (ea = 0 ∧ size < 0) ∨ (ea = 0 ∧ 0 ≤ size ∧ 1048576 < size) ∨ (ea = 0 ∧ 0 ≤ size ∧ size ≤ 1048576 ∧ 300 < (path.size : Int)) := by
        by_cases h : ea = 0
        · right; omega
        · left; simp [h]
      clear hbad
      rcases hb4 with h | ⟨rfl, h⟩ | ⟨rfl, h, h2⟩ | ⟨rfl, h, h2, h3⟩
      all_goals
        go_wp2_with fail
        go_roundg (L.length - (k + 1))
        case measure => omega
        case rel => exact ⟨k + 1, rfl, by go_num, by omega, Lib.hid (HSAME.out ▸ HA3.out)⟩
    obtain ⟨he0, hs0, hs1, hp0⟩ : ea = 0 ∧ 0 ≤ size ∧ size ≤ 1048576 ∧ path.size ≤ 300 := by omega
    subst he0
    have HNB := Lib.hid hbad
    clear hbad
    have hcb := clean_bounds (s := path) (L := bls La) HCA.out
    have HGa : Hid (G (bls La)) := hcb.1
    have hjl : (join (bls La)).length ≤ 300 := by have := hcb.2; omega
    have hta : tot (bls La) ≤ 100000000 := by have := clean_size HCA.out; omega
    have hlenP : (bls La).length ≤ 150 := G_len HGa.out (by omega)
    clear hcb
    have hG4 : (plantV (L.take k)).1.length ≤ 15100 ∧ 0 ≤ (plantV (L.take k)).2 ∧ (plantV (L.take k)).2 ≤ 15100 := by
      have h1 := HG.out.len
      have h2 := HG.out.next
      have h3 := HG.out.nat
      rw [List.length_take] at h1 h2
      omega
    obtain ⟨A3, c3, hb3, hR3, t0, t1, tf⟩ := HA3.out.tree
    have HB3 := Lib.hid hb3
    have HR3 := Lib.hid hR3
    clear hb3 hR3
    have HSTEP : Hid (plantV (L.take (k + 1)) = if dest.size ≠ 0 then
        if eb = 0 then ((linkV (plantV (L.take k)).1 (plantV (L.take k)).2 (bls La) (bls Lb)).1, (linkV (plantV (L.take k)).1 (plantV (L.take k)).2 (bls La) (bls Lb)).2.1) else plantV (L.take k)
      else if kind = 1 then ((addV (plantV (L.take k)).1 (plantV (L.take k)).2 (bls La) 1 0 size false).1, (addV (plantV (L.take k)).1 (plantV (L.take k)).2 (bls La) 1 0 size false).2.1)
      else if kind = 3 ∨ kind = 4 then ((addV (plantV (L.take k)).1 (plantV (L.take k)).2 (bls La) kind 0 0 false).1, (addV (plantV (L.take k)).1 (plantV (L.take k)).2 (bls La) kind 0 0 false).2.1)
      else plantV (L.take k)) := by
      refine Lib.hid ?_
      rw [HST.out, stepT, HCA.out, HCB.out, if_neg HNB.out]
    have ADD := Lib.hid (fun (kd sz : Int) (w : World) (hE : Env w) (hR : RT w A3 c3 (plantV (L.take k)).1) => add_any A3 c3 (plantV (L.take k)).1 (plantV (L.take k)).2 (bls La) kd 0 sz false w hE hR HG.out.inv.ok HGa.out (by omega) (by omega) hG4.2.1 (by omega))
    have LNK := Lib.hid (fun (hGb : G (bls Lb)) (hb : (join (bls Lb)).length ≤ 5000) (w : World) (hE : Env w) (hR : RT w A3 c3 (plantV (L.take k)).1) => link_any A3 c3 (plantV (L.take k)).1 (plantV (L.take k)).2 (bls La) (bls Lb) w hE hR HG.out.inv.ok HGa.out (by omega) hGb hb (by omega) hG4.2.1 (by omega))
    have HAd := Lib.hid (HA3.out.next (Below.refl _ _).drew)
    have HRAd := Lib.hid HRA3.out.drew
    have HRBd := Lib.hid HRB.out.drew
    have HR3d := Lib.hid (HR3.out.below (Below.refl _ _).drew)
    have hlt3 : w.heap.size + 1 < w3.drew.heap.size := HA3.out.lt
    have hltx : wr.heap.size < w3.drew.heap.size := blk_lt HX3.out
    have JOA := Lib.hid (fun (w : World) (hR : Rd w Aa ca La) => join_any Aa ca La w hR hta)
    have HTG := Lib.hid HG
    clear HST HCA HNB HG
    generalize plantV (L.take k) = T at *
    obtain ⟨M, n⟩ := T
    simp only at *
    by_cases hd : dest.size = 0
    case neg =>
      have hdn : bl dest ≠ [] := fun h => hd (by rw [← bl_size, h]; rfl)
      have hdl : ¬ dest.toList = [] := by rw [ByteArray.toList_eq]; exact hdn
      have hde : dest.toList.isEmpty = false := by simpa using hdl
      have HDN := Lib.hid hd
      clear hdn hd
      by_cases hbz : eb = 0
      case neg =>
        have hbf : (eb == 0) = false := by simp [hbz]
        have HSAME : Hid (plantV (L.take (k + 1)) = (M, n)) := Lib.hid (by rw [HSTEP.out, if_pos HDN.out, if_neg hbz])
        clear HSTEP hbz
        go_wp2_with fail
        go_roundg (L.length - (k + 1))
        case measure => omega
        case rel => exact ⟨k + 1, rfl, by go_num, by omega, Lib.hid (HSAME.out ▸ HA3.out)⟩
      case pos =>
        subst hbz
        have HSAME := Lib.hid (HSTEP.out.trans (by rw [if_pos HDN.out, if_pos rfl]))
        clear HSTEP
        have hcb := clean_bounds (s := dest) (L := bls Lb) HCB.out
        have HGb : Hid (G (bls Lb)) := hcb.1
        have hjb : (join (bls Lb)).length ≤ 5000 := by have := hcb.2; omega
        have htb : tot (bls Lb) ≤ 100000000 := by have := clean_size HCB.out; omega
        clear hcb
        go_wp2_with fail
        go_region_with (first | (go_at_call 23; refine (JOA.out _ HRAd.out).mono ?_; rintro e w4 ⟨ra, rfl, hra, hb4⟩; obtain rfl := path_eq hra; have HA4 := Lib.hid (HAd.out.next hb4); have HR4 := Lib.hid (HR3d.out.below hb4); have HRB4 := Lib.hid (HRBd.out.below hb4); have k4 := (hb4.block (w.heap.size + 1) hlt3).trans HB3.out; have x4 := (hb4.block wr.heap.size hltx).trans HX3.out; have t0 := blk_cell k4 (j := 0) rfl; have t1 := blk_cell k4 (j := 1) rfl; obtain ⟨x0, x1, x2, x3⟩ := tg_cells x4; have K4 := Lib.hid k4; clear k4 x4 hra hb4) | (go_at_call 23; refine (join_any Ab cb Lb _ HRB4.out htb).mono ?_; rintro e w5 ⟨rb, rfl, hrb, hb5⟩; obtain rfl := path_eq hrb; have HA5 := Lib.hid (HA4.out.next hb5); have HR5 := Lib.hid (HR4.out.below hb5); have k5 := (hb5.block (w.heap.size + 1) HA4.out.lt).trans K4.out; have t0 := blk_cell k5 (j := 0) rfl; have t1 := blk_cell k5 (j := 1) rfl; clear k5 hrb hb5) | (go_at_call 25; refine (LNK.out HGb.out hjb _ (HE.out.below HA5.out.below) HR5.out).mono ?_; rintro e w6 ⟨A6, c6, rfl, hR6, hb6⟩; have HA6 := Lib.hid (HA5.out.next hb6); obtain ⟨A0, c0, h6, -, t0, t1, tf⟩ := HA6.out.tree; have HS6 := Lib.hid (set2 h6); have HP6 := Lib.hid (HA6.out.put (t' := ((linkV M n (bls La) (bls Lb)).1, (linkV M n (bls La) (bls Lb)).2.1)) hR6); clear hb6 h6 hR6))
        all_goals
          go_wp2_with fail
          rw [HS6.out]
          go_roundg (L.length - (k + 1))
          case measure => omega
          case rel => exact ⟨k + 1, rfl, by go_num, by omega, Lib.hid (HSAME.out ▸ HP6.out)⟩
    case pos =>
      have hdl : dest.toList = [] := by
        have h : bl dest = [] := List.eq_nil_of_length_eq_zero (by rw [bl_size]; exact hd)
        rw [ByteArray.toList_eq]; exact h
      have hde : dest.toList.isEmpty = true := by rw [hdl]; rfl
      have HDN : Hid (¬ dest.size ≠ 0) := Lib.hid (fun h => h hd)
      have HDL := Lib.hid hdl
      clear hd
      by_cases hk1 : kind = 1
      case pos =>
        subst hk1
        have HSAME := Lib.hid (HSTEP.out.trans (by rw [if_neg HDN.out, if_pos rfl]))
        clear HSTEP
        go_wp2_with fail
        go_region_with (first | (go_at_call 23; refine (JOA.out _ HRAd.out).mono ?_; rintro e w4 ⟨ra, rfl, hra, hb4⟩; obtain rfl := path_eq hra; have HA4 := Lib.hid (HAd.out.next hb4); have HR4 := Lib.hid (HR3d.out.below hb4); have HRB4 := Lib.hid (HRBd.out.below hb4); have k4 := (hb4.block (w.heap.size + 1) hlt3).trans HB3.out; have x4 := (hb4.block wr.heap.size hltx).trans HX3.out; have t0 := blk_cell k4 (j := 0) rfl; have t1 := blk_cell k4 (j := 1) rfl; obtain ⟨x0, x1, x2, x3⟩ := tg_cells x4; have K4 := Lib.hid k4; clear k4 x4 hra hb4) | (go_at_call 37; refine (ADD.out 1 size _ (HE.out.below HA4.out.below) HR4.out).mono ?_; rintro e w5 ⟨A5, c5, rfl, hR5, hb5⟩; have HA5 := Lib.hid (HA4.out.next hb5); obtain ⟨A0, c0, h5, -, t0, t1, tf⟩ := HA5.out.tree; have HS5 := Lib.hid (set2 h5); have HP5 := Lib.hid (HA5.out.put (t' := ((addV M n (bls La) 1 0 size false).1, (addV M n (bls La) 1 0 size false).2.1)) hR5); clear hb5 h5 hR5))
        all_goals
          go_wp2_with fail
          rw [HS5.out]
          go_roundg (L.length - (k + 1))
          case measure => omega
          case rel => exact ⟨k + 1, rfl, by go_num, by omega, Lib.hid (HSAME.out ▸ HP5.out)⟩
      by_cases hk3 : kind = 3 ∨ kind = 4
      case neg =>
        have h1 : (kind == 1) = false := by simp [hk1]
        have h3 : (kind == 3) = false := by simp; omega
        have h4 : (kind == 4) = false := by simp; omega
        have h3n : ¬ kind = 3 := by omega
        have HSAME : Hid (plantV (L.take (k + 1)) = (M, n)) := Lib.hid (by rw [HSTEP.out, if_neg HDN.out, if_neg hk1, if_neg hk3])
        clear HSTEP hk1 hk3
        go_wp2_with fail
        go_roundg (L.length - (k + 1))
        case measure => omega
        case rel => exact ⟨k + 1, rfl, by go_num, by omega, Lib.hid (HSAME.out ▸ HA3.out)⟩
      case pos =>
        have HSAME := Lib.hid (HSTEP.out.trans (by rw [if_neg HDN.out, if_neg hk1, if_pos hk3]))
        clear HSTEP hk1
        rcases hk3 with rfl | rfl
        ·
          go_wp2_with fail
          go_region_with (first | (go_at_call 23; refine (JOA.out _ HRAd.out).mono ?_; rintro e w4 ⟨ra, rfl, hra, hb4⟩; obtain rfl := path_eq hra; have HA4 := Lib.hid (HAd.out.next hb4); have HR4 := Lib.hid (HR3d.out.below hb4); have HRB4 := Lib.hid (HRBd.out.below hb4); have k4 := (hb4.block (w.heap.size + 1) hlt3).trans HB3.out; have x4 := (hb4.block wr.heap.size hltx).trans HX3.out; have t0 := blk_cell k4 (j := 0) rfl; have t1 := blk_cell k4 (j := 1) rfl; obtain ⟨x0, x1, x2, x3⟩ := tg_cells x4; have K4 := Lib.hid k4; clear k4 x4 hra hb4) | (go_at_call 37; refine (ADD.out 3 0 _ (HE.out.below HA4.out.below) HR4.out).mono ?_; rintro e w5 ⟨A5, c5, rfl, hR5, hb5⟩; have HA5 := Lib.hid (HA4.out.next hb5); obtain ⟨A0, c0, h5, -, t0, t1, tf⟩ := HA5.out.tree; have HS5 := Lib.hid (set2 h5); have HP5 := Lib.hid (HA5.out.put (t' := ((addV M n (bls La) 3 0 0 false).1, (addV M n (bls La) 3 0 0 false).2.1)) hR5); clear hb5 h5 hR5))
          all_goals
            go_wp2_with fail
            rw [HS5.out]
            go_roundg (L.length - (k + 1))
            case measure => omega
            case rel => exact ⟨k + 1, rfl, by go_num, by omega, Lib.hid (HSAME.out ▸ HP5.out)⟩
        ·
          go_wp2_with fail
          go_region_with (first | (go_at_call 23; refine (JOA.out _ HRAd.out).mono ?_; rintro e w4 ⟨ra, rfl, hra, hb4⟩; obtain rfl := path_eq hra; have HA4 := Lib.hid (HAd.out.next hb4); have HR4 := Lib.hid (HR3d.out.below hb4); have HRB4 := Lib.hid (HRBd.out.below hb4); have k4 := (hb4.block (w.heap.size + 1) hlt3).trans HB3.out; have x4 := (hb4.block wr.heap.size hltx).trans HX3.out; have t0 := blk_cell k4 (j := 0) rfl; have t1 := blk_cell k4 (j := 1) rfl; obtain ⟨x0, x1, x2, x3⟩ := tg_cells x4; have K4 := Lib.hid k4; clear k4 x4 hra hb4) | (go_at_call 37; refine (ADD.out 4 0 _ (HE.out.below HA4.out.below) HR4.out).mono ?_; rintro e w5 ⟨A5, c5, rfl, hR5, hb5⟩; have HA5 := Lib.hid (HA4.out.next hb5); obtain ⟨A0, c0, h5, -, t0, t1, tf⟩ := HA5.out.tree; have HS5 := Lib.hid (set2 h5); have HP5 := Lib.hid (HA5.out.put (t' := ((addV M n (bls La) 4 0 0 false).1, (addV M n (bls La) 4 0 0 false).2.1)) hR5); clear hb5 h5 hR5))
          all_goals
            go_wp2_with fail
            rw [HS5.out]
            go_roundg (L.length - (k + 1))
            case measure => omega
            case rel => exact ⟨k + 1, rfl, by go_num, by omega, Lib.hid (HSAME.out ▸ HP5.out)⟩

end Go.Proofs.YtcniahbliadgiaaDoor

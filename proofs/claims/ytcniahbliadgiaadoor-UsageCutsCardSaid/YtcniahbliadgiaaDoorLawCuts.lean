/-
  pannierlaw14.UsageCuts: the walk.
-/
import Derived.Test.YtcniahbliadgiaaDoorPlant
import Derived.Test.YtcniahbliadgiaaDoorCut
import Derived.Test.YtcniahbliadgiaaDoorUseB
import Derived.Deep.RegionHeld3
import Derived.Deep.DrawnRows
namespace Go.Proofs.YtcniahbliadgiaaDoor
open Go.RowKit
open Go.Proofs.PnKit Go.Proofs.PnPath

theorem below_alloc {a w : World} (h : Below a.heap.size a w) (o : Obj) : Below a.heap.size a (w.alloc o) := h.alloc h.size o
theorem cell_alloc {w : World} {a : Addr} {v : Value} (h : w.cell? a = some v) (o : Obj) : (w.alloc o).cell? a = some v := (World.cell?_of_block (w := w) (Below.heap_alloc w o a.block (World.block_lt_of_cell? w a h))).trans h
theorem cell_other {w : World} {a b : Addr} {v : Value} (h : a ≠ b) : (w.setCell a v).cell? b = w.cell? b := by rw [World.cell?_setCell_other]; exact h
theorem usF_bound {S : Int} : ∀ (L : List Rw) (seen : List Int) (u : Us), (∀ r ∈ L, 0 ≤ r.size ∧ r.size ≤ S) → 0 ≤ S → u.bytes ≤ (usF seen u L).bytes ∧ (usF seen u L).bytes ≤ u.bytes + S * L.length
  | [], seen, u, _, _ => by simp [usF]
  | r :: L, seen, u, h, hS => by
    have ih := usF_bound L (r.id :: seen) (usOne seen u r) (fun x hx => h x (by simp [hx])) hS
    have hr := h r (by simp)
    have h1 : u.bytes ≤ (usOne seen u r).bytes ∧ (usOne seen u r).bytes ≤ u.bytes + S := by
      unfold usOne; simp only
      split
      · omega
      · split <;> omega
    have h2 : S * ((r :: L).length : Int) = S * (L.length : Int) + S := by rw [List.length_cons]; push_cast; rw [Int.mul_add, Int.mul_one]
    rw [usF, h2]
    omega
theorem usF_ibound : ∀ (L : List Rw) (seen : List Int) (u : Us), u.inodes ≤ (usF seen u L).inodes ∧ (usF seen u L).inodes ≤ u.inodes + L.length
  | [], seen, u => by simp [usF]
  | r :: L, seen, u => by
    have ih := usF_ibound L (r.id :: seen) (usOne seen u r)
    have h1 : u.inodes ≤ (usOne seen u r).inodes ∧ (usOne seen u r).inodes ≤ u.inodes + 1 := by
      unfold usOne; simp only
      split <;> omega
    rw [usF, List.length_cons]; push_cast
    omega

attribute [local go_sem ↓] Go.wp_at_zero Go.wp_at_succ

set_option maxRecDepth 100000 in
set_option maxHeartbeats 16000000 in
theorem cuts_walk (A : Option Addr) (c : Nat) (L : List Tg) (s : ByteArray) (x : Tg) (w : World) (hE : Env w) (hR : Rg w A c L) :
    Calls Tryd.prog 12 #[.slice A (List.length L) c, .string s, .agg #[.string x.path, .string x.dest, .int .i64 x.kind, .int .i64 x.size]] w fun e w' => e = .returned (.bool true) ∧ Below w.heap.size w w' := by
  have HR := Lib.hid hR
  have HE := Lib.hid hE
  clear hR hE
  go_enter Tryd.func12, Tryd.ntmps12
  go_wp2_with fail
  have hB0 := (Below.refl w.heap.size w).alloc (Nat.le_refl _) (.cells (tgC x).toArray 49)
  refine (measures_any _ (HE.out.below hB0)).mono ?_
  rintro e w1 ⟨rfl, hb1⟩
  have HB1 := Lib.hid (bch hB0 hb1)
  clear hB0
  clear hb1
  go_wp2_with fail
  refine (clean_any s _ (HE.out.below HB1.out)).mono ?_
  rintro e w2 ⟨Al, cl, Ll, code, rfl, hRl, hcl, hb2⟩
  have HB2 := Lib.hid (bch HB1.out hb2)
  have HRL := Lib.hid hRl
  have HCL := Lib.hid hcl
  clear hb2 hRl hcl
  by_cases hgo : L.length ≤ 40 ∧ code = 0 ∧ s.size ≤ 300
  case neg =>
    have hg2 : 40 < L.length ∨ (L.length ≤ 40 ∧ (code != 0) = true) ∨ (L.length ≤ 40 ∧ code = 0 ∧ 300 < (s.size : Int)) := by
      by_cases h : code = 0
      · omega
      · have : (code != 0) = true := by simp [h]
        rcases Nat.lt_or_ge 40 L.length with h1 | h1
        · exact Or.inl h1
        · exact Or.inr (Or.inl ⟨h1, this⟩)
    have HGO := Lib.hid hgo
    clear hgo
    rcases hg2 with h | ⟨h, h2⟩ | ⟨h, rfl, h3⟩
    all_goals
      go_wp2_with fail
      go_ret
      exact ⟨rfl, HB2.out⟩
  obtain ⟨hlen, rfl, hs⟩ := hgo
  have hcb := clean_bounds HCL.out
  have HGP : Hid (G (bls Ll)) := Lib.hid hcb.1
  have hjl : (join (bls Ll)).length ≤ 300 := by have := hcb.2; omega
  have hta : tot (bls Ll) ≤ 100000000 := by have := clean_size HCL.out; omega
  have hlenP : (bls Ll).length ≤ 150 := G_len HGP.out (by omega)
  have HG := Lib.hid (plantV_grown L)
  have hg1 : (plantV L).1.length ≤ 6100 := by have := HG.out.len; omega
  have hg2 : 0 ≤ (plantV L).2 ∧ (plantV L).2 ≤ 6100 := by have := HG.out.next; have := HG.out.nat; omega
  have PL := Lib.hid (fun (w : World) (hE : Env w) (hR : Rg w A c L) => planted_any A c L w hE hR (by omega))
  rcases hM : plantV L with ⟨M, n⟩
  rw [hM] at HG hg1 hg2 PL
  simp only at hg1 hg2
  have OF := Lib.hid (fun (A : Option Addr) (c : Nat) (w : World) (hE : Env w) (hR : RT w A c M) => of_any A c M n w hE hR HG.out.inv.ok (by omega) (fun r hr => by have := HG.out.inv.ids r hr; simp only at this; omega) (fun r hr => by have := HG.out.inv.size r hr; omega))
  have hub := usF_bound (S := 1048576) M [] ⟨0, 0, 0, 0⟩ HG.out.inv.size (by decide)
  have hib := usF_ibound M [] ⟨0, 0, 0, 0⟩
  rcases hU : us M with ⟨ub, ui, ud, ul⟩
  rw [hU] at OF
  have hub2 : 0 ≤ ub ∧ ub ≤ 100000000000 := by
    rw [show usF [] ⟨0, 0, 0, 0⟩ M = ⟨ub, ui, ud, ul⟩ from hU] at hub
    simp only at hub
    omega
  have hui : 0 ≤ ui ∧ ui ≤ 6100 := by
    rw [show usF [] ⟨0, 0, 0, 0⟩ M = ⟨ub, ui, ud, ul⟩ from hU] at hib
    simp only at hib
    omega
  have HU := Lib.hid hU
  clear hM hcb hub hU hib
  go_wp2_with fail
  refine (PL.out _ (HE.out.below HB2.out) (HR.out.below HB2.out)).mono ?_
  rintro e w3 ⟨A3, c3, rfl, hR3, hb3⟩
  have HB3 := Lib.hid (bch HB2.out hb3)
  have HR3 := Lib.hid hR3
  have HRL3 := Lib.hid (HRL.out.below hb3)
  clear hb3 hR3 PL HRL
  go_wp2_with fail
  refine (OF.out _ _ _ (HE.out.below (HB3.out.alloc HB3.out.size _)) (HR3.out.alloc _)).mono ?_
  rintro e w4 ⟨rfl, hb4⟩
  have HB4 := Lib.hid (bch (HB3.out.alloc HB3.out.size _) hb4)
  have HR4 := Lib.hid ((HR3.out.alloc _).below hb4)
  have HRL4 := Lib.hid ((HRL3.out.alloc _).below hb4)
  have ht4 : w4.heap[w3.heap.size]? = some (.cells [.slice A3 M.length c3, .int .i64 n].toArray 35 (0, 0)) := by rw [hb4.block _ (by simp)]; exact heap_alloc_new w3 _
  have HT4 := Lib.hid ht4
  have hn4 : w3.heap.size < w4.heap.size := blk_lt ht4
  have t0 := blk_cell ht4 (j := 0) rfl
  clear hb4 ht4 HR3 HRL3
  go_wp2_with fail
  generalize hw5 : w4.alloc (.cells #[.int .i64 ub, .int .i64 ui, .int .i64 ud, .int .i64 ul] 23) = w5
  have hbl : Below w4.heap.size w4 w5 := by rw [← hw5]; exact (Below.refl _ _).alloc (Nat.le_refl _) _
  have hu5 : w5.heap[w4.heap.size]? = some (.cells (usC ⟨ub, ui, ud, ul⟩).toArray 23 (0, 0)) := by rw [← hw5]; exact heap_alloc_new w4 _
  have HU5 := Lib.hid hu5
  have HT5 : Hid (w5.heap[w3.heap.size]? = some (.cells [.slice A3 M.length c3, .int .i64 n].toArray 35 (0, 0))) := Lib.hid ((hbl.block _ hn4).trans HT4.out)
  have HR5 := Lib.hid (HR4.out.below hbl)
  have HRL5 := Lib.hid (HRL4.out.below hbl)
  have HB5 := Lib.hid (bch HB4.out hbl)
  have hn5 : w4.heap.size < w5.heap.size := blk_lt hu5
  clear hw5 hbl hu5 t0 HR4 HRL4 HT4
  have hn3W : w3.heap.size < w5.heap.size := by omega
  have t0 := blk_cell HT5.out (j := 0) rfl
  have t1 := blk_cell HT5.out (j := 1) rfl
  obtain ⟨ce, hce⟩ : ∃ ce, cutE M (pathOf (bls Ll)) = ce := ⟨_, rfl⟩
  obtain ⟨CM, hCM⟩ : ∃ CM, (if ce = 0 then cutV M (pathOf (bls Ll)) else M) = CM := ⟨_, rfl⟩
  have CU : Hid (∀ (w : World) (hE : Env w) (hR : RT w A3 c3 M), Calls Tryd.prog 36 #[.agg #[.slice A3 (List.length M) c3, .int .i64 n], .string (pathOf (bls Ll))] w fun e w' =>
      ∃ A' c', e = .returned (.tuple #[.agg #[.slice A' (List.length CM) c', .int .i64 n], .int .i64 ce]) ∧ RT w' A' c' CM ∧ Below w.heap.size w w') := Lib.hid (fun w hE hR => (cut_any A3 c3 M n (pathOf (bls Ll)) w hE hR HG.out.inv.ok (by rw [← bl_size, bl_pathOf]; omega) (by omega)).mono (by
        rintro e w' ⟨M', A', c', rfl, rfl, h1, h2⟩
        rw [hce, hCM] at *
        exact ⟨A', c', rfl, h1, h2⟩))
  have HCM := Lib.hid hCM
  clear hce hCM
  go_upto_region 8 with fail
  go_cut [11, 12] (fun s11 s12 wx => s12 = .int .i64 ce ∧ ∃ (g : Nat) (A' : Option Addr) (c' : Nat), s11 = .pointer (some ⟨g, 0, none⟩) ∧ w5.heap.size ≤ g ∧ wx.heap[g]? = some (.cells [.slice A' (List.length CM) c', .int .i64 n].toArray 35 (0, 0)) ∧ RT wx A' c' CM ∧ Below w5.heap.size w5 wx)
  case first =>
    have HRd : Hid (Rd w5.drew Al cl Ll) := Lib.hid HRL5.out.drew
    have HRdz : Hid (Rd (w5.alloc (.cells #[.slice none 0 0, .int .i64 0] 35)).drew Al cl Ll) := Lib.hid (HRL5.out.alloc _).drew
    have hzlt : w5.heap.size < (w5.alloc (.cells #[.slice none 0 0, .int .i64 0] 35)).drew.heap.size := by show w5.heap.size < (w5.alloc (.cells #[.slice none 0 0, .int .i64 0] 35)).heap.size; simp
    have JOA := Lib.hid (fun (w : World) (hR : Rd w Al cl Ll) => join_any Al cl Ll w hR hta)
    go_region_held3 (fun w' => Below w5.heap.size w5 w' ∧ w'.cell? ⟨w3.heap.size, 0, none⟩ = some (.slice A3 M.length c3) ∧ w'.cell? ⟨w3.heap.size, 1, none⟩ = some (.int .i64 n))
      ((refine ⟨?_, ?_, ?_⟩; (first | exact (Below.refl _ _).drew | exact Below.refl _ _ | exact HB9.out | exact HB10.out | exact below_alloc (Below.refl _ _) _ | exact (below_alloc (Below.refl _ _) _).drew | exact below_alloc HB9.out _ | exact below_alloc HB10.out _ | exact (HB10.out.setCell (p := ⟨_, 0, none⟩) (by first | exact Nat.le_refl _ | exact HB9.out.size) _).setCell (p := ⟨_, 1, none⟩) (by first | exact Nat.le_refl _ | exact HB9.out.size) _); all_goals (first | assumption | exact cell_alloc (by assumption) _ | (rw [cell_other (fun e => by injection e; omega), cell_other (fun e => by injection e; omega)]; assumption) | go_keep)))
      (first
      | (go_at_call 23; refine (JOA.out _ HRd.out).mono ?_; rintro e w9 ⟨ra, rfl, hra, hb9⟩; have HB9 : Hid (Below w5.heap.size w5 w9) := Lib.hid (((Below.refl _ _).drew).trans hb9); obtain rfl := path_eq hra; have k9 := (HB9.out.block _ hn3W).trans HT5.out; have t0 := blk_cell k9 (j := 0) rfl; have t1 := blk_cell k9 (j := 1) rfl; have hs9 : w3.heap.size < w9.heap.size := blk_lt k9; have HE9 : Hid (Env w9) := Lib.hid ((HE.out.below HB5.out).below HB9.out); have HR9 := Lib.hid (HR5.out.below HB9.out); clear k9 hra; clear hb9)
      | (go_at_call 23; refine (JOA.out _ HRdz.out).mono ?_; rintro e w9 ⟨ra, rfl, hra, hb9⟩; have HZ9 := Lib.hid ((hb9.block w5.heap.size hzlt).trans (heap_alloc_new w5 (.cells #[.slice none 0 0, .int .i64 0] 35))); have HB9 : Hid (Below w5.heap.size w5 w9) := Lib.hid ((((Below.refl _ _).alloc (Nat.le_refl _) (.cells #[.slice none 0 0, .int .i64 0] 35)).drew).trans (hb9.mono (by simp))); obtain rfl := path_eq hra; have k9 := (HB9.out.block _ hn3W).trans HT5.out; have t0 := blk_cell k9 (j := 0) rfl; have t1 := blk_cell k9 (j := 1) rfl; have hs9 : w3.heap.size < w9.heap.size := blk_lt k9; have HE9 : Hid (Env w9) := Lib.hid ((HE.out.below HB5.out).below HB9.out); have HR9 := Lib.hid (HR5.out.below HB9.out); clear k9 hra; clear hb9)
      | (go_at_call 36; have HZ9' := Lib.hid HZ9.out; refine (CU.out _ HE9.out HR9.out).mono ?_; rintro e w10 ⟨A10, c10, rfl, hR10, hb10⟩; have HZX := Lib.hid ((hb10.block _ (blk_lt HZ9.out)).trans HZ9.out); have y0 := blk_cell (cs := [.slice none 0 0, .int .i64 0]) HZX.out (j := 0) rfl; have y1 := blk_cell (cs := [.slice none 0 0, .int .i64 0]) HZX.out (j := 1) rfl; have yf := blk_frozen HZX.out; have HB10 : Hid (Below w5.heap.size w5 w10) := Lib.hid (bch HB9.out hb10); have HR10 := Lib.hid hR10; have k10 := (HB10.out.block _ hn3W).trans HT5.out; have t0 := blk_cell k10 (j := 0) rfl; have t1 := blk_cell k10 (j := 1) rfl; clear k10 hb10 hR10)
      | (go_at_call 36; refine (CU.out _ HE9.out HR9.out).mono ?_; rintro e w10 ⟨A10, c10, rfl, hR10, hb10⟩; have HB10 : Hid (Below w5.heap.size w5 w10) := Lib.hid (bch HB9.out hb10); have HR10 := Lib.hid hR10; have k10 := (HB10.out.block _ hn3W).trans HT5.out; have t0 := blk_cell k10 (j := 0) rfl; have t1 := blk_cell k10 (j := 1) rfl; clear k10 hb10 hR10)
      | (go_at_call 36; refine (CU.out _ (HE9.out.below ((Below.refl _ _).alloc (Nat.le_refl _) _)) (HR9.out.alloc _)).mono ?_; rintro e w10 ⟨A10, c10, rfl, hR10, hb10⟩; have HZX := Lib.hid ((hb10.block w9.heap.size (by simp)).trans (heap_alloc_new w9 (.cells #[.slice none 0 0, .int .i64 0] 35))); have y0 := blk_cell (cs := [.slice none 0 0, .int .i64 0]) HZX.out (j := 0) rfl; have y1 := blk_cell (cs := [.slice none 0 0, .int .i64 0]) HZX.out (j := 1) rfl; have yf := blk_frozen HZX.out; have HB10 : Hid (Below w5.heap.size w5 w10) := Lib.hid (bch (below_alloc HB9.out _) hb10); have HR10 := Lib.hid hR10; have k10 := (HB10.out.block _ hn3W).trans HT5.out; have t0 := blk_cell k10 (j := 0) rfl; have t1 := blk_cell k10 (j := 1) rfl; clear k10 hb10 hR10))
    all_goals (go_wp2_with fail)
    all_goals go_meet
    all_goals first
      | (rw [set2 HZX.out]; exact ⟨rfl, _, A10, c10, rfl, by first | exact Nat.le_refl _ | exact HB9.out.size, setRow_heap _ _ _ _ _ _ HZX.out, HR10.out.setOther HZX.out tree_no _, below_setRow HB10.out (by first | exact Nat.le_refl _ | exact HB9.out.size) _⟩)
      | exact ⟨rfl, w10.heap.size, A10, c10, rfl, HB10.out.size, heap_alloc_new w10 _, HR10.out.alloc _, below_alloc HB10.out _⟩
  case rest =>
    obtain ⟨wz, rfl⟩ : ∃ wz : World, wz = wc := ⟨_, rfl⟩
    obtain ⟨rfl, g, A', c', rfl, hgw, hg, hRC, hbz⟩ := hcut
    have HBZ := Lib.hid hbz
    have HRC := Lib.hid hRC
    have ku : wz.heap[w4.heap.size]? = _ := (hbz.block _ hn5).trans HU5.out
    have kt : wz.heap[w3.heap.size]? = _ := (hbz.block _ hn3W).trans HT5.out
    have KU := Lib.hid ku
    have KT := Lib.hid kt
    have HGB := Lib.hid hg
    clear t0 t1
    have x0 := blk_cell hg (j := 0) rfl
    have x1 := blk_cell hg (j := 1) rfl
    have hgz : g < wz.heap.size := blk_lt hg
    have hn4z : w4.heap.size < wz.heap.size := blk_lt ku
    have hn3z : w3.heap.size < wz.heap.size := blk_lt kt
    clear hg hRC hbz ku kt
    go_upto_if 53 with fail
    go_cut [53] (fun _ wx => Below wz.heap.size wz wx)
    case first =>
      by_cases hc0 : ce = 0
      case neg =>
        have hcb : (ce == 0) = false := by simp [hc0]
        clear hc0
        go_wp2_with fail
        go_meet
        exact Below.refl _ _
      case pos =>
        subst hc0
        have hCV : CM = cutV M (pathOf (bls Ll)) := by rw [← HCM.out, if_pos rfl]
        have hsub : ∀ r ∈ CM, r ∈ M := fun r hr => by rw [hCV] at hr; exact (List.mem_filter.1 hr).1
        have hle := us_filter HG.out.inv.cons HG.out.ids (fun r hr => (own_nonneg HG.out.inv hr).1) (fun r => !under (bl (pathOf (bls Ll))) (bl r.path))
        rw [show M.filter (fun r => !under (bl (pathOf (bls Ll))) (bl r.path)) = CM from hCV.symm, HU.out] at hle
        have hokC : OkT CM := ⟨by rw [hCV]; exact List.Pairwise.filter _ HG.out.inv.ok.sorted, fun r hr => HG.out.inv.ok.path r (hsub r hr), fun r hr => HG.out.inv.ok.psize r (hsub r hr)⟩
        have hlC : CM.length ≤ M.length := by rw [hCV]; exact List.length_filter_le _ _
        have OC := Lib.hid (fun (A : Option Addr) (c : Nat) (w : World) (hE : Env w) (hR : RT w A c CM) => of_any A c CM n w hE hR hokC (by omega) (fun r hr => by have := HG.out.inv.ids r (hsub r hr); simp only at this; omega) (fun r hr => by have := HG.out.inv.size r (hsub r hr); omega))
        rcases hUC : us CM with ⟨vb, vi, vd, vl⟩
        rw [hUC] at OC hle
        obtain ⟨le1, le2, le3, le4⟩ := hle
        simp only at le1 le2 le3 le4
        clear hCV hUC
        go_wp2_with fail
        refine (OC.out _ _ _ (HE.out.below (bch HB5.out HBZ.out)) HRC.out).mono ?_
        rintro e w12 ⟨rfl, hb12⟩
        have ku12 : w12.heap[w4.heap.size]? = _ := (hb12.block _ hn4z).trans KU.out
        have u0 := blk_cell ku12 (j := 0) rfl
        have u1 := blk_cell ku12 (j := 1) rfl
        have u2 := blk_cell ku12 (j := 2) rfl
        have u3 := blk_cell ku12 (j := 3) rfl
        have hn412 : w4.heap.size < w12.heap.size := blk_lt ku12
        have HB12 := Lib.hid hb12
        clear ku12 hb12 x0 x1
        go_wp2_with fail
        go_meet
        exact below_alloc HB12.out _
    case rest =>
      obtain ⟨wy, rfl⟩ : ∃ wy : World, wy = wc := ⟨_, rfl⟩
      have HBY := Lib.hid (bch HBZ.out hcut)
      clear hcut x0 x1 KU KT HGB HRC HCM CU
      have kt : wy.heap[w3.heap.size]? = _ := (HBY.out.block _ hn3W).trans HT5.out
      have ku : wy.heap[w4.heap.size]? = _ := (HBY.out.block _ hn5).trans HU5.out
      have KT := Lib.hid kt
      have KU := Lib.hid ku
      have HRY := Lib.hid (HR5.out.below HBY.out)
      have hn3y : w3.heap.size < wy.heap.size := blk_lt kt
      have t0 := blk_cell kt (j := 0) rfl
      have t1 := blk_cell kt (j := 1) rfl
      clear kt ku
      have hce0 : cutE M ⟨#[]⟩ = 0 := by unfold cutE; rw [if_neg]; rintro ⟨_, h⟩; exact h rfl
      have hcv0 : cutV M ⟨#[]⟩ = [] := by
        unfold cutV
        refine List.filter_eq_nil_iff.2 fun r _ => ?_
        have : under (bl ⟨#[]⟩) (bl r.path) = true := rfl
        rw [this]; decide
      have C0 : Hid (∀ (w : World) (hE : Env w) (hR : RT w A3 c3 M), Calls Tryd.prog 36 #[.agg #[.slice A3 (List.length M) c3, .int .i64 n], .string ⟨#[]⟩] w fun e w' =>
          ∃ A' c', e = .returned (.tuple #[.agg #[.slice A' 0 c', .int .i64 n], .int .i64 0]) ∧ RT w' A' c' [] ∧ Below w.heap.size w w') := Lib.hid (fun w hE hR => (cut_any A3 c3 M n ⟨#[]⟩ w hE hR HG.out.inv.ok (by decide) (by omega)).mono (by
            rintro e w' ⟨M', A', c', rfl, rfl, h1, h2⟩
            rw [hce0, if_pos rfl, hcv0] at *
            exact ⟨A', c', rfl, h1, h2⟩))
      have O0 := Lib.hid (fun (A : Option Addr) (c : Nat) (w : World) (hE : Env w) (hR : RT w A c []) => of_any A c [] n w hE hR OkT.nil (by decide) (fun r hr => by cases hr) (fun r hr => by cases hr))
      clear hce0 hcv0
      go_wp2_with fail
      refine (C0.out _ (HE.out.below (bch HB5.out HBY.out)) HRY.out).mono ?_
      rintro e w12 ⟨A12, c12, rfl, hR12, hb12⟩
      have HB12 := Lib.hid (bch HBY.out hb12)
      have HR12 := Lib.hid hR12
      clear hb12 hR12 t0 t1
      go_wp2_with fail
      refine (O0.out _ _ _ (HE.out.below (bch HB5.out (below_alloc HB12.out _))) (HR12.out.alloc _)).mono ?_
      rintro e w13 ⟨rfl, hb13⟩
      have HB13 := Lib.hid (bch (below_alloc HB12.out _) hb13)
      have kt : w13.heap[w3.heap.size]? = _ := (HB13.out.block _ hn3W).trans HT5.out
      have t0 := blk_cell kt (j := 0) rfl
      have hn313 : w3.heap.size < w13.heap.size := blk_lt kt
      clear hb13 kt
      go_wp2_with fail
      have HE13 : Hid (Env w13) := Lib.hid (HE.out.below (bch HB5.out HB13.out))
      have HT13 : Hid (w13.heap[w3.heap.size]? = _) := Lib.hid ((HB13.out.block _ hn3W).trans HT5.out)
      have HU13 : Hid (w13.heap[w4.heap.size]? = _) := Lib.hid ((HB13.out.block _ hn5).trans HU5.out)
      have HR13 := Lib.hid (HR5.out.below HB13.out)
      have HRL13 := Lib.hid (HRL5.out.below HB13.out)
      have HB013 := Lib.hid (bch HB5.out HB13.out)
      have hn413 : w4.heap.size < w13.heap.size := blk_lt HU13.out
      clear t0 C0 O0 HR12 HRY KT KU
      go_loopg [94] M.length (fun g i wr => ∃ k : Nat, g = M.length - k ∧ i = .int .i64 k ∧ k ≤ M.length ∧ Hid (Below w13.heap.size w13 wr))
      case atStart => exact ⟨0, rfl, rfl, Nat.zero_le _, Lib.hid (Below.refl _ _)⟩
      case round =>
        obtain ⟨k, rfl, rfl, hk, HBR⟩ := hrel
        have HBW := Lib.hid (bch HB013.out HBR.out)
        by_cases hlt : k < M.length
        case neg =>
          go_wp2_with fail
          go_ret
          exact ⟨rfl, HBW.out⟩
        have hx : M[k]? = some M[k] := List.getElem?_eq_getElem hlt
        have hmem : M[k] ∈ M := List.getElem_mem hlt
        generalize M[k] = r at hx hmem
        obtain ⟨Q, hGQ, hQn, hQe⟩ := HG.out.inv.ok.path _ hmem
        have hpz := HG.out.inv.ok.psize _ hmem
        obtain ⟨path, id, kind, mode, sz, made⟩ := r
        obtain rfl := path_eq hQe
        obtain ⟨b, o, rfl, hbw⟩ := HR13.out.pos (by omega)
        obtain ⟨q0, q1, q2, q3, q4, q5, q6, q7, q8, q9, q10, q11, q12⟩ := (HR13.out.below HBR.out).cells hx
        simp only at hpz
        have hQ5 : (join Q).length ≤ 5000 := by rw [← bl_pathOf, bl_size]; omega
        have HGQ := Lib.hid hGQ
        clear hx hmem hGQ hQn hQe
        by_cases hk1 : kind = 1
        case neg =>
          have hkb : (kind != 1) = true := by simp [hk1]
          clear hk1
          go_wp2_with fail
          go_roundg (M.length - (k + 1))
          case measure => omega
          case rel => exact ⟨k + 1, rfl, by go_num, by omega, Lib.hid (HBR.out.alloc HBR.out.size _)⟩
        subst hk1
        go_upto_region 20 with fail
        clear q0 q1 q2 q3 q4 q5 q6 q7 q8 q9 q10 q11 q12
        generalize hw6 : wr.alloc (.cells #[.string (pathOf Q), .int .i64 id, .int .i64 1, .int .i64 mode, .int .i64 0, .int .i64 0, .int .i64 0, .string nos, .string nos, .string nos, .slice none 0 0, .int .i64 sz, .bool made] 44) = w6
        have hr6 : w6.heap[wr.heap.size]? = some (.cells (Rw.cells ⟨pathOf Q, id, 1, mode, sz, made⟩).toArray 44 (0, 0)) := by rw [← hw6]; exact heap_alloc_new wr _
        have hbl6 : Below wr.heap.size wr w6 := by rw [← hw6]; exact (Below.refl _ _).alloc (Nat.le_refl _) _
        have HR6 := Lib.hid hr6
        have HB6 := Lib.hid (bch HBR.out hbl6)
        have HE6 : Hid (Env w6) := Lib.hid (HE13.out.below HB6.out)
        have HRT6 := Lib.hid (HR13.out.below HB6.out)
        have HRL6 := Lib.hid (HRL13.out.below HB6.out)
        have kt : w6.heap[w3.heap.size]? = _ := (HB6.out.block _ hn313).trans HT13.out
        have ku : w6.heap[w4.heap.size]? = _ := (HB6.out.block _ hn413).trans HU13.out
        have KT6 := Lib.hid kt
        have KU6 := Lib.hid ku
        have hn36 : w3.heap.size < w6.heap.size := blk_lt kt
        have hnr6 : wr.heap.size < w6.heap.size := blk_lt hr6
        have t0 := blk_cell kt (j := 0) rfl
        have t1 := blk_cell kt (j := 1) rfl
        obtain ⟨z0, -⟩ := row_cells hr6
        clear hw6 hr6 hbl6 kt ku
        have LNK := Lib.hid (fun (w : World) (hE : Env w) (hR : RT w (some ⟨b, o, none⟩) c3 M) => link_any (some ⟨b, o, none⟩) c3 M n (bls Ll) Q w hE hR HG.out.inv.ok HGP.out (by omega) HGQ.out hQ5 (by omega) hg2.1 (by omega))
        rcases hLV : linkV M n (bls Ll) Q with ⟨LM, ln, le⟩
        rw [hLV] at LNK
        have HLV := Lib.hid hLV
        clear hLV
        go_cut [18, 19] (fun s18 s19 wx => s19 = .int .i64 le ∧ ∃ (g : Nat) (A' : Option Addr) (c' : Nat), s18 = .pointer (some ⟨g, 0, none⟩) ∧ w6.heap.size ≤ g ∧ wx.heap[g]? = some (.cells [.slice A' LM.length c', .int .i64 ln].toArray 35 (0, 0)) ∧ RT wx A' c' LM ∧ Below w6.heap.size w6 wx)
        case first =>
          have HRd : Hid (Rd w6.drew Al cl Ll) := Lib.hid HRL6.out.drew
          have HRdz : Hid (Rd (w6.alloc (.cells #[.slice none 0 0, .int .i64 0] 35)).drew Al cl Ll) := Lib.hid (HRL6.out.alloc _).drew
          have hzlt : w6.heap.size < (w6.alloc (.cells #[.slice none 0 0, .int .i64 0] 35)).drew.heap.size := by show w6.heap.size < (w6.alloc (.cells #[.slice none 0 0, .int .i64 0] 35)).heap.size; simp
          have JOA := Lib.hid (fun (w : World) (hR : Rd w Al cl Ll) => join_any Al cl Ll w hR hta)
          go_region_held3 (fun w' => Below w6.heap.size w6 w' ∧ w'.cell? ⟨w3.heap.size, 0, none⟩ = some (.slice (some ⟨b, o, none⟩) M.length c3) ∧ w'.cell? ⟨w3.heap.size, 1, none⟩ = some (.int .i64 n) ∧ w'.cell? ⟨wr.heap.size, 0, none⟩ = some (.string (pathOf Q)))
            ((refine ⟨?_, ?_, ?_, ?_⟩; (first | exact (Below.refl _ _).drew | exact Below.refl _ _ | exact HB9.out | exact HB10.out | exact below_alloc (Below.refl _ _) _ | exact (below_alloc (Below.refl _ _) _).drew | exact below_alloc HB9.out _ | exact below_alloc HB10.out _ | exact (HB10.out.setCell (p := ⟨_, 0, none⟩) (by first | exact Nat.le_refl _ | exact HB9.out.size) _).setCell (p := ⟨_, 1, none⟩) (by first | exact Nat.le_refl _ | exact HB9.out.size) _); all_goals (first | assumption | exact cell_alloc (by assumption) _ | (rw [cell_other (fun e => by injection e; omega), cell_other (fun e => by injection e; omega)]; assumption) | go_keep)))
            (first
            | (go_at_call 23; refine (JOA.out _ HRd.out).mono ?_; rintro e w9 ⟨ra, rfl, hra, hb9⟩; have HB9 : Hid (Below w6.heap.size w6 w9) := Lib.hid (((Below.refl _ _).drew).trans hb9); obtain rfl := path_eq hra; have k9 := (HB9.out.block _ hn36).trans KT6.out; have t0 := blk_cell k9 (j := 0) rfl; have t1 := blk_cell k9 (j := 1) rfl; obtain ⟨z0, -⟩ := row_cells ((HB9.out.block _ hnr6).trans HR6.out); have hs9 : w3.heap.size < w9.heap.size := blk_lt k9; have hs9r : wr.heap.size < w9.heap.size := Nat.lt_of_lt_of_le hnr6 HB9.out.size; have HE9 : Hid (Env w9) := Lib.hid (HE6.out.below HB9.out); have HR9 := Lib.hid (HRT6.out.below HB9.out); clear k9 hra; clear hb9)
            | (go_at_call 23; refine (JOA.out _ HRdz.out).mono ?_; rintro e w9 ⟨ra, rfl, hra, hb9⟩; have HZ9 := Lib.hid ((hb9.block w6.heap.size hzlt).trans (heap_alloc_new w6 (.cells #[.slice none 0 0, .int .i64 0] 35))); have HB9 : Hid (Below w6.heap.size w6 w9) := Lib.hid ((((Below.refl _ _).alloc (Nat.le_refl _) (.cells #[.slice none 0 0, .int .i64 0] 35)).drew).trans (hb9.mono (by simp))); obtain rfl := path_eq hra; have k9 := (HB9.out.block _ hn36).trans KT6.out; have t0 := blk_cell k9 (j := 0) rfl; have t1 := blk_cell k9 (j := 1) rfl; obtain ⟨z0, -⟩ := row_cells ((HB9.out.block _ hnr6).trans HR6.out); have hs9 : w3.heap.size < w9.heap.size := blk_lt k9; have hs9r : wr.heap.size < w9.heap.size := Nat.lt_of_lt_of_le hnr6 HB9.out.size; have HE9 : Hid (Env w9) := Lib.hid (HE6.out.below HB9.out); have HR9 := Lib.hid (HRT6.out.below HB9.out); clear k9 hra; clear hb9)
            | (go_at_call 25; have HZ9' := Lib.hid HZ9.out; refine (LNK.out _ HE9.out HR9.out).mono ?_; rintro e w10 ⟨A10, c10, rfl, hR10, hb10⟩; have HZX := Lib.hid ((hb10.block _ (blk_lt HZ9.out)).trans HZ9.out); have y0 := blk_cell (cs := [.slice none 0 0, .int .i64 0]) HZX.out (j := 0) rfl; have y1 := blk_cell (cs := [.slice none 0 0, .int .i64 0]) HZX.out (j := 1) rfl; have yf := blk_frozen HZX.out; have HB10 : Hid (Below w6.heap.size w6 w10) := Lib.hid (bch HB9.out hb10); have HR10 := Lib.hid hR10; have k10 := (HB10.out.block _ hn36).trans KT6.out; have t0 := blk_cell k10 (j := 0) rfl; have t1 := blk_cell k10 (j := 1) rfl; obtain ⟨z0, -⟩ := row_cells ((HB10.out.block _ hnr6).trans HR6.out); clear k10 hb10 hR10)
            | (go_at_call 25; refine (LNK.out _ HE9.out HR9.out).mono ?_; rintro e w10 ⟨A10, c10, rfl, hR10, hb10⟩; have HB10 : Hid (Below w6.heap.size w6 w10) := Lib.hid (bch HB9.out hb10); have HR10 := Lib.hid hR10; have k10 := (HB10.out.block _ hn36).trans KT6.out; have t0 := blk_cell k10 (j := 0) rfl; have t1 := blk_cell k10 (j := 1) rfl; obtain ⟨z0, -⟩ := row_cells ((HB10.out.block _ hnr6).trans HR6.out); clear k10 hb10 hR10)
            | (go_at_call 25; refine (LNK.out _ (HE9.out.below ((Below.refl _ _).alloc (Nat.le_refl _) _)) (HR9.out.alloc _)).mono ?_; rintro e w10 ⟨A10, c10, rfl, hR10, hb10⟩; have HZX := Lib.hid ((hb10.block w9.heap.size (by simp)).trans (heap_alloc_new w9 (.cells #[.slice none 0 0, .int .i64 0] 35))); have y0 := blk_cell (cs := [.slice none 0 0, .int .i64 0]) HZX.out (j := 0) rfl; have y1 := blk_cell (cs := [.slice none 0 0, .int .i64 0]) HZX.out (j := 1) rfl; have yf := blk_frozen HZX.out; have HB10 : Hid (Below w6.heap.size w6 w10) := Lib.hid (bch (below_alloc HB9.out _) hb10); have HR10 := Lib.hid hR10; have k10 := (HB10.out.block _ hn36).trans KT6.out; have t0 := blk_cell k10 (j := 0) rfl; have t1 := blk_cell k10 (j := 1) rfl; obtain ⟨z0, -⟩ := row_cells ((HB10.out.block _ hnr6).trans HR6.out); clear k10 hb10 hR10))
          all_goals (go_wp2_with fail)
          all_goals go_meet
          all_goals first
            | (rw [set2 HZX.out]; exact ⟨rfl, _, A10, c10, rfl, by first | exact Nat.le_refl _ | exact HB9.out.size, setRow_heap _ _ _ _ _ _ HZX.out, HR10.out.setOther HZX.out tree_no _, below_setRow HB10.out (by first | exact Nat.le_refl _ | exact HB9.out.size) _⟩)
            | exact ⟨rfl, w10.heap.size, A10, c10, rfl, HB10.out.size, heap_alloc_new w10 _, HR10.out.alloc _, below_alloc HB10.out _⟩
        case rest =>
          obtain ⟨rfl, g, A', c', rfl, hgw, hg, hRL, hbx⟩ := hcut
          obtain ⟨wx, rfl⟩ : ∃ wx : World, wx = wc := ⟨_, rfl⟩
          have ktY : wx.heap[w3.heap.size]? = _ := (hbx.block _ hn36).trans KT6.out
          have kuY : wx.heap[w4.heap.size]? = _ := (hbx.block _ (blk_lt KU6.out)).trans KU6.out
          have HBX := Lib.hid (bch HB6.out hbx)
          have HKT := Lib.hid ktY
          have HKU := Lib.hid kuY
          have HGB := Lib.hid hg
          have HRLM := Lib.hid hRL
          have hn3Y : w3.heap.size < wx.heap.size := blk_lt ktY
          have hgY : g < wx.heap.size := blk_lt hg
          have hg3 : w3.heap.size ≠ g := by omega
          clear t0 t1 z0
          have x0 := blk_cell hg (j := 0) rfl
          have x1 := blk_cell hg (j := 1) rfl
          clear hbx ktY kuY hg hRL
          by_cases h0 : le = 0
          case neg =>
            have hlb : (le == 0) = false := by simp [h0]
            clear h0
            go_wp2_with fail
            go_roundg (M.length - (k + 1))
            case measure => omega
            case rel => exact ⟨k + 1, rfl, by go_num, by omega, HBX⟩
          case pos =>
            subst h0
            obtain ⟨LI, hLI⟩ : ∃ r : List Rw × Rw, LM = putR r.1 r.2 ∧ Inv (putR r.1 r.2) ln := by
              obtain ⟨M', r', hd, he⟩ := linkV_done HG.out.inv HG.out.nat (P := bls Ll) (Q := Q) HGP.out (by omega) (by rw [HLV.out])
              rw [HLV.out] at hd he
              exact ⟨(M', r'), he, hd.inv⟩
            have hInv : Hid (Inv LM ln) := Lib.hid (by rw [hLI.1]; exact hLI.2)
            have h1 := Grown.link HG.out (Q := Q) HGP.out hjl
            rw [HLV.out] at h1
            have hln : 0 ≤ ln ∧ ln ≤ 7000 ∧ LM.length ≤ 7000 := by
              have h2 := h1.next
              have h3 := h1.nat
              have h4 := h1.len
              simp only at h2 h3 h4; omega
            have hnm := us_link HG.out (Q := Q) HGP.out hjl (by rw [HLV.out])
            rw [HLV.out] at hnm
            rcases hUL : us LM with ⟨xb, xi, xd, xl⟩
            simp only at hnm
            rw [hUL, HU.out] at hnm
            simp only at hnm
            obtain ⟨hn1, hn2, hn3⟩ := hnm
            have OL := Lib.hid (fun (A : Option Addr) (c : Nat) (w : World) (hE : Env w) (hR : RT w A c LM) => of_any A c LM ln w hE hR hInv.out.ok (by omega) (fun r hr => by have := hInv.out.ids r hr; omega) (fun r hr => by have := hInv.out.size r hr; omega))
            rw [hUL] at OL
            clear hUL hLI h1
            go_wp2_with fail
            refine (OL.out _ _ _ (HE13.out.below HBX.out) HRLM.out).mono ?_
            rintro e w14 ⟨rfl, hb14⟩
            have ku14 : w14.heap[w4.heap.size]? = _ := (hb14.block _ (blk_lt HKU.out)).trans HKU.out
            have kt14 : w14.heap[w3.heap.size]? = _ := (hb14.block _ hn3Y).trans HKT.out
            have kg14 : w14.heap[g]? = _ := (hb14.block _ hgY).trans HGB.out
            have u0 := blk_cell ku14 (j := 0) rfl
            have u1 := blk_cell ku14 (j := 1) rfl
            have t0 := blk_cell kt14 (j := 0) rfl
            have hn414 : w4.heap.size < w14.heap.size := blk_lt ku14
            have hn314 : w3.heap.size < w14.heap.size := blk_lt kt14
            have hg14 : g < w14.heap.size := blk_lt kg14
            clear x0 x1
            have x0 := blk_cell kg14 (j := 0) rfl
            have HB14 := Lib.hid (bch HBX.out hb14)
            have hl0 : (0 : Int) ≤ (LM.length : Int) - (M.length : Int) := by omega
            clear ku14 kt14 kg14 hb14
            go_wp2_with fail
            go_ret
            exact ⟨rfl, bch HB013.out (below_alloc HB14.out _)⟩

end Go.Proofs.YtcniahbliadgiaaDoor

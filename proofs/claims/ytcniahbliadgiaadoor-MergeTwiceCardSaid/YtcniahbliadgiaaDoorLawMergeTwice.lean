/-
  pannierlaw17.MergeTwice: the walk.
-/
import Derived.Test.YtcniahbliadgiaaDoorLawM
import Derived.Deep.QuietTactic
import Derived.BigQuiet
namespace Go.Proofs.YtcniahbliadgiaaDoor
open Go.RowKit
open Go.Proofs.PnKit Go.Proofs.PnPath

attribute [local go_sem ↓] Go.wp_at_zero Go.wp_at_succ

set_option maxRecDepth 100000 in
set_option maxHeartbeats 8000000 in
theorem twicem_walk (A : Option Addr) (c : Nat) (La : List Oq) (B : Option Addr) (d : Nat) (Lb : List Oq) (w : World) (hE : Env w) (hRa : RQ w A c La) (hRb : RQ w B d Lb) :
    Calls Tryd.prog 13 #[.slice A (List.length La) c, .slice B (List.length Lb) d] w fun e w' => e = .returned (.bool true) ∧ Below w.heap.size w w' := by
  have HRA := Lib.hid hRa
  have HRB := Lib.hid hRb
  have HE := Lib.hid hE
  clear hRa hRb hE
  go_enter Tryd.func13, Tryd.ntmps13
  go_wp2_with fail
  refine (lays_any _ HE.out).mono ?_
  rintro e w1 ⟨rfl, hb1⟩
  have HB1 := Lib.hid hb1
  clear hb1
  by_cases hgo : La.length ≤ 30 ∧ Lb.length ≤ 30
  case neg =>
    have hg2 : 30 < La.length ∨ (La.length ≤ 30 ∧ 30 < Lb.length) := by omega
    clear hgo
    rcases hg2 with h | ⟨h, h2⟩
    all_goals
      go_wp2_with fail
      go_ret
      exact ⟨rfl, HB1.out⟩
  obtain ⟨hla, hlb⟩ := hgo
  have HGA := Lib.hid (plantM_grown 0 La)
  have HGB := Lib.hid (plantM_grown 5000 Lb)
  have PA := Lib.hid (fun (w : World) (hE : Env w) (hR : RQ w A c La) => plantedM_any A c La 0 w hE hR (by omega) (by decide))
  have PB := Lib.hid (fun (w : World) (hE : Env w) (hR : RQ w B d Lb) => plantedM_any B d Lb 5000 w hE hR (by omega) (by decide))
  rcases hM : plantM 0 La with ⟨M, n⟩
  rcases hU : plantM 5000 Lb with ⟨U, m⟩
  rcases hTA : plantW La with ⟨TA, na⟩
  rcases hTB : plantW Lb with ⟨TB, nb⟩
  rw [hM, hTA] at PA
  rw [hU, hTB] at PB
  rw [hM] at HGA
  rw [hU] at HGB
  have hbM : M.length ≤ 4530 ∧ 0 ≤ n ∧ n ≤ 4530 := by
    have h1 := HGA.out.len
    have h2 := HGA.out.next
    have h3 := HGA.out.nat
    simp only at h1 h2 h3; omega
  have hbU : U.length ≤ 4530 ∧ 0 ≤ m ∧ m ≤ 4530 := by
    have h1 := HGB.out.len
    have h2 := HGB.out.next
    have h3 := HGB.out.nat
    simp only at h1 h2 h3; omega
  have HIA : Hid (Inv M n) := Lib.hid HGA.out.inv
  have HIB : Hid (Inv U m) := Lib.hid HGB.out.inv
  clear hM hU hTA hTB HGA HGB
  go_wp2_with fail
  refine (PA.out _ (HE.out.below HB1.out) (HRA.out.below HB1.out)).mono ?_
  rintro e w2 ⟨A2, c2, Ar, cr, rfl, hRM, hRT, hb2⟩
  have HB2 := Lib.hid (bch HB1.out hb2)
  have HRM := Lib.hid hRM
  have HRT := Lib.hid hRT
  have hal := fun o p : Obj => ((Below.refl w2.heap.size w2).alloc (Nat.le_refl _) o).alloc (by simp) p
  clear hRM hRT hb2 PA HRA
  go_wp2_with fail
  refine (PB.out _ (HE.out.below (bch HB2.out (hal _ _))) (HRB.out.below (bch HB2.out (hal _ _)))).mono ?_
  rintro e w4 ⟨B2, d2, Br, dr, rfl, hRU, hRV, hb4⟩
  obtain ⟨bA, rA⟩ := two_blk (a := [.slice A2 M.length c2, .int .i64 n]) (b := [.slice Ar TA.length cr, .int .i64 na]) hb4
  have HB4 := Lib.hid (bch (bch HB2.out (hal _ _)) hb4)
  have HRM4 := Lib.hid (HRM.out.below (bch (hal _ _) hb4))
  have HRT4 := Lib.hid (HRT.out.below (bch (hal _ _) hb4))
  have HRU := Lib.hid hRU
  have HRV := Lib.hid hRV
  have BA := Lib.hid bA
  have RA := Lib.hid rA
  clear hRU hRV hb4 bA rA PB HRB hal HRM HRT
  have hal := fun o p : Obj => ((Below.refl w4.heap.size w4).alloc (Nat.le_refl _) o).alloc (by simp) p
  have HAL := Lib.hid hal
  clear hal
  have hmw : MW w ((w4.alloc (.cells #[.slice B2 U.length d2, .int .i64 m] 35)).alloc (.cells #[.slice Br TB.length dr, .int .i64 nb] 64)) w2.heap.size w4.heap.size A2 c2 M n Ar cr TA na B2 d2 U m Br dr TB nb := by
    refine ⟨?_, ?_, ?_, ?_, HRM4.out.below (HAL.out _ _), HRT4.out.below (HAL.out _ _), HRU.out.below (HAL.out _ _), HRV.out.below (HAL.out _ _), bch HB4.out (HAL.out _ _)⟩
    · exact ((HAL.out _ _).block _ (blk_lt BA.out)).trans BA.out
    · exact ((HAL.out _ _).block _ (blk_lt RA.out)).trans RA.out
    · exact heap_alloc2_old w4 _ _
    · exact heap_alloc2_new w4 _ _
  have HMW0 := Lib.hid hmw
  have hg1 : w2.heap.size + 1 < w4.heap.size := blk_lt RA.out
  clear hmw BA RA HRM4 HRT4 HRU HRV HB4 HAL HB2
  have hsz5 : ((w4.alloc (.cells #[.slice B2 U.length d2, .int .i64 m] 35)).alloc (.cells #[.slice Br TB.length dr, .int .i64 nb] 64)).heap.size = w4.heap.size + 1 + 1 := by simp
  have OV := Lib.hid (fun (w : World) (hE : Env w) (hA : RT w A2 c2 M) (hB : RT w B2 d2 U) => Over_any A2 c2 M n B2 d2 U m w hE hA hB HIA.out.ok HIB.out.ok (by omega) (by omega) (fun r hr => by have := HIB.out.ids r hr; omega) (by omega) (by omega))
  have hA4 : w4.heap[w2.heap.size]? = some (.cells [.slice A2 M.length c2, .int .i64 n].toArray 35 (0, 0)) := by
    have h := HMW0.out.bA
    rw [Below.heap_alloc _ _ _ (by simp; omega), Below.heap_alloc _ _ _ (by omega)] at h
    exact h
  obtain ⟨a0, a1, hna⟩ := tree_cells hA4
  have hn4 : w4.heap.size < w4.heap.size + 1 := Nat.lt_succ_self _
  clear hA4
  rcases clash_or M U with hc | hc
  case' inr =>
    rw [mergeV_clash HIA.out HIB.out hc] at OV
    simp only at OV
    clear hc
    go_wp2_with fail
    refine (OV.out _ (HE.out.below HMW0.out.below) HMW0.out.tA HMW0.out.tB).mono ?_
    rintro e w6 ⟨A6, c6, rfl, hR6, hb6⟩
    have HB6 := Lib.hid (bch HMW0.out.below hb6)
    clear hb6 hR6 HMW0
    go_wp2_with fail
    go_ret
    exact ⟨rfl, HB6.out.alloc HB6.out.size _⟩
  have hvi := merge_inv HIA.out HIB.out hbM.2.1 hbU.2.1 hc
  have hlen := overR_length (more := n) U HIA.out.ok.sorted HIB.out.ok.sorted hc
  have hc2 := twice_ok HIA.out HIB.out hc
  have heq := twice_eq HIA.out HIB.out hc
  have hat := fun x hx => twice_at HIA.out HIB.out hc (x := x) hx
  have hus := twice_us HIA.out HIB.out hbM.2.1 hbU.2.1 hc
  have hgn := twice_gone HIA.out HIB.out hbM.2.1 hbU.2.1 hc
  rw [mergeV_ok HIA.out HIB.out hc] at OV
  simp only at OV
  obtain ⟨V, hV⟩ : ∃ V, (overR M n U).1 = V := ⟨_, rfl⟩
  rw [hV] at hvi OV hlen hc2 heq hat hus hgn
  obtain ⟨Z, hZ⟩ : ∃ Z, (overR V (n + m) U).1 = Z := ⟨_, rfl⟩
  have hvi2 := merge_inv hvi HIB.out (by omega) hbU.2.1 hc2
  have hmv2 := mergeV_ok hvi HIB.out hc2
  rw [hZ] at heq hus hgn hvi2 hmv2
  have hvl : V.length ≤ 9060 := by omega
  have hzl : Z.length = V.length := by rw [heq, List.length_map]
  have HVI := Lib.hid hvi
  have HZI := Lib.hid hvi2
  have OV2 : Hid (∀ (A6 : Option Addr) (c6 : Nat) (w : World), Env w → RT w A6 c6 V → RT w B2 d2 U → Calls Tryd.prog 28 #[.agg #[.slice A6 (List.length V) c6, .int .i64 (n + m)], .agg #[.slice B2 (List.length U) d2, .int .i64 m]] w fun e w' =>
      ∃ A' c', e = .returned (.tuple #[.agg #[.slice A' V.length c', .int .i64 (n + m + m)], .int .i64 0]) ∧ RT w' A' c' Z ∧ Below w.heap.size w w') := Lib.hid (fun A6 c6 w hE hA hB => by
    have h := Over_any A6 c6 V (n + m) B2 d2 U m w hE hA hB HVI.out.ok HIB.out.ok (by omega) (by omega) (fun r hr => by have := HIB.out.ids r hr; omega) (by omega) (by omega)
    rw [hmv2] at h
    simp only [hzl] at h
    exact h)
  have HMAP : Hid (∀ (k : Nat) (x : Rw), V[k]? = some x → ∃ y, Z[k]? = some y ∧ y.path = x.path ∧ y.kind = x.kind ∧ y.mode = x.mode) := Lib.hid (fun k x hx => by
    have h := hat x (List.mem_of_getElem? hx)
    exact ⟨_, by rw [heq, List.getElem?_map, hx]; rfl, h.1, h.2.1, h.2.2.1⟩)
  have OFZ := Lib.hid (fun (A : Option Addr) (c : Nat) (w : World) (hE : Env w) (hR : RT w A c Z) => of_any A c Z (n + m + m) w hE hR HZI.out.ok (by omega) (fun r hr => by have := HZI.out.ids r hr; omega) (fun r hr => by have := HZI.out.size r hr; omega))
  have OFV := Lib.hid (fun (A : Option Addr) (c : Nat) (w : World) (hE : Env w) (hR : RT w A c V) => of_any A c V (n + m) w hE hR HVI.out.ok (by omega) (fun r hr => by have := HVI.out.ids r hr; omega) (fun r hr => by have := HVI.out.size r hr; omega))
  rw [hus, hzl] at OFZ
  rcases hU5 : us V with ⟨ub, ui, ud, ul⟩
  rw [hU5] at OFZ OFV
  have hfu0 : 0 ≤ sumTo (fIn U) m.toNat := sumTo_nonneg _ (fun i _ _ => by rcases fIn_bound U i with h | h <;> omega)
  obtain ⟨l, hl⟩ : ∃ l : Nat, sumTo (fIn U) m.toNat = l := ⟨_, (Int.toNat_of_nonneg hfu0).symm⟩
  rw [hl] at hgn
  have GN : Hid (∀ (A6 : Option Addr) (c6 : Nat) (A8 : Option Addr) (c8 : Nat) (w : World), RT w A6 c6 V → RT w A8 c8 Z → Calls Tryd.prog 33 #[.agg #[.slice A6 (List.length V) c6, .int .i64 (n + m)], .agg #[.slice A8 (List.length V) c8, .int .i64 (n + m + m)]] w fun e w' => ∃ A' c', e = .returned (.slice A' l c') ∧ Below w.heap.size w w') := Lib.hid (fun A6 c6 A8 c8 w hA hB => by
    have h := gone_any A6 c6 V (n + m) A8 c8 Z (n + m + m) (n + m).toNat (n + m + m).toNat w hA hB HVI.out.cons (HVI.out.toIds (by omega)) (by omega) (by omega) HZI.out.cons (HZI.out.toIds (by omega)) (by omega) (by omega)
    rw [hzl] at h
    refine h.mono ?_
    rintro e w' ⟨A', c', S, rfl, _, h1, _, hb⟩
    rw [hgn] at h1
    have : S.length = l := by omega
    rw [this]
    exact ⟨A', c', rfl, hb⟩)
  have FU := Lib.hid (fun (w : World) (hR : RT w B2 d2 U) => files_any B2 d2 U m m.toNat w hR HIB.out.cons (HIB.out.toIds hbU.2.1) (by omega) (by omega))
  rw [hl] at FU
  clear hc hvi hlen hc2 heq hat hus hgn hV hZ hvi2 hmv2 hzl hU5 hfu0 hl
  go_wp2_with fail
  refine (OV.out _ (HE.out.below HMW0.out.below) HMW0.out.tA HMW0.out.tB).mono ?_
  rintro e w6 ⟨A6, c6, rfl, hR6, hb6⟩
  have HW6 := Lib.hid (HMW0.out.next hb6)
  have HR6 := Lib.hid hR6
  clear a0 a1 hb6 hR6 HMW0
  obtain ⟨u0, u1, hnu6⟩ := tree_cells HW6.out.bB
  go_wp2_with fail
  generalize hw7 : w6.alloc (.cells #[.slice A6 V.length c6, .int .i64 (n + m)] 35) = w7
  have hbl : Below w6.heap.size w6 w7 := by rw [← hw7]; exact (Below.refl _ _).alloc (Nat.le_refl _) _
  have ht7 : w7.heap[w6.heap.size]? = some (.cells [.slice A6 V.length c6, .int .i64 (n + m)].toArray 35 (0, 0)) := by rw [← hw7]; exact heap_alloc_new w6 _
  have HW7 := Lib.hid (HW6.out.next hbl)
  have HR7 := Lib.hid (HR6.out.below hbl)
  have HT7 := Lib.hid ht7
  clear hw7 hbl ht7 HR6 HW6 OV u0 u1
  refine (OV2.out A6 c6 _ (HE.out.below HW7.out.below) HR7.out HW7.out.tB).mono ?_
  rintro e w8 ⟨A8, c8, rfl, hR8, hb8⟩
  have HW8 := Lib.hid (HW7.out.next hb8)
  have HRV8 := Lib.hid (HR7.out.below hb8)
  have HRZ8 := Lib.hid hR8
  have HT8 := Lib.hid ((hb8.block _ (blk_lt HT7.out)).trans HT7.out)
  have hn68 : w6.heap.size < w8.heap.size := blk_lt HT8.out
  clear hb8 hR8 HW7 HR7 HT7 OV2
  go_upto_region 11 with fail
  generalize hw9 : w8.alloc (.cells #[.slice A8 V.length c8, .int .i64 (n + m + m)] 35) = w9
  have hbl : Below w8.heap.size w8 w9 := by rw [← hw9]; exact (Below.refl _ _).alloc (Nat.le_refl _) _
  have ht9 : w9.heap[w8.heap.size]? = some (.cells [.slice A8 V.length c8, .int .i64 (n + m + m)].toArray 35 (0, 0)) := by rw [← hw9]; exact heap_alloc_new w8 _
  have HW9 := Lib.hid (HW8.out.next hbl)
  have HRV9 := Lib.hid (HRV8.out.below hbl)
  have HRZ9 := Lib.hid (HRZ8.out.below hbl)
  have HT9 := Lib.hid ((hbl.block _ (blk_lt HT8.out)).trans HT8.out)
  have HZ9 := Lib.hid ht9
  obtain ⟨t0, t1, hnt9⟩ := tree_cells HT9.out
  obtain ⟨z0, z1, hnz9⟩ := tree_cells ht9
  clear hw9 hbl ht9 HW8 HRV8 HRZ8 HT8
  have C1 := Lib.hid (fun (W : World) (hb : Below w9.heap.size w9 W) => OFZ.out A8 c8 W (HE.out.below (bch HW9.out.below hb)) (HRZ9.out.below hb))
  have C2 := Lib.hid (fun (W : World) (hb : Below w9.heap.size w9 W) => OFV.out A6 c6 W (HE.out.below (bch HW9.out.below hb)) (HRV9.out.below hb))
  go_cut [65] (fun s65 wx => s65 = .bool false ∧ Below w9.heap.size w9 wx)
  case first =>
    go_region_held3 (fun w' => Below w9.heap.size w9 w' ∧ w'.cell? ⟨w6.heap.size, 0, none⟩ = some (.slice A6 V.length c6) ∧ w'.cell? ⟨w6.heap.size, 1, none⟩ = some (.int .i64 (n + m)) ∧ w'.cell? ⟨w8.heap.size, 0, none⟩ = some (.slice A8 V.length c8) ∧ w'.cell? ⟨w8.heap.size, 1, none⟩ = some (.int .i64 (n + m + m)))
      ((go_split_ands; refine ⟨?_, ?_, ?_, ?_, ?_⟩; (first | exact (Below.refl _ _).drew | exact Below.refl _ _ | exact bch (by assumption) hbn); all_goals (first | assumption | exact (hbn.cell (lt_of_below (a := w9) (by assumption) (by assumption))).trans (by assumption))))
      (first
        | (go_at_call 19; with_reducible refine (C1.out _ (by first | exact (Below.refl _ _).drew | assumption | exact And.left (by assumption))).mono ?_; rintro e w10 ⟨rfl, hbn⟩)
        | (go_at_call 19; with_reducible refine (C2.out _ (by first | exact (Below.refl _ _).drew | assumption | exact And.left (by assumption))).mono ?_; rintro e w10 ⟨rfl, hbn⟩))
    all_goals
      have hz : Below w9.heap.size w9 w10 := by first | assumption | exact And.left (by assumption) | exact bch (by assumption) hbn
      go_wp2_with fail
      go_meet
      exact ⟨rfl, hz⟩
  case rest =>
    obtain ⟨rfl, hbc⟩ := hcut
    obtain ⟨wz, rfl⟩ : ∃ wz : World, wz = wc := ⟨wc, rfl⟩
    have HWZ := Lib.hid (HW9.out.next hbc)
    have HRVZ := Lib.hid (HRV9.out.below hbc)
    have HRZZ := Lib.hid (HRZ9.out.below hbc)
    have HTZ := Lib.hid ((hbc.block _ (blk_lt HT9.out)).trans HT9.out)
    have HZZ := Lib.hid ((hbc.block _ (blk_lt HZ9.out)).trans HZ9.out)
    clear hbc HW9 HRV9 HRZ9 HT9 HZ9 C1 C2 t0 t1 z0 z1
    obtain ⟨t0, t1, hntz⟩ := tree_cells HTZ.out
    obtain ⟨z0, z1, hnzz⟩ := tree_cells HZZ.out
    go_wp2_with fail
    go_loopg [69] V.length (fun g i wr => ∃ k : Nat, g = V.length - k ∧ i = .int .i64 k ∧ k ≤ V.length ∧ Hid (Below wz.heap.size wz wr))
    case atStart => exact ⟨0, rfl, rfl, Nat.zero_le _, Lib.hid (Below.refl _ _)⟩
    case round =>
      obtain ⟨k, rfl, rfl, hk, HBR⟩ := hrel
      have tr := (HBR.out.block _ (blk_lt HTZ.out)).trans HTZ.out
      have zr := (HBR.out.block _ (blk_lt HZZ.out)).trans HZZ.out
      have HWR := Lib.hid (HWZ.out.next HBR.out)
      have HRVR := Lib.hid (HRVZ.out.below HBR.out)
      have HRZR := Lib.hid (HRZZ.out.below HBR.out)
      clear t0 t1 z0 z1
      obtain ⟨t0, t1, hntr⟩ := tree_cells tr
      obtain ⟨z0, z1, hnzr⟩ := tree_cells zr
      clear tr zr
      by_cases hlt : k < V.length
      case pos =>
        have hx : V[k]? = some V[k] := List.getElem?_eq_getElem hlt
        generalize V[k] = x at hx
        obtain ⟨y, hy, hyp, hyk, hym⟩ := HMAP.out k x hx
        have hzl0 : 0 < Z.length := by have := (List.getElem?_eq_some_iff.1 hy).1; omega
        obtain ⟨b, o, rfl, hbw⟩ := HRVR.out.pos (by omega)
        obtain ⟨b2, o2, rfl, hbw2⟩ := HRZR.out.pos hzl0
        have hc6 := HRVR.out.cap
        have hc8 := HRZR.out.cap
        obtain ⟨path, id, kind, mode, size, made⟩ := x
        obtain ⟨path2, id2, kind2, mode2, size2, made2⟩ := y
        simp only at hyp hyk hym
        subst hyp hyk hym
        obtain ⟨q0, q1, q2, q3, -⟩ := HRVR.out.cells hx
        obtain ⟨r0, r1, r2, r3, -⟩ := HRZR.out.cells hy
        have hk0 : (0 : Int) ≤ (k : Int) := by omega
        have hk1 : (k : Int) < (V.length : Int) := by omega
        clear hx hy q1 r1
        go_upto_region 16 with fail
        go_quiet (fail)
        go_wp2_with fail
        go_roundg (V.length - (k + 1))
        case measure => omega
        case rel => exact ⟨k + 1, rfl, by go_num, by omega, Lib.hid (by first | exact HBR.out.drew | exact below_drewN HBR.out _)⟩
      case neg =>
        have D1 := Lib.hid (fun (W : World) (hb : Below wr.heap.size wr W) => GN.out A6 c6 A8 c8 W (HRVR.out.below hb) (HRZR.out.below hb))
        have D2 := Lib.hid (fun (W : World) (hb : Below wr.heap.size wr W) => FU.out W (HWR.out.tB.below hb))
        obtain ⟨u0, u1, hnur⟩ := tree_cells HWR.out.bB
        have HBW := Lib.hid HWR.out.below
        obtain ⟨wy, rfl⟩ : ∃ wy : World, wy = wr := ⟨wr, rfl⟩
        go_upto_region 19 with fail
        go_region_held3 (fun w' => Below wy.heap.size wy w' ∧ w'.cell? ⟨w6.heap.size, 0, none⟩ = some (.slice A6 V.length c6) ∧ w'.cell? ⟨w6.heap.size, 1, none⟩ = some (.int .i64 (n + m)) ∧ w'.cell? ⟨w8.heap.size, 0, none⟩ = some (.slice A8 V.length c8) ∧ w'.cell? ⟨w8.heap.size, 1, none⟩ = some (.int .i64 (n + m + m)) ∧ w'.cell? ⟨w4.heap.size, 0, none⟩ = some (.slice B2 U.length d2) ∧ w'.cell? ⟨w4.heap.size, 1, none⟩ = some (.int .i64 m))
          ((go_split_ands; refine ⟨?_, ?_, ?_, ?_, ?_, ?_, ?_⟩; (first | exact (Below.refl _ _).drew | exact Below.refl _ _ | exact bch (by assumption) hbn); all_goals (first | assumption | exact (hbn.cell (lt_of_below (a := wy) (by assumption) (by assumption))).trans (by assumption))))
          (first
            | (go_at_call 33; with_reducible refine (D1.out _ (by first | exact (Below.refl _ _).drew | assumption | exact And.left (by assumption))).mono ?_; rintro e w12 ⟨A12, c12, rfl, hbn⟩)
            | (go_at_call 32; with_reducible refine (D2.out _ (by first | exact (Below.refl _ _).drew | assumption | exact And.left (by assumption))).mono ?_; rintro e w12 ⟨rfl, hbn⟩))
        all_goals
          have hz : Below wy.heap.size wy w12 := by first | assumption | exact And.left (by assumption) | exact bch (by assumption) hbn
          go_wp2_with fail
          go_ret
          exact ⟨rfl, bch HBW.out hz⟩

end Go.Proofs.YtcniahbliadgiaaDoor

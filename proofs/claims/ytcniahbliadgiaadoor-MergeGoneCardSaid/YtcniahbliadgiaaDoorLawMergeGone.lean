/-
  pannierlaw17.MergeGone: the walk.
-/
import Derived.Test.YtcniahbliadgiaaDoorLawM
namespace Go.Proofs.YtcniahbliadgiaaDoor
open Go.RowKit
open Go.Proofs.PnKit Go.Proofs.PnPath

/-- what is still to come of what is gone: how many, how much -/
def pendN (M V : List Rw) (left : Lit → Bool) (j : Int) : Int := if left (.int .i64 j) = true ∧ fIn M j = 1 ∧ fIn V j = 0 then 1 else 0
def pendS (M V : List Rw) (left : Lit → Bool) (j : Int) : Int := if left (.int .i64 j) = true ∧ fIn M j = 1 ∧ fIn V j = 0 then szOf M j else 0
def strk (left : Lit → Bool) (x : Int) : Lit → Bool := fun z => left z && !z.sameKey (.int .i64 x)
theorem strk_at (left : Lit → Bool) (x : Int) : strk left x (.int .i64 x) = false := by
  show (left (.int .i64 x) && !(Lit.int .i64 x).sameKey (.int .i64 x)) = false
  rw [WideAt.sameKey_self (a := .int .i64 x) (by exact True.intro)]; simp
theorem strk_ne (left : Lit → Bool) {x j : Int} (h : j ≠ x) : strk left x (.int .i64 j) = left (.int .i64 j) := by
  show (left (.int .i64 j) && !(Lit.int .i64 j).sameKey (.int .i64 x)) = _
  rw [Maps.sameKey_ne (by intro h2; injection h2 with _ h2; exact h h2)]; simp
theorem pend_hit {M V : List Rw} {left : Lit → Bool} {x : Int} {N : Nat} (hx : 0 ≤ x ∧ x < N) (hl : left (.int .i64 x) = true) (hf : fIn M x = 1) (hv : fIn V x = 0) :
    sumTo (pendN M V left) N = sumTo (pendN M V (strk left x)) N + 1 ∧ sumTo (pendS M V left) N = sumTo (pendS M V (strk left x)) N + szOf M x := by
  constructor
  · rw [sumTo_one (f := pendN M V left) (g := pendN M V (strk left x)) (a := x) (fun i hi => by unfold pendN; rw [strk_ne left hi]) hx.1 N, if_pos hx.2]
    unfold pendN
    rw [if_pos ⟨hl, hf, hv⟩, if_neg (by rw [strk_at]; rintro ⟨h, _⟩; cases h)]; omega
  · rw [sumTo_one (f := pendS M V left) (g := pendS M V (strk left x)) (a := x) (fun i hi => by unfold pendS; rw [strk_ne left hi]) hx.1 N, if_pos hx.2]
    unfold pendS
    rw [if_pos ⟨hl, hf, hv⟩, if_neg (by rw [strk_at]; rintro ⟨h, _⟩; cases h)]; omega
theorem pend_miss {M V : List Rw} {left : Lit → Bool} {x : Int} {N : Nat} (hv : fIn V x ≠ 0) :
    sumTo (pendN M V left) N = sumTo (pendN M V (strk left x)) N ∧ sumTo (pendS M V left) N = sumTo (pendS M V (strk left x)) N := by
  constructor
  · refine sumTo_congr N fun i _ _ => ?_
    unfold pendN
    by_cases e : i = x
    · subst e; rw [if_neg (fun h => hv h.2.2), if_neg (fun h => hv h.2.2)]
    · rw [strk_ne left e]
  · refine sumTo_congr N fun i _ _ => ?_
    unfold pendS
    by_cases e : i = x
    · subst e; rw [if_neg (fun h => hv h.2.2), if_neg (fun h => hv h.2.2)]
    · rw [strk_ne left e]
theorem pend_start {M V : List Rw} {left : Lit → Bool} (h : ∀ j : Int, left (.int .i64 j) = (conF M j).isSome) (N : Nat) : sumTo (pendN M V left) N = sumTo (gIn M V) N ∧ sumTo (pendS M V left) N = sumTo (gSz M V) N := by
  constructor
  · refine sumTo_congr N fun i _ _ => ?_
    unfold pendN gIn
    rw [h, conF_isSome]
    by_cases e : fIn M i = 1 <;> simp [e]
  · refine sumTo_congr N fun i _ _ => ?_
    unfold pendS gSz
    rw [h, conF_isSome]
    by_cases e : fIn M i = 1 <;> simp [e]
theorem pend_end {M V : List Rw} {left : Lit → Bool} (h : ∀ kl, left kl = false) (N : Nat) : sumTo (pendN M V left) N = 0 ∧ sumTo (pendS M V left) N = 0 := by
  constructor
  · rw [sumTo_congr (g := fun _ => 0) N (fun i _ _ => by unfold pendN; rw [if_neg (by rw [h]; rintro ⟨h, _⟩; cases h)]), sumTo_zero]
  · rw [sumTo_congr (g := fun _ => 0) N (fun i _ _ => by unfold pendS; rw [if_neg (by rw [h]; rintro ⟨h, _⟩; cases h)]), sumTo_zero]
theorem pend_bound {M V : List Rw} {left : Lit → Bool} {n : Int} (hI : Inv M n) (N : Nat) : 0 ≤ sumTo (pendN M V left) N ∧ sumTo (pendN M V left) N ≤ N ∧ 0 ≤ sumTo (pendS M V left) N ∧ sumTo (pendS M V left) N ≤ 1048576 * N := by
  have hs : ∀ i, 0 ≤ szOf M i ∧ szOf M i ≤ 1048576 := fun i => by
    rcases szOf_cases i M with ⟨x, hx, _, e⟩ | ⟨_, e⟩
    · rw [e]; exact own_nonneg hI hx
    · rw [e]; decide
  have h1 : ∀ k : Nat, sumTo (pendN M V left) k ≤ k := fun k => by
    induction k with
    | zero => exact Int.le_refl _
    | succ k ih =>
      have : pendN M V left k ≤ 1 := by unfold pendN; split <;> omega
      simp only [sumTo]; push_cast; omega
  have h2 : ∀ k : Nat, sumTo (pendS M V left) k ≤ 1048576 * k := fun k => by
    induction k with
    | zero => exact Int.le_refl _
    | succ k ih =>
      have : pendS M V left k ≤ 1048576 := by have := hs k; unfold pendS; split <;> omega
      simp only [sumTo]; push_cast; omega
  refine ⟨sumTo_nonneg N fun i _ _ => ?_, h1 N, sumTo_nonneg N fun i _ _ => ?_, h2 N⟩
  · unfold pendN; split <;> omega
  · have := hs i; unfold pendS; split <;> omega
theorem below_none {w w' : World} (h : Below w.heap.size w w') : w.grownBy w' none := ⟨h.os, h.tape, h.output, h.size, fun j hj _ => h.block j hj⟩
theorem isum_drop {S : List Int} {k : Nat} {s : Int} (h : S[k]? = some s) : isum (S.drop k) = s + isum (S.drop (k + 1)) := by
  obtain ⟨hlt, rfl⟩ := List.getElem?_eq_some_iff.1 h
  rw [List.drop_eq_getElem_cons hlt]; rfl

attribute [local go_sem ↓] Go.wp_at_zero Go.wp_at_succ

set_option maxRecDepth 100000 in
set_option maxHeartbeats 8000000 in
theorem gonem_walk (A : Option Addr) (c : Nat) (La : List Oq) (B : Option Addr) (d : Nat) (Lb : List Oq) (w : World) (hE : Env w) (hRa : RQ w A c La) (hRb : RQ w B d Lb) :
    Calls Tryd.prog 11 #[.slice A (List.length La) c, .slice B (List.length Lb) d] w fun e w' => e = .returned (.bool true) ∧ Below w.heap.size w w' := by
  have HRA := Lib.hid hRa
  have HRB := Lib.hid hRb
  have HE := Lib.hid hE
  clear hRa hRb hE
  go_enter Tryd.func11, Tryd.ntmps11
  go_wp2_with fail
  refine (lays_any _ HE.out).mono ?_
  rintro e w1 ⟨rfl, hb1⟩
  have HB1 := Lib.hid hb1
  clear hb1
  by_cases hgo : La.length ≤ 30 ∧ Lb.length ≤ 30
  case neg =>
    have hg2 : 30 < La.length ∨ (La.length ≤ 30 ∧ 30 < Lb.length) := by omega
    clear hgo
    rcases hg2 with h | ⟨h, h2⟩
    all_goals
      go_wp2_with fail
      go_ret
      exact ⟨rfl, HB1.out⟩
  obtain ⟨hla, hlb⟩ := hgo
  have HGA := Lib.hid (plantM_grown 0 La)
  have HGB := Lib.hid (plantM_grown 5000 Lb)
  have PA := Lib.hid (fun (w : World) (hE : Env w) (hR : RQ w A c La) => plantedM_any A c La 0 w hE hR (by omega) (by decide))
  have PB := Lib.hid (fun (w : World) (hE : Env w) (hR : RQ w B d Lb) => plantedM_any B d Lb 5000 w hE hR (by omega) (by decide))
  rcases hM : plantM 0 La with ⟨M, n⟩
  rcases hU : plantM 5000 Lb with ⟨U, m⟩
  rcases hTA : plantW La with ⟨TA, na⟩
  rcases hTB : plantW Lb with ⟨TB, nb⟩
  rw [hM, hTA] at PA
  rw [hU, hTB] at PB
  rw [hM] at HGA
  rw [hU] at HGB
  have hbM : M.length ≤ 4530 ∧ 0 ≤ n ∧ n ≤ 4530 := by
    have h1 := HGA.out.len
    have h2 := HGA.out.next
    have h3 := HGA.out.nat
    simp only at h1 h2 h3; omega
  have hbU : U.length ≤ 4530 ∧ 0 ≤ m ∧ m ≤ 4530 := by
    have h1 := HGB.out.len
    have h2 := HGB.out.next
    have h3 := HGB.out.nat
    simp only at h1 h2 h3; omega
  have HIA : Hid (Inv M n) := Lib.hid HGA.out.inv
  have HIB : Hid (Inv U m) := Lib.hid HGB.out.inv
  clear hM hU hTA hTB HGA HGB
  go_wp2_with fail
  refine (PA.out _ (HE.out.below HB1.out) (HRA.out.below HB1.out)).mono ?_
  rintro e w2 ⟨A2, c2, Ar, cr, rfl, hRM, hRT, hb2⟩
  have HB2 := Lib.hid (bch HB1.out hb2)
  have HRM := Lib.hid hRM
  have HRT := Lib.hid hRT
  have hal := fun o p : Obj => ((Below.refl w2.heap.size w2).alloc (Nat.le_refl _) o).alloc (by simp) p
  clear hRM hRT hb2 PA HRA
  go_wp2_with fail
  refine (PB.out _ (HE.out.below (bch HB2.out (hal _ _))) (HRB.out.below (bch HB2.out (hal _ _)))).mono ?_
  rintro e w4 ⟨B2, d2, Br, dr, rfl, hRU, hRV, hb4⟩
  obtain ⟨bA, rA⟩ := two_blk (a := [.slice A2 M.length c2, .int .i64 n]) (b := [.slice Ar TA.length cr, .int .i64 na]) hb4
  have HB4 := Lib.hid (bch (bch HB2.out (hal _ _)) hb4)
  have HRM4 := Lib.hid (HRM.out.below (bch (hal _ _) hb4))
  have HRT4 := Lib.hid (HRT.out.below (bch (hal _ _) hb4))
  have HRU := Lib.hid hRU
  have HRV := Lib.hid hRV
  have BA := Lib.hid bA
  have RA := Lib.hid rA
  clear hRU hRV hb4 bA rA PB HRB hal HRM HRT
  have hal := fun o p : Obj => ((Below.refl w4.heap.size w4).alloc (Nat.le_refl _) o).alloc (by simp) p
  have HAL := Lib.hid hal
  clear hal
  have hmw : MW w ((w4.alloc (.cells #[.slice B2 U.length d2, .int .i64 m] 35)).alloc (.cells #[.slice Br TB.length dr, .int .i64 nb] 64)) w2.heap.size w4.heap.size A2 c2 M n Ar cr TA na B2 d2 U m Br dr TB nb := by
    refine ⟨?_, ?_, ?_, ?_, HRM4.out.below (HAL.out _ _), HRT4.out.below (HAL.out _ _), HRU.out.below (HAL.out _ _), HRV.out.below (HAL.out _ _), bch HB4.out (HAL.out _ _)⟩
    · exact ((HAL.out _ _).block _ (blk_lt BA.out)).trans BA.out
    · exact ((HAL.out _ _).block _ (blk_lt RA.out)).trans RA.out
    · exact heap_alloc2_old w4 _ _
    · exact heap_alloc2_new w4 _ _
  have HMW0 := Lib.hid hmw
  have hg1 : w2.heap.size + 1 < w4.heap.size := blk_lt RA.out
  clear hmw BA RA HRM4 HRT4 HRU HRV HB4 HAL HB2
  have hsz5 : ((w4.alloc (.cells #[.slice B2 U.length d2, .int .i64 m] 35)).alloc (.cells #[.slice Br TB.length dr, .int .i64 nb] 64)).heap.size = w4.heap.size + 1 + 1 := by simp
  have OV := Lib.hid (fun (w : World) (hE : Env w) (hA : RT w A2 c2 M) (hB : RT w B2 d2 U) => Over_any A2 c2 M n B2 d2 U m w hE hA hB HIA.out.ok HIB.out.ok (by omega) (by omega) (fun r hr => by have := HIB.out.ids r hr; omega) (by omega) (by omega))
  have G0 : ∀ (L : List Rw) (k : Int), Inv L k → 0 ≤ k → k ≤ 10000 → L.length ≤ 10000 → ∀ (A : Option Addr) (c : Nat) (A' : Option Addr) (c' : Nat) (w : World), RT w A c L → RT w A' c' L → Calls Tryd.prog 33 #[.agg #[.slice A (List.length L) c, .int .i64 k], .agg #[.slice A' (List.length L) c', .int .i64 k]] w fun e w' => ∃ A' c', e = .returned (.slice A' 0 c') ∧ Below w.heap.size w w' := fun L k hI hk hk2 hL A c A' c' w h1 h2 =>
    (gone_any A c L k A' c' L k k.toNat k.toNat w h1 h2 hI.cons (hI.toIds hk) (by omega) (by omega) hI.cons (hI.toIds hk) (by omega) (by omega)).mono (by
      rintro e w' ⟨A', c', S, rfl, _, h1, _, hb⟩
      rw [gone_self] at h1
      have : S.length = 0 := by omega
      rw [this]
      exact ⟨A', c', rfl, hb⟩)
  have HG0 := Lib.hid G0
  clear G0
  have hA4 : w4.heap[w2.heap.size]? = some (.cells [.slice A2 M.length c2, .int .i64 n].toArray 35 (0, 0)) := by
    have h := HMW0.out.bA
    rw [Below.heap_alloc _ _ _ (by simp; omega), Below.heap_alloc _ _ _ (by omega)] at h
    exact h
  obtain ⟨a0, a1, hna⟩ := tree_cells hA4
  have hn4 : w4.heap.size < w4.heap.size + 1 := Nat.lt_succ_self _
  clear hA4
  rcases clash_or M U with hc | hc
  case' inr =>
    rw [mergeV_clash HIA.out HIB.out hc] at OV
    simp only at OV
    clear hc
    go_wp2_with fail
    refine (OV.out _ (HE.out.below HMW0.out.below) HMW0.out.tA HMW0.out.tB).mono ?_
    rintro e w6 ⟨A6, c6, rfl, hR6, hb6⟩
    have HW6 := Lib.hid (HMW0.out.next hb6)
    have HR6 := Lib.hid hR6
    clear a0 a1
    obtain ⟨a0, a1, hna6⟩ := tree_cells HW6.out.bA
    clear hb6 hR6 HMW0
    go_wp2_with fail
    have hbl := fun ob : Obj => (Below.refl w6.heap.size w6).alloc (Nat.le_refl _) ob
    refine (HG0.out M n HIA.out hbM.2.1 (by omega) (by omega) A2 c2 A6 c6 _ (HW6.out.tA.below (hbl _)) (HR6.out.below (hbl _))).mono ?_
    rintro e w8 ⟨A8, c8, rfl, hb8⟩
    have HB8 := Lib.hid (bch HW6.out.below (bch (hbl _) hb8))
    clear hb8 hbl a0 a1
    go_wp2_with fail
    go_ret
    exact ⟨rfl, HB8.out⟩
  have hvi := merge_inv HIA.out HIB.out hbM.2.1 hbU.2.1 hc
  have hnm := fun (i : Int) (hi : i < n) (hf : fIn M i = 1) => merge_named HIA.out HIB.out hc hi hf
  have hlen := overR_length (more := n) U HIA.out.ok.sorted HIB.out.ok.sorted hc
  rw [mergeV_ok HIA.out HIB.out hc] at OV
  simp only at OV
  obtain ⟨V, hV⟩ : ∃ V, (overR M n U).1 = V := ⟨_, rfl⟩
  rw [hV] at hvi hnm OV hlen
  have hvl : V.length ≤ 9060 := by omega
  have HVI := Lib.hid hvi
  have HNM := Lib.hid hnm
  clear hc hvi hnm hV hlen
  go_wp2_with fail
  refine (OV.out _ (HE.out.below HMW0.out.below) HMW0.out.tA HMW0.out.tB).mono ?_
  rintro e w6 ⟨A6, c6, rfl, hR6, hb6⟩
  have HW6 := Lib.hid (HMW0.out.next hb6)
  have HR6 := Lib.hid hR6
  clear a0 a1
  obtain ⟨a0, a1, hna6⟩ := tree_cells HW6.out.bA
  clear hb6 hR6 HMW0
  go_wp2_with fail
  clear a0 a1
  generalize hw7 : w6.alloc (.cells #[.slice A6 V.length c6, .int .i64 (n + m)] 35) = w7
  have hbl : Below w6.heap.size w6 w7 := by rw [← hw7]; exact (Below.refl _ _).alloc (Nat.le_refl _) _
  have ht7 : w7.heap[w6.heap.size]? = some (.cells [.slice A6 V.length c6, .int .i64 (n + m)].toArray 35 (0, 0)) := by rw [← hw7]; exact heap_alloc_new w6 _
  have HW7 := Lib.hid (HW6.out.next hbl)
  have HR7 := Lib.hid (HR6.out.below hbl)
  have HT7 := Lib.hid ht7
  clear hw7 hbl ht7 HR6 HW6 OV
  have hNn : (n.toNat : Int) = n := Int.toNat_of_nonneg hbM.2.1
  refine (contents_any A2 c2 M n n.toNat _ HW7.out.tA HIA.out.cons (HIA.out.toIds hbM.2.1) (by omega) (by omega)).mono ?_
  rintro e w8 ⟨g1, rfl, hg1, hM8, hb8⟩
  have HB8 := Lib.hid hb8
  have hg1l := hM8.lt
  obtain ⟨⟨D, hown, -, hhas, hat⟩, hrng⟩ := hM8
  have HO := Lib.hid hown
  have HH := Lib.hid hhas
  have HAT := Lib.hid hat
  have HRN := Lib.hid hrng
  clear hb8 hown hhas hat hrng
  go_wp2_with (at_range; refine wpList_range_own _ rfl _ 78 rfl 3 40 intKeyed Tryd.underlying78 conElem g1 M.length D rfl HO.out ?_)
  intro w0 hrg0 hgr0 hs0
  generalize hrr : w8.heap.size = r at hrg0 hs0 hg1l ⊢
  have HRR := Lib.hid hrr
  have HB0 := Lib.hid (HB8.out.grown hgr0 HB8.out.size (fun j hj => by cases hj))
  have HRG0 := Lib.hid hrg0
  clear hrr hgr0 hrg0
  have hst := pend_start (M := M) (V := V) (left := Maps.has D) HH.out n.toNat
  obtain ⟨CN, hCN⟩ : ∃ CN, sumTo (gIn M V) n.toNat = CN := ⟨_, rfl⟩
  obtain ⟨CS, hCS⟩ : ∃ CS, sumTo (gSz M V) n.toNat = CS := ⟨_, rfl⟩
  rw [hCN, hCS] at hst
  have HST := Lib.hid hst
  have HCN := Lib.hid hCN
  have HCS := Lib.hid hCS
  have hcb := pend_bound (V := V) (left := Maps.has D) HIA.out n.toNat
  rw [hst.1, hst.2] at hcb
  have hcb2 : 0 ≤ CN ∧ CN ≤ 4530 ∧ 0 ≤ CS ∧ CS ≤ 10000000000 := by omega
  clear hst hCN hCS hcb
  go_wp2_with fail
  try go_frame
  go_loopg [11, 12] (Maps.size D) (fun g bx nx wr => ∃ (left : Lit → Bool) (x y : Int), bx = .int .i64 x ∧ nx = .int .i64 y ∧ 0 ≤ x ∧ x ≤ CS ∧ 0 ≤ y ∧ y ≤ CN ∧ Hid (y + sumTo (pendN M V left) n.toNat = CN ∧ x + sumTo (pendS M V left) n.toNat = CS) ∧ Hid (wr.ranges Tryd.prog 3 conElem g1 r M.length D left g) ∧ Hid (Below w7.heap.size w7 wr))
  case atStart =>
    exact ⟨_, 0, 0, rfl, rfl, Int.le_refl _, hcb2.2.2.1, Int.le_refl _, hcb2.1, Lib.hid ⟨by rw [HST.out.1]; omega, by rw [HST.out.2]; omega⟩, HRG0, HB0⟩
  case round =>
    obtain ⟨left, x, y, rfl, rfl, hx0, hx1, hy0, hy1, HPD, HRG, HBL⟩ := hrel
    go_wp2_with (at_next; refine wpList_next_con _ rfl _ rfl g1 r M.length D left _ rfl HRG.out ?_ ?_)
    case refine_2 =>
      intro key s w3 cnt3 hwx hlx hat3 hrg3 hlt3 hgr3 hen
      have hkey : fIn M key = 1 := by
        have h1 := Maps.has_true_of_atKey hat3
        rw [HH.out, conF_isSome] at h1
        simpa using h1
      have hkb := HRN.out key (by rw [conF_isSome, hkey]; rfl)
      have hsz : s = szOf M key := by
        rcases hf : conF M key with _ | u
        · have := conF_isSome M key
          rw [hf, hkey] at this; cases this
        · have h1 := HAT.out key u hf (.lit (.int .i64 0))
          rw [hat3] at h1
          simp only [DataW.lit.injEq, Lit.int.injEq, true_and] at h1
          rw [h1]; exact (conF_some HIA.out.cons hf).2
      have hsb : 0 ≤ s ∧ s ≤ 1048576 := by
        rw [hsz]
        rcases szOf_cases key M with ⟨z, hz, _, e⟩ | ⟨_, e⟩
        · rw [e]; exact own_nonneg HIA.out hz
        · rw [e]; decide
      have hbw3 : Below w7.heap.size w7 w3 := HBL.out.grown hgr3 HBL.out.size (fun j hj => by cases hj; have := HRR.out; have := HB8.out.size; omega)
      have HBW3 := Lib.hid hbw3
      have HRG3 := Lib.hid hrg3
      have HLT3 := Lib.hid hlt3
      have HKEY := Lib.hid hkey
      have HSZ := Lib.hid hsz
      have HLX := Lib.hid hlx
      have t3 := (hbw3.block _ (blk_lt HT7.out)).trans HT7.out
      obtain ⟨t0, t1, hnt⟩ := tree_cells t3
      have NMS := Lib.hid (fun (w : World) (hR : RT w A6 c6 V) => names_any A6 c6 V (n + m) key w hR (by omega))
      have hz0 : nameN V key = 0 ↔ fIn V key = 0 := nameN_zero.trans (HNM.out key (by omega) hkey)
      have HZ0 := Lib.hid hz0
      clear hwx hlx hat3 hrg3 hlt3 hgr3 hbw3 hkey hsz t3 hz0
      go_wp2_with fail
      have HAL := Lib.hid (fun ob : Obj => (Below.refl w3.heap.size w3).alloc (Nat.le_refl _) ob)
      refine (NMS.out _ (HR7.out.below (bch HBW3.out (HAL.out _)))).mono ?_
      rintro e w4' ⟨rfl, hb4⟩
      have hrg4 := HRG3.out.kept (below_none (bch (HAL.out _) hb4)) (by simp) (by simp)
      have HRG4 := Lib.hid hrg4
      have HB4 := Lib.hid (bch HBW3.out (bch (HAL.out _) hb4))
      have hcell : w4'.cell? ⟨w3.heap.size, 1, none⟩ = some (.int .i64 s) := blk_cell (cs := [.slice none 0 0, .int .i64 s]) ((hb4.block w3.heap.size (by simp)).trans (heap_alloc_new w3 _)) (j := 1) rfl
      clear hb4 hrg4 t0 t1 HAL
      rcases Nat.eq_zero_or_pos (nameN V key) with h0 | h0
      · have hb : ((nameN V key : Int) == 0) = true := by rw [h0]; rfl
        have hh := pend_hit (M := M) (V := V) (left := left) (x := key) (N := n.toNat) hkb HLX.out HKEY.out (HZ0.out.1 h0)
        rw [← HSZ.out] at hh
        have hpb := pend_bound (V := V) (left := strk left key) HIA.out n.toNat
        have hpd := HPD.out
        have hxs : x + s ≤ CS := by omega
        have hys : y + 1 ≤ CN := by omega
        have HN : Hid (y + 1 + sumTo (pendN M V (strk left key)) n.toNat = CN ∧ x + s + sumTo (pendS M V (strk left key)) n.toNat = CS) := Lib.hid (by omega)
        clear hh hpb hpd h0
        go_wp2_with fail
        go_roundg cnt3
        case measure => exact HLT3.out
        case rel => exact ⟨strk left key, x + s, y + 1, rfl, rfl, by omega, hxs, by omega, hys, HN, HRG4, HB4⟩
      · have hb : ((nameN V key : Int) == 0) = false := by simp; omega
        have hh := pend_miss (M := M) (V := V) (left := left) (x := key) (N := n.toNat) (fun e => by have := HZ0.out.2 e; omega)
        have HN : Hid (y + sumTo (pendN M V (strk left key)) n.toNat = CN ∧ x + sumTo (pendS M V (strk left key)) n.toNat = CS) := Lib.hid (by have := HPD.out; omega)
        clear hh h0 hcell
        go_wp2_with fail
        go_roundg cnt3
        case measure => exact HLT3.out
        case rel => exact ⟨strk left key, x, y, rfl, rfl, hx0, hx1, hy0, hy1, HN, HRG4, HB4⟩
    case refine_1 =>
      intro _ hl0
      have hend := pend_end (M := M) (V := V) hl0 n.toNat
      have hpd := HPD.out
      have hxy : x = CS ∧ y = CN := by omega
      obtain ⟨rfl, rfl⟩ := hxy
      have HWR := Lib.hid (HW7.out.next HBL.out)
      have HRR7 := Lib.hid (HR7.out.below HBL.out)
      have tr := (HBL.out.block _ (blk_lt HT7.out)).trans HT7.out
      obtain ⟨t0, t1, hnt⟩ := tree_cells tr
      obtain ⟨a0, a1, hna2⟩ := tree_cells HWR.out.bA
      have GA := Lib.hid (fun (w : World) (hA : RT w A2 c2 M) (hB : RT w A6 c6 V) => gone_any A2 c2 M n A6 c6 V (n + m) n.toNat (n + m).toNat w hA hB HIA.out.cons (HIA.out.toIds hbM.2.1) (by omega) (by omega) HVI.out.cons (HVI.out.toIds (by omega)) (by omega) (by omega))
      have HTR := Lib.hid tr
      clear hl0 hend hpd tr HPD HRG
      go_wp2_with fail
      refine (GA.out _ HWR.out.tA HRR7.out).mono ?_
      rintro e w9 ⟨A9, c9, S, rfl, hRC, hSl, hSs, hb9⟩
      rw [HCN.out] at hSl
      rw [HCS.out] at hSs
      have HW9 := Lib.hid (HWR.out.next hb9)
      have HR9 := Lib.hid (HRR7.out.below hb9)
      have HT9 := Lib.hid ((hb9.block _ (blk_lt HTR.out)).trans HTR.out)
      have HRC := Lib.hid hRC
      have HSL := Lib.hid hSl
      have HSS := Lib.hid hSs
      have hSl4 : S.length ≤ 4530 := by omega
      clear t0 t1 a0 a1 hRC hSl hSs hb9 HWR HRR7 HTR
      go_wp2_with fail
      obtain ⟨wz, rfl⟩ : ∃ wz : World, wz = wr := ⟨wr, rfl⟩
      go_loopg [11, 74] S.length (fun g bx i wr => ∃ (k : Nat) (X : Int), g = S.length - k ∧ bx = .int .i64 X ∧ i = .int .i64 k ∧ k ≤ S.length ∧ Hid (∃ q : Int, X = isum (S.drop k) + q * 18446744073709551616) ∧ Hid (-9223372036854775808 ≤ X ∧ X ≤ 9223372036854775807) ∧ Hid (Below w9.heap.size w9 wr))
      case atStart => exact ⟨0, x, rfl, rfl, rfl, Nat.zero_le _, Lib.hid ⟨0, by rw [List.drop_zero, HSS.out]; omega⟩, Lib.hid (by omega), Lib.hid (Below.refl _ _)⟩
      case round =>
        obtain ⟨k, X, rfl, rfl, rfl, hk, HX, HXB, HBR⟩ := hrel
        by_cases hlt : k < S.length
        case pos =>
          have hx : S[k]? = some S[k] := List.getElem?_eq_getElem hlt
          generalize S[k] = s at hx
          obtain ⟨bs, os, rfl, hbs, r0, r1⟩ := HRC.out.cell k s hx
          have q0 : wr.cell? ⟨bs, os + k * 2, none⟩ = some (.slice none 0 0) := (HBR.out.cell (p := ⟨bs, _, none⟩) hbs).trans r0
          have q1 : wr.cell? ⟨bs, os + k * 2 + 1, none⟩ = some (.int .i64 s) := (HBR.out.cell (p := ⟨bs, _, none⟩) hbs).trans r1
          have HDR := Lib.hid (isum_drop hx)
          clear hx r0 r1
          go_wp2_with fail
          go_roundg (S.length - (k + 1))
          case measure => omega
          case rel =>
            refine ⟨k + 1, wrap64 (X - s), rfl, rfl, by go_num, by omega, Lib.hid ?_, Lib.hid ?_, Lib.hid (HBR.out.alloc HBR.out.size _)⟩
            · obtain ⟨q, hq⟩ := HX.out
              have hd := HDR.out
              have : ∃ p : Int, wrap64 (X - s) = X - s + p * 18446744073709551616 := ⟨(wrap64 (X - s) - (X - s)) / 18446744073709551616, by unfold wrap64; omega⟩
              obtain ⟨p, hp⟩ := this
              exact ⟨q + p, by rw [hp, hq, hd, Int.add_mul]; omega⟩
            · unfold wrap64; omega
        case neg =>
          have hX0 : X = 0 := by
            obtain ⟨q, hq⟩ := HX.out
            rw [List.drop_eq_nil_of_le (by omega)] at hq
            have := HXB.out
            simp only [isum] at hq
            omega
          subst hX0
          have hyb : ((S.length : Int) == y) = true := by rw [HSL.out]; simp
          have HW10 := Lib.hid (HW9.out.next HBR.out)
          have HR10 := Lib.hid (HR9.out.below HBR.out)
          have tr := (HBR.out.block _ (blk_lt HT9.out)).trans HT9.out
          obtain ⟨t0, t1, hnt3⟩ := tree_cells tr
          have HT10 := Lib.hid tr
          clear tr HX HXB
          go_wp2_with fail
          refine (HG0.out V (n + m) HVI.out (by omega) (by omega) (by omega) A6 c6 A6 c6 _ HR10.out HR10.out).mono ?_
          rintro e w11 ⟨A11, c11, rfl, hb11⟩
          have HW11 := Lib.hid (HW10.out.next hb11)
          obtain ⟨u0, u1, hnu⟩ := tree_cells HW11.out.bB
          clear t0 t1 hb11
          go_wp2_with fail
          refine (HG0.out U m HIB.out hbU.2.1 (by omega) (by omega) B2 d2 B2 d2 _ HW11.out.tB HW11.out.tB).mono ?_
          rintro e w12 ⟨A12, c12, rfl, hb12⟩
          have HB12 := Lib.hid (bch HW11.out.below hb12)
          clear u0 u1 hb12
          go_wp2_with fail
          go_ret
          exact ⟨rfl, HB12.out⟩

end Go.Proofs.YtcniahbliadgiaaDoor

/-
  pannierlaw17.MergeKinds: the walk.
-/
import Derived.Test.YtcniahbliadgiaaDoorLawM
namespace Go.Proofs.YtcniahbliadgiaaDoor
open Go.RowKit
open Go.Proofs.PnKit Go.Proofs.PnPath

/-- is there a clash? -/
def anyC (M T : List Rw) : Bool := T.any (clashB M)
theorem anyC_snoc (M T : List Rw) (r : Rw) : anyC M (T ++ [r]) = (anyC M T || clashB M r) := by simp [anyC, List.any_append]
theorem anyC_no {M T : List Rw} (h : ∀ r ∈ T, ¬ clashR M r) : anyC M T = false := by
  unfold anyC
  rw [List.any_eq_false]
  intro r hr
  rw [clashB_iff]; exact h r hr
theorem anyC_yes {M T : List Rw} (h : ∃ r ∈ T, clashR M r) : anyC M T = true := by
  unfold anyC
  rw [List.any_eq_true]
  obtain ⟨r, hr, hc⟩ := h
  exact ⟨r, hr, clashB_iff.2 hc⟩
/-- what is a directory stays one, and what isn't never becomes one -/
theorem kinds_same {a b : List Rw} {n m : Int} (ha : Inv a n) (hb : Inv b m) {x o : Rw} (hx : x ∈ (mergeV (a, n) (b, m)).1) (ho : look a (key x) = some o) : (o.kind == 4) = (x.kind == 4) := by
  have hiff : (o.kind = 4 ↔ x.kind = 4) → (o.kind == 4) = (x.kind == 4) := fun h => by
    rw [Bool.eq_iff_iff]; simp [h]
  rcases clash_or a b with hc | hc
  · rw [mergeV_ok ha hb hc] at hx
    rcases (overR_mem ha.ok.sorted hb.ok.sorted hc).1 hx with ⟨r, hr, rfl⟩ | ⟨h1, _⟩
    · rw [resR_key] at ho
      exact hiff ((noclash_kind (hc r hr) ho).trans (resR_kind (hc r hr)).symm)
    · rw [look_of ha.ok.sorted h1] at ho
      obtain rfl := Option.some.inj ho; rfl
  · rw [mergeV_clash ha hb hc] at hx
    have hx' : x ∈ a := hx
    rw [look_of ha.ok.sorted hx'] at ho
    obtain rfl := Option.some.inj ho; rfl

attribute [local go_sem ↓] Go.wp_at_zero Go.wp_at_succ

set_option maxRecDepth 100000 in
set_option maxHeartbeats 8000000 in
theorem kindsm_walk (A : Option Addr) (c : Nat) (La : List Oq) (B : Option Addr) (d : Nat) (Lb : List Oq) (w : World) (hE : Env w) (hRa : RQ w A c La) (hRb : RQ w B d Lb) :
    Calls Tryd.prog 10 #[.slice A (List.length La) c, .slice B (List.length Lb) d] w fun e w' => e = .returned (.bool true) ∧ Below w.heap.size w w' := by
  have HRA := Lib.hid hRa
  have HRB := Lib.hid hRb
  have HE := Lib.hid hE
  clear hRa hRb hE
  go_enter Tryd.func10, Tryd.ntmps10
  go_wp2_with fail
  refine (lays_any _ HE.out).mono ?_
  rintro e w1 ⟨rfl, hb1⟩
  have HB1 := Lib.hid hb1
  clear hb1
  by_cases hgo : La.length ≤ 30 ∧ Lb.length ≤ 30
  case neg =>
    have hg2 : 30 < La.length ∨ (La.length ≤ 30 ∧ 30 < Lb.length) := by omega
    clear hgo
    rcases hg2 with h | ⟨h, h2⟩
    all_goals
      go_wp2_with fail
      go_ret
      exact ⟨rfl, HB1.out⟩
  obtain ⟨hla, hlb⟩ := hgo
  have HGA := Lib.hid (plantM_grown 0 La)
  have HGB := Lib.hid (plantM_grown 5000 Lb)
  have PA := Lib.hid (fun (w : World) (hE : Env w) (hR : RQ w A c La) => plantedM_any A c La 0 w hE hR (by omega) (by decide))
  have PB := Lib.hid (fun (w : World) (hE : Env w) (hR : RQ w B d Lb) => plantedM_any B d Lb 5000 w hE hR (by omega) (by decide))
  rcases hM : plantM 0 La with ⟨M, n⟩
  rcases hU : plantM 5000 Lb with ⟨U, m⟩
  rcases hTA : plantW La with ⟨TA, na⟩
  rcases hTB : plantW Lb with ⟨TB, nb⟩
  rw [hM, hTA] at PA
  rw [hU, hTB] at PB
  rw [hM] at HGA
  rw [hU] at HGB
  have hbM : M.length ≤ 4530 ∧ 0 ≤ n ∧ n ≤ 4530 := by
    have h1 := HGA.out.len
    have h2 := HGA.out.next
    have h3 := HGA.out.nat
    simp only at h1 h2 h3; omega
  have hbU : U.length ≤ 4530 ∧ 0 ≤ m ∧ m ≤ 4530 := by
    have h1 := HGB.out.len
    have h2 := HGB.out.next
    have h3 := HGB.out.nat
    simp only at h1 h2 h3; omega
  have HIA : Hid (Inv M n) := Lib.hid HGA.out.inv
  have HIB : Hid (Inv U m) := Lib.hid HGB.out.inv
  clear hM hU hTA hTB HGA HGB
  go_wp2_with fail
  refine (PA.out _ (HE.out.below HB1.out) (HRA.out.below HB1.out)).mono ?_
  rintro e w2 ⟨A2, c2, Ar, cr, rfl, hRM, hRT, hb2⟩
  have HB2 := Lib.hid (bch HB1.out hb2)
  have HRM := Lib.hid hRM
  have HRT := Lib.hid hRT
  have hal := fun o p : Obj => ((Below.refl w2.heap.size w2).alloc (Nat.le_refl _) o).alloc (by simp) p
  clear hRM hRT hb2 PA HRA
  go_wp2_with fail
  refine (PB.out _ (HE.out.below (bch HB2.out (hal _ _))) (HRB.out.below (bch HB2.out (hal _ _)))).mono ?_
  rintro e w4 ⟨B2, d2, Br, dr, rfl, hRU, hRV, hb4⟩
  obtain ⟨bA, rA⟩ := two_blk (a := [.slice A2 M.length c2, .int .i64 n]) (b := [.slice Ar TA.length cr, .int .i64 na]) hb4
  have HB4 := Lib.hid (bch (bch HB2.out (hal _ _)) hb4)
  have HRM4 := Lib.hid (HRM.out.below (bch (hal _ _) hb4))
  have HRT4 := Lib.hid (HRT.out.below (bch (hal _ _) hb4))
  have HRU := Lib.hid hRU
  have HRV := Lib.hid hRV
  have BA := Lib.hid bA
  have RA := Lib.hid rA
  clear hRU hRV hb4 bA rA PB HRB hal HRM HRT
  have hal := fun o p : Obj => ((Below.refl w4.heap.size w4).alloc (Nat.le_refl _) o).alloc (by simp) p
  have HAL := Lib.hid hal
  clear hal
  have hmw : MW w ((w4.alloc (.cells #[.slice B2 U.length d2, .int .i64 m] 35)).alloc (.cells #[.slice Br TB.length dr, .int .i64 nb] 64)) w2.heap.size w4.heap.size A2 c2 M n Ar cr TA na B2 d2 U m Br dr TB nb := by
    refine ⟨?_, ?_, ?_, ?_, HRM4.out.below (HAL.out _ _), HRT4.out.below (HAL.out _ _), HRU.out.below (HAL.out _ _), HRV.out.below (HAL.out _ _), bch HB4.out (HAL.out _ _)⟩
    · exact ((HAL.out _ _).block _ (blk_lt BA.out)).trans BA.out
    · exact ((HAL.out _ _).block _ (blk_lt RA.out)).trans RA.out
    · exact heap_alloc2_old w4 _ _
    · exact heap_alloc2_new w4 _ _
  have HMW0 := Lib.hid hmw
  have hg1 : w2.heap.size + 1 < w4.heap.size := blk_lt RA.out
  clear hmw BA RA HRM4 HRT4 HRU HRV HB4 HAL HB2
  have hsz5 : ((w4.alloc (.cells #[.slice B2 U.length d2, .int .i64 m] 35)).alloc (.cells #[.slice Br TB.length dr, .int .i64 nb] 64)).heap.size = w4.heap.size + 1 + 1 := by simp
  have OV := Lib.hid (fun (w : World) (hE : Env w) (hA : RT w A2 c2 M) (hB : RT w B2 d2 U) => Over_any A2 c2 M n B2 d2 U m w hE hA hB HIA.out.ok HIB.out.ok (by omega) (by omega) (fun r hr => by have := HIB.out.ids r hr; omega) (by omega) (by omega))
  go_wp2_with fail
  generalize (w4.alloc (.cells #[.slice B2 U.length d2, .int .i64 m] 35)).alloc (.cells #[.slice Br TB.length dr, .int .i64 nb] 64) = w5 at HMW0 hsz5 ⊢
  clear hsz5
  go_loopg [9, 43] U.length (fun g cl i wr => ∃ k : Nat, g = U.length - k ∧ cl = .bool (anyC M (U.take k)) ∧ i = .int .i64 k ∧ k ≤ U.length ∧ Hid (MW w wr w2.heap.size w4.heap.size A2 c2 M n Ar cr TA na B2 d2 U m Br dr TB nb))
  case atStart => exact ⟨0, rfl, rfl, rfl, Nat.zero_le _, HMW0⟩
  case round =>
    obtain ⟨k, rfl, rfl, rfl, hk, HW⟩ := hrel
    obtain ⟨a0, a1, hna⟩ := tree_cells HW.out.bA
    obtain ⟨u0, u1, hnb⟩ := tree_cells HW.out.bB
    by_cases hlt : k < U.length
    case pos =>
      have hx : U[k]? = some U[k] := List.getElem?_eq_getElem hlt
      have htk : U.take (k + 1) = U.take k ++ [U[k]] := List.take_succ_eq_append_getElem hlt
      have hmem : U[k] ∈ U := List.getElem_mem hlt
      generalize U[k] = r at hx htk hmem
      have hps := size_path HIB.out.ok hmem
      obtain ⟨b, o, rfl, hbw⟩ := HW.out.tB.pos (by omega)
      have hsn := anyC_snoc M (U.take k) r
      rw [← htk] at hsn
      obtain ⟨path, id, kind, mode, size, made⟩ := r
      obtain ⟨q0, q1, q2, q3, q4, q5, q6, q7, q8, q9, q10, q11, q12⟩ := HW.out.tB.cells hx
      obtain ⟨gp, gi, gk, gm, gs, gd, there, hlk, hget⟩ := get_gen A2 c2 M n path HIA.out.ok hps (by omega)
      have GT := Lib.hid hget
      have hcb : clashB M ⟨path, id, kind, mode, size, made⟩ = (there && !((gk == 4) == (kind == 4))) := by
        unfold clashB
        rw [key_parts]
        simp only
        rw [hlk]
        cases there <;> simp
      rw [hcb] at hsn
      have HSN := Lib.hid hsn
      clear hx htk hmem hps hsn hlk hget hcb
      go_wp2_with fail
      clear q0 q1 q2 q3 q4 q5 q6 q7 q8 q9 q10 q11 q12 a0 a1 u0 u1
      generalize hw6 : wr.alloc (.cells #[.string path, .int .i64 id, .int .i64 kind, .int .i64 mode, .int .i64 0, .int .i64 0, .int .i64 0, .string nos, .string nos, .string nos, .slice none 0 0, .int .i64 size, .bool made] 44) = w6
      have hr6 : w6.heap[wr.heap.size]? = some (.cells (Rw.cells ⟨path, id, kind, mode, size, made⟩).toArray 44 (0, 0)) := by rw [← hw6]; exact heap_alloc_new wr _
      have hbl : Below wr.heap.size wr w6 := by rw [← hw6]; exact (Below.refl _ _).alloc (Nat.le_refl _) _
      have HW6 := Lib.hid (HW.out.next hbl)
      have HR6 := Lib.hid hr6
      clear hw6 hbl hr6
      refine (GT.out _ (HE.out.below HW6.out.below) HW6.out.tA).mono ?_
      rintro e w7 ⟨rfl, hb7⟩
      have HW7 := Lib.hid (HW6.out.next hb7)
      have hr7 := (hb7.block _ (blk_lt HR6.out)).trans HR6.out
      obtain ⟨-, -, z2, -⟩ := row_cells hr7
      have hn7 : wr.heap.size < w7.heap.size := blk_lt hr7
      clear hb7 hr7 HR6 HW6
      have HFIN := Lib.hid (fun ob : Obj => HW7.out.next ((Below.refl w7.heap.size w7).alloc (Nat.le_refl _) ob))
      have hcase : (anyC M (U.take k) = true ∧ Hid (anyC M (U.take (k + 1)) = true)) ∨ (anyC M (U.take k) = false ∧ there = false ∧ Hid (anyC M (U.take (k + 1)) = false)) ∨ (∃ x y : Bool, anyC M (U.take k) = false ∧ there = true ∧ (gk == 4) = x ∧ (kind == 4) = y ∧ Hid (anyC M (U.take (k + 1)) = !(x == y))) := by
        have h := HSN.out
        cases hc : anyC M (U.take k) <;> rw [hc] at h
        · cases there
          · exact Or.inr (Or.inl ⟨rfl, rfl, Lib.hid (h.trans (by simp))⟩)
          · exact Or.inr (Or.inr ⟨_, _, rfl, rfl, rfl, rfl, Lib.hid (h.trans (by simp))⟩)
        · exact Or.inl ⟨rfl, Lib.hid (h.trans (by simp))⟩
      have HCASE := Lib.hid hcase
      clear hcase HSN
      rcases HCASE.out with ⟨hc, HN⟩ | ⟨hc, rfl, HN⟩ | ⟨x, y, hc, rfl, hg4, hk4, HN⟩
      case' inr.inr => cases x <;> cases y
      all_goals
        clear HCASE
        go_wp2_with fail
        go_roundg (U.length - (k + 1))
        case measure => omega
        case rel => exact ⟨k + 1, rfl, by rw [HN.out]; try rfl, by go_num, by omega, Lib.hid (HFIN.out _)⟩
    case neg =>
      have hUk : U.take k = U := List.take_of_length_le (by omega)
      obtain ⟨V, nv, ec, hmv, hcl⟩ : ∃ V nv ec, mergeV (M, n) (U, m) = (V, nv, ec) ∧ ((anyC M (U.take k) = false ∧ ec = 0) ∨ (anyC M (U.take k) = true ∧ ec = 130)) := by
        rw [hUk]
        rcases clash_or M U with hc | hc
        · exact ⟨_, _, _, mergeV_ok HIA.out HIB.out hc, Or.inl ⟨anyC_no hc, rfl⟩⟩
        · exact ⟨_, _, _, mergeV_clash HIA.out HIB.out hc, Or.inr ⟨anyC_yes hc, rfl⟩⟩
      have hks := fun (x o : Rw) (hx : x ∈ (mergeV (M, n) (U, m)).1) (ho : look M (key x) = some o) => kinds_same HIA.out HIB.out hx ho
      have hvi := mergeV_inv (n := n) (m := m) HIA.out HIB.out hbM.2.1 hbU.2.1
      rw [hmv] at hks hvi OV
      simp only at hks hvi OV
      have HKS := Lib.hid hks
      have HVI := Lib.hid hvi.1
      have hvl : V.length ≤ 9060 := by omega
      have HCL := Lib.hid hcl
      clear hUk hmv hks hvi hcl
      rcases HCL.out with ⟨hc, rfl⟩ | ⟨hc, rfl⟩
      all_goals
        clear HCL
        go_wp2_with fail
        refine (OV.out _ (HE.out.below HW.out.below) HW.out.tA HW.out.tB).mono ?_
        rintro e w6 ⟨A6, c6, rfl, hR6, hb6⟩
        have HW6 := Lib.hid (HW.out.next hb6)
        have HR6 := Lib.hid hR6
        clear hb6 hR6 a0 a1 u0 u1
        go_wp2_with fail
        generalize hw7 : w6.alloc (.cells #[.slice A6 V.length c6, .int .i64 nv] 35) = w7
        have hbl : Below w6.heap.size w6 w7 := by rw [← hw7]; exact (Below.refl _ _).alloc (Nat.le_refl _) _
        have HW7 := Lib.hid (HW6.out.next hbl)
        have HR7 := Lib.hid (HR6.out.below hbl)
        clear hw7 hbl HR6
        obtain ⟨wz, rfl⟩ : ∃ wz : World, wz = wr := ⟨wr, rfl⟩
        go_loopg [91] V.length (fun g i wr => ∃ k : Nat, g = V.length - k ∧ i = .int .i64 k ∧ k ≤ V.length ∧ Hid (MW w wr w2.heap.size w4.heap.size A2 c2 M n Ar cr TA na B2 d2 U m Br dr TB nb) ∧ Hid (RT wr A6 c6 V))
        case atStart => exact ⟨0, rfl, rfl, Nat.zero_le _, HW7, HR7⟩
        case round =>
          obtain ⟨k, rfl, rfl, hk, HX, HV⟩ := hrel
          obtain ⟨a0, a1, hna⟩ := tree_cells HX.out.bA
          by_cases hlt : k < V.length
          case neg =>
            go_wp2_with fail
            go_ret
            exact ⟨rfl, HX.out.below⟩
          have hx : V[k]? = some V[k] := List.getElem?_eq_getElem hlt
          have hmem : V[k] ∈ V := List.getElem_mem hlt
          generalize V[k] = r at hx hmem
          have hps := size_path HVI.out.ok hmem
          obtain ⟨b, o, rfl, hbw⟩ := HV.out.pos (by omega)
          obtain ⟨path, id, kind, mode, size, made⟩ := r
          obtain ⟨q0, q1, q2, q3, q4, q5, q6, q7, q8, q9, q10, q11, q12⟩ := HV.out.cells hx
          obtain ⟨gp, gi, gk, gm, gs, gd, there, hlk, hget⟩ := get_gen A2 c2 M n path HIA.out.ok hps (by omega)
          have GT := Lib.hid hget
          have hsame : there = true → (gk == 4) = (kind == 4) := fun h => by
            subst h
            exact HKS.out _ _ hmem hlk
          have HSAME := Lib.hid hsame
          clear hx hmem hps hlk hget hsame
          go_wp2_with fail
          clear q0 q1 q2 q3 q4 q5 q6 q7 q8 q9 q10 q11 q12 a0 a1
          generalize hw8 : wr.alloc (.cells #[.string path, .int .i64 id, .int .i64 kind, .int .i64 mode, .int .i64 0, .int .i64 0, .int .i64 0, .string nos, .string nos, .string nos, .slice none 0 0, .int .i64 size, .bool made] 44) = w8
          have hr8 : w8.heap[wr.heap.size]? = some (.cells (Rw.cells ⟨path, id, kind, mode, size, made⟩).toArray 44 (0, 0)) := by rw [← hw8]; exact heap_alloc_new wr _
          have hbl : Below wr.heap.size wr w8 := by rw [← hw8]; exact (Below.refl _ _).alloc (Nat.le_refl _) _
          have HW8 := Lib.hid (HX.out.next hbl)
          have HV8 := Lib.hid (HV.out.below hbl)
          have HR8 := Lib.hid hr8
          clear hw8 hbl hr8
          refine (GT.out _ (HE.out.below HW8.out.below) HW8.out.tA).mono ?_
          rintro e w9 ⟨rfl, hb9⟩
          have HW9 := Lib.hid (HW8.out.next hb9)
          have HV9 := Lib.hid (HV8.out.below hb9)
          have hr9 := (hb9.block _ (blk_lt HR8.out)).trans HR8.out
          obtain ⟨-, -, z2, -⟩ := row_cells hr9
          have hn9 : wr.heap.size < w9.heap.size := blk_lt hr9
          have HFIN := Lib.hid (fun ob : Obj => And.intro (HW9.out.next ((Below.refl w9.heap.size w9).alloc (Nat.le_refl _) ob)) (HV9.out.alloc ob))
          clear hb9 hr9 HR8 HW8 HV8
          cases there
          case' true =>
            have hs := HSAME.out rfl
            cases hk4 : (kind == 4) <;> rw [hk4] at hs
          all_goals
            clear HSAME
            go_wp2_with fail
            go_roundg (V.length - (k + 1))
            case measure => omega
            case rel => exact ⟨k + 1, rfl, by go_num, by omega, Lib.hid (HFIN.out _).1, Lib.hid (HFIN.out _).2⟩

end Go.Proofs.YtcniahbliadgiaaDoor

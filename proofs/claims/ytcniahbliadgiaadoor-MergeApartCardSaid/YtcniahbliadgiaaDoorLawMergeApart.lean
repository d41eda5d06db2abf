/-
  pannierlaw17.MergeApart: the walk.
-/
import Derived.Test.YtcniahbliadgiaaDoorLawM
namespace Go.Proofs.YtcniahbliadgiaaDoor
open Go.RowKit
open Go.Proofs.PnKit Go.Proofs.PnPath

/-- how many paths are both trees' -/
def bothN (M T : List Rw) : Nat := (T.filter fun r => (look M (key r)).isSome).length
theorem bothN_snoc (M T : List Rw) (r : Rw) : bothN M (T ++ [r]) = bothN M T + if (look M (key r)).isSome then 1 else 0 := by
  unfold bothN
  rw [List.filter_append, List.length_append]
  cases h : (look M (key r)).isSome <;> simp [h]
theorem bothN_le (M T : List Rw) : bothN M T ≤ T.length := List.length_filter_le _ _

attribute [local go_sem ↓] Go.wp_at_zero Go.wp_at_succ

set_option maxRecDepth 100000 in
set_option maxHeartbeats 8000000 in
theorem apartm_walk (A : Option Addr) (c : Nat) (La : List Oq) (B : Option Addr) (d : Nat) (Lb : List Oq) (w : World) (hE : Env w) (hRa : RQ w A c La) (hRb : RQ w B d Lb) :
    Calls Tryd.prog 9 #[.slice A (List.length La) c, .slice B (List.length Lb) d] w fun e w' => e = .returned (.bool true) ∧ Below w.heap.size w w' := by
  have HRA := Lib.hid hRa
  have HRB := Lib.hid hRb
  have HE := Lib.hid hE
  clear hRa hRb hE
  go_enter Tryd.func9, Tryd.ntmps9
  go_wp2_with fail
  refine (lays_any _ HE.out).mono ?_
  rintro e w1 ⟨rfl, hb1⟩
  have HB1 := Lib.hid hb1
  clear hb1
  by_cases hgo : La.length ≤ 30 ∧ Lb.length ≤ 30
  case neg =>
    have hg2 : 30 < La.length ∨ (La.length ≤ 30 ∧ 30 < Lb.length) := by omega
    clear hgo
    rcases hg2 with h | ⟨h, h2⟩
    all_goals
      go_wp2_with fail
      go_ret
      exact ⟨rfl, HB1.out⟩
  obtain ⟨hla, hlb⟩ := hgo
  have HGA := Lib.hid (plantM_grown 0 La)
  have HGB := Lib.hid (plantM_grown 5000 Lb)
  have PA := Lib.hid (fun (w : World) (hE : Env w) (hR : RQ w A c La) => plantedM_any A c La 0 w hE hR (by omega) (by decide))
  have PB := Lib.hid (fun (w : World) (hE : Env w) (hR : RQ w B d Lb) => plantedM_any B d Lb 5000 w hE hR (by omega) (by decide))
  rcases hM : plantM 0 La with ⟨M, n⟩
  rcases hU : plantM 5000 Lb with ⟨U, m⟩
  rcases hTA : plantW La with ⟨TA, na⟩
  rcases hTB : plantW Lb with ⟨TB, nb⟩
  rw [hM, hTA] at PA
  rw [hU, hTB] at PB
  rw [hM] at HGA
  rw [hU] at HGB
  have hbM : M.length ≤ 4530 ∧ 0 ≤ n ∧ n ≤ 4530 := by
    have h1 := HGA.out.len
    have h2 := HGA.out.next
    have h3 := HGA.out.nat
    simp only at h1 h2 h3; omega
  have hbU : U.length ≤ 4530 ∧ 0 ≤ m ∧ m ≤ 4530 := by
    have h1 := HGB.out.len
    have h2 := HGB.out.next
    have h3 := HGB.out.nat
    simp only at h1 h2 h3; omega
  have HIA : Hid (Inv M n) := Lib.hid HGA.out.inv
  have HIB : Hid (Inv U m) := Lib.hid HGB.out.inv
  clear hM hU hTA hTB HGA HGB
  go_wp2_with fail
  refine (PA.out _ (HE.out.below HB1.out) (HRA.out.below HB1.out)).mono ?_
  rintro e w2 ⟨A2, c2, Ar, cr, rfl, hRM, hRT, hb2⟩
  have HB2 := Lib.hid (bch HB1.out hb2)
  have HRM := Lib.hid hRM
  have HRT := Lib.hid hRT
  have hal := fun o p : Obj => ((Below.refl w2.heap.size w2).alloc (Nat.le_refl _) o).alloc (by simp) p
  clear hRM hRT hb2 PA HRA
  go_wp2_with fail
  refine (PB.out _ (HE.out.below (bch HB2.out (hal _ _))) (HRB.out.below (bch HB2.out (hal _ _)))).mono ?_
  rintro e w4 ⟨B2, d2, Br, dr, rfl, hRU, hRV, hb4⟩
  obtain ⟨bA, rA⟩ := two_blk (a := [.slice A2 M.length c2, .int .i64 n]) (b := [.slice Ar TA.length cr, .int .i64 na]) hb4
  have HB4 := Lib.hid (bch (bch HB2.out (hal _ _)) hb4)
  have HRM4 := Lib.hid (HRM.out.below (bch (hal _ _) hb4))
  have HRT4 := Lib.hid (HRT.out.below (bch (hal _ _) hb4))
  have HRU := Lib.hid hRU
  have HRV := Lib.hid hRV
  have BA := Lib.hid bA
  have RA := Lib.hid rA
  clear hRU hRV hb4 bA rA PB HRB hal HRM HRT
  have hal := fun o p : Obj => ((Below.refl w4.heap.size w4).alloc (Nat.le_refl _) o).alloc (by simp) p
  have HAL := Lib.hid hal
  clear hal
  have hmw : MW w ((w4.alloc (.cells #[.slice B2 U.length d2, .int .i64 m] 35)).alloc (.cells #[.slice Br TB.length dr, .int .i64 nb] 64)) w2.heap.size w4.heap.size A2 c2 M n Ar cr TA na B2 d2 U m Br dr TB nb := by
    refine ⟨?_, ?_, ?_, ?_, HRM4.out.below (HAL.out _ _), HRT4.out.below (HAL.out _ _), HRU.out.below (HAL.out _ _), HRV.out.below (HAL.out _ _), bch HB4.out (HAL.out _ _)⟩
    · exact ((HAL.out _ _).block _ (blk_lt BA.out)).trans BA.out
    · exact ((HAL.out _ _).block _ (blk_lt RA.out)).trans RA.out
    · exact heap_alloc2_old w4 _ _
    · exact heap_alloc2_new w4 _ _
  have HMW0 := Lib.hid hmw
  have hg1 : w2.heap.size + 1 < w4.heap.size := blk_lt RA.out
  clear hmw BA RA HRM4 HRT4 HRU HRV HB4 HAL HB2
  have hsz5 : ((w4.alloc (.cells #[.slice B2 U.length d2, .int .i64 m] 35)).alloc (.cells #[.slice Br TB.length dr, .int .i64 nb] 64)).heap.size = w4.heap.size + 1 + 1 := by simp
  have OV := Lib.hid (fun (w : World) (hE : Env w) (hA : RT w A2 c2 M) (hB : RT w B2 d2 U) => Over_any A2 c2 M n B2 d2 U m w hE hA hB HIA.out.ok HIB.out.ok (by omega) (by omega) (fun r hr => by have := HIB.out.ids r hr; omega) (by omega) (by omega))
  go_wp2_with fail
  generalize (w4.alloc (.cells #[.slice B2 U.length d2, .int .i64 m] 35)).alloc (.cells #[.slice Br TB.length dr, .int .i64 nb] 64) = w5 at HMW0 hsz5 ⊢
  clear hsz5
  go_loopg [9, 39] U.length (fun g cl i wr => ∃ (k q : Nat), g = U.length - k ∧ cl = .int .i64 q ∧ i = .int .i64 k ∧ k ≤ U.length ∧ q ≤ k ∧ Hid (q = bothN M (U.take k)) ∧ Hid (∀ r ∈ U.take k, ∀ o, look M (key r) = some o → o.kind = 4 ∧ r.kind = 4) ∧ Hid (MW w wr w2.heap.size w4.heap.size A2 c2 M n Ar cr TA na B2 d2 U m Br dr TB nb))
  case atStart => exact ⟨0, 0, rfl, rfl, rfl, Nat.zero_le _, Nat.le_refl _, Lib.hid rfl, Lib.hid (fun r hr => by simp at hr), HMW0⟩
  case round =>
    obtain ⟨k, q, rfl, rfl, rfl, hk, hqk, HQ, HD, HW⟩ := hrel
    obtain ⟨a0, a1, hna⟩ := tree_cells HW.out.bA
    obtain ⟨u0, u1, hnb⟩ := tree_cells HW.out.bB
    by_cases hlt : k < U.length
    case pos =>
      have hx : U[k]? = some U[k] := List.getElem?_eq_getElem hlt
      have htk : U.take (k + 1) = U.take k ++ [U[k]] := List.take_succ_eq_append_getElem hlt
      have hmem : U[k] ∈ U := List.getElem_mem hlt
      generalize U[k] = r at hx htk hmem
      have hps := size_path HIB.out.ok hmem
      obtain ⟨b, o, rfl, hbw⟩ := HW.out.tB.pos (by omega)
      have hsn := bothN_snoc M (U.take k) r
      rw [← htk, ← HQ.out] at hsn
      have HTK := Lib.hid htk
      obtain ⟨path, id, kind, mode, size, made⟩ := r
      obtain ⟨q0, q1, q2, q3, q4, q5, q6, q7, q8, q9, q10, q11, q12⟩ := HW.out.tB.cells hx
      obtain ⟨gp, gi, gk, gm, gs, gd, there, hlk, hget⟩ := get_gen A2 c2 M n path HIA.out.ok hps (by omega)
      have GT := Lib.hid hget
      have hlk2 : look M (key (⟨path, id, kind, mode, size, made⟩ : Rw)) = if there then some ⟨gp, gi, gk, gm, gs, gd⟩ else none := hlk
      rw [hlk2] at hsn
      have HSN := Lib.hid hsn
      have HLK := Lib.hid hlk2
      clear hx htk hmem hps hsn hlk hlk2 hget
      go_wp2_with fail
      clear q0 q1 q2 q3 q4 q5 q6 q7 q8 q9 q10 q11 q12 a0 a1 u0 u1
      generalize hw6 : wr.alloc (.cells #[.string path, .int .i64 id, .int .i64 kind, .int .i64 mode, .int .i64 0, .int .i64 0, .int .i64 0, .string nos, .string nos, .string nos, .slice none 0 0, .int .i64 size, .bool made] 44) = w6
      have hr6 : w6.heap[wr.heap.size]? = some (.cells (Rw.cells ⟨path, id, kind, mode, size, made⟩).toArray 44 (0, 0)) := by rw [← hw6]; exact heap_alloc_new wr _
      have hbl : Below wr.heap.size wr w6 := by rw [← hw6]; exact (Below.refl _ _).alloc (Nat.le_refl _) _
      have HW6 := Lib.hid (HW.out.next hbl)
      have HR6 := Lib.hid hr6
      clear hw6 hbl hr6
      refine (GT.out _ (HE.out.below HW6.out.below) HW6.out.tA).mono ?_
      rintro e w7 ⟨rfl, hb7⟩
      have HW7 := Lib.hid (HW6.out.next hb7)
      have hr7 := (hb7.block _ (blk_lt HR6.out)).trans HR6.out
      obtain ⟨-, -, z2, -⟩ := row_cells hr7
      have hn7 : wr.heap.size < w7.heap.size := blk_lt hr7
      have HFIN := Lib.hid (fun ob : Obj => HW7.out.next ((Below.refl w7.heap.size w7).alloc (Nat.le_refl _) ob))
      clear hb7 hr7 HR6 HW6
      have hcase : (there = false ∧ Hid (q = bothN M (U.take (k + 1))) ∧ Hid (∀ r ∈ U.take (k + 1), ∀ o, look M (key r) = some o → o.kind = 4 ∧ r.kind = 4)) ∨
          (there = true ∧ gk = 4 ∧ kind = 4 ∧ Hid (q + 1 = bothN M (U.take (k + 1))) ∧ Hid (∀ r ∈ U.take (k + 1), ∀ o, look M (key r) = some o → o.kind = 4 ∧ r.kind = 4)) ∨
          (there = true ∧ (gk != 4) = true) ∨ (there = true ∧ gk = 4 ∧ (kind != 4) = true) := by
        have hsn := HSN.out
        have hlk := HLK.out
        have hd : (∀ o, look M (key (⟨path, id, kind, mode, size, made⟩ : Rw)) = some o → o.kind = 4 ∧ kind = 4) → ∀ r ∈ U.take (k + 1), ∀ o, look M (key r) = some o → o.kind = 4 ∧ r.kind = 4 := fun h r hr o ho => by
          rw [HTK.out] at hr
          rcases List.mem_append.1 hr with hr | hr
          · exact HD.out r hr o ho
          · rcases List.mem_cons.1 hr with rfl | hr
            · exact h o ho
            · cases hr
        cases there
        · refine Or.inl ⟨rfl, Lib.hid hsn.symm, Lib.hid (hd fun o ho => ?_)⟩
          rw [hlk] at ho; cases ho
        · by_cases h1 : gk = 4
          · by_cases h2 : kind = 4
            · refine Or.inr (Or.inl ⟨rfl, h1, h2, Lib.hid hsn.symm, Lib.hid (hd fun o ho => ?_)⟩)
              rw [hlk] at ho
              obtain rfl := Option.some.inj ho
              exact ⟨h1, h2⟩
            · exact Or.inr (Or.inr (Or.inr ⟨rfl, h1, by simp [h2]⟩))
          · exact Or.inr (Or.inr (Or.inl ⟨rfl, by simp [h1]⟩))
      have HCASE := Lib.hid hcase
      clear hcase HSN HLK
      rcases HCASE.out with ⟨rfl, HN, HD2⟩ | ⟨rfl, rfl, rfl, HN, HD2⟩ | ⟨rfl, h1⟩ | ⟨rfl, rfl, h1⟩
      · clear HCASE
        go_wp2_with fail
        go_roundg (U.length - (k + 1))
        case measure => omega
        case rel => exact ⟨k + 1, q, rfl, rfl, by go_num, by omega, by omega, HN, HD2, Lib.hid (HFIN.out _)⟩
      · clear HCASE
        go_wp2_with fail
        go_roundg (U.length - (k + 1))
        case measure => omega
        case rel => exact ⟨k + 1, q + 1, rfl, by go_num, by go_num, by omega, by omega, HN, HD2, Lib.hid (HFIN.out _)⟩
      all_goals
        clear HCASE
        go_wp2_with fail
        go_ret
        exact ⟨rfl, (HFIN.out _).below⟩
    case neg =>
      have hUk : U.take k = U := List.take_of_length_le (by omega)
      have hd := HD.out
      have hq := HQ.out
      rw [hUk] at hd hq
      have hc : ∀ r ∈ U, ¬ clashR M r := fun r hr ⟨o, ho, hk⟩ => by
        obtain ⟨h1, h2⟩ := hd r hr o ho
        rw [h1, h2] at hk; cases hk
      have hlen := overR_length (more := n) U HIA.out.ok.sorted HIB.out.ok.sorted hc
      obtain ⟨hf, hg⟩ := apart_files HIA.out HIB.out hbM.2.1 hbU.2.1 hc (fun r hr o ho => (hd r hr o ho).1)
      have hvi := merge_inv HIA.out HIB.out hbM.2.1 hbU.2.1 hc
      rw [mergeV_ok HIA.out HIB.out hc] at OV
      simp only at OV
      obtain ⟨V, hV⟩ : ∃ V, (overR M n U).1 = V := ⟨_, rfl⟩
      rw [hV] at hlen hf hg hvi OV
      have hlen2 : V.length + q = M.length + U.length := by rw [hq]; exact hlen
      have HVI := Lib.hid hvi
      have hN : (n + m).toNat ≤ 1000000 := by omega
      have FV := Lib.hid (fun (w : World) (hR : RT w A2 c2 M) => files_any A2 c2 M n n.toNat w hR HIA.out.cons (HIA.out.toIds hbM.2.1) (by omega) (by omega))
      have FU := Lib.hid (fun (w : World) (hR : RT w B2 d2 U) => files_any B2 d2 U m m.toNat w hR HIB.out.cons (HIB.out.toIds hbU.2.1) (by omega) (by omega))
      have FT := Lib.hid (fun (A6 : Option Addr) (c6 : Nat) (w : World) (hR : RT w A6 c6 V) => files_any A6 c6 V (n + m) (n + m).toNat w hR HVI.out.cons (HVI.out.toIds (by omega)) hN (by omega))
      have GN : Hid (∀ (A6 : Option Addr) (c6 : Nat) (w : World), RT w A2 c2 M → RT w A6 c6 V → Calls Tryd.prog 33 #[.agg #[.slice A2 (List.length M) c2, .int .i64 n], .agg #[.slice A6 (List.length V) c6, .int .i64 (n + m)]] w fun e w' => ∃ A' c', e = .returned (.slice A' 0 c') ∧ Below w.heap.size w w') := Lib.hid (fun A6 c6 w hA hB => (gone_any A2 c2 M n A6 c6 V (n + m) n.toNat (n + m).toNat w hA hB HIA.out.cons (HIA.out.toIds hbM.2.1) (by omega) (by omega) HVI.out.cons (HVI.out.toIds (by omega)) hN (by omega)).mono (by
        rintro e w' ⟨A', c', S, rfl, _, h1, _, hb⟩
        rw [hg] at h1
        have : S.length = 0 := by omega
        rw [this]
        exact ⟨A', c', rfl, hb⟩))
      rw [hf] at FT
      have hfb : ∀ (L : List Rw) (N : Nat), N ≤ 5000 → 0 ≤ sumTo (fIn L) N ∧ sumTo (fIn L) N ≤ 5000 := fun L N hN => by
        have h1 := sumTo_nonneg (f := fIn L) N (fun i _ _ => by rcases fIn_bound L i with h | h <;> omega)
        have h2 : ∀ n : Nat, sumTo (fIn L) n ≤ n := fun n => by
          induction n with
          | zero => exact Int.le_refl _
          | succ n ih => have := fIn_bound L n; simp only [sumTo]; push_cast; omega
        have := h2 N; omega
      have hfa := hfb M n.toNat (by omega)
      have hfu := hfb U m.toNat (by omega)
      obtain ⟨fa, hfa2⟩ : ∃ fa, sumTo (fIn M) n.toNat = fa := ⟨_, rfl⟩
      obtain ⟨fu, hfu2⟩ : ∃ fu, sumTo (fIn U) m.toNat = fu := ⟨_, rfl⟩
      rw [hfa2] at FV FT hfa
      rw [hfu2] at FU FT hfu
      clear hUk hd hq hc hlen hf hg hvi hV hfb hfa2 hfu2
      go_wp2_with fail
      refine (OV.out _ (HE.out.below HW.out.below) HW.out.tA HW.out.tB).mono ?_
      rintro e w6 ⟨A6, c6, rfl, hR6, hb6⟩
      have HW6 := Lib.hid (HW.out.next hb6)
      have HR6 := Lib.hid hR6
      clear hb6 hR6 a0 a1 u0 u1
      go_upto_region 18 with fail
      generalize hw7 : w6.alloc (.cells #[.slice A6 V.length c6, .int .i64 (n + m)] 35) = w7
      have hbl : Below w6.heap.size w6 w7 := by rw [← hw7]; exact (Below.refl _ _).alloc (Nat.le_refl _) _
      have ht7 : w7.heap[w6.heap.size]? = some (.cells [.slice A6 V.length c6, .int .i64 (n + m)].toArray 35 (0, 0)) := by rw [← hw7]; exact heap_alloc_new w6 _
      have HW7 := Lib.hid (HW6.out.next hbl)
      have HR7 := Lib.hid (HR6.out.below hbl)
      obtain ⟨a0, a1, hna7⟩ := tree_cells HW7.out.bA
      obtain ⟨u0, u1, hnb7⟩ := tree_cells HW7.out.bB
      obtain ⟨t0, t1, hnt7⟩ := tree_cells ht7
      have C1 := Lib.hid (fun (W : World) (hb : Below w7.heap.size w7 W) => FT.out A6 c6 W (HR7.out.below hb))
      have C2 := Lib.hid (fun (W : World) (hb : Below w7.heap.size w7 W) => FV.out W (HW7.out.tA.below hb))
      have C3 := Lib.hid (fun (W : World) (hb : Below w7.heap.size w7 W) => FU.out W (HW7.out.tB.below hb))
      have C4 := Lib.hid (fun (W : World) (hb : Below w7.heap.size w7 W) => GN.out A6 c6 W (HW7.out.tA.below hb) (HR7.out.below hb))
      have HB7 := Lib.hid HW7.out.below
      have s1 : IntKind.i64.wrap ((M.length : Int) + (U.length : Int)) = (M.length : Int) + (U.length : Int) := IntWalk.i64_in _ (by omega)
      have s2 : IntKind.i64.wrap ((M.length : Int) + (U.length : Int) - (q : Int)) = (V.length : Int) := (IntWalk.i64_in _ (by omega)).trans (by omega)
      have s3 : IntKind.i64.wrap (fa + fu) = fa + fu := IntWalk.i64_in _ (by omega)
      have S1 := Lib.hid s1
      have S2 := Lib.hid s2
      have S3 := Lib.hid s3
      clear hw7 hbl ht7 HR6 HW6 HW HQ HD FV FU FT GN OV HR7 HW7 s1 s2 s3 hbM hbU hlen2 hN hfa hfu hk hqk hlt hna hnb
      have s1 := S1.out
      have s2 := S2.out
      have s3 := S3.out
      go_region_held3 (fun w' => Below w7.heap.size w7 w' ∧ w'.cell? ⟨w2.heap.size, 0, none⟩ = some (.slice A2 M.length c2) ∧ w'.cell? ⟨w2.heap.size, 1, none⟩ = some (.int .i64 n) ∧ w'.cell? ⟨w4.heap.size, 0, none⟩ = some (.slice B2 U.length d2) ∧ w'.cell? ⟨w4.heap.size, 1, none⟩ = some (.int .i64 m) ∧ w'.cell? ⟨w6.heap.size, 0, none⟩ = some (.slice A6 V.length c6) ∧ w'.cell? ⟨w6.heap.size, 1, none⟩ = some (.int .i64 (n + m)))
        ((go_split_ands; refine ⟨?_, ?_, ?_, ?_, ?_, ?_, ?_⟩; (first | exact (Below.refl _ _).drew | exact Below.refl _ _ | exact bch (by assumption) hbn); all_goals (first | assumption | exact (hbn.cell (lt_of_below (a := w7) (by assumption) (by assumption))).trans (by assumption))))
        (first
          | (go_at_call 32; with_reducible refine (C1.out _ (by first | exact (Below.refl _ _).drew | assumption | exact And.left (by assumption))).mono ?_; rintro e w8 ⟨rfl, hbn⟩)
          | (go_at_call 32; with_reducible refine (C2.out _ (by first | exact (Below.refl _ _).drew | assumption | exact And.left (by assumption))).mono ?_; rintro e w8 ⟨rfl, hbn⟩)
          | (go_at_call 32; with_reducible refine (C3.out _ (by first | exact (Below.refl _ _).drew | assumption | exact And.left (by assumption))).mono ?_; rintro e w8 ⟨rfl, hbn⟩)
          | (go_at_call 33; with_reducible refine (C4.out _ (by first | exact (Below.refl _ _).drew | assumption | exact And.left (by assumption))).mono ?_; rintro e w8 ⟨A9, c9, rfl, hbn⟩))
      all_goals
        have hz : Below w7.heap.size w7 w8 := by first | assumption | exact And.left (by assumption) | exact bch (by assumption) hbn
        go_wp2_with fail
        go_ret
        exact ⟨rfl, bch HB7.out hz⟩

end Go.Proofs.YtcniahbliadgiaaDoor

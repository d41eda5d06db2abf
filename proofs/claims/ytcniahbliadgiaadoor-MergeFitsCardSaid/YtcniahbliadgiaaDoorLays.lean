/-
  pannierlaw17.lays: a fixed file is laid over a fixed one.
-/
import Derived.Test.YtcniahbliadgiaaDoorPlantM
namespace Go.Proofs.YtcniahbliadgiaaDoor
open Go.RowKit
open Go.Proofs.PnKit Go.Proofs.PnPath

def yA : List Rw := [dirRow [[100]] 0, ⟨pathOf mP1, 1, 1, 1, 3, false⟩]
def yB : List Rw := [dirRow [[100]] 0, ⟨pathOf mP1, 1, 1, 2, 5, false⟩]
def yT : List Rw := [dirRow [[100]] 0, ⟨pathOf mP1, 3, 1, 2, 5, false⟩]
theorem y_a : addV [] 0 mP1 1 1 3 false = (yA, 2, 0) := by
  have h := addV_new (L := []) (next := 0) (kind := 1) (mode := 1) (size := 3) (made := false) (P := mP1) (by decide) (fun o ho => by cases ho) (by kernel_rfl)
  exact h.trans (by kernel_rfl)
theorem y_b : addV [] 0 mP1 1 2 5 false = (yB, 2, 0) := by
  have h := addV_new (L := []) (next := 0) (kind := 1) (mode := 2) (size := 5) (made := false) (P := mP1) (by decide) (fun o ho => by cases ho) (by kernel_rfl)
  exact h.trans (by kernel_rfl)
theorem y_t : mergeV (yA, 2) (yB, 2) = (yT, 4, 0) := by kernel_rfl
theorem y_inv {mode size : Int} (hs : 0 ≤ size ∧ size ≤ 1048576) {L : List Rw} (h : addV [] 0 mP1 1 mode size false = (L, 2, 0)) : Inv L 2 := by
  obtain ⟨M, m, r, ha, he⟩ := addV_ok Inv.nil (Int.le_refl 0) G_mP1 (by decide) (kind := 1) (mode := mode) (size := size) (made := false) hs (fun h => absurd rfl h) (fun h => by cases h) (by rw [h])
  have hi := ha.inv
  rw [← he, h] at hi
  exact hi
theorem y_iA : Inv yA 2 := y_inv (by decide) y_a
theorem y_iB : Inv yB 2 := y_inv (by decide) y_b
theorem y_len : sumTo (gIn yA yT) 2 = 1 := by kernel_rfl
theorem y_sum : sumTo (gSz yA yT) 2 = 3 := by kernel_rfl
theorem y_look : look yT (parts (bl (pathOf mP1))) = some ⟨pathOf mP1, 3, 1, 2, 5, false⟩ := by kernel_rfl
theorem y_str : pathOf mP1 = ⟨#[100, 47, 97]⟩ := by kernel_rfl
theorem y_nc : ∀ r ∈ yB, ¬ clashR yA r := by
  intro r hr
  rcases List.mem_cons.1 hr with rfl | hr
  · rintro ⟨o, ho, hk⟩
    have h : look yA (key (dirRow [[100]] 0)) = some (dirRow [[100]] 0) := by kernel_rfl
    rw [h] at ho
    obtain rfl := Option.some.inj ho
    cases hk
  · rcases List.mem_cons.1 hr with rfl | hr
    · rintro ⟨o, ho, hk⟩
      have h : look yA (key (⟨pathOf mP1, 1, 1, 2, 5, false⟩ : Rw)) = some ⟨pathOf mP1, 1, 1, 1, 3, false⟩ := by kernel_rfl
      rw [h] at ho
      obtain rfl := Option.some.inj ho
      cases hk
    · cases hr
theorem y_iT : Inv yT 4 := by
  have h := merge_inv y_iA y_iB (by decide) (by decide) y_nc
  have e : (overR yA 2 yB).1 = yT := by kernel_rfl
  rw [e] at h; exact h
theorem one_int {S : List Int} {n s : Int} (hl : (S.length : Int) = n) (h1 : n = 1) (hs : isum S = s) : S = [s] := by
  subst h1
  match S, hl with
  | [x], _ => simp [isum] at hs; rw [hs]
  | [], hl => simp at hl
  | x :: y :: S, hl => simp at hl; omega

set_option maxRecDepth 100000 in
set_option maxHeartbeats 2000000 in
theorem lays_any (w : World) (hE : Env w) :
    Calls Tryd.prog 26 #[] w fun e w' => e = .returned (.bool true) ∧ Below w.heap.size w w' := by
  have A1 := Lib.hid (fun (w : World) (hE : Env w) => add_any none 0 [] 0 mP1 1 1 3 false w hE (RT.nil w) OkT.nil G_mP1 (by decide) (by decide) (by decide) (by decide))
  rw [y_a, y_str] at A1
  have A2 := Lib.hid (fun (w : World) (hE : Env w) => add_any none 0 [] 0 mP1 1 2 5 false w hE (RT.nil w) OkT.nil G_mP1 (by decide) (by decide) (by decide) (by decide))
  rw [y_b, y_str] at A2
  have A3 := Lib.hid (fun (A : Option Addr) (c : Nat) (B : Option Addr) (d : Nat) (w : World) (hE : Env w) (hA : RT w A c yA) (hB : RT w B d yB) => Over_any A c yA 2 B d yB 2 w hE hA hB y_iA.ok y_iB.ok (by decide) (by decide) (fun r hr => by have := y_iB.ids r hr; omega) (by decide) (by decide))
  rw [y_t] at A3
  have A4 := Lib.hid (fun (A : Option Addr) (c : Nat) (w : World) (hE : Env w) (hR : RT w A c yT) => get_some A c yT 4 (pathOf mP1) w hE hR y_iT.ok (by decide) (by decide) y_look)
  rw [y_str] at A4
  have A5 := Lib.hid (fun (A : Option Addr) (c : Nat) (B : Option Addr) (d : Nat) (w : World) (hA : RT w A c yA) (hB : RT w B d yT) => gone_any A c yA 2 B d yT 4 2 4 w hA hB y_iA.cons (fun r hr => by have := y_iA.ids r hr; omega) (by decide) (by decide) y_iT.cons (fun r hr => by have := y_iT.ids r hr; omega) (by decide) (by decide))
  have HE := Lib.hid hE
  clear hE
  go_enter Tryd.func26, Tryd.ntmps26
  go_wp2_with fail
  have hal := fun o p : Obj => ((Below.refl w.heap.size w).alloc (Nat.le_refl _) o).alloc (by simp) p
  refine (A1.out _ (HE.out.below (hal _ _))).mono ?_
  rintro e w1 ⟨B1, d1, rfl, hR1, hb1⟩
  obtain ⟨b0, b1⟩ := two_blk (a := [.slice none 0 0, .int .i64 0]) (b := [.slice none 0 0, .int .i64 0]) hb1
  have c0 := blk_cell b0 (j := 0) rfl
  have c1 := blk_cell b0 (j := 1) rfl
  have f0 := blk_frozen b0
  have d0 := blk_cell b1 (j := 0) rfl
  have d1' := blk_cell b1 (j := 1) rfl
  have HB1 := Lib.hid (bch (hal _ _) hb1)
  have B0 := Lib.hid b0
  have B1' := Lib.hid b1
  have HR1 := Lib.hid hR1
  have hn1 : w.heap.size + 1 < w1.heap.size := blk_lt b1
  have hn0 : w.heap.size < w1.heap.size := by omega
  clear b0 b1 hb1 hR1 A1 hal
  go_wp2_with fail
  rw [set2 B0.out]
  have hb0 := setRow_heap w1 w.heap.size _ #[.slice B1 yA.length d1, .int .i64 2] _ _ B0.out
  have hb1 := (heap_setRow_ne w1 w.heap.size (w.heap.size + 1) #[.slice B1 yA.length d1, .int .i64 2] (by omega)).trans B1'.out
  have hR1 := HR1.out.setOther B0.out tree_no #[.slice B1 yA.length d1, .int .i64 2]
  have HW1 : Hid (Below w.heap.size w (w1.setRow w.heap.size #[.slice B1 yA.length d1, .int .i64 2])) := below_setRow HB1.out (Nat.le_refl _) _
  generalize w1.setRow w.heap.size #[.slice B1 yA.length d1, .int .i64 2] = w2 at hb0 hb1 hR1 HW1 ⊢
  have HR2 := Lib.hid hR1
  have B20 := Lib.hid hb0
  have B21 := Lib.hid hb1
  clear hb0 hb1 hR1 HR1 B0 B1' HB1 c0 c1 f0 d0 d1' hn1 hn0
  refine (A2.out _ (HE.out.below HW1.out)).mono ?_
  rintro e w3 ⟨B2, d2, rfl, hR3, hb3⟩
  have b0 := (hb3.block _ (blk_lt B20.out)).trans B20.out
  have b1 := (hb3.block _ (blk_lt B21.out)).trans B21.out
  have c0 := blk_cell b0 (j := 0) rfl
  have c1 := blk_cell b0 (j := 1) rfl
  have d0 := blk_cell b1 (j := 0) rfl
  have d1' := blk_cell b1 (j := 1) rfl
  have df := blk_frozen b1
  have hn1 : w.heap.size + 1 < w3.heap.size := blk_lt b1
  have hn0 : w.heap.size < w3.heap.size := by omega
  have HB3 := Lib.hid (bch HW1.out hb3)
  have hRA3 := HR2.out.below hb3
  have HRA3 := Lib.hid hRA3
  have HRB3 := Lib.hid hR3
  have B30 := Lib.hid b0
  have B31 := Lib.hid b1
  clear b0 b1 hb3 hR3 hRA3 HR2 B20 B21 HW1 A2
  go_wp2_with fail
  rw [set2 B31.out]
  have hb1 := setRow_heap w3 (w.heap.size + 1) _ #[.slice B2 yB.length d2, .int .i64 2] _ _ B31.out
  have hb0 := (heap_setRow_ne w3 (w.heap.size + 1) w.heap.size #[.slice B2 yB.length d2, .int .i64 2] (by omega)).trans B30.out
  have hRA := HRA3.out.setOther B31.out tree_no #[.slice B2 yB.length d2, .int .i64 2]
  have hRB := HRB3.out.setOther B31.out tree_no #[.slice B2 yB.length d2, .int .i64 2]
  have HW4 : Hid (Below w.heap.size w (w3.setRow (w.heap.size + 1) #[.slice B2 yB.length d2, .int .i64 2])) := below_setRow HB3.out (Nat.le_succ _) _
  generalize w3.setRow (w.heap.size + 1) #[.slice B2 yB.length d2, .int .i64 2] = w4 at hb0 hb1 hRA hRB HW4 ⊢
  have HRA := Lib.hid hRA
  have HRB := Lib.hid hRB
  have B40 := Lib.hid hb0
  have B41 := Lib.hid hb1
  clear hb0 hb1 hRA hRB HRA3 HRB3 B30 B31 HB3 c0 c1 d0 d1' df hn1 hn0
  refine (A3.out _ _ _ _ _ (HE.out.below HW4.out) HRA.out HRB.out).mono ?_
  rintro e w5 ⟨B5, d5, rfl, hR5, hb5⟩
  have b0 := (hb5.block _ (blk_lt B40.out)).trans B40.out
  have c0 := blk_cell b0 (j := 0) rfl
  have c1 := blk_cell b0 (j := 1) rfl
  have hn0 : w.heap.size < w5.heap.size := blk_lt b0
  have HB5 := Lib.hid (bch HW4.out hb5)
  have HRA5 := Lib.hid (HRA.out.below hb5)
  have HRT5 := Lib.hid hR5
  have B50 := Lib.hid b0
  clear b0 hb5 hR5 HRA HRB B40 B41 HW4 A3
  go_wp2_with fail
  generalize hw6 : w5.alloc (.cells #[.slice B5 yT.length d5, .int .i64 4] 35) = w6
  have hbl : Below w5.heap.size w5 w6 := by rw [← hw6]; exact (Below.refl _ _).alloc (Nat.le_refl _) _
  have ht6 : w6.heap[w5.heap.size]? = some (.cells [.slice B5 yT.length d5, .int .i64 4].toArray 35 (0, 0)) := by rw [← hw6]; exact heap_alloc_new w5 _
  have HB6 := Lib.hid (bch HB5.out hbl)
  have HRA6 := Lib.hid (HRA5.out.below hbl)
  have HRT6 := Lib.hid (HRT5.out.below hbl)
  have b0 := (hbl.block _ (blk_lt B50.out)).trans B50.out
  have B60 := Lib.hid b0
  have T6 := Lib.hid ht6
  clear hw6 hbl b0 ht6 c0 c1 B50 HRA5 HRT5
  refine (A4.out _ _ _ (HE.out.below HB6.out) HRT6.out).mono ?_
  rintro e w7 ⟨rfl, hb7⟩
  have b0 := (hb7.block _ (blk_lt B60.out)).trans B60.out
  have b1 := (hb7.block _ (blk_lt T6.out)).trans T6.out
  have c0 := blk_cell b0 (j := 0) rfl
  have c1 := blk_cell b0 (j := 1) rfl
  have d0 := blk_cell b1 (j := 0) rfl
  have d1' := blk_cell b1 (j := 1) rfl
  have hn70 : w.heap.size < w7.heap.size := blk_lt b0
  have hn71 : w5.heap.size < w7.heap.size := blk_lt b1
  have HB7 := Lib.hid (bch HB6.out hb7)
  have HRA7 := Lib.hid (HRA6.out.below hb7)
  have HRT7 := Lib.hid (HRT6.out.below hb7)
  have B71 := Lib.hid b1
  clear b0 b1 hb7 A4 B60 T6 HRA6 HRT6 HB6
  go_wp2_with fail
  generalize hw8 : w7.alloc (.cells #[.string ⟨#[100, 47, 97]⟩, .int .i64 3, .int .i64 1, .int .i64 2, .int .i64 0, .int .i64 0, .int .i64 0, .string nos, .string nos, .string nos, .slice none 0 0, .int .i64 5, .bool false] 44) = w8
  have hbl : Below w7.heap.size w7 w8 := by rw [← hw8]; exact (Below.refl _ _).alloc (Nat.le_refl _) _
  have hr8 : w8.heap[w7.heap.size]? = some (.cells (Rw.cells ⟨⟨#[100, 47, 97]⟩, 3, 1, 2, 5, false⟩).toArray 44 (0, 0)) := by rw [← hw8]; exact heap_alloc_new w7 _
  have HB8 := Lib.hid (bch HB7.out hbl)
  have HRA8 := Lib.hid (HRA7.out.below hbl)
  have HRT8 := Lib.hid (HRT7.out.below hbl)
  have b1 := (hbl.block _ (blk_lt B71.out)).trans B71.out
  have B81 := Lib.hid b1
  have R8 := Lib.hid hr8
  clear hw8 hbl b1 hr8 c0 c1 d0 d1' B71 HRA7 HRT7
  refine (A5.out _ _ _ _ _ HRA8.out HRT8.out).mono ?_
  rintro e w9 ⟨A9, c9, S, rfl, hRC, hSl, hSs, hb9⟩
  obtain rfl := one_int hSl y_len (hSs.trans y_sum)
  obtain ⟨bs, os, rfl, hbs, -, q1⟩ := hRC.cell 0 3 rfl
  have b1 := (hb9.block _ (blk_lt B81.out)).trans B81.out
  have d0 := blk_cell b1 (j := 0) rfl
  have d1' := blk_cell b1 (j := 1) rfl
  obtain ⟨-, -, -, z3, -⟩ := row_cells ((hb9.block _ (blk_lt R8.out)).trans R8.out)
  have q2 : w9.cell? ⟨bs, os + 1, none⟩ = some (.int .i64 3) := by simpa using q1
  have HB9 := Lib.hid (bch HB8.out hb9)
  have hc9 := hRC.cap
  simp only [List.length_cons, List.length_nil] at hc9
  clear hRC hSl hSs b1 hb9 A5 B81 R8 HRA8 HRT8 q1
  go_wp2_with fail
  go_ret
  exact ⟨rfl, HB9.out⟩

end Go.Proofs.YtcniahbliadgiaaDoor

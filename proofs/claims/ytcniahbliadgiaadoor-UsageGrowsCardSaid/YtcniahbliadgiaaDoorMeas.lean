/-
  pannierlaw14.measures: a fixed tree is measured right.
-/
import Derived.Test.YtcniahbliadgiaaDoorPlus
import Derived.Test.YtcniahbliadgiaaDoorInvB
namespace Go.Proofs.YtcniahbliadgiaaDoor
open Go.RowKit
open Go.Proofs.PnKit Go.Proofs.PnPath

def mP1 : List (List UInt8) := [[100], [97]]
def mP2 : List (List UInt8) := [[98, 98]]
def mL1 : List Rw := [dirRow [[100]] 0, ⟨pathOf mP1, 1, 1, 0, 3, false⟩]
def mL2 : List Rw := [⟨pathOf mP2, 1, 1, 0, 3, false⟩, dirRow [[100]] 0, ⟨pathOf mP1, 1, 1, 0, 3, false⟩]
theorem good_of {p : List UInt8} (h : p ≠ [] ∧ p ≠ [46] ∧ p ≠ [46, 46] ∧ (47 : UInt8) ∉ p ∧ (0 : UInt8) ∉ p ∧ V p = true ∧ p.length ≤ 255) : PnPath.Good p := ⟨h.1, h.2.1, h.2.2.1, h.2.2.2.1, h.2.2.2.2.1, h.2.2.2.2.2.1, h.2.2.2.2.2.2⟩
theorem good_a : PnPath.Good [97] := good_of (by decide)
theorem good_d : PnPath.Good [100] := good_of (by decide)
theorem good_bb : PnPath.Good [98, 98] := good_of (by decide)
theorem G_mP1 : G mP1 := fun p hp => by
  rcases List.mem_cons.1 hp with rfl | hp
  · exact good_d
  · rcases List.mem_cons.1 hp with rfl | hp
    · exact good_a
    · cases hp
theorem G_mP2 : G mP2 := fun p hp => by
  rcases List.mem_cons.1 hp with rfl | hp
  · exact good_bb
  · cases hp
theorem m_add : addV [] 0 mP1 1 0 3 false = (mL1, 2, 0) := by
  have h := addV_new (L := []) (next := 0) (kind := 1) (mode := 0) (size := 3) (made := false) (P := mP1) (by decide) (fun o ho => by cases ho) (by kernel_rfl)
  exact h.trans (by kernel_rfl)
theorem m_link : linkV mL1 2 mP2 mP1 = (mL2, 2, 0) := by
  have h := linkV_ok (L := mL1) (next := 2) (P := mP2) (Q := mP1) (r := ⟨pathOf mP1, 1, 1, 0, 3, false⟩) (by decide) (by kernel_rfl) rfl (fun o ho => by cases (show look mL1 mP2 = none by kernel_rfl).symm.trans ho) (by kernel_rfl)
  exact h.trans (by kernel_rfl)
theorem m_us : us mL2 = ⟨3, 2, 2, 3⟩ := by kernel_rfl

/-- a tree's rows don't lie in a block that holds no text -/
theorem RT.setOther {w : World} {A : Option Addr} {c : Nat} {L : List Rw} (h : RT w A c L) {g : Nat} {cs0 : Array Value} {t : TypeId} (hg : w.heap[g]? = some (.cells cs0 t (0, 0))) (hno : ∀ (j : Nat) (s : ByteArray), cs0[j]? ≠ some (.string s)) (cs : Array Value) : RT (w.setRow g cs) A c L := by
  refine ⟨h.cap, h.nil0, fun j x hx => ?_⟩
  obtain ⟨b, o, e, hb, hc⟩ := h.cell j x hx
  have hbg : b ≠ g := by
    rintro rfl
    have h1 := hc 0 (.string x.path) rfl
    have h2 : w.cell? ⟨b, o + j * 13 + 0, none⟩ = cs0[o + j * 13 + 0]? := cell_of_row _ _ _ _ _ _ hg
    rw [h2] at h1
    exact hno _ _ h1
  exact ⟨b, o, e, by rw [setRow_size]; exact hb, fun i v hi => (World.cell?_of_block (heap_setRow_ne w g b cs hbg)).trans (hc i v hi)⟩
theorem tree_no {A : Option Addr} {n c : Nat} {next : Int} : ∀ (j : Nat) (s : ByteArray), ([.slice A n c, .int .i64 next].toArray : Array Value)[j]? ≠ some (.string s)
  | 0, _ => by simp
  | 1, _ => by simp
  | _ + 2, _ => by simp
theorem OkT_mL1 : Inv mL1 2 := by
  obtain ⟨M, m, r, ha, he⟩ := addV_ok Inv.nil (Int.le_refl 0) G_mP1 (by decide) (kind := 1) (mode := 0) (size := 3) (made := false) (by decide) (fun h => absurd rfl h) (fun h => by cases h) (by rw [m_add])
  have hi := ha.inv
  rw [← he, m_add] at hi
  exact hi
theorem OkT_mL2 : Inv mL2 2 := by
  obtain ⟨M, r, ha, he⟩ := linkV_done OkT_mL1 (by decide) G_mP2 (Q := mP1) (by decide) (by rw [m_link])
  have hi := ha.inv
  rw [← he, m_link] at hi
  exact hi

set_option maxRecDepth 100000 in
set_option maxHeartbeats 1000000 in
theorem measures_any (w : World) (hE : Env w) :
    Calls Tryd.prog 15 #[] w fun e w' => e = .returned (.bool true) ∧ Below w.heap.size w w' := by
  have A1 := Lib.hid (fun (w : World) (hE : Env w) => add_any none 0 [] 0 mP1 1 0 3 false w hE (RT.nil w) OkT.nil G_mP1 (by decide) (by decide) (by decide) (by decide))
  rw [m_add] at A1
  have A2 := Lib.hid (fun (A : Option Addr) (c : Nat) (w : World) (hE : Env w) (hR : RT w A c mL1) => link_any A c mL1 2 mP2 mP1 w hE hR OkT_mL1.ok G_mP2 (by decide) G_mP1 (by decide) (by decide) (by decide) (by decide))
  rw [m_link] at A2
  have A3 := Lib.hid (fun (A : Option Addr) (c : Nat) (w : World) (hE : Env w) (hR : RT w A c mL2) => of_any A c mL2 2 w hE hR OkT_mL2.ok (by decide) (fun r hr => by have := OkT_mL2.ids r hr; omega) (fun r hr => by have := OkT_mL2.size r hr; omega))
  rw [m_us] at A3
  go_enter Tryd.func15, Tryd.ntmps15
  go_wp2_with fail
  refine (A1.out _ (hE.below ((Below.refl _ _).alloc (Nat.le_refl _) _))).mono ?_
  rintro e w1 ⟨A1', c1', rfl, hR1, hb1⟩
  have b0 : w1.heap[w.heap.size]? = some (.cells [.slice none 0 0, .int .i64 0].toArray 35 (0, 0)) := by rw [hb1.block _ (by simp)]; exact heap_alloc_new w _
  have c0 := blk_cell b0 (j := 0) rfl
  have c1 := blk_cell b0 (j := 1) rfl
  have f0 := blk_frozen b0
  have B0 := Lib.hid b0
  have HB1 : Hid (Below w.heap.size w w1) := bch ((Below.refl _ _).alloc (Nat.le_refl _) _) hb1
  have hn1 : w.heap.size < w1.heap.size := (Array.getElem?_eq_some_iff.1 b0).1
  clear b0 hb1 A1
  go_wp2_with fail
  rw [set2 B0.out]
  have b1 := setRow_heap w1 w.heap.size _ #[.slice A1' mL1.length c1', .int .i64 2] _ _ B0.out
  have hR1' := hR1.setOther B0.out tree_no #[.slice A1' mL1.length c1', .int .i64 2]
  have HW1 : Hid (Below w.heap.size w (w1.setRow w.heap.size #[.slice A1' mL1.length c1', .int .i64 2])) := below_setRow HB1.out (Nat.le_refl _) _
  generalize w1.setRow w.heap.size #[.slice A1' mL1.length c1', .int .i64 2] = w2 at b1 hR1' HW1 ⊢
  refine (A2.out _ _ _ (hE.below HW1.out) hR1').mono ?_
  rintro e w3 ⟨A3', c3', rfl, hR3, hb3⟩
  have hn2 : w.heap.size < w2.heap.size := (Array.getElem?_eq_some_iff.1 b1).1
  have b3 : w3.heap[w.heap.size]? = some (.cells [.slice A1' mL1.length c1', .int .i64 2].toArray 35 (0, 0)) := by rw [hb3.block _ hn2]; exact b1
  have c0 := blk_cell b3 (j := 0) rfl
  have c1 := blk_cell b3 (j := 1) rfl
  have f0 := blk_frozen b3
  have B3 := Lib.hid b3
  have HB3 : Hid (Below w.heap.size w w3) := bch HW1.out hb3
  have hn3 : w.heap.size < w3.heap.size := (Array.getElem?_eq_some_iff.1 b3).1
  clear b1 b3 hb3 A2 hR1' hR1 HB1 B0
  go_wp2_with fail
  rw [set2 B3.out]
  have b4 := setRow_heap w3 w.heap.size _ #[.slice A3' mL2.length c3', .int .i64 2] _ _ B3.out
  have hR4 := hR3.setOther B3.out tree_no #[.slice A3' mL2.length c3', .int .i64 2]
  have HW4 : Hid (Below w.heap.size w (w3.setRow w.heap.size #[.slice A3' mL2.length c3', .int .i64 2])) := below_setRow HB3.out (Nat.le_refl _) _
  generalize w3.setRow w.heap.size #[.slice A3' mL2.length c3', .int .i64 2] = w4 at b4 hR4 HW4 ⊢
  refine (A3.out _ _ _ (hE.below HW4.out) hR4).mono ?_
  rintro e w5 ⟨rfl, hb5⟩
  have HB5 : Hid (Below w.heap.size w w5) := bch HW4.out hb5
  clear b4 hb5 A3 hR4 hR3 HB3 B3
  go_wp2_with fail
  go_ret
  exact ⟨rfl, HB5.out.alloc (HB5.out.size) _⟩

end Go.Proofs.YtcniahbliadgiaaDoor

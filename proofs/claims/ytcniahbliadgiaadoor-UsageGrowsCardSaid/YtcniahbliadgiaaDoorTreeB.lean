/-
  Walks of package tree: Get, Put.
-/
import Derived.Test.YtcniahbliadgiaaDoorBlk
namespace Go.Proofs.YtcniahbliadgiaaDoor
open Go.RowKit
open Go.Proofs.PnKit Go.Proofs.PnPath

set_option maxRecDepth 100000 in
set_option maxHeartbeats 4000000 in
theorem get_any (A : Option Addr) (c : Nat) (L : List Rw) (next : Int) (s : ByteArray) (w : World) (hE : Env w) (hR : RT w A c L) (hO : OkT L) (ht : s.size ≤ 100000) (hl : L.length ≤ 100000) :
    Calls Tryd.prog 22 #[.agg #[.slice A (List.length L) c, .int .i64 next], .string s] w fun e w' =>
      e = .returned (.tuple #[((look L (parts (bl s))).getD zrow).val, .bool (look L (parts (bl s))).isSome]) ∧ Below w.heap.size w w' := by
  have P := Lib.hid (fun (w : World) (hE : Env w) (hR : RT w A c L) => search_any A c L s w hE hR hO.sorted (fun x hx => by have := hO.psize x hx; omega) ht hl)
  have HR := Lib.hid hR
  have HS := Lib.hid hO.sorted
  clear hR hO
  go_enter Tryd.func22, Tryd.ntmps22
  go_wp2_with fail
  have hal := fun o p : Obj => ((Below.refl w.heap.size w).alloc (Nat.le_refl _) o).alloc (by simp) p
  refine (P.out _ (hE.below (hal _ _)) (HR.out.below (hal _ _))).mono ?_
  rintro e w1 ⟨k, b, rfl, hF, hb⟩
  have hB1 := bch (hal _ _) hb
  have HF := Lib.hid (hF.look HS.out)
  have b0 : w1.heap[w.heap.size]? = some (.cells [.slice A (List.length L) c, .int .i64 next].toArray 35 (0, 0)) := by
    rw [hb.block _ (by simp; omega), Below.heap_alloc _ _ _ (by simp)]
    exact heap_alloc_new w _
  have b1 : w1.heap[w.heap.size + 1]? = some (.cells zrow.cells.toArray 44 (0, 0)) := by
    rw [hb.block _ (by simp)]
    have h := heap_alloc_new (w.alloc (.cells #[.slice A (List.length L) c, .int .i64 next] 35)) (.cells zrow.cells.toArray 44)
    have e : (w.alloc (.cells #[.slice A (List.length L) c, .int .i64 next] 35)).heap.size = w.heap.size + 1 := by simp
    rw [e] at h
    exact h
  have c0 := blk_cell b0 (j := 0) rfl
  obtain ⟨z0, z1, z2, z3, z4, z5, z6, z7, z8, z9, z10, z11, z12⟩ := row_cells b1
  have zf := blk_frozen b1
  clear b0
  have B1 := Lib.hid b1
  clear b1
  cases b with
  | true =>
    obtain ⟨x, hx, hlk⟩ := HF.out.1 rfl
    have HL := Lib.hid hlk
    have hk : k < L.length := (List.getElem?_eq_some_iff.1 hx).1
    obtain ⟨b, o, rfl, hbw⟩ := HR.out.pos (by omega)
    obtain ⟨path, id, kind, mode, size, made⟩ := x
    obtain ⟨q0, q1, q2, q3, q4, q5, q6, q7, q8, q9, q10, q11, q12⟩ := (HR.out.below hB1).cells hx
    clear hx hlk hF HF hb P
    go_wp2_with fail
    rw [set13 B1.out rfl]
    refine bodyPost_ret (results_row_tmp rfl _ _ (w.heap.size + 1) _ _ _ _ rfl (setRow_heap _ _ _ _ _ _ B1.out) Tryd.underlying44 rfl (by kernel_rfl)) rfl ⟨?_, below_setRow hB1 (by omega) _⟩
    rw [HL.out]; rfl
  | false =>
    have hlk := HF.out.2 rfl
    have HL := Lib.hid hlk
    clear hlk hF HF hb P
    go_wp2_with fail
    have hset := fun v0 v1 v2 v3 v4 v5 v6 v7 v8 v9 v10 v11 v12 => set13 B1.out rfl v0 v1 v2 v3 v4 v5 v6 v7 v8 v9 v10 v11 v12
    rw [hset]
    refine bodyPost_ret (results_row_tmp rfl _ _ (w.heap.size + 1) _ _ _ _ rfl (setRow_heap _ _ _ _ _ _ B1.out) Tryd.underlying44 rfl (by kernel_rfl)) rfl ⟨?_, below_setRow hB1 (by omega) _⟩
    rw [HL.out]; rfl

end Go.Proofs.YtcniahbliadgiaaDoor

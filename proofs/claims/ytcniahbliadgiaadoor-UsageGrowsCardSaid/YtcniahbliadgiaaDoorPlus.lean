/-
  usage.Plus, usage.Fits: walks.
-/
import Derived.Test.YtcniahbliadgiaaDoorOfA
namespace Go.Proofs.YtcniahbliadgiaaDoor
open Go.RowKit
open Go.Proofs.PnKit Go.Proofs.PnPath

def inI (x : Int) : Prop := -9223372036854775808 ≤ x ∧ x ≤ 9223372036854775807
abbrev usV (u : Us) : Value := .agg #[.int .i64 u.bytes, .int .i64 u.inodes, .int .i64 u.depth, .int .i64 u.length]
def plusV (u v : Us) : Us := ⟨wrap64 (u.bytes + v.bytes), wrap64 (u.inodes + v.inodes), max u.depth v.depth, max u.length v.length⟩
set_option maxRecDepth 100000 in
set_option maxHeartbeats 1000000 in
theorem plus_any (u v : Us) (w : World) :
    Calls Tryd.prog 16 #[usV u, usV v] w fun e w' => e = .returned (usV (plusV u v)) ∧ Below w.heap.size w w' := by
  obtain ⟨a, b, c, d⟩ := u
  obtain ⟨a', b', c', d'⟩ := v
  go_enter Tryd.func16, Tryd.ntmps16
  go_wp2_with fail
  have hr := heap_alloc_new ((w.alloc (.cells #[.int .i64 a, .int .i64 b, .int .i64 c, .int .i64 d] 23)).alloc (.cells #[.int .i64 a', .int .i64 b', .int .i64 c', .int .i64 d'] 23)) (.cells #[.int .i64 (wrap64 (a + a')), .int .i64 (wrap64 (b + b')), .int .i64 (max c c'), .int .i64 (max d d')] 23)
  have e : ((w.alloc (.cells #[.int .i64 a, .int .i64 b, .int .i64 c, .int .i64 d] 23)).alloc (.cells #[.int .i64 a', .int .i64 b', .int .i64 c', .int .i64 d'] 23)).heap.size = w.heap.size + 1 + 1 := by simp
  rw [e] at hr
  refine bodyPost_ret (results_cell_row rfl _ _ (w.heap.size + 1 + 1) _ _ _ _ rfl hr Tryd.underlying23 rfl (by kernel_rfl)) rfl ?_
  exact ⟨rfl, (((Below.refl w.heap.size w).alloc (Nat.le_refl _) _).alloc (by simp) _).alloc (by simp; omega) _⟩
/-- is that not more than limits? -/
def fitsB (u : Us) (lb li ld ll : Int) : Bool := decide (u.bytes ≤ lb ∧ u.inodes ≤ li ∧ u.depth ≤ ld ∧ u.length ≤ ll)
theorem fits_ret {u : Us} {lb li ld ll : Int} {b : Bool} (h : b = true ↔ (u.bytes ≤ lb ∧ u.inodes ≤ li ∧ u.depth ≤ ld ∧ u.length ≤ ll)) : Ending.returned (.bool b) = .returned (.bool (fitsB u lb li ld ll)) := by
  congr 2
  rw [Bool.eq_iff_iff, h, fitsB, decide_eq_true_iff]
set_option maxRecDepth 100000 in
set_option maxHeartbeats 1000000 in
theorem fits_any (u : Us) (lb li ld ll ln le la : Int) (w : World) :
    Calls Tryd.prog 17 #[usV u, .agg #[.int .i64 lb, .int .i64 li, .int .i64 ld, .int .i64 ll, .int .i64 ln, .int .i64 le, .int .i64 la]] w fun e w' =>
      e = .returned (.bool (fitsB u lb li ld ll)) ∧ Below w.heap.size w w' := by
  obtain ⟨a, b, c, d⟩ := u
  go_enter Tryd.func17, Tryd.ntmps17
  go_wp2_with fail
  all_goals
    go_ret
    refine ⟨fits_ret ?_, ((Below.refl w.heap.size w).alloc (Nat.le_refl _) _).alloc (by simp) _⟩
    simp only [decide_eq_true_iff, Bool.false_eq_true, false_iff, not_and]
    omega

end Go.Proofs.YtcniahbliadgiaaDoor

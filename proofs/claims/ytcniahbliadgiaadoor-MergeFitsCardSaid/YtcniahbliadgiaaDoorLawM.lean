/-
  Layer 17's statements: what they share.
-/
import Derived.Test.YtcniahbliadgiaaDoorLays
import Derived.Deep.RegionHeld3
namespace Go.Proofs.YtcniahbliadgiaaDoor
open Go.RowKit
open Go.Proofs.PnKit Go.Proofs.PnPath

/-! plain -/
def clashB (L : List Rw) (r : Rw) : Bool := match look L (key r) with | some o => !((o.kind == 4) == (r.kind == 4)) | none => false
theorem clashB_iff {L : List Rw} {r : Rw} : clashB L r = true ↔ clashR L r := by
  unfold clashB clashR
  rcases look L (key r) with _ | o
  · simp
  · simp
theorem mergeV_ok {a b : List Rw} {n m : Int} (ha : Inv a n) (hb : Inv b m) (hc : ∀ r ∈ b, ¬ clashR a r) : mergeV (a, n) (b, m) = ((overR a n b).1, n + m, 0) := by
  unfold mergeV
  rw [if_neg (by rw [(overR_look (more := n) b ha.ok.sorted hb.ok.sorted hc).1]; decide)]
theorem mergeV_clash {a b : List Rw} {n m : Int} (ha : Inv a n) (hb : Inv b m) (hc : ∃ r ∈ b, clashR a r) : mergeV (a, n) (b, m) = (a, n, 130) := by
  unfold mergeV
  have h := overR_clash (more := n) b ha.ok.sorted hb.ok.sorted hc
  simp only [h]
  rw [if_pos (show (130 : Int) ≠ 0 by decide)]
theorem clash_or (a b : List Rw) : (∀ r ∈ b, ¬ clashR a r) ∨ ∃ r ∈ b, clashR a r := by
  by_cases h : ∃ r ∈ b, clashR a r
  · exact Or.inr h
  · exact Or.inl fun r hr hc => h ⟨r, hr, hc⟩
/-- a merged tree's rows: how many, which numbers, what they are -/
theorem mergeV_inv {a b : List Rw} {n m : Int} (ha : Inv a n) (hb : Inv b m) (hn : 0 ≤ n) (hm : 0 ≤ m) : Inv (mergeV (a, n) (b, m)).1 (mergeV (a, n) (b, m)).2.1 ∧ (mergeV (a, n) (b, m)).1.length ≤ a.length + b.length ∧ 0 ≤ (mergeV (a, n) (b, m)).2.1 ∧ (mergeV (a, n) (b, m)).2.1 ≤ n + m := by
  rcases clash_or a b with hc | hc
  · rw [mergeV_ok ha hb hc]
    have := overR_length (more := n) b ha.ok.sorted hb.ok.sorted hc
    exact ⟨merge_inv ha hb hn hm hc, by show (overR a n b).1.length ≤ _; omega, by show 0 ≤ n + m; omega, Int.le_refl _⟩
  · rw [mergeV_clash ha hb hc]
    exact ⟨ha, Nat.le_add_right _ _, hn, by show n ≤ n + m; omega⟩
theorem size_path {L : List Rw} (h : OkT L) {r : Rw} (hr : r ∈ L) : r.path.size ≤ 100000 := by have := h.psize r hr; omega
theorem key_parts (r : Rw) : key r = parts (bl r.path) := rfl

/-! the world behind the plantings -/
structure MW (w wr : World) (gA gB : Nat) (A : Option Addr) (c : Nat) (M : List Rw) (n : Int) (Ar : Option Addr) (cr : Nat) (TA : List Th) (na : Int) (B : Option Addr) (d : Nat) (U : List Rw) (m : Int) (Br : Option Addr) (dr : Nat) (TB : List Th) (nb : Int) : Prop where
  bA : wr.heap[gA]? = some (.cells [.slice A M.length c, .int .i64 n].toArray 35 (0, 0))
  rA : wr.heap[gA + 1]? = some (.cells [.slice Ar TA.length cr, .int .i64 na].toArray 64 (0, 0))
  bB : wr.heap[gB]? = some (.cells [.slice B U.length d, .int .i64 m].toArray 35 (0, 0))
  rB : wr.heap[gB + 1]? = some (.cells [.slice Br TB.length dr, .int .i64 nb].toArray 64 (0, 0))
  tA : RT wr A c M
  hA : RH wr Ar cr TA
  tB : RT wr B d U
  hB : RH wr Br dr TB
  below : Below w.heap.size w wr
theorem MW.next {w wr w' : World} {gA gB : Nat} {A : Option Addr} {c : Nat} {M : List Rw} {n : Int} {Ar : Option Addr} {cr : Nat} {TA : List Th} {na : Int} {B : Option Addr} {d : Nat} {U : List Rw} {m : Int} {Br : Option Addr} {dr : Nat} {TB : List Th} {nb : Int}
    (h : MW w wr gA gB A c M n Ar cr TA na B d U m Br dr TB nb) (hb : Below wr.heap.size wr w') : MW w w' gA gB A c M n Ar cr TA na B d U m Br dr TB nb :=
  ⟨(hb.block _ (blk_lt h.bA)).trans h.bA, (hb.block _ (blk_lt h.rA)).trans h.rA, (hb.block _ (blk_lt h.bB)).trans h.bB, (hb.block _ (blk_lt h.rB)).trans h.rB, h.tA.below hb, h.hA.below hb, h.tB.below hb, h.hB.below hb, h.below.trans (hb.mono h.below.size)⟩
theorem tree_cells {w : World} {g : Nat} {A : Option Addr} {n c : Nat} {m : Int} {t : TypeId} (h : w.heap[g]? = some (.cells [.slice A n c, .int .i64 m].toArray t (0, 0))) :
    w.cell? ⟨g, 0, none⟩ = some (.slice A n c) ∧ w.cell? ⟨g, 1, none⟩ = some (.int .i64 m) ∧ g < w.heap.size := ⟨blk_cell h (j := 0) rfl, blk_cell h (j := 1) rfl, blk_lt h⟩

end Go.Proofs.YtcniahbliadgiaaDoor

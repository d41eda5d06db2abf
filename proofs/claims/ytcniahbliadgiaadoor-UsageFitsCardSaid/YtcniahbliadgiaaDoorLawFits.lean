/-
  pannierlaw14.UsageFits: the walk.
-/
import Derived.Test.YtcniahbliadgiaaDoorMeas
import Derived.Deep.DeepCutAuto
namespace Go.Proofs.YtcniahbliadgiaaDoor
open Go.RowKit
open Go.Proofs.PnKit Go.Proofs.PnPath

/-- the four boxes of the last statement -/
structure FB (n m : Nat) (u v z : Us) (l : List Value) (W : World) : Prop where
  k0 : W.heap[n]? = some (.cells (usC u).toArray 23 (0, 0))
  k1 : W.heap[n + 1]? = some (.cells (usC v).toArray 23 (0, 0))
  k2 : W.heap[n + 1 + 1]? = some (.cells l.toArray 29 (0, 0))
  k3 : W.heap[m]? = some (.cells (usC z).toArray 23 (0, 0))
theorem heap_lt {w : World} {g : Nat} {o : Obj} (h : w.heap[g]? = some o) : g < w.heap.size := (Array.getElem?_eq_some_iff.1 h).1
theorem FB.below {n m : Nat} {u v z : Us} {l : List Value} {W w' : World} (h : FB n m u v z l W) (hb : Below W.heap.size W w') : FB n m u v z l w' :=
  ⟨(hb.block _ (heap_lt h.k0)).trans h.k0, (hb.block _ (heap_lt h.k1)).trans h.k1, (hb.block _ (heap_lt h.k2)).trans h.k2, (hb.block _ (heap_lt h.k3)).trans h.k3⟩
theorem FB.cells {n m : Nat} {u v z : Us} {lb li ld ll ln le la : Int} {W : World} (h : FB n m u v z [.int .i64 lb, .int .i64 li, .int .i64 ld, .int .i64 ll, .int .i64 ln, .int .i64 le, .int .i64 la] W) :
    W.cell? ⟨n, 0, none⟩ = some (.int .i64 u.bytes) ∧ W.cell? ⟨n, 1, none⟩ = some (.int .i64 u.inodes) ∧ W.cell? ⟨n, 2, none⟩ = some (.int .i64 u.depth) ∧ W.cell? ⟨n, 3, none⟩ = some (.int .i64 u.length) ∧ W.cell? ⟨n + 1, 0, none⟩ = some (.int .i64 v.bytes) ∧ W.cell? ⟨n + 1, 1, none⟩ = some (.int .i64 v.inodes) ∧ W.cell? ⟨n + 1, 2, none⟩ = some (.int .i64 v.depth) ∧ W.cell? ⟨n + 1, 3, none⟩ = some (.int .i64 v.length) ∧ W.cell? ⟨n + 1 + 1, 0, none⟩ = some (.int .i64 lb) ∧ W.cell? ⟨n + 1 + 1, 1, none⟩ = some (.int .i64 li) ∧ W.cell? ⟨n + 1 + 1, 2, none⟩ = some (.int .i64 ld) ∧ W.cell? ⟨n + 1 + 1, 3, none⟩ = some (.int .i64 ll) ∧ W.cell? ⟨n + 1 + 1, 4, none⟩ = some (.int .i64 ln) ∧ W.cell? ⟨n + 1 + 1, 5, none⟩ = some (.int .i64 le) ∧ W.cell? ⟨n + 1 + 1, 6, none⟩ = some (.int .i64 la) ∧ W.cell? ⟨m, 0, none⟩ = some (.int .i64 z.bytes) ∧ W.cell? ⟨m, 1, none⟩ = some (.int .i64 z.inodes) ∧ W.cell? ⟨m, 2, none⟩ = some (.int .i64 z.depth) ∧ W.cell? ⟨m, 3, none⟩ = some (.int .i64 z.length) :=
  ⟨blk_cell h.k0 (j := 0) rfl, blk_cell h.k0 (j := 1) rfl, blk_cell h.k0 (j := 2) rfl, blk_cell h.k0 (j := 3) rfl, blk_cell h.k1 (j := 0) rfl, blk_cell h.k1 (j := 1) rfl, blk_cell h.k1 (j := 2) rfl, blk_cell h.k1 (j := 3) rfl, blk_cell h.k2 (j := 0) rfl, blk_cell h.k2 (j := 1) rfl, blk_cell h.k2 (j := 2) rfl, blk_cell h.k2 (j := 3) rfl, blk_cell h.k2 (j := 4) rfl, blk_cell h.k2 (j := 5) rfl, blk_cell h.k2 (j := 6) rfl, blk_cell h.k3 (j := 0) rfl, blk_cell h.k3 (j := 1) rfl, blk_cell h.k3 (j := 2) rfl, blk_cell h.k3 (j := 3) rfl⟩

set_option maxRecDepth 100000 in
set_option maxHeartbeats 2000000 in
theorem fits_walk (u v : Us) (lb li ld ll ln le la : Int) (w : World) (hE : Env w) :
    Calls Tryd.prog 4 #[usV u, usV v, .agg #[.int .i64 lb, .int .i64 li, .int .i64 ld, .int .i64 ll, .int .i64 ln, .int .i64 le, .int .i64 la]] w fun e w' => e = .returned (.bool true) ∧ Below w.heap.size w w' := by
  have PU := Lib.hid (fun (u v : Us) (w : World) => plus_any u v w)
  have FI := Lib.hid (fun (u : Us) (w : World) => fits_any u lb li ld ll ln le la w)
  have ME := Lib.hid measures_any
  have HE := Lib.hid hE
  obtain ⟨a, b, c, d⟩ := u
  obtain ⟨a', b', c', d'⟩ := v
  go_enter Tryd.func4, Tryd.ntmps4
  go_wp2_with fail
  have hN := fun o q s : Obj => (((Below.refl w.heap.size w).alloc (Nat.le_refl _) o).alloc (by simp) q).alloc (by simp; omega) s
  refine (ME.out _ (HE.out.below (hN _ _ _))).mono ?_
  rintro e w1 ⟨rfl, hb1⟩
  obtain ⟨b0, b1, b2, hn1⟩ := three_blocks (a := [.int .i64 a, .int .i64 b, .int .i64 c, .int .i64 d]) (b := [.int .i64 a', .int .i64 b', .int .i64 c', .int .i64 d']) (d := [.int .i64 lb, .int .i64 li, .int .i64 ld, .int .i64 ll, .int .i64 ln, .int .i64 le, .int .i64 la]) hb1
  have HB1 : Hid (Below w.heap.size w w1) := bch (hN _ _ _) hb1
  have p0 := blk_cell b0 (j := 0) rfl
  have p1 := blk_cell b0 (j := 1) rfl
  have p2 := blk_cell b0 (j := 2) rfl
  have p3 := blk_cell b0 (j := 3) rfl
  have q0 := blk_cell b1 (j := 0) rfl
  have q1 := blk_cell b1 (j := 1) rfl
  have q2 := blk_cell b1 (j := 2) rfl
  have q3 := blk_cell b1 (j := 3) rfl
  have B0 := Lib.hid b0
  have B1 := Lib.hid b1
  have B2 := Lib.hid b2
  clear b0 b1 b2 hb1 hN hE
  go_wp2_with fail
  all_goals try (go_ret; exact ⟨rfl, HB1.out⟩)
  have hg : 0 ≤ a ∧ 0 ≤ a' ∧ a ≤ 1152921504606846976 ∧ a' ≤ 1152921504606846976 ∧ 0 ≤ b ∧ 0 ≤ b' ∧ b ≤ 1099511627776 ∧ b' ≤ 1099511627776 := by omega
  obtain ⟨D, hD, hDc⟩ : ∃ D, max c c' = D ∧ ((D = c ∧ c' ≤ c) ∨ (D = c' ∧ c < c')) := ⟨_, rfl, by omega⟩
  obtain ⟨E, hE⟩ : ∃ E, max d d' = E := ⟨_, rfl⟩
  have hpl : plusV ⟨a, b, c, d⟩ ⟨a', b', c', d'⟩ = ⟨a + a', b + b', D, E⟩ := by
    unfold plusV wrap64
    simp only [Us.mk.injEq, hD, hE, and_true]
    omega
  have hEd : d ≤ E ∧ d' ≤ E := by omega
  have hEm : (E != max d d') = false := by rw [hE]; simp
  clear hD hE
  have PU2 := PU.out ⟨a, b, c, d⟩ ⟨a', b', c', d'⟩ w1
  rw [hpl] at PU2
  clear hpl
  refine PU2.mono ?_
  clear PU2
  rintro e w2 ⟨rfl, hb2⟩
  have hn10 : w.heap.size < w1.heap.size := by omega
  have hn11 : w.heap.size + 1 < w1.heap.size := by omega
  have k0 : w2.heap[w.heap.size]? = _ := (hb2.block _ hn10).trans B0.out
  have k1 : w2.heap[w.heap.size + 1]? = _ := (hb2.block _ hn11).trans B1.out
  have k2 : w2.heap[w.heap.size + 1 + 1]? = _ := (hb2.block _ hn1).trans B2.out
  have HB2 : Hid (Below w.heap.size w w2) := bch HB1.out hb2
  have hn2 := hb2.size
  have hn20 : w.heap.size < w2.heap.size := by omega
  have hn21 : w.heap.size + 1 < w2.heap.size := by omega
  have hn22 : w.heap.size + 1 + 1 < w2.heap.size := by omega
  clear p0 p1 p2 p3 q0 q1 q2 q3 B0 B1 B2 hb2 PU
  have p0 := blk_cell k0 (j := 0) rfl
  have p1 := blk_cell k0 (j := 1) rfl
  have p2 := blk_cell k0 (j := 2) rfl
  have p3 := blk_cell k0 (j := 3) rfl
  have q0 := blk_cell k1 (j := 0) rfl
  have q1 := blk_cell k1 (j := 1) rfl
  have q2 := blk_cell k1 (j := 2) rfl
  have q3 := blk_cell k1 (j := 3) rfl
  have r0 := blk_cell k2 (j := 0) rfl
  have r1 := blk_cell k2 (j := 1) rfl
  have r2 := blk_cell k2 (j := 2) rfl
  have r3 := blk_cell k2 (j := 3) rfl
  have r4 := blk_cell k2 (j := 4) rfl
  have r5 := blk_cell k2 (j := 5) rfl
  have r6 := blk_cell k2 (j := 6) rfl
  have K0 := Lib.hid k0
  have K1 := Lib.hid k1
  have K2 := Lib.hid k2
  clear k0 k1 k2
  have hcase : ∃ f1 f2 f3 : Bool, fitsB ⟨a, b, c, d⟩ lb li ld ll = f1 ∧ fitsB ⟨a', b', c', d'⟩ lb li ld ll = f2 ∧ fitsB ⟨a + a', b + b', D, E⟩ lb li ld ll = f3 ∧ ((f1 = true ∧ f3 = false) ∨ (f1 = true ∧ f3 = true ∧ f2 = true) ∨ (f1 = false ∧ f3 = false)) := by
    refine ⟨_, _, _, rfl, rfl, rfl, ?_⟩
    unfold fitsB
    simp only [decide_eq_true_iff, decide_eq_false_iff_not]
    omega
  obtain ⟨f1, f2, f3, h1, h2, h3, hc3⟩ := hcase
  have F1 := Lib.hid (fun (w : World) => FI.out ⟨a, b, c, d⟩ w)
  have F2 := Lib.hid (fun (w : World) => FI.out ⟨a', b', c', d'⟩ w)
  have F3 := Lib.hid (fun (w : World) => FI.out ⟨a + a', b + b', D, E⟩ w)
  rw [h1] at F1
  rw [h2] at F2
  rw [h3] at F3
  have hfit : (f1 = true → a ≤ lb ∧ b ≤ li ∧ c ≤ ld ∧ d ≤ ll) ∧ (f1 = false → ¬ (a ≤ lb ∧ b ≤ li ∧ c ≤ ld ∧ d ≤ ll)) := by
    rw [← h1]; unfold fitsB
    simp only [decide_eq_true_iff, decide_eq_false_iff_not]
    exact ⟨fun h => h, fun h => h⟩
  clear h1 h2 h3 FI
  have hDm : c ≤ D ∧ c' ≤ D := by omega
  have hDt : (D != c) = false ∨ ((D != c) = true ∧ (D != c') = false) := by
    rcases hDc with ⟨h, _⟩ | ⟨h, h2⟩
    · exact Or.inl (by simp [h])
    · exact Or.inr ⟨by simp [h]; omega, by simp [h]⟩
  clear hDc
  rcases hDt with hne | ⟨hne, hne2⟩
  all_goals
    have HF := Lib.hid hfit
    clear hfit
    go_upto_region 8 with fail
    go_cut [8] (fun s8 wx => s8 = .bool f1 ∧ wx = w2.alloc (.cells #[.int .i64 (a + a'), .int .i64 (b + b'), .int .i64 D, .int .i64 E] 23))
    case first =>
      go_wp2_with fail
      all_goals go_meet
      all_goals refine ⟨?_, rfl⟩
      all_goals
        congr 1
        cases f1
        · have h := HF.out.2 rfl
          first | rfl | (simp; omega)
        · have h := HF.out.1 rfl
          first | rfl | (simp; omega) | (exfalso; omega)
    case rest =>
      obtain ⟨rfl, rfl⟩ := hcut
      clear HF r3 r4 r5 r6
      have FW : Hid (FB w.heap.size w2.heap.size ⟨a, b, c, d⟩ ⟨a', b', c', d'⟩ ⟨a + a', b + b', D, E⟩ [.int .i64 lb, .int .i64 li, .int .i64 ld, .int .i64 ll, .int .i64 ln, .int .i64 le, .int .i64 la] (w2.alloc (.cells #[.int .i64 (a + a'), .int .i64 (b + b'), .int .i64 D, .int .i64 E] 23))) := by
        refine Lib.hid ⟨?_, ?_, ?_, ?_⟩
        · rw [Below.heap_alloc _ _ _ hn20]; exact K0.out
        · rw [Below.heap_alloc _ _ _ hn21]; exact K1.out
        · rw [Below.heap_alloc _ _ _ hn22]; exact K2.out
        · exact heap_alloc_new w2 _
      have HBW : Hid (Below w.heap.size w (w2.alloc (.cells #[.int .i64 (a + a'), .int .i64 (b + b'), .int .i64 D, .int .i64 E] 23))) := Lib.hid (HB2.out.alloc (by omega) _)
      clear p0 p1 p2 p3 q0 q1 q2 q3 r0 r1 r2 K0 K1 K2
      obtain ⟨p0, p1, p2, p3, q0, q1, q2, q3, r0, r1, r2, r3, r4, r5, r6, s0, s1, s2, s3⟩ := FW.out.cells
      rcases hc3 with ⟨rfl, rfl⟩ | ⟨rfl, rfl, rfl⟩ | ⟨rfl, rfl⟩
      all_goals
        go_wp2_with fail
        refine (F1.out _).mono ?_
        rintro e w3 ⟨rfl, hb3⟩
        have FW3 := Lib.hid (FW.out.below hb3)
        have HB3 := Lib.hid (bch HBW.out hb3)
        clear hb3
        clear p0 p1 p2 p3 q0 q1 q2 q3 r0 r1 r2 r3 r4 r5 r6 s0 s1 s2 s3
        obtain ⟨p0, p1, p2, p3, q0, q1, q2, q3, r0, r1, r2, r3, r4, r5, r6, s0, s1, s2, s3⟩ := FW3.out.cells
        go_wp2_with fail
        refine (F3.out _).mono ?_
        rintro e w4 ⟨rfl, hb4⟩
        have FW4 := Lib.hid (FW3.out.below hb4)
        have HB4 := Lib.hid (bch HB3.out hb4)
        clear hb4
        clear p0 p1 p2 p3 q0 q1 q2 q3 r0 r1 r2 r3 r4 r5 r6 s0 s1 s2 s3
        obtain ⟨p0, p1, p2, p3, q0, q1, q2, q3, r0, r1, r2, r3, r4, r5, r6, s0, s1, s2, s3⟩ := FW4.out.cells
        go_wp2_with fail
        first
        | (go_ret; exact ⟨rfl, HB4.out⟩)
        | skip
        try
          refine (F1.out _).mono ?_
          rintro e w5 ⟨rfl, hb5⟩
          have FW5 := Lib.hid (FW4.out.below hb5)
          have HB5 := Lib.hid (bch HB4.out hb5)
          clear hb5
          clear p0 p1 p2 p3 q0 q1 q2 q3 r0 r1 r2 r3 r4 r5 r6 s0 s1 s2 s3
          obtain ⟨p0, p1, p2, p3, q0, q1, q2, q3, r0, r1, r2, r3, r4, r5, r6, s0, s1, s2, s3⟩ := FW5.out.cells
          go_wp2_with fail
          refine (F2.out _).mono ?_
          rintro e w6 ⟨rfl, hb6⟩
          have HB6 := Lib.hid (bch HB5.out hb6)
          go_wp2_with fail
          go_ret
          exact ⟨rfl, HB6.out⟩

end Go.Proofs.YtcniahbliadgiaaDoor

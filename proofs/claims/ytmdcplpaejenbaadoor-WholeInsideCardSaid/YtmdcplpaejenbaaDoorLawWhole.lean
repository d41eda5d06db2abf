/- WholeInside: the walk. -/
import Derived.Test.YtmdcplpaejenbaaDoorPathC
import Derived.Test.YtmdcplpaejenbaaDoorWalkU
namespace Go.Proofs.YtmdcplpaejenbaaDoor
open Go.RowKit
open Go.Proofs.PnKit Go.Proofs.PnPath

/-- what may stand at the loop's place: a path of clean parts -/
structure At (r : ByteArray) (P : List (List UInt8)) : Prop where
  eq : bl r = join P
  good : G P
  len : tot P ≤ 1001
theorem At.size {r : ByteArray} {P : List (List UInt8)} (h : At r P) : r.size ≤ 1001 := by
  have h1 := join_length_le P
  have h2 := h.len
  rw [← h.eq, bl_size] at h1
  omega
theorem At.back {r n : ByteArray} {P N : List (List UInt8)} (h : At r P) (k : At n N) : resolveP (bl r) (relativeP (bl r) (bl n)) = (bl n, 0) := by
  have h1 := G_two h.good
  have h2 := h.len
  have h3 := k.len
  rw [h.eq, k.eq]
  exact (PnPath.back h.good k.good (by omega)).1

set_option maxRecDepth 100000 in
set_option maxHeartbeats 2000000 in
theorem whole_walk (start : ByteArray) (A0 : Option Addr) (c0 : Nat) (ns : List ByteArray) (w : World) (hE : Env w) (hN : Rd w A0 c0 ns) :
    Calls Tryd.prog 3 #[.string start, .slice A0 (List.length ns) c0] w fun e w' => e = .returned (.bool true) ∧ Below w.heap.size w w' := by
  have R := Lib.hid (resolve_at ⟨#[97]⟩ ⟨#[46, 46, 47, 98]⟩ w hE (by decide) [98] 0 (by decide +kernel))
  go_enter Tryd.func3, Tryd.ntmps3
  go_wp2_with fail
  refine R.out.mono ?_
  rintro e w1 ⟨rfl, hb1⟩
  go_wp2_with fail
  refine (clean_any start _ (hE.below hb1)).mono ?_
  rintro e w2 ⟨A, c, L, code, rfl, hR, hc, hb2⟩
  have hB2 := bch hb1 hb2
  clear hb1 hb2
  by_cases h0 : code = 0
  case neg =>
    have hcb : (code != 0) = true := by simp [h0]
    clear hc
    go_wp2_with fail
    go_ret
    exact ⟨rfl, hB2⟩
  subst h0
  have HC := Lib.hid (clean_bounds hc)
  have hj := (clean_bounds hc).2.1
  clear hc
  by_cases h1 : 20 < ns.length
  · have g1 : decide ((20 : Int) < (ns.length : Int)) = true := decide_eq_true (by omega)
    go_wp2_with fail
    go_ret
    exact ⟨rfl, hB2⟩
  have g1 : decide ((20 : Int) < (ns.length : Int)) = false := decide_eq_false (by omega)
  by_cases h2 : 300 < start.size
  · have g2 : decide ((300 : Int) < (start.size : Int)) = true := decide_eq_true (by omega)
    go_wp2_with fail
    go_ret
    exact ⟨rfl, hB2⟩
  have g2 : decide ((300 : Int) < (start.size : Int)) = false := decide_eq_false (by omega)
  have htot : tot (bls L) ≤ 1001 := by
    by_cases hL : bls L = []
    · rw [hL]; decide
    · have := join_length _ hL
      omega
  have HJ := Lib.hid (join_any A c L _ hR (by omega))
  have HT := Lib.hid htot
  have HN := Lib.hid hN
  clear htot hj hR
  go_wp2_with fail
  refine HJ.out.mono ?_
  rintro e w3 ⟨r, rfl, hr, hb3⟩
  have HB : Hid (Below w.heap.size w w3) := bch hB2 hb3
  have HAT : Hid (∃ P, At r P) := ⟨bls L, ⟨hr, HC.out.1, HT.out⟩⟩
  clear hr hb3 hB2 HJ HC HT
  go_wp2_with fail
  go_loopw [51, 9] (fun i at' wr => ∃ (k : Nat) (r : ByteArray), i = .int .i64 k ∧ k ≤ ns.length ∧ at' = .string r ∧ (∃ P, At r P) ∧ Below w.heap.size w wr) (fun i _ _ => ns.length - (RowKit.intOf i).toNat)
  case atStart => exact ⟨0, r, rfl, Nat.zero_le _, rfl, HAT.out, HB.out⟩
  case round =>
    obtain ⟨k, q, rfl, hk, rfl, ⟨P, hat⟩, hbr⟩ := hrel
    have HAT := Lib.hid hat
    have hqs := hat.size
    clear hat
    by_cases hlt : k < ns.length
    case neg =>
      go_wp2_with fail
      go_ret
      exact ⟨rfl, hbr⟩
    have HNr := HN.out.below hbr
    obtain ⟨b, o, rfl, -, -⟩ := HNr.pos (by omega)
    have hcell := HNr.row hlt
    clear HNr
    generalize ns.getD k ByteArray.empty = n at hcell
    by_cases hn : 100 < n.size
    · have g3 : decide ((100 : Int) < (n.size : Int)) = true := decide_eq_true (by omega)
      go_wp2_with fail
      go_ret
      exact ⟨rfl, hbr⟩
    have g3 : decide ((100 : Int) < (n.size : Int)) = false := decide_eq_false (by omega)
    go_wp2_with fail
    refine (resolve_any q n _ (hE.below hbr) (by omega)).mono ?_
    rintro e w4 ⟨next, code, rfl, hres, hb4⟩
    have hB4 := bch hbr hb4
    clear hb4
    by_cases hc0 : code = 0
    case neg =>
      have hcb : (code != 0) = true := by simp [hc0]
      have hs : bl next = [] := by
        have := resolve_err (d := bl q) (t := bl n) (by rw [hres]; exact hc0)
        rw [hres] at this; exact this
      obtain rfl : (⟨#[]⟩ : ByteArray) = next := bl_inj hs.symm
      clear hres hs hc0
      go_wp2_with fail
      exact ⟨⟨k + 1, q, by go_num, by omega, rfl, ⟨P, HAT.out⟩, hB4⟩, by simp [RowKit.intOf] <;> omega⟩
    subst hc0
    rw [HAT.out.eq] at hres
    obtain ⟨N, hN1, hN2, hN3, -, -⟩ := resolve_ok hres HAT.out.good
    have hNt : tot N ≤ 1102 := by have := HAT.out.len; rw [bl_size] at hN3; omega
    have hns : next.size ≤ 1102 := by have := join_length_le N; rw [← hN1, bl_size] at this; omega
    have HN1 := Lib.hid hN1
    have HN2 := Lib.hid hN2
    clear hres hN1 hN2 hN3
    cases en : next.toList.isEmpty
    case' false =>
      have hNn : N ≠ [] := by
        rintro rfl
        have h1 : bl next = [] := HN1.out
        rw [ByteArray.toList_eq] at en
        rw [show next.data.toList = [] from h1] at en
        cases en
      have hcl : clean (bl next) = (N, 0) := by
        rw [HN1.out]
        exact clean_join N hNn (by rw [← HN1.out, bl_size]; omega) HN2.out
      have HCL := Lib.hid hcl
      clear hNn hcl
      go_wp2_with fail
      refine (clean_any next _ (hE.below hB4)).mono ?_
      rintro e w5 ⟨A5, c5, L5, code5, rfl, hR5, h5, hb5⟩
      rw [HCL.out, Prod.mk.injEq] at h5
      obtain ⟨h5, rfl⟩ := h5
      have hB4 := bch hB4 hb5
      have HJ := Lib.hid (join_any A5 c5 L5 _ hR5 (by rw [← h5]; omega))
      have H5 := Lib.hid h5
      clear h5 hR5 hb5 HCL
      go_wp2_with fail
      refine HJ.out.mono ?_
      rintro e w6 ⟨r6, rfl, hr6, hb6⟩
      obtain rfl : next = r6 := bl_inj (by rw [hr6, ← H5.out, HN1.out])
      have hB4 := bch hB4 hb6
      clear hr6 hb6 HJ H5
    all_goals
      by_cases hns2 : 1000 < next.size
      case pos =>
        have g4 : decide ((1000 : Int) < (next.size : Int)) = true := decide_eq_true (by omega)
        go_wp2_with fail
        go_ret
        exact ⟨rfl, hB4⟩
      have g4 : decide ((1000 : Int) < (next.size : Int)) = false := decide_eq_false (by omega)
      have hNt2 : tot N ≤ 1001 := by
        by_cases hN0 : N = []
        · subst hN0; decide
        · have h1 := join_length N hN0
          rw [← HN1.out, bl_size] at h1
          omega
      have HAN : Hid (At next N) := ⟨HN1.out, HN2.out, hNt2⟩
      clear hNt2 HN1 HN2 hNt
      go_wp2_with fail
      refine (relative_any next q _ (hE.below hB4) (by omega) (by omega)).mono ?_
      rintro e w7 ⟨r7, rfl, hr7, hb7⟩
      have hB7 := bch hB4 hb7
      have HR7 := Lib.hid hr7
      clear hr7 hb7
      go_wp2_with fail
      refine (resolve_any next r7 _ (hE.below hB7) (by omega)).mono ?_
      rintro e w8 ⟨r8, c8, rfl, h8, hb8⟩
      have hB8 := bch hB7 hb8
      rw [HR7.out, HAN.out.back HAT.out, Prod.mk.injEq] at h8
      obtain ⟨h8, rfl⟩ := h8
      obtain rfl : q = r8 := bl_inj h8
      clear h8 hb8 hB7 HR7
      go_wp2_with fail
      refine (relative_any q next _ (hE.below hB8) (by omega) (by omega)).mono ?_
      rintro e w9 ⟨r9, rfl, hr9, hb9⟩
      have hB9 := bch hB8 hb9
      have HR9 := Lib.hid hr9
      clear hr9 hb9
      go_wp2_with fail
      refine (resolve_any q r9 _ (hE.below hB9) (by omega)).mono ?_
      rintro e w10 ⟨r10, c10, rfl, h10, hb10⟩
      have hB10 := bch hB9 hb10
      rw [HR9.out, HAT.out.back HAN.out, Prod.mk.injEq] at h10
      obtain ⟨h10, rfl⟩ := h10
      obtain rfl : next = r10 := bl_inj h10
      clear h10 hb10 hB9 HR9
      go_wp2_with fail
      refine (under_any ⟨#[]⟩ next _ (by decide)).mono ?_
      rintro e w11 ⟨rfl, rfl⟩
      go_wp2_with fail
      exact ⟨⟨k + 1, next, by go_num, by omega, rfl, ⟨N, HAN.out⟩, hB10⟩, by simp [RowKit.intOf] <;> omega⟩

end Go.Proofs.YtmdcplpaejenbaaDoor

/- PathUps: the walk. -/
import Derived.Test.YtmdcplpaejenbaaDoorPathC
import Derived.Test.YtmdcplpaejenbaaDoorWalkU
namespace Go.Proofs.YtmdcplpaejenbaaDoor
open Go.RowKit
open Go.Proofs.PnKit Go.Proofs.PnPath

theorem same_take (A : Option Addr) (c : Nat) (a : List ByteArray) (A' : Option Addr) (c' : Nat) (b : List ByteArray) (w : World) (ha : Rd w A c a) (hb : Rd w A' c' b) (hal : a.length ≤ 1000000) (hbl : b.length ≤ 1000000) (k : Nat) (hk : k ≤ a.length) :
    Calls Tryd.prog 20 #[.slice A k c, .slice A' (List.length b) c'] w fun e w' => e = .returned (.bool (decide ((bls a).take k = bls b))) ∧ ∃ n, w' = w.drewN n := by
  have h := same_any A c (a.take k) A' c' b w (ha.take k) hb (by simp; omega) hbl
  rw [List.length_take, Nat.min_eq_left hk, bls_tk] at h
  exact h
theorem join_take (A : Option Addr) (c : Nat) (L : List ByteArray) (w : World) (hR : Rd w A c L) (hlen : tot (bls L) ≤ 100000000) (k : Nat) (hk : k ≤ L.length) :
    Calls Tryd.prog 15 #[.slice A k c] w fun e w' => ∃ r, e = .returned (.string r) ∧ bl r = join ((bls L).take k) ∧ Below w.heap.size w w' := by
  have h := join_any A c (L.take k) w (hR.take k) (by rw [bls_tk]; have := tot_take_le (bls L) k; omega)
  rw [List.length_take, Nat.min_eq_left hk, bls_tk] at h
  exact h
theorem under_up {L : List (List UInt8)} (hG : G L) : under (join L.dropLast) (join L) = true := by
  rw [under_join (G_sub (fun p hp => List.dropLast_sublist L |>.mem hp) hG) hG]
  exact decide_eq_true ⟨by simp, by rw [List.length_dropLast, ← List.dropLast_eq_take]⟩

set_option maxHeartbeats 1000000 in
theorem pathups_walk (s other : ByteArray) (w : World) (hE : Env w) :
    Calls Tryd.prog 12 #[.string s, .string other] w fun e w' => e = .returned (.bool true) ∧ Below w.heap.size w w' := by
  have P := Lib.hid (cleans_any w hE)
  go_enter Tryd.func12, Tryd.ntmps12
  go_wp2_with fail
  refine P.out.mono ?_
  rintro e w1 ⟨rfl, hb1⟩
  go_wp2_with fail
  refine (clean_any s _ (hE.below hb1)).mono ?_
  rintro e w2 ⟨A, c, L, code, rfl, hR, hc, hb2⟩
  have hB2 := bch hb1 hb2
  clear hb1 hb2
  go_wp2_with fail
  refine (clean_any other _ (hE.below hB2)).mono ?_
  rintro e w3 ⟨A', c', M, code', rfl, hR', hc', hb3⟩
  have hB3 := bch hB2 hb3
  have hR := hR.below hb3
  clear hB2 hb3
  by_cases h0 : code = 0
  case neg =>
    have hcb : (code != 0) = true := by simp [h0]
    clear hc hc'
    go_wp2_with fail
    go_ret
    exact ⟨rfl, hB3⟩
  subst h0
  by_cases h0 : code' = 0
  case neg =>
    have hcb : (code' != 0) = true := by simp [h0]
    clear hc hc'
    go_wp2_with fail
    go_ret
    exact ⟨rfl, hB3⟩
  subst h0
  have HC := Lib.hid (clean_bounds hc)
  have HC' := Lib.hid (clean_bounds hc')
  have hj := (clean_bounds hc).2.1
  have hj' := (clean_bounds hc').2.1
  clear hc hc'
  by_cases h1 : 1000 < s.size
  · have g1 : decide ((1000 : Int) < (s.size : Int)) = true := decide_eq_true (by omega)
    clear hj hR HC hj' hR' HC'
    go_wp2_with fail
    go_ret
    exact ⟨rfl, hB3⟩
  have g1 : decide ((1000 : Int) < (s.size : Int)) = false := decide_eq_false (by omega)
  by_cases h2 : 1000 < other.size
  · have g2 : decide ((1000 : Int) < (other.size : Int)) = true := decide_eq_true (by omega)
    clear hj hR HC hj' hR' HC'
    go_wp2_with fail
    go_ret
    exact ⟨rfl, hB3⟩
  have g2 : decide ((1000 : Int) < (other.size : Int)) = false := decide_eq_false (by omega)
  have htj : ∀ K : List (List UInt8), (join K).length ≤ 1000 → tot K ≤ 1001 := fun K h => by
    by_cases hL : K = []
    · rw [hL]; decide
    · have := join_length _ hL
      omega
  have ht := htj (bls L) (by omega)
  have ht' := htj (bls M) (by omega)
  have hll : L.length ≤ 1001 := by have := length_le_tot (bls L); rw [bls_length] at this; omega
  have hml : M.length ≤ 1001 := by have := length_le_tot (bls M); rw [bls_length] at this; omega
  have HJ := Lib.hid (join_any A c L _ hR (by omega))
  have HS : Hid (s.size ≤ 1000 ∧ (join (bls L)).length ≤ 1000 ∧ other.size ≤ 1000 ∧ (join (bls M)).length ≤ 1000) := ⟨by omega, by omega, by omega, by omega⟩
  have HT : Hid (tot (bls L) ≤ 1001 ∧ tot (bls M) ≤ 1001) := ⟨ht, ht'⟩
  clear hj hj' h1 h2 htj ht ht'
  go_wp2_with fail
  refine HJ.out.mono ?_
  rintro e w4 ⟨p, rfl, hp, hb4⟩
  have hB4 := bch hB3 hb4
  have hR := hR.below hb4
  have hR' := hR'.below hb4
  clear hb4 hB3 HJ
  have HP := Lib.hid hp
  have hps : p.size ≤ 1000 := by rw [← bl_size, hp]; exact HS.out.2.1
  clear hp
  have HJ := Lib.hid (join_any A' c' M _ hR' (by have := HT.out; omega))
  go_wp2_with fail
  refine HJ.out.mono ?_
  rintro e w5 ⟨q, rfl, hq, hb5⟩
  have hB5 := bch hB4 hb5
  have hR := hR.below hb5
  have hR' := hR'.below hb5
  clear hb5 hB4 HJ
  have HQ := Lib.hid hq
  have hqs : q.size ≤ 1000 := by rw [← bl_size, hq]; exact HS.out.2.2.2
  clear hq
  have hcap := hR.cap
  have HRl := Lib.hid hR
  have HRm := Lib.hid hR'
  clear hR hR'
  have hU := fun (w : World) => under_any q p w (by omega)
  rw [HP.out, HQ.out, under_join HC'.out.1 HC.out.1] at hU
  rw [bls_length, bls_length] at hU
  have HU := Lib.hid hU
  clear hU
  have tail : ∀ (w6 : World), Below w.heap.size w w6 → Rd w6 A c L → Rd w6 A' c' M → True := fun _ _ _ _ => trivial
  clear tail
  by_cases hL0 : L.length = 0
  · have hLn : L = [] := List.length_eq_zero_iff.1 hL0
    subst hLn
    obtain rfl : (⟨#[]⟩ : ByteArray) = p := bl_inj (by rw [HP.out]; rfl)
    go_wp2_with fail
    refine (up_root _).mono ?_
    rintro e w6 ⟨rfl, rfl⟩
    by_cases hM0 : M.length = 0
    · have hMn : M = [] := List.length_eq_zero_iff.1 hM0
      subst hMn
      go_wp2_with fail
      refine (same_take A c [] A' c' [] _ HRl.out HRm.out (by decide) (by decide) 0 (Nat.le_refl _)).mono ?_
      rintro e w7 ⟨rfl, n, rfl⟩
      go_wp2_with fail
      refine (HU.out _).mono ?_
      rintro e w8 ⟨rfl, rfl⟩
      go_wp2_with fail
      go_ret
      exact ⟨rfl, below_drewN hB5 n⟩
    · have g3 : decide ((M.length : Int) ≤ 0) = false := decide_eq_false (by omega)
      have h3 : decide (M.length ≤ (@List.nil ByteArray).length ∧ (bls []).take M.length = bls M) = false := decide_eq_false (fun h => hM0 (by simpa using h.1))
      rw [h3] at HU
      have HU2 := HU
      clear h3 HU
      go_wp2_with fail
      refine (HU2.out _).mono ?_
      rintro e w8 ⟨rfl, rfl⟩
      go_wp2_with fail
      go_ret
      exact ⟨rfl, hB5⟩
  · have hLn : bls L ≠ [] := fun h => hL0 (by rw [← bls_length, h]; rfl)
    have HUp := Lib.hid (fun (w : World) => up_any p (bls L) w HP.out hLn HC.out.1 (by omega))
    have HJ2 := Lib.hid (fun (w : World) (hR : Rd w A c L) => join_take A c L w hR (by have := HT.out; omega) (L.length - 1) (by omega))
    have HLn := Lib.hid hLn
    clear hLn
    have gl : decide ((0 : Int) < (L.length : Int)) = true := decide_eq_true (by omega)
    go_wp2_with fail
    refine (HUp.out _).mono ?_
    rintro e w6 ⟨up, rfl, hup, rfl⟩
    have HUP := Lib.hid hup
    clear hup
    go_wp2_with fail
    refine (HJ2.out _ HRl.out).mono ?_
    rintro e w7 ⟨r7, rfl, hr7, hb7⟩
    obtain rfl : up = r7 := bl_inj (by rw [hr7, HUP.out, List.dropLast_eq_take, bls_length])
    have hB7 := bch hB5 hb7
    have HRl := Lib.hid (HRl.out.below hb7)
    have HRm := Lib.hid (HRm.out.below hb7)
    clear hr7 hb7 hB5 HJ2
    have hups : up.size ≤ 1001 := by
      rw [← bl_size, HUP.out]
      have h1 := join_length_le (bls L).dropLast
      have h2 := tot_dropLast_le (bls L)
      have := HT.out; omega
    have hU2 := fun (w : World) => under_any up p w (by omega)
    rw [HP.out, HUP.out, under_up HC.out.1] at hU2
    have HU2 := Lib.hid hU2
    clear hU2
    go_wp2_with fail
    refine (HU2.out _).mono ?_
    rintro e w8 ⟨rfl, rfl⟩
    by_cases hml2 : M.length ≤ L.length
    · have g3 : decide ((M.length : Int) ≤ (L.length : Int)) = true := decide_eq_true (by omega)
      have hS := fun (w : World) (hR : Rd w A c L) (hR' : Rd w A' c' M) => same_take A c L A' c' M w hR hR' (by omega) (by omega) M.length hml2
      have h3 : decide (M.length ≤ L.length ∧ (bls L).take M.length = bls M) = decide ((bls L).take M.length = bls M) := by simp [hml2]
      rw [h3] at HU
      have HU3 := HU
      generalize decide ((bls L).take M.length = bls M) = b at hS HU3
      have HS2 := Lib.hid hS
      clear h3 HU hS
      go_wp2_with fail
      refine (HS2.out _ HRl.out HRm.out).mono ?_
      rintro e w9 ⟨rfl, n, rfl⟩
      go_wp2_with fail
      refine (HU3.out _).mono ?_
      rintro e w10 ⟨rfl, rfl⟩
      cases b <;> (go_wp2_with fail; go_ret; exact ⟨rfl, below_drewN hB7 n⟩)
    · have g3 : decide ((M.length : Int) ≤ (L.length : Int)) = false := decide_eq_false (by omega)
      have h3 : decide (M.length ≤ L.length ∧ (bls L).take M.length = bls M) = false := decide_eq_false (fun h => hml2 h.1)
      rw [h3] at HU
      have HU3 := HU
      clear h3 HU
      go_wp2_with fail
      refine (HU3.out _).mono ?_
      rintro e w10 ⟨rfl, rfl⟩
      go_wp2_with fail
      go_ret
      exact ⟨rfl, hB7⟩

end Go.Proofs.YtmdcplpaejenbaaDoor

/- PathCleans: the walk. -/
import Derived.Test.YtmdcplpaejenbaaDoorPathC
import Derived.Test.YtmdcplpaejenbaaDoorWalkU
namespace Go.Proofs.YtmdcplpaejenbaaDoor
open Go.RowKit
open Go.Proofs.PnKit Go.Proofs.PnPath

set_option maxHeartbeats 1000000 in
theorem cleans_walk (s : ByteArray) (w : World) (hE : Env w) :
    Calls Tryd.prog 4 #[.string s] w fun e w' => e = .returned (.bool true) ∧ Below w.heap.size w w' := by
  have P := Lib.hid (cleans_any w hE)
  by_cases h1 : 5000 < s.size
  · have g1 : decide ((5000 : Int) < (s.size : Int)) = true := decide_eq_true (by omega)
    go_enter Tryd.func4, Tryd.ntmps4
    go_wp2_with fail
    refine P.out.mono ?_
    rintro e w1 ⟨rfl, hb1⟩
    go_wp2_with fail
    go_ret
    exact ⟨rfl, hb1⟩
  have g1 : decide ((5000 : Int) < (s.size : Int)) = false := decide_eq_false (by omega)
  have hsz : s.size ≤ 5000 := by omega
  go_enter Tryd.func4, Tryd.ntmps4
  go_wp2_with fail
  refine P.out.mono ?_
  rintro e w1 ⟨rfl, hb1⟩
  go_wp2_with fail
  refine (clean_any s _ (hE.below hb1)).mono ?_
  rintro e w2 ⟨A, c, L, code, rfl, hR, hc, hb2⟩
  have hB2 := bch hb1 hb2
  clear hb1 hb2 h1
  go_wp2_with fail
  refine (rclean_any s _).mono ?_
  rintro e w3 ⟨A', c', M, code', rfl, hR', hc', hb3⟩
  have hB3 := bch hB2 hb3
  have hR := hR.below hb3
  clear hB2 hb3
  rw [hc, Prod.mk.injEq] at hc'
  obtain ⟨hLM, rfl⟩ := hc'
  have hts := clean_size hc
  have hl : L.length ≤ 5000 := by have := length_le_tot (bls L); rw [bls_length] at this; omega
  have hml : M.length ≤ 5000 := by rw [← bls_length, ← hLM, bls_length]; exact hl
  have HC := Lib.hid hc
  have HLM := Lib.hid hLM
  have HT := Lib.hid hts
  have HS := Lib.hid (fun (w : World) (hR : Rd w A c L) (hR' : Rd w A' c' M) => by
    have h := same_any A c L A' c' M w hR hR' (by omega) (by omega)
    rw [decide_eq_true hLM] at h
    exact h)
  have HRl := Lib.hid hR
  have HRm := Lib.hid hR'
  clear hc hLM hts hR hR'
  go_wp2_with fail
  refine (HS.out _ HRl.out HRm.out).mono ?_
  rintro e w4 ⟨rfl, n4, rfl⟩
  have hB4 := below_drewN hB3 n4
  have HRl := Lib.hid (HRl.out.drewN n4)
  have HRm := Lib.hid (HRm.out.drewN n4)
  clear hB3
  go_wp2_with fail
  refine (sound_any s _ (hE.below hB4)).mono ?_
  rintro e w5 ⟨rfl, hb5⟩
  have hB5 := bch hB4 hb5
  have HRl := Lib.hid (HRl.out.below hb5)
  have HRm := Lib.hid (HRm.out.below hb5)
  clear hB4 hb5
  go_wp2_with fail
  refine (rsound_any s _).mono ?_
  rintro e w6 ⟨rfl, rfl⟩
  by_cases h0 : code = 0
  case neg =>
    have hcb : (code != 0) = true := by simp [h0]
    go_wp2_with fail
    go_ret
    exact ⟨rfl, hB5⟩
  subst h0
  by_cases hL0 : L.length = 0
  · have hLn : L = [] := List.length_eq_zero_iff.1 hL0
    subst hLn
    go_wp2_with fail
    go_ret
    exact ⟨rfl, hB5⟩
  have hq : ((L.length : Int) == 0) = false := by rw [beq_eq_false_iff_ne]; omega
  have hne : bls L ≠ [] := fun h => hL0 (by rw [← bls_length, h]; rfl)
  have HB := Lib.hid (clean_bounds HC.out)
  have hCJ := clean_join (bls L) hne HB.out.2.2 HB.out.1
  have hPJ := parts_join (bls L) HB.out.1
  have HCJ := Lib.hid hCJ
  have HPJ := Lib.hid hPJ
  have HJ := Lib.hid (fun (w : World) (hR : Rd w A c L) => join_any A c L w hR (by have := HT.out; omega))
  clear hne hCJ hPJ HC HS hL0
  go_wp2_with fail
  refine (HJ.out _ HRl.out).mono ?_
  rintro e w7 ⟨r, rfl, hr, hb7⟩
  have hB7 := bch hB5 hb7
  have HRl := Lib.hid (HRl.out.below hb7)
  have HRm := Lib.hid (HRm.out.below hb7)
  clear hb7 hB5 HJ
  rw [← hr] at HCJ HPJ
  have hrs : r.size ≤ 5000 := by
    have h1 := join_length_le (bls L)
    have h2 := HT.out
    rw [← hr, bl_size] at h1
    omega
  have HR := Lib.hid hr
  clear hr
  go_wp2_with fail
  refine (clean_any r _ (hE.below hB7)).mono ?_
  rintro e w8 ⟨A8, c8, L8, code8, rfl, hR8, hc8, hb8⟩
  have hB8 := bch hB7 hb8
  have HRl := Lib.hid (HRl.out.below hb8)
  have HRm := Lib.hid (HRm.out.below hb8)
  rw [HCJ.out, Prod.mk.injEq] at hc8
  obtain ⟨h8, rfl⟩ := hc8
  have hl8 : L8.length ≤ 5000 := by rw [← bls_length, ← h8, bls_length]; exact hl
  have HS := Lib.hid (fun (w : World) (hR8 : Rd w A8 c8 L8) (hR : Rd w A c L) => by
    have h := same_any A8 c8 L8 A c L w hR8 hR (by omega) (by omega)
    rw [decide_eq_true h8.symm] at h
    exact h)
  have HR8 := Lib.hid hR8
  clear hb8 hB7 h8 hR8
  go_wp2_with fail
  refine (HS.out _ HR8.out HRl.out).mono ?_
  rintro e w9 ⟨rfl, n9, rfl⟩
  have hB9 := below_drewN hB8 n9
  have HRl := Lib.hid (HRl.out.drewN n9)
  have HRm := Lib.hid (HRm.out.drewN n9)
  clear hB8 HS HR8
  have HJ := Lib.hid (fun (w : World) (hR : Rd w A' c' M) => rjoin_any A' c' M w hR (by rw [← HLM.out]; have := HT.out; omega))
  go_wp2_with fail
  refine (HJ.out _ HRm.out).mono ?_
  rintro e w10 ⟨r', rfl, hr', rfl⟩
  obtain rfl : r = r' := bl_inj (by rw [hr', HR.out, HLM.out])
  clear hr' HJ
  have HP := Lib.hid (fun (w : World) (hE : Env w) => parts_any r w hE (by omega))
  go_wp2_with fail
  refine (HP.out _ (hE.below hB9)).mono ?_
  rintro e w11 ⟨A11, c11, L11, rfl, hR11, h11, hb11⟩
  have hB11 := bch hB9 hb11
  have HRl := Lib.hid (HRl.out.below hb11)
  rw [HPJ.out] at h11
  have hl11 : L11.length ≤ 5000 := by rw [← bls_length, h11, bls_length]; exact hl
  have HS := Lib.hid (fun (w : World) (hR8 : Rd w A11 c11 L11) (hR : Rd w A c L) => by
    have h := same_any A11 c11 L11 A c L w hR8 hR (by omega) (by omega)
    rw [decide_eq_true h11] at h
    exact h)
  have HR11 := Lib.hid hR11
  clear hb11 hB9 h11 hR11
  go_wp2_with fail
  refine (HS.out _ HR11.out HRl.out).mono ?_
  rintro e w12 ⟨rfl, n12, rfl⟩
  go_wp2_with fail
  go_ret
  exact ⟨rfl, below_drewN hB11 n12⟩

end Go.Proofs.YtmdcplpaejenbaaDoor

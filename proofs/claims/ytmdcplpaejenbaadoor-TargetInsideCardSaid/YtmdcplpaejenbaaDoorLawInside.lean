/- TargetInside: the walk. -/
import Derived.Test.YtmdcplpaejenbaaDoorWalkR
namespace Go.Proofs.YtmdcplpaejenbaaDoor
open Go.RowKit
open Go.Proofs.PnKit Go.Proofs.PnPath

theorem depths_cons (p : List UInt8) (r : List (List UInt8)) (d : Int) : depths (p :: r) d = if (if p = [46, 46] then d - 1 else d + 1) < 0 then none else depths r (if p = [46, 46] then d - 1 else d + 1) := rfl
theorem depths_up {r : List (List UInt8)} {m : Nat} {x : Int} (h : depths ([46, 46] :: r) m = some x) : 1 ≤ m ∧ depths r ((m - 1 : Nat) : Int) = some x := by
  rw [depths_cons, if_pos rfl] at h
  by_cases h1 : (m : Int) - 1 < 0
  · rw [if_pos h1] at h; cases h
  · rw [if_neg h1] at h
    refine ⟨by omega, ?_⟩
    rw [← h]; congr 1; omega
theorem depths_down {r : List (List UInt8)} {p : List UInt8} {m : Nat} {x : Int} (hp : p ≠ [46, 46]) (h : depths (p :: r) m = some x) : depths r ((m + 1 : Nat) : Int) = some x := by
  rw [depths_cons, if_neg hp, if_neg (by omega)] at h
  rw [← h]; congr 1

set_option maxHeartbeats 1000000 in
theorem inside_walk (d t : ByteArray) (w : World) (hE : Env w) :
    Calls Tryd.prog 7 #[.string d, .string t] w fun e w' => e = .returned (.bool true) ∧ Below w.heap.size w w' := by
  have P := Lib.hid (points_any w hE)
  cases hd : okc d
  case false =>
    go_enter Tryd.func7, Tryd.ntmps7
    go_wp2_with fail
    refine P.out.mono ?_
    rintro e w1 ⟨rfl, hb1⟩
    go_wp2_with fail
    refine (lclean_any d _ (hE.below hb1)).mono ?_
    rintro e w2 ⟨r, rfl, _, hb2⟩
    have hB2 := bch hb1 hb2
    rw [hd]
    go_wp2_with fail
    go_ret
    exact ⟨rfl, hB2⟩
  case true =>
    by_cases h1 : 1000 < t.size
    · have g1 : decide ((1000 : Int) < (t.size : Int)) = true := decide_eq_true (by omega)
      go_enter Tryd.func7, Tryd.ntmps7
      go_wp2_with fail
      refine P.out.mono ?_
      rintro e w1 ⟨rfl, hb1⟩
      go_wp2_with fail
      refine (lclean_ok d _ (hE.below hb1) hd).mono ?_
      rintro e w2 ⟨r, D, rfl, hr, hD, htD, hb2⟩
      clear hr
      go_wp2_with fail
      go_ret
      exact ⟨rfl, bch hb1 hb2⟩
    have g1 : decide ((1000 : Int) < (t.size : Int)) = false := decide_eq_false (by omega)
    go_enter Tryd.func7, Tryd.ntmps7
    go_wp2_with fail
    refine P.out.mono ?_
    rintro e w1 ⟨rfl, hb1⟩
    go_wp2_with fail
    refine (lclean_ok d _ (hE.below hb1) hd).mono ?_
    rintro e w2 ⟨r, D, rfl, hr, hD, htD, hb2⟩
    have hB2 := bch hb1 hb2
    have HR := Lib.hid hr
    have hrs := size_of_join hr
    clear hr hb1 hb2
    go_wp2_with fail
    refine (resolve_any r t _ (hE.below hB2) (by omega)).mono ?_
    rintro e w3 ⟨s, code, rfl, hres, hb3⟩
    have hB3 := bch hB2 hb3
    clear hB2 hb3
    by_cases hc : code = 0
    case neg =>
      have hs : bl s = [] := by
        have := resolve_err (d := bl r) (t := bl t) (by rw [hres]; exact hc)
        rw [hres] at this; exact this
      obtain rfl : (⟨#[]⟩ : ByteArray) = s := bl_inj hs.symm
      have hcb : (code != 0) = true := by simp [hc]
      clear hres hs hc
      go_wp2_with fail
      go_ret
      exact ⟨rfl, hB3⟩
    case pos =>
      subst hc
      rw [HR.out] at hres
      obtain ⟨L, hL1, hL2, hL3, hL4, hL5⟩ := resolve_ok hres hD
      have hdep := rs_depth _ _ L _ hL5 hD hL2 hL1 (msplit_fine hL4)
      have hLT : tot L ≤ 2002 := by rw [bl_size] at hL3; omega
      have hDl : D.length ≤ 1001 := by have := length_le_tot D; omega
      have HL1 := Lib.hid hL1
      have HD : Hid (depths (sp (bl t)) D.length = some (L.length : Int)) := hdep
      clear hres hL1 hL3 hL4 hL5 hdep
      go_wp2_with fail
      refine (parts_any r _ (hE.below hB3) (by omega)).mono ?_
      rintro e w4 ⟨A0, c0, D0, rfl, hRD, hD0, hb4⟩
      have hB4 := bch hB3 hb4
      have hlD : Hid (D0.length = D.length) := by
        have : bls D0 = D := by rw [hD0, HR.out, parts_join D hD]
        show _ = _
        rw [← this, bls_length]
      clear hB3 hb4 hD0 hRD
      rw [← hlD.out] at HD hDl
      go_wp2_with fail
      refine (rsplit_any t _ (by omega)).mono ?_
      rintro e w5 ⟨A, c, Q, rfl, hRQ, hQ, hb5⟩
      have hB5 := bch hB4 hb5
      have HRQ := Lib.hid hRQ
      rw [← hQ] at HD
      have hQl : Q.length ≤ 1001 := by
        have h2 := tot_filter_le (fun p => decide (p ≠ [] ∧ p ≠ [46])) (msplit (bl t))
        have h3 := length_le_tot (bls Q)
        have h4 : bls Q = (msplit (bl t)).filter (fun p => decide (p ≠ [] ∧ p ≠ [46])) := hQ
        rw [← h4, tot_msplit, bl_size] at h2
        rw [bls_length] at h3
        omega
      clear hQ hB4 hb5
      go_wp2_with fail
      go_loop [44, 9] (fun i dp => ∃ k m : Nat, i = .int .i64 k ∧ k ≤ Q.length ∧ dp = .int .i64 m ∧ m ≤ D0.length + k ∧ depths (bls (Q.drop k)) m = some (L.length : Int)) (fun i _ => Q.length - (RowKit.intOf i).toNat)
      case atStart => exact ⟨0, D0.length, rfl, Nat.zero_le _, rfl, Nat.le_refl _, by rw [List.drop_zero]; exact HD.out⟩
      case round =>
        obtain ⟨k, m, rfl, hk, rfl, hm, hdp⟩ := hrel
        have HDP := Lib.hid hdp
        clear hdp
        by_cases hlt : k < Q.length
        · obtain ⟨b, o, rfl, -, -⟩ := HRQ.out.pos (by omega)
          have hcell := HRQ.out.row hlt
          have hdq := bls_drop hlt
          rw [hdq] at HDP
          clear hdq
          generalize Q.getD k ByteArray.empty = x at hcell HDP
          cases e1 : (x.toList == [46, 46]) with
          | true =>
            have hx := (str_eq e1).2 rfl
            rw [hx] at HDP
            have hm1 := (depths_up HDP.out).1
            have HDQ := Lib.hid (depths_up HDP.out).2
            clear hx HDP
            go_wp2_with fail
            refine ⟨⟨k + 1, m - 1, by go_num, by omega, congrArg (Value.int .i64) (by omega), by omega, HDQ.out⟩, by simp [RowKit.intOf] <;> omega⟩
          | false =>
            have hx := mt (str_eq e1).1 (by decide)
            have HDQ := Lib.hid (depths_down hx HDP.out)
            clear hx HDP
            go_wp2_with fail
            refine ⟨⟨k + 1, m + 1, by go_num, by omega, by go_num, by omega, HDQ.out⟩, by simp [RowKit.intOf] <;> omega⟩
        · obtain rfl : k = Q.length := by omega
          have hmL : m = L.length := by
            have := HDP.out
            rw [List.drop_length] at this
            have h2 : some (m : Int) = some (L.length : Int) := this
            injection h2 with h2; omega
          clear HDP
          subst hmL
          by_cases hL0 : L = []
          · subst hL0
            obtain rfl : (⟨#[]⟩ : ByteArray) = s := bl_inj HL1.out.symm
            go_wp2_with fail
            go_ret
            exact ⟨rfl, hB5⟩
          · have hne : s.toList.isEmpty = false := by
              have h2 : bl s ≠ [] := by rw [HL1.out]; exact join_ne L hL0 (fun p hp => (hL2 p hp).ne)
              rw [ByteArray.toList_eq]; simpa using h2
            have HCL : Hid (clean (bl s) = (L, 0)) := by
              show _ = _
              rw [HL1.out]
              exact clean_join L hL0 (by have := join_length_le L; omega) hL2
            clear hL0
            go_wp2_with fail
            refine (clean_any s _ (hE.below hB5)).mono ?_
            rintro e w6 ⟨A6, c6, L6, code6, rfl, hR6, hcl6, hb6⟩
            have hB6 := bch hB5 hb6
            clear hB5 hb6
            rw [HCL.out] at hcl6
            simp only [Prod.mk.injEq] at hcl6
            obtain ⟨h6, rfl⟩ := hcl6
            have H6 := Lib.hid h6
            have hl6 : L6.length = L.length := by rw [h6, bls_length]
            have HJ := Lib.hid (join_any A6 c6 L6 _ hR6 (by rw [← h6]; omega))
            rw [← hl6]
            clear h6 hl6 hR6
            go_wp2_with fail
            refine HJ.out.mono ?_
            rintro e w7 ⟨q, rfl, hq, hb7⟩
            obtain rfl : s = q := bl_inj (by rw [hq, ← H6.out, HL1.out])
            clear hq
            go_wp2_with fail
            go_ret
            exact ⟨rfl, bch hB6 hb7⟩

end Go.Proofs.YtmdcplpaejenbaaDoor

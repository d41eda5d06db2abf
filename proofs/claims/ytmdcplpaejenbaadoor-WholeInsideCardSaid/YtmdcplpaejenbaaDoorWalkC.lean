/-
  Walks of package target: Resolve.
-/
import Derived.Test.YtmdcplpaejenbaaDoorWalkB
namespace Go.Proofs.YtmdcplpaejenbaaDoor
open Go.RowKit
open Go.Proofs.PnKit Go.Proofs.PnPath

theorem bls_nil {L : List ByteArray} : bls L = [] ↔ L = [] := by simp
theorem bls_length (L : List ByteArray) : (bls L).length = L.length := by simp

theorem rs_skip {D r : List (List UInt8)} {p : List UInt8} (h : p = [] ∨ p = [46]) : rs D (p :: r) = rs D r := by rw [rs, if_pos h]
theorem rs_esc {r : List (List UInt8)} : rs [] ([46, 46] :: r) = ([], 110) := by rw [rs, if_neg (by decide), if_pos rfl, if_pos rfl]
theorem rs_up {D r : List (List UInt8)} (h : D ≠ []) : rs D ([46, 46] :: r) = rs D.dropLast r := by rw [rs, if_neg (by decide), if_pos rfl, if_neg h]
theorem rs_long {D r : List (List UInt8)} {p : List UInt8} (h1 : ¬ (p = [] ∨ p = [46])) (h2 : p ≠ [46, 46]) (h : 255 < p.length) : rs D (p :: r) = ([], 2) := by rw [rs, if_neg h1, if_neg h2, if_pos h]
theorem rs_take {D r : List (List UInt8)} {p : List UInt8} (h1 : ¬ (p = [] ∨ p = [46])) (h2 : p ≠ [46, 46]) (h : ¬ 255 < p.length) : rs D (p :: r) = rs (D ++ [p]) r := by rw [rs, if_neg h1, if_neg h2, if_neg h]

theorem tot_dropLast_le (L : List (List UInt8)) : tot L.dropLast ≤ tot L := by
  rcases L.eq_nil_or_concat with rfl | ⟨M, p, rfl⟩
  · simp
  · rw [List.concat_eq_append, List.dropLast_concat, tot_append]; omega
theorem bls_dropLast (L : List ByteArray) : bls L.dropLast = (bls L).dropLast := by simp [List.map_dropLast]
theorem bls_snoc (L : List ByteArray) (x : ByteArray) : bls (L ++ [x]) = bls L ++ [bl x] := by simp

set_option maxHeartbeats 1000000 in
theorem resolve_any (d t : ByteArray) (w : World) (hE : Env w) (hd : d.size ≤ 100000) :
    Calls Tryd.prog 13 #[.string d, .string t] w fun e w' => ∃ r code, e = .returned (.tuple #[.string r, .int .i64 code]) ∧ resolveP (bl d) (bl t) = (bl r, code) ∧ Below w.heap.size w w' := by
  have hs0 := sound_any t w hE
  by_cases h3 : sound (bl t) = 103
  · have hfin : resolveP (bl d) (bl t) = ([], 110) := by rw [resolveP, if_pos h3]
    have HF := Lib.hid hfin
    rw [h3] at hs0
    clear h3 hfin
    go_enter Tryd.func13, Tryd.ntmps13
    go_wp2_with fail
    go_step3
    go_wp2_with (go_at_call 21; refine hs0.mono ?_; rintro e w1 ⟨rfl, hb⟩)
    rw [Exit.noGoto_ret]
    go_ret2
    exact ⟨⟨#[]⟩, 110, rfl, HF.out, hb⟩
  by_cases h0 : sound (bl t) = 0
  case neg =>
    have h1 : (sound (bl t) == 0) = false := by simp [h0]
    have h2 : (sound (bl t) == 103) = false := by simp [h3]
    have hfin : resolveP (bl d) (bl t) = ([], sound (bl t)) := by rw [resolveP, if_neg h3, if_pos h0]
    have HF := Lib.hid hfin
    clear h0 hfin h3
    go_enter Tryd.func13, Tryd.ntmps13
    go_wp2_with fail
    go_step3
    go_wp2_with (go_at_call 21; refine hs0.mono ?_; rintro e w1 ⟨rfl, hb⟩)
    rw [Exit.noGoto_ret]
    go_ret2
    exact ⟨⟨#[]⟩, _, rfl, HF.out, hb⟩
  case pos =>
    have hlen := (sound_ok h0).2.1
    rw [bl_size] at hlen
    have hfin : resolveP (bl d) (bl t) = rs (parts (bl d)) (msplit (bl t)) := by rw [resolveP, if_neg h3, if_neg (by simp [h0])]
    have htot : tot (msplit (bl t)) ≤ 4001 := by rw [tot_msplit, bl_size]; omega
    have htd : tot (parts (bl d)) ≤ 100001 := by
      unfold parts
      split
      · simp [tot]
      · rw [tot_msplit, bl_size]; omega
    rw [h0] at hs0
    have HF := Lib.hid hfin
    have HT := Lib.hid htot
    have HTD := Lib.hid htd
    clear h0 h3 hfin htot htd
    obtain ⟨i0, hi0, hz0, hz1, hz2⟩ := info_parts info_str
    go_enter Tryd.func13, Tryd.ntmps13
    go_wp2_with fail
    go_step3
    go_wp2_with (first
      | (go_at_call 21; refine hs0.mono ?_; rintro e w1 ⟨rfl, hb1⟩)
      | (go_at_call 24; refine (parts_any d _ (hE.below hb1) (by omega)).mono ?_; rintro e w2 ⟨A0, c0, D0, rfl, hR0, hD0, hb2⟩))
    go_step3
    go_wp2_with (go_at_call 30; refine (split_any t _ ((hE.below hb1).below hb2) (by omega)).mono ?_; rintro e w3 ⟨L, rfl, hL, hR, hb3⟩)
    have hB2 : Below w.heap.size w w2 := hb1.trans (hb2.mono hb1.size)
    have HB : Hid (Below w.heap.size w w3) := hB2.trans (hb3.mono hB2.size)
    rw [← hL, ← hD0] at HF
    rw [← hL] at HT
    rw [← hD0] at HTD
    have HR := Lib.hid hR
    have HR0 := Lib.hid (hR0.below hb3)
    clear hL hR hb1 hb2 hb3 hB2 hR0 hD0 hs0
    obtain ⟨RES, hRES⟩ : ∃ RES, resolveP (bl d) (bl t) = RES := ⟨_, rfl⟩
    have HRES := Lib.hid hRES
    rw [hRES] at HF
    have HTT : Hid (tot (bls D0) + tot (bls L) ≤ 104002) := by have := HT.out; have := HTD.out; show _ ≤ _; omega
    have hLl : L.length ≤ 4001 := by have := length_le_tot (bls L); rw [bls_length] at this; have := HT.out; omega
    clear hRES HT HTD
    go_loopw [23, 7] (fun i ps wr => ∃ (k : Nat) (A : Option Addr) (c : Nat) (D : List ByteArray), i = .int .i64 k ∧ k ≤ L.length ∧ ps = .slice A D.length c ∧ Rd wr A c D ∧
        rs (bls D) (bls (L.drop k)) = RES ∧ tot (bls D) + tot (bls (L.drop k)) ≤ 104002 ∧ Below w3.heap.size w3 wr) (fun i _ _ => L.length - (RowKit.intOf i).toNat)
    case atStart => exact ⟨0, A0, c0, D0, rfl, Nat.zero_le _, rfl, HR0.out, by rw [List.drop_zero]; exact HF.out.symm, by rw [List.drop_zero]; exact HTT.out, Below.refl _ _⟩
    case round =>
      obtain ⟨k, A, c, D, rfl, hk, rfl, hRD, hrs, htt, hbr⟩ := hrel
      have HRS := Lib.hid hrs
      have HTD := Lib.hid htt
      have hDl : D.length ≤ 104002 := by have := length_le_tot (bls D); rw [bls_length] at this; omega
      have hDc := hRD.cap
      clear hrs htt
      by_cases hlt : k < L.length
      · have hcell : wr.cell? ⟨w2.heap.size, k, none⟩ = some (.string (L.getD k ByteArray.empty)) := (HR.out.below hbr).row0 hlt
        have hd := bls_drop hlt
        rw [hd] at HRS HTD
        clear hd
        generalize L.getD k ByteArray.empty = x at hcell HRS HTD
        have HTX : Hid (tot (bls D) + ((bl x).length + 1 + tot (bls (L.drop (k + 1)))) ≤ 104002) := by have := HTD.out; rw [tot_cons] at this; exact this
        clear HTD
        cases e1 : x.toList.isEmpty with
        | true =>
          have E1 := Lib.hid ((str_emp e1).2 rfl)
          go_wp2_with fail
          go_roundw
          case rel => exact ⟨k + 1, A, c, D, by go_num, by omega, rfl, hRD, by rw [← rs_skip (.inl E1.out)]; exact HRS.out, by have := HTX.out; omega, hbr⟩
          case measure => simp [RowKit.intOf]; omega
        | false =>
        have E1 := Lib.hid (mt (str_emp e1).1 (by decide))
        cases e2 : (x.toList == [46]) with
        | true =>
          have E2 := Lib.hid ((str_eq e2).2 rfl)
          go_wp2_with fail
          go_roundw
          case rel => exact ⟨k + 1, A, c, D, by go_num, by omega, rfl, hRD, by rw [← rs_skip (.inr E2.out)]; exact HRS.out, by have := HTX.out; omega, hbr⟩
          case measure => simp [RowKit.intOf]; omega
        | false =>
        have E2 := Lib.hid (mt (str_eq e2).1 (by decide))
        cases e3 : (x.toList == [46, 46]) with
        | true =>
          have E3 := Lib.hid ((str_eq e3).2 rfl)
          by_cases hD : D = []
          · subst hD
            go_wp2_with fail
            rw [Exit.noGoto_ret]
            go_ret2
            refine ⟨⟨#[]⟩, 110, rfl, ?_, HB.out.trans (hbr.mono HB.out.size)⟩
            rw [HRES.out, ← HRS.out, E3.out]
            exact rs_esc
          · have hpos : 0 < D.length := List.length_pos_iff.2 hD
            have hz : ((D.length : Int) == 0) = false := by simp; omega
            have HD := Lib.hid hD
            clear hD
            go_wp2_with fail
            go_roundw
            case rel =>
              refine ⟨k + 1, A, c, D.dropLast, by go_num, by omega, by rw [List.length_dropLast], ?_, ?_, ?_, hbr⟩
              · rw [List.dropLast_eq_take]; exact hRD.take _
              · rw [bls_dropLast, ← rs_up (mt bls_nil.1 HD.out), ← E3.out]; exact HRS.out
              · rw [bls_dropLast]
                have := tot_dropLast_le (bls D)
                have := HTX.out
                omega
            case measure => simp [RowKit.intOf]; omega
        | false =>
        have E3 := Lib.hid (mt (str_eq e3).1 (by decide))
        have hno : Hid (¬ (bl x = [] ∨ bl x = [46])) := fun h => h.elim E1.out E2.out
        by_cases h4 : (255 : Int) < x.size
        · go_wp2_with fail
          rw [Exit.noGoto_ret]
          go_ret2
          refine ⟨⟨#[]⟩, 2, rfl, ?_, HB.out.trans (hbr.mono HB.out.size)⟩
          rw [HRES.out, ← HRS.out]
          exact rs_long hno.out E3.out (by rw [bl_size]; omega)
        · go_wp2_with (at_builtin; refine wpList_append_grows _ rfl _ _ 22 rfl 9 i0 (.string ByteArray.empty) 1 16 Tryd.underlying22 hi0 hz0 hz1 hz2 rfl (by decide) A D.length D.length (D.map Value.string) rfl ?n1 ?n2 ?n3 ⟨wr.heap.size, 0, none⟩ 1 1 [.string x] rfl rfl ?c1 ?c2 (by omega) ?c3 ?c4 ?_)
          case n1 => intro h; exact List.eq_nil_of_length_eq_zero (hRD.none_nil h)
          case n3 => exact (hRD.alloc _).olds
          case c2 => simp [Value.oneCell']
          case c3 => simp only [maxLen]; omega
          case c4 => omega
          intro v' w4 hown' hg
          have hb4 : Below w3.heap.size w3 w4 := (hbr.alloc hbr.size _).grown hg (by have := hbr.size; simp; omega) (by simp)
          have HO : Hid (∃ A c, v' = .slice A (D ++ [x]).length c ∧ Rd w4 A c (D ++ [x])) := own_rd (base := (wr.alloc (.cells #[.string x] 9)).heap.size) (e := 9) (by simpa using hown')
          clear hown' hg
          go_wp2_with fail
          go_roundw
          case rel =>
            obtain ⟨A', c', e', hR'⟩ := HO.out
            refine ⟨k + 1, A', c', D ++ [x], by go_num, by omega, e', hR', ?_, ?_, hb4⟩
            · rw [bls_snoc, ← rs_take hno.out E3.out (by rw [bl_size]; omega)]; exact HRS.out
            · rw [bls_snoc, tot_append, tot_cons, tot_nil]; have := HTX.out; omega
          case measure => simp [RowKit.intOf]; omega
      · obtain rfl : k = L.length := by omega
        go_wp2_with (go_at_call 15; refine (join_any A c D _ hRD (by have := HTD.out; omega)).mono ?_; rintro e w5 ⟨r, rfl, hr, hb5⟩)
        rw [Exit.noGoto_ret]
        go_ret2
        refine ⟨r, 0, rfl, ?_, (HB.out.trans (hbr.mono HB.out.size)).trans (hb5.mono (HB.out.trans (hbr.mono HB.out.size)).size)⟩
        rw [HRES.out, ← HRS.out, hr, List.drop_length]; rfl

end Go.Proofs.YtmdcplpaejenbaaDoor

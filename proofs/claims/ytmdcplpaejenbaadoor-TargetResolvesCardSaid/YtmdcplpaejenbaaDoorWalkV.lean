/-
  Walk of the document's own package of layer 11: Resolve.
-/
import Derived.Test.YtmdcplpaejenbaaDoorWalkU
namespace Go.Proofs.YtmdcplpaejenbaaDoor
open Go.RowKit
open Go.Proofs.PnKit Go.Proofs.PnPath

theorem sp_join (D : List (List UInt8)) (hD : G D) : sp (join D) = D := by
  by_cases h : D = []
  · subst h; decide
  · unfold sp
    rw [msplit_join D h (fun p hp => (hD p hp).slash), List.filter_eq_self]
    intro p hp
    simp only [decide_eq_true_eq]
    exact ⟨(hD p hp).ne, (hD p hp).dot⟩
theorem resolve_sp {D : List (List UInt8)} {t : List UInt8} (hD : G D) (hs : sound t = 0) : resolveP (join D) t = rs D (sp t) := by
  rw [resolve_of hD hs]; exact (rs_filter _ _).symm

set_option maxHeartbeats 2000000 in
theorem rresolve_any (d t : ByteArray) (D0 : List (List UInt8)) (w : World) (hd : bl d = join D0) (hD0 : G D0) (hdt : tot D0 ≤ 2000) :
    Calls Tryd.prog 27 #[.string d, .string t] w fun e w' => ∃ r code, e = .returned (.tuple #[.string r, .int .i64 code]) ∧ resolveP (bl d) (bl t) = (bl r, code) ∧ Below w.heap.size w w' := by
  have hs0 := rsound_any t w
  by_cases h3 : sound (bl t) = 103
  · have hfin : resolveP (bl d) (bl t) = ([], 110) := by rw [resolveP, if_pos h3]
    have HF := Lib.hid hfin
    rw [h3] at hs0
    clear h3 hfin
    go_enter Tryd.func27, Tryd.ntmps27
    go_wp2_with fail
    refine hs0.mono ?_
    rintro e w1 ⟨rfl, rfl⟩
    go_wp2_with fail
    go_ret2
    exact ⟨⟨#[]⟩, 110, rfl, HF.out, Below.refl _ _⟩
  by_cases h0 : sound (bl t) = 0
  case neg =>
    have h1 : (sound (bl t) != 0) = true := by simp [h0]
    have h2 : (sound (bl t) == 103) = false := by simp [h3]
    have hfin : resolveP (bl d) (bl t) = ([], sound (bl t)) := by rw [resolveP, if_neg h3, if_pos h0]
    have HF := Lib.hid hfin
    clear h0 hfin h3
    go_enter Tryd.func27, Tryd.ntmps27
    go_wp2_with fail
    refine hs0.mono ?_
    rintro e w1 ⟨rfl, rfl⟩
    go_wp2_with fail
    go_ret2
    exact ⟨⟨#[]⟩, _, rfl, HF.out, Below.refl _ _⟩
  case pos =>
    have hlen := (sound_ok h0).2.1
    rw [bl_size] at hlen
    have hds : d.size ≤ 2000 := by have := join_length_le D0; rw [← bl_size, hd]; omega
    have hfin : resolveP (bl d) (bl t) = rs (sp (bl d)) (sp (bl t)) := by rw [hd, sp_join D0 hD0]; exact resolve_sp hD0 h0
    have htd : tot (sp (bl d)) ≤ 2001 := by rw [hd, sp_join D0 hD0]; omega
    have htt : tot (sp (bl t)) ≤ 4001 := by have := sp_size (bl t); rw [bl_size] at this; omega
    rw [h0] at hs0
    have HF := Lib.hid hfin
    have HTD := Lib.hid htd
    have HT := Lib.hid htt
    clear h0 h3 hfin htd htt hd
    obtain ⟨i0, hi0, hz0, hz1, hz2⟩ := info_parts info_str
    go_enter Tryd.func27, Tryd.ntmps27
    go_wp2_with fail
    refine hs0.mono ?_
    rintro e w1 ⟨rfl, rfl⟩
    go_wp2_with fail
    refine (rsplit_any d _ (by omega)).mono ?_
    rintro e w2 ⟨A0, c0, E, rfl, hRE, hE, hb2⟩
    go_wp2_with fail
    refine (rsplit_any t _ (by omega)).mono ?_
    rintro e w3 ⟨A, c, L, rfl, hRL, hL, hb3⟩
    have HB : Hid (Below w1.heap.size w1 w3) := hb2.trans (hb3.mono hb2.size)
    have HRE := Lib.hid (hRE.below hb3)
    have HRL := Lib.hid hRL
    have HSP : Hid (∀ k, k < L.length → ¬ (bl (L.getD k ByteArray.empty) = [] ∨ bl (L.getD k ByteArray.empty) = [46])) := fun k hk => sp_ne (l := bl t) (by rw [← hL]; exact getD_mem hk)
    rw [← hE, ← hL] at HF
    rw [← hL] at HT
    rw [← hE] at HTD
    have HTT : Hid (tot (bls E) + tot (bls L) ≤ 6002) := by have := HT.out; have := HTD.out; show _ ≤ _; omega
    have hLl : L.length ≤ 4001 := by have := length_le_tot (bls L); rw [bls_length] at this; have := HT.out; omega
    obtain ⟨RES, hRES⟩ : ∃ RES, resolveP (bl d) (bl t) = RES := ⟨_, rfl⟩
    have HRES := Lib.hid hRES
    rw [hRES] at HF
    clear hRES HT HTD hRE hRL hE hL hb2 hb3 hs0
    go_wp2_with fail
    go_loopw [7, 9] (fun ps i wr => ∃ (k : Nat) (A' : Option Addr) (c' : Nat) (D : List ByteArray), i = .int .i64 k ∧ k ≤ L.length ∧ ps = .slice A' D.length c' ∧ Rd wr A' c' D ∧
        rs (bls D) (bls (L.drop k)) = RES ∧ tot (bls D) + tot (bls (L.drop k)) ≤ 6002 ∧ Below w3.heap.size w3 wr) (fun _ i _ => L.length - (RowKit.intOf i).toNat)
    case atStart => exact ⟨0, A0, c0, E, rfl, Nat.zero_le _, rfl, HRE.out, by rw [List.drop_zero]; exact HF.out.symm, by rw [List.drop_zero]; exact HTT.out, Below.refl _ _⟩
    case round =>
      obtain ⟨k, A', c', D, rfl, hk, rfl, hRD, hrs, htt, hbr⟩ := hrel
      have HRS := Lib.hid hrs
      have HTD := Lib.hid htt
      have hDl : D.length ≤ 6002 := by have := length_le_tot (bls D); rw [bls_length] at this; omega
      have hDc := hRD.cap
      clear hrs htt
      by_cases hlt : k < L.length
      · obtain ⟨b, o, rfl, -, -⟩ := HRL.out.pos (by omega)
        have hcell := (HRL.out.below hbr).row hlt
        have hd := bls_drop hlt
        have HNO := Lib.hid (HSP.out k hlt)
        rw [hd] at HRS HTD
        clear hd
        generalize L.getD k ByteArray.empty = x at hcell HRS HTD HNO
        have HTX : Hid (tot (bls D) + ((bl x).length + 1 + tot (bls (L.drop (k + 1)))) ≤ 6002) := by have := HTD.out; rw [tot_cons] at this; exact this
        clear HTD
        cases e1 : (x.toList == [46, 46]) with
        | true =>
          have E1 := Lib.hid ((str_eq e1).2 rfl)
          have e2 : (x.toList != [46, 46]) = false := by rw [bne, e1]; rfl
          by_cases hD : D = []
          · subst hD
            have HZ : Hid (RES = ([], 110)) := by show _ = _; rw [← HRS.out, E1.out]; exact rs_esc
            clear HRS
            go_wp2_with fail
            go_ret2
            exact ⟨⟨#[]⟩, 110, rfl, by rw [HRES.out, HZ.out], HB.out.trans (hbr.mono HB.out.size)⟩
          · have hpos : 0 < D.length := List.length_pos_iff.2 hD
            have hz : ((D.length : Int) == 0) = false := by simp; omega
            have HZ : Hid (rs (bls D.dropLast) (bls (L.drop (k + 1))) = RES) := by
              show _ = _
              rw [bls_dropLast, ← rs_up (mt bls_nil.1 hD), ← E1.out]; exact HRS.out
            clear hD HRS
            go_wp2_with fail
            refine ⟨⟨k + 1, A', c', D.dropLast, by go_num, by omega, by rw [List.length_dropLast], ?_, HZ.out, ?_, hbr⟩, by simp [RowKit.intOf] <;> omega⟩
            · rw [List.dropLast_eq_take]; exact hRD.take _
            · rw [bls_dropLast]
              have := tot_dropLast_le (bls D)
              have := HTX.out
              omega
        | false =>
          have E1 := Lib.hid (mt (str_eq e1).1 (by decide))
          have e2 : (x.toList != [46, 46]) = true := by rw [bne, e1]; rfl
          by_cases h4 : (255 : Int) < x.size
          · have HZ : Hid (RES = ([], 2)) := by show _ = _; rw [← HRS.out]; exact rs_long HNO.out E1.out (by rw [bl_size]; omega)
            clear HRS
            go_wp2_with fail
            go_ret2
            exact ⟨⟨#[]⟩, 2, rfl, by rw [HRES.out, HZ.out], HB.out.trans (hbr.mono HB.out.size)⟩
          · have HZ : Hid (rs (bls (D ++ [x])) (bls (L.drop (k + 1))) = RES) := by
              show _ = _
              rw [bls_snoc, ← rs_take HNO.out E1.out (by rw [bl_size]; omega)]; exact HRS.out
            clear HRS
            have hlw : b < wr.heap.size := World.block_lt_of_cell? _ _ hcell
            have hmade : (wr.alloc (.cells #[] 9)).ownsRow w3.heap.size 9 1 (.slice (some ⟨wr.heap.size, 0, none⟩) 0 0) 0 [] := World.ownsRow_made wr #[] 0 hbr.size (by decide) rfl
            have HMADE := Lib.hid hmade
            clear hmade
            go_wp2_with (at_builtin; refine wpList_append_rd rfl _ _ 22 rfl w3.heap.size 9 i0 (.string ByteArray.empty) 16 Tryd.underlying22 hi0 hz0 hz1 hz2 rfl _ _ _ rfl HMADE.out _ _ D rfl (hRD.alloc _) (by simp only [maxLen]; omega) (by omega) (base_alloc hbr.size _) ?_)
            intro v1 w4 hown1 hg1
            have hb4 : Below w3.heap.size w3 w4 := below_grown (hbr.alloc hbr.size _) hg1 HMADE.out (Nat.le_refl _) (base_alloc hbr.size _)
            have hcell4 : w4.cell? ⟨b, o + k, none⟩ = some (.string x) := by
              have h1 : Below wr.heap.size wr w4 := ((Below.refl _ _).alloc (Nat.le_refl _) _).grown hg1 (by simp) (fun j hj => by
                simp [Value.ownBlock] at hj; omega)
              rw [h1.cell hlw]; exact hcell
            have hown2 : w4.ownsRow w3.heap.size 9 1 v1 D.length (D.map Value.string) := by simpa using hown1
            clear hown1 hg1 hcell hRD HMADE hbr
            go_wp2_with (at_builtin; refine wpList_append_own _ rfl _ _ 22 rfl w3.heap.size 9 i0 (.string ByteArray.empty) 1 16 Tryd.underlying22 hi0 hz0 hz1 hz2 rfl (by decide) _ _ _ rfl (hown2.alloc _) ⟨w4.heap.size, 0, none⟩ 1 1 [.string x] rfl rfl (news_one _ _ _) (one_str _) (by simp only [maxLen]; omega) (by omega) (base_alloc hb4.size _) ?_)
            intro v2 w5 hown3 hg2 _
            have hb5 : Below w3.heap.size w3 w5 := below_grown (hb4.alloc hb4.size _) hg2 (hown2.alloc _) (Nat.le_refl _) (base_alloc hb4.size _)
            have HO : Hid (∃ A c, v2 = .slice A (D ++ [x]).length c ∧ Rd w5 A c (D ++ [x])) := own_rd (base := w3.heap.size) (e := 9) (by rw [snoc_len, snoc_map]; exact hown3)
            clear hown3 hg2 hown2 hb4 hcell4
            go_wp2_with fail
            obtain ⟨A2, c2, e', hR'⟩ := HO.out
            refine ⟨⟨k + 1, A2, c2, D ++ [x], by go_num, by omega, e', hR', HZ.out, ?_, hb5⟩, by simp [RowKit.intOf] <;> omega⟩
            rw [bls_snoc, tot_append, tot_cons, tot_nil]; have := HTX.out; omega
      · obtain rfl : k = L.length := by omega
        have HZ : Hid (RES = (join (bls D), 0)) := by show _ = _; rw [← HRS.out, List.drop_length]; rfl
        have hjt : tot (bls D) ≤ 1000000 := by have := HTD.out; omega
        clear HRS
        go_wp2_with fail
        refine (rjoin_any A' c' D _ hRD hjt).mono ?_
        rintro e w5 ⟨r, rfl, hr, rfl⟩
        go_wp2_with fail
        go_ret2
        exact ⟨r, 0, rfl, by rw [HRES.out, HZ.out, hr], HB.out.trans (hbr.mono HB.out.size)⟩

end Go.Proofs.YtmdcplpaejenbaaDoor

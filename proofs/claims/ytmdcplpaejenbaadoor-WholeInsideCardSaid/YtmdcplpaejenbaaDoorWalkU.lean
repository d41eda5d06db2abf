/-
  Walks of the document's own packages of layers 10 and 11: Join, Clean, Resolve.
-/
import Derived.Test.YtmdcplpaejenbaaDoorWalkT
namespace Go.Proofs.YtmdcplpaejenbaaDoor
open Go.RowKit
open Go.Proofs.PnKit Go.Proofs.PnPath

theorem bls_tk (L : List ByteArray) (k : Nat) : bls (L.take k) = (bls L).take k := by simp [List.map_take]
theorem bls_dp (L : List ByteArray) (k : Nat) : bls (L.drop k) = (bls L).drop k := by simp [List.map_drop]
theorem take_snoc {L : List ByteArray} {k : Nat} (h : k < L.length) : L.take (k + 1) = L.take k ++ [L.getD k ByteArray.empty] := by
  rw [List.take_succ_eq_append_getElem h, List.getD_eq_getElem?_getD, List.getElem?_eq_getElem h]; rfl
theorem join_snoc (L : List (List UInt8)) (p : List UInt8) : join (L ++ [p]) = if L = [] then p else join L ++ 47 :: p := by
  by_cases h : L = []
  · subst h; rw [if_pos rfl]; rfl
  · rw [if_neg h, join_append L [p] h (by simp), join_one]
theorem tot_take_le (L : List (List UInt8)) (k : Nat) : tot (L.take k) ≤ tot L := by
  have h : tot L = tot (L.take k) + tot (L.drop k) := by rw [← tot_append, List.take_append_drop]
  omega

set_option maxHeartbeats 400000 in
theorem rjoin_any (A : Option Addr) (c : Nat) (L : List ByteArray) (w : World) (hR : Rd w A c L) (hlen : tot (bls L) ≤ 1000000) :
    Calls Tryd.prog 23 #[.slice A (List.length L) c] w fun e w' => ∃ r, e = .returned (.string r) ∧ bl r = join (bls L) ∧ w' = w := by
  have hl : L.length ≤ 1000000 := by have := length_le_tot (bls L); rw [bls_length] at this; omega
  have HR := Lib.hid hR
  clear hR
  go_enter Tryd.func23, Tryd.ntmps23
  go_wp2_with fail
  go_loop [3, 4] (fun t i => ∃ (k : Nat) (x : ByteArray), i = .int .i64 k ∧ k ≤ L.length ∧ t = .string x ∧ bl x = join (bls (L.take k)) ∧ x.size ≤ 1000000) (fun _ i => L.length - (RowKit.intOf i).toNat)
  case atStart => exact ⟨0, ⟨#[]⟩, rfl, Nat.zero_le _, rfl, rfl, by decide⟩
  case round =>
    obtain ⟨k, x, rfl, hk, rfl, hx, hxs⟩ := hrel
    have HX := Lib.hid hx
    clear hx
    by_cases hlt : k < L.length
    · obtain ⟨b, o, rfl, -, -⟩ := HR.out.pos (by omega)
      have hcell := HR.out.row hlt
      have HT := Lib.hid (take_snoc hlt)
      have HTT : Hid (tot (bls (L.take (k + 1))) ≤ 1000000) := by
        show _ ≤ _
        rw [bls_tk]; have := tot_take_le (bls L) (k + 1); omega
      generalize L.getD k ByteArray.empty = y at hcell HT
      have hfin : ∀ z : ByteArray, bl z = join (bls (L.take (k + 1))) → z.size ≤ 1000000 := fun z hz => by
        have h1 := join_length_le (bls (L.take (k + 1)))
        rw [← bl_size, hz]
        have := HTT.out
        omega
      have hys : y.size ≤ 1000000 := by
        have h := HTT.out
        rw [HT.out, bls_snoc, tot_append, tot_cons, bl_size] at h
        omega
      have HFIN := Lib.hid hfin
      clear hfin
      by_cases h0 : k = 0
      · subst h0
        have HZ : Hid (bl (x ++ y) = join (bls (L.take (0 + 1)))) := by
          show _ = _
          rw [bl_append, HX.out, HT.out, bls_snoc, List.take_zero]; rfl
        have hq : decide ((0 : Int) < ((0 : Nat) : Int)) = false := by decide
        have hcell0 : w.cell? ⟨b, o, none⟩ = some (.string y) := hcell
        clear hcell
        go_wp2_with fail
        exact ⟨⟨1, x ++ y, by go_num, by omega, rfl, HZ.out, HFIN.out _ HZ.out⟩, by simp [RowKit.intOf] <;> omega⟩
      · have HZ : Hid (bl (x ++ ⟨#[47]⟩ ++ y) = join (bls (L.take (k + 1)))) := by
          show _ = _
          rw [bl_append, bl_append, HX.out, HT.out, bls_snoc, join_snoc, if_neg, List.append_assoc]
          · rfl
          · intro e
            have := congrArg List.length e
            rw [bls_length, List.length_take, List.length_nil] at this
            omega
        have hq : decide ((0 : Int) < (k : Int)) = true := decide_eq_true (by omega)
        go_wp2_with fail
        exact ⟨⟨k + 1, x ++ ⟨#[47]⟩ ++ y, by go_num, by omega, rfl, HZ.out, HFIN.out _ HZ.out⟩, by simp [RowKit.intOf] <;> omega⟩
    · obtain rfl : k = L.length := by omega
      have HZ : Hid (bl x = join (bls L)) := by show _ = _; rw [HX.out, List.take_length]
      clear HX
      go_wp2_with fail
      go_ret
      exact ⟨x, rfl, HZ.out, rfl⟩

theorem cl_filter : ∀ (l acc : List (List UInt8)), cl acc (l.filter fun p => p ≠ [] ∧ p ≠ [46]) = cl acc l
  | [], _ => rfl
  | p :: l, acc => by
    by_cases h : p = [] ∨ p = [46]
    · rw [List.filter_cons_of_neg (by simp only [decide_eq_true_eq]; rcases h with h | h <;> simp [h]), cl_filter l, cl_skip h]
    · rw [List.filter_cons_of_pos (by simp only [decide_eq_true_eq]; exact ⟨fun e => h (.inl e), fun e => h (.inr e)⟩)]
      by_cases h2 : p = [46, 46]
      · subst h2; rw [cl_dots, cl_dots]
      · by_cases h3 : 255 < p.length
        · rw [cl_long h h2 h3, cl_long h h2 h3]
        · rw [cl_take h h2 h3, cl_take h h2 h3, cl_filter l]
theorem rs_filter : ∀ (l D : List (List UInt8)), rs D (l.filter fun p => p ≠ [] ∧ p ≠ [46]) = rs D l
  | [], _ => rfl
  | p :: l, D => by
    by_cases h : p = [] ∨ p = [46]
    · rw [List.filter_cons_of_neg (by simp only [decide_eq_true_eq]; rcases h with h | h <;> simp [h]), rs_filter l, rs_skip h]
    · rw [List.filter_cons_of_pos (by simp only [decide_eq_true_eq]; exact ⟨fun e => h (.inl e), fun e => h (.inr e)⟩)]
      by_cases h2 : p = [46, 46]
      · subst h2
        by_cases hD : D = []
        · subst hD; rw [rs_esc, rs_esc]
        · rw [rs_up hD, rs_up hD, rs_filter l]
      · by_cases h3 : 255 < p.length
        · rw [rs_long h h2 h3, rs_long h h2 h3]
        · rw [rs_take h h2 h3, rs_take h h2 h3, rs_filter l]
theorem sp_ne {l p : List UInt8} (h : p ∈ sp l) : ¬ (p = [] ∨ p = [46]) := by
  have := (List.mem_filter.1 h).2
  simp only [decide_eq_true_eq] at this
  exact fun e => e.elim this.1 this.2
theorem getD_mem {L : List ByteArray} {k : Nat} (h : k < L.length) : bl (L.getD k ByteArray.empty) ∈ bls L := by
  rw [List.getD_eq_getElem?_getD, List.getElem?_eq_getElem h]
  exact List.mem_map_of_mem (List.getElem_mem h)
theorem sp_size (l : List UInt8) : tot (sp l) ≤ l.length + 1 := by
  have h := tot_filter_le (fun p => decide (p ≠ [] ∧ p ≠ [46])) (msplit l)
  rw [tot_msplit] at h
  exact h

set_option maxHeartbeats 1000000 in
theorem rclean_any (s : ByteArray) (w : World) :
    Calls Tryd.prog 19 #[.string s] w fun e w' => ∃ A c L code, e = .returned (.tuple #[.slice A (List.length L) c, .int .i64 code]) ∧ Rd w' A c L ∧ clean (bl s) = (bls L, code) ∧ Below w.heap.size w w' := by
  have hs0 := rsound_any s w
  by_cases h0 : sound (bl s) = 0
  case neg =>
    have h1 : (sound (bl s) != 0) = true := by simp [h0]
    have hfin : clean (bl s) = ([], sound (bl s)) := by rw [clean, if_pos h0]
    have HF := Lib.hid hfin
    clear h0 hfin
    go_enter Tryd.func19, Tryd.ntmps19
    go_wp2_with fail
    refine hs0.mono ?_
    rintro e w1 ⟨rfl, rfl⟩
    go_wp2_with fail
    go_ret2
    exact ⟨none, 0, [], _, rfl, Rd.nil _, HF.out, Below.refl _ _⟩
  case pos =>
    have hlen := (sound_ok h0).2.1
    rw [bl_size] at hlen
    have hfin : clean (bl s) = cl [] (sp (bl s)) := by rw [clean, if_neg (by simp [h0])]; exact (cl_filter _ _).symm
    rw [h0] at hs0
    have HF := Lib.hid hfin
    clear h0 hfin
    go_enter Tryd.func19, Tryd.ntmps19
    go_wp2_with fail
    refine hs0.mono ?_
    rintro e w1 ⟨rfl, rfl⟩
    go_wp2_with fail
    refine (rsplit_any s _ (by omega)).mono ?_
    rintro e w2 ⟨A, c, L, rfl, hRL, hL, hb2⟩
    have HL := Lib.hid hL
    have HR := Lib.hid hRL
    rw [← hL] at HF
    have hll : L.length ≤ 4001 := by
      have h1 := sp_size (bl s)
      rw [← hL, bl_size] at h1
      have h2 := length_le_tot (bls L)
      rw [bls_length] at h2; omega
    obtain ⟨RES, hRES⟩ : ∃ RES, clean (bl s) = RES := ⟨_, rfl⟩
    have HRES := Lib.hid hRES
    rw [hRES] at HF
    clear hL hRES hs0 hRL
    go_wp2_with fail
    go_loop [6] (fun i => ∃ k : Nat, i = .int .i64 k ∧ k ≤ L.length ∧ cl (bls (L.take k)) (bls (L.drop k)) = RES) (fun i => L.length - (RowKit.intOf i).toNat)
    case atStart => exact ⟨0, rfl, Nat.zero_le _, by rw [List.take_zero, List.drop_zero]; exact HF.out.symm⟩
    case round =>
      obtain ⟨k, rfl, hk, hcl⟩ := hrel
      have HC := Lib.hid hcl
      clear hcl
      by_cases hlt : k < L.length
      · obtain ⟨b, o, rfl, -, -⟩ := HR.out.pos (by omega)
        have hcell := HR.out.row hlt
        have hd := bls_drop hlt
        have HNO : Hid (¬ (bl (L.getD k ByteArray.empty) = [] ∨ bl (L.getD k ByteArray.empty) = [46])) := sp_ne (l := bl s) (by rw [← HL.out]; exact getD_mem hlt)
        have HT := Lib.hid (take_snoc hlt)
        rw [hd] at HC
        clear hd
        generalize L.getD k ByteArray.empty = x at hcell HC HNO HT
        cases e1 : (x.toList == [46, 46]) with
        | true =>
          have HZ : Hid (RES = ([], 104)) := by show _ = _; rw [← HC.out, (str_eq e1).2 rfl]; exact cl_dots
          clear HC
          go_wp2_with fail
          go_ret2
          exact ⟨none, 0, [], _, rfl, Rd.nil _, by rw [HRES.out, HZ.out]; rfl, hb2⟩
        | false =>
        have E1 := Lib.hid (mt (str_eq e1).1 (by decide))
        by_cases h4 : (255 : Int) < x.size
        · have HZ : Hid (RES = ([], 2)) := by show _ = _; rw [← HC.out]; exact cl_long HNO.out E1.out (by rw [bl_size]; omega)
          clear HC
          go_wp2_with fail
          go_ret2
          exact ⟨none, 0, [], _, rfl, Rd.nil _, by rw [HRES.out, HZ.out]; rfl, hb2⟩
        · have HZ : Hid (cl (bls (L.take (k + 1))) (bls (L.drop (k + 1))) = RES) := by
            show _ = _
            rw [← HC.out, HT.out, bls_snoc]
            exact (cl_take HNO.out E1.out (by rw [bl_size]; omega)).symm
          clear HC
          go_wp2_with fail
          exact ⟨⟨k + 1, by go_num, by omega, HZ.out⟩, by simp [RowKit.intOf] <;> omega⟩
      · obtain rfl : k = L.length := by omega
        have HZ : Hid (RES = (bls L, 0)) := by
          show _ = _
          rw [← HC.out, List.take_length, List.drop_length]; rfl
        clear HC
        go_wp2_with fail
        go_ret2
        exact ⟨A, c, L, 0, rfl, HR.out, by rw [HRES.out, HZ.out], hb2⟩

end Go.Proofs.YtmdcplpaejenbaaDoor

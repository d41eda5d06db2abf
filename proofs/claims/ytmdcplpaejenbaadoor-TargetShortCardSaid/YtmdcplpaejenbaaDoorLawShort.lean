/- TargetShort: the walk. -/
import Derived.Test.YtmdcplpaejenbaaDoorWalkR
namespace Go.Proofs.YtmdcplpaejenbaaDoor
open Go.RowKit
open Go.Proofs.PnKit Go.Proofs.PnPath

def cnt : List (List UInt8) → Nat → Nat → Nat × Nat
  | [], u, n => (u, n)
  | p :: r, u, n => if p = [46, 46] ∧ n = 0 then cnt r (u + 1) n else cnt r u (n + 1)
theorem cnt_up (r : List (List UInt8)) (u : Nat) : cnt ([46, 46] :: r) u 0 = cnt r (u + 1) 0 := by rw [cnt, if_pos ⟨rfl, rfl⟩]
theorem cnt_else {p : List UInt8} (r : List (List UInt8)) (u n : Nat) (h : ¬ (p = [46, 46] ∧ n = 0)) : cnt (p :: r) u n = cnt r u (n + 1) := by rw [cnt, if_neg h]
theorem cnt_down (b : List (List UInt8)) (hb : ∀ p ∈ b, p ≠ [46, 46]) : ∀ u n, cnt b u n = (u, n + b.length) := by
  induction b with
  | nil => intro u n; rfl
  | cons p b ih =>
    intro u n
    rw [cnt_else _ _ _ (fun h => hb p (by simp) h.1), ih (fun q hq => hb q (by simp [hq])), List.length_cons]
    congr 1; omega
theorem cnt_out (k : Nat) (b : List (List UInt8)) (hb : ∀ p ∈ b, p ≠ [46, 46]) : ∀ u, cnt (List.replicate k [46, 46] ++ b) u 0 = (u + k, b.length) := by
  induction k with
  | zero => intro u; rw [List.replicate_zero, List.nil_append, cnt_down b hb]; congr 1; omega
  | succ k ih => intro u; rw [List.replicate_succ, List.cons_append, cnt_up, ih]; congr 1; omega
/-- the parts of a relative name -/
theorem sp_rel {D T : List (List UInt8)} (hD : G D) (hT : G T) : sp (relativeP (join D) (join T)) = outOf D T := by
  unfold relativeP
  rw [parts_join D hD, parts_join T hT]
  by_cases ho : outOf D T = []
  · rw [if_pos ho, ho]; decide
  · rw [if_neg ho]
    obtain ⟨c, _, e2, _⟩ := strip_eq D T
    have hb : G (strip D T).2 := G_sub (fun p hp => by rw [e2]; exact List.mem_append.2 (.inr hp)) hT
    have hg : ∀ p ∈ outOf D T, p ≠ [] ∧ (47 : UInt8) ∉ p ∧ p ≠ [46] := by
      intro p hp
      rcases List.mem_append.1 hp with h | h
      · rw [(List.mem_replicate.1 h).2]; decide
      · exact ⟨(hb p h).ne, (hb p h).slash, (hb p h).dot⟩
    unfold sp
    rw [msplit_join _ ho (fun p hp => (hg p hp).2.1), List.filter_eq_self]
    intro p hp
    simp only [decide_eq_true_eq]
    exact ⟨(hg p hp).1, (hg p hp).2.2⟩
theorem strip_drop {a b : List ByteArray} {k : Nat} {x y : ByteArray} (ha : a.drop k = x :: a.drop (k + 1)) (hb : b.drop k = y :: b.drop (k + 1)) (h : bl x = bl y) :
    strip (bls (a.drop k)) (bls (b.drop k)) = strip (bls (a.drop (k + 1))) (bls (b.drop (k + 1))) := by
  rw [ha, hb]
  show strip (bl x :: bls _) (bl y :: bls _) = _
  rw [h, strip_same]
theorem drop_cons {a : List ByteArray} {k : Nat} (h : k < a.length) : a.drop k = a.getD k ByteArray.empty :: a.drop (k + 1) := by
  rw [List.drop_eq_getElem_cons h, List.getD_eq_getElem?_getD, List.getElem?_eq_getElem h]; rfl

theorem back_len {D T : List (List UInt8)} (hD : G D) (hT : G T) : (relativeP (join D) (join T)).length ≤ 3 * D.length + tot T + 1 := by
  unfold relativeP
  rw [parts_join D hD, parts_join T hT]
  split
  · simp
  · obtain ⟨c, e1, e2, _⟩ := strip_eq D T
    have h1 := join_length_le (outOf D T)
    unfold outOf at h1 ⊢
    rw [tot_append, tot_replicate] at h1
    have h2 : ([46, 46] : List UInt8).length = 2 := rfl
    rw [h2] at h1
    have h3 : (strip D T).1.length ≤ D.length := by
      have := congrArg List.length e1
      rw [List.length_append] at this; omega
    have h4 : tot (strip D T).2 ≤ tot T := by
      have := congrArg tot e2
      rw [tot_append] at this; omega
    omega

set_option maxHeartbeats 2000000 in
theorem short_walk (d t : ByteArray) (w : World) (hE : Env w) :
    Calls Tryd.prog 11 #[.string d, .string t] w fun e w' => e = .returned (.bool true) ∧ Below w.heap.size w w' := by
  have P := Lib.hid (points_any w hE)
  cases hd : okc d <;> cases ht : okc t
  case true.true =>
    go_enter Tryd.func11, Tryd.ntmps11
    go_wp2_with fail
    refine P.out.mono ?_
    rintro e w1 ⟨rfl, hb1⟩
    go_wp2_with fail
    refine (lclean_ok d _ (hE.below hb1) hd).mono ?_
    rintro e w2 ⟨r, D, rfl, hr, hD, htD, hb2⟩
    have hB2 := bch hb1 hb2
    have HR := Lib.hid hr
    have hrs := size_of_join hr
    clear hr hb1 hb2
    go_wp2_with fail
    refine (lclean_ok t _ (hE.below hB2) ht).mono ?_
    rintro e w3 ⟨s, T, rfl, hs, hT, htT, hb3⟩
    have hB3 := bch hB2 hb3
    have HS := Lib.hid hs
    have hss := size_of_join hs
    clear hs hB2 hb3
    have hDl : D.length ≤ 1001 := by have := length_le_tot D; omega
    have hTl : T.length ≤ 1001 := by have := length_le_tot T; omega
    go_wp2_with fail
    refine (parts_any r _ (hE.below hB3) (by omega)).mono ?_
    rintro e w4 ⟨Aa, ca, a, rfl, hRa, ha, hb4⟩
    have hB4 := bch hB3 hb4
    have HA : Hid (bls a = D) := by show _ = _; rw [ha, HR.out, parts_join D hD]
    go_wp2_with fail
    refine (parts_any s _ (hE.below hB4) (by omega)).mono ?_
    rintro e w5 ⟨Ab, cb, b, rfl, hRb, hb, hb5⟩
    have hB5 := bch hB4 hb5
    have HB : Hid (bls b = T) := by show _ = _; rw [hb, HS.out, parts_join T hT]
    have HRa := Lib.hid (hRa.below hb5)
    have HRb := Lib.hid hRb
    have hal : a.length ≤ 1001 := by have := bls_length a; rw [HA.out] at this; omega
    have hbl : b.length ≤ 1001 := by have := bls_length b; rw [HB.out] at this; omega
    clear hB3 hB4 hb4 hb5 ha hb hRa hRb
    go_wp2_with fail
    go_loopw [11] (fun i wr => ∃ k q : Nat, i = .int .i64 k ∧ k ≤ a.length ∧ k ≤ b.length ∧ strip (bls (a.drop k)) (bls (b.drop k)) = strip D T ∧ wr = w5.drewN q) (fun i _ => a.length - (RowKit.intOf i).toNat)
    case atStart => exact ⟨0, 0, rfl, Nat.zero_le _, Nat.zero_le _, by rw [List.drop_zero, List.drop_zero, HA.out, HB.out], rfl⟩
    case round =>
      obtain ⟨k, q, rfl, hka, hkb, hst, rfl⟩ := hrel
      have HST := Lib.hid hst
      clear hst
      have H4 : (¬ k < a.length) ∨ (k < a.length ∧ ¬ k < b.length) ∨ (k < a.length ∧ k < b.length) := by omega
      rcases H4 with hA | ⟨hA, hB⟩ | ⟨hA, hB⟩
      case' inl =>
        have HX : Hid (strip D T = (bls (a.drop k), bls (b.drop k))) := by
          have : a.drop k = [] := List.drop_eq_nil_of_le (by omega)
          rw [← HST.out, this]; exact strip_nil _
        have hy1 : decide (k < a.length) = false := decide_eq_false hA
        clear HST
        go_wp2_with fail
        go_quiet (fail)
        clear hy1 hA
      case' inr.inl =>
        have HX : Hid (strip D T = (bls (a.drop k), bls (b.drop k))) := by
          have : b.drop k = [] := List.drop_eq_nil_of_le (by omega)
          rw [← HST.out, this]; exact strip_nil2 _
        have hy1 : decide (k < a.length) = true := decide_eq_true hA
        have hy2 : decide (k < b.length) = false := decide_eq_false hB
        clear HST
        go_wp2_with fail
        go_quiet (fail)
        clear hy1 hy2 hA hB
      case' inr.inr =>
        obtain ⟨o1, f1, rfl, -, -⟩ := HRa.out.pos (by omega)
        obtain ⟨o2, f2, rfl, -, -⟩ := HRb.out.pos (by omega)
        have hcx := HRa.out.row hA
        have hcy := HRb.out.row hB
        have HDA := Lib.hid (drop_cons hA)
        have HDB := Lib.hid (drop_cons hB)
        have hy1 : decide (k < a.length) = true := decide_eq_true hA
        have hy2 : decide (k < b.length) = true := decide_eq_true hB
        generalize a.getD k ByteArray.empty = x at hcx HDA
        generalize b.getD k ByteArray.empty = y at hcy HDB
        cases e1 : (x.toList == y.toList)
        case' true =>
          have HXY : Hid (bl x = bl y) := by
            rw [ByteArray.toList_eq, ByteArray.toList_eq] at e1
            exact beq_iff_eq.1 e1
          go_wp2_with fail
          go_quiet (fail)
          go_wp2_with fail
          refine ⟨⟨k + 1, _, by go_num, by omega, by omega, ?_, rfl⟩, by simp [RowKit.intOf] <;> omega⟩
          rw [← strip_drop HDA.out HDB.out HXY.out]; exact HST.out
        case' false =>
          have HX : Hid (strip D T = (bls (a.drop k), bls (b.drop k))) := by
            have hxy : bl x ≠ bl y := fun e => by
              rw [ByteArray.toList_eq, ByteArray.toList_eq] at e1
              exact absurd e (by simpa using e1)
            show _ = _
            rw [← HST.out, HDA.out, HDB.out]
            exact strip_other _ _ hxy
          clear HST
          go_wp2_with fail
          go_quiet (fail)
          clear hy1 hy2 hA hB hcx hcy HDA HDB e1
      all_goals
        go_wp2_with fail
        refine (relative_any r s _ (hE.below (below_drewN hB5 _)) (by omega) (by omega)).mono ?_
        rintro e w6 ⟨n, rfl, hn, hb6⟩
        have hB6 := bch (below_drewN hB5 _) hb6
        have hns : n.size ≤ 5000 := by
          have hrl : bl n = relativeP (bl r) (bl s) := hn
          have h1 := back_len hD hT
          rw [← HR.out, ← HS.out, ← hrl, bl_size] at h1
          omega
        have HQ0 : Hid (sp (bl n) = List.replicate (a.drop k).length [46, 46] ++ bls (b.drop k)) := by
          show _ = _
          rw [hn, HR.out, HS.out, sp_rel hD hT, outOf, HX.out, bls_length]
        clear hn hb6 hB5
        go_wp2_with fail
        refine (rsplit_any n _ (by omega)).mono ?_
        rintro e w7 ⟨A, c, Q, rfl, hRQ, hQ, hb7⟩
        have hB7 := bch hB6 hb7
        have HRQ := Lib.hid hRQ
        have HQ : Hid (cnt (bls Q) 0 0 = (a.length - k, b.length - k)) := by
          show _ = _
          have hbd : ∀ p ∈ bls (b.drop k), p ≠ [46, 46] := by
            intro p hp
            have : p ∈ T := by
              rw [← HB.out]
              exact List.map_subset _ (List.drop_subset _ _) hp
            exact (hT p this).dots
          rw [hQ, HQ0.out, cnt_out _ _ hbd, bls_length, List.length_drop, List.length_drop, Nat.zero_add]
        have hQl : Q.length ≤ 2002 := by
          have h := congrArg List.length (hQ.trans HQ0.out)
          rw [bls_length, List.length_append, List.length_replicate, bls_length, List.length_drop, List.length_drop] at h
          omega
        clear hQ HQ0 hb7 hB6 hRQ HX
        go_wp2_with fail
        go_loop [66, 12, 13] (fun i u v => ∃ j m l : Nat, i = .int .i64 j ∧ j ≤ Q.length ∧ u = .int .i64 m ∧ v = .int .i64 l ∧ m ≤ j ∧ l ≤ j ∧ cnt (bls (Q.drop j)) m l = (a.length - k, b.length - k)) (fun i _ _ => Q.length - (RowKit.intOf i).toNat)
        case' atStart => exact ⟨0, 0, 0, rfl, Nat.zero_le _, rfl, rfl, Nat.le_refl _, Nat.le_refl _, by rw [List.drop_zero]; exact HQ.out⟩
        case' round =>
          obtain ⟨j, m, l, rfl, hj, rfl, rfl, hm, hl, hcn⟩ := hrel
          have HC := Lib.hid hcn
          clear hcn
          by_cases hlt : j < Q.length
          · obtain ⟨b', o', rfl, -, -⟩ := HRQ.out.pos (by omega)
            have hcell := HRQ.out.row hlt
            have hdq := bls_drop hlt
            rw [hdq] at HC
            clear hdq
            generalize Q.getD j ByteArray.empty = x at hcell HC
            cases e1 : (x.toList == [46, 46]) with
            | true =>
              have hx := (str_eq e1).2 rfl
              by_cases h0 : l = 0
              · subst h0
                have HC2 : Hid (cnt (bls (Q.drop (j + 1))) (m + 1) 0 = (a.length - k, b.length - k)) := by
                  have := HC.out
                  rw [hx, cnt_up] at this
                  exact this
                clear hx HC
                go_wp2_with fail
                exact ⟨⟨j + 1, m + 1, 0, by go_num, by omega, by go_num, rfl, by omega, by omega, HC2.out⟩, by simp [RowKit.intOf] <;> omega⟩
              · have HC2 : Hid (cnt (bls (Q.drop (j + 1))) m (l + 1) = (a.length - k, b.length - k)) := by
                  have := HC.out
                  rw [cnt_else _ _ _ (fun h => h0 h.2)] at this
                  exact this
                have hl0 : ((l : Int) == 0) = false := by simp; exact h0
                clear hx HC h0
                go_wp2_with fail
                exact ⟨⟨j + 1, m, l + 1, by go_num, by omega, rfl, by go_num, by omega, by omega, HC2.out⟩, by simp [RowKit.intOf] <;> omega⟩
            | false =>
              have hx := mt (str_eq e1).1 (by decide)
              have HC2 : Hid (cnt (bls (Q.drop (j + 1))) m (l + 1) = (a.length - k, b.length - k)) := by
                have := HC.out
                rw [cnt_else _ _ _ (fun h => hx h.1)] at this
                exact this
              clear hx HC
              go_wp2_with fail
              exact ⟨⟨j + 1, m, l + 1, by go_num, by omega, rfl, by go_num, by omega, by omega, HC2.out⟩, by simp [RowKit.intOf] <;> omega⟩
          · obtain rfl : j = Q.length := by omega
            have h := HC.out
            rw [List.drop_length] at h
            have h2 : (m, l) = (a.length - k, b.length - k) := h
            simp only [Prod.mk.injEq] at h2
            have q1 : ((m : Int) == (a.length : Int) - (k : Int)) = true := beq_iff_eq.2 (by omega)
            have q2 : ((l : Int) == (b.length : Int) - (k : Int)) = true := beq_iff_eq.2 (by omega)
            clear h h2 HC
            go_wp2_with fail
            go_ret
            exact ⟨rfl, hB7⟩
  all_goals
    go_enter Tryd.func11, Tryd.ntmps11
    go_wp2_with fail
    refine P.out.mono ?_
    rintro e w1 ⟨rfl, hb1⟩
    go_wp2_with fail
    refine (lclean_any d _ (hE.below hb1)).mono ?_
    rintro e w2 ⟨r, rfl, _, hb2⟩
    have hB2 := bch hb1 hb2
    rw [hd]
    go_wp2_with fail
    refine (lclean_any t _ (hE.below hB2)).mono ?_
    rintro e w3 ⟨r', rfl, _, hb3⟩
    rw [ht]
    go_wp2_with fail
    go_ret
    exact ⟨rfl, bch hB2 hb3⟩

end Go.Proofs.YtmdcplpaejenbaaDoor

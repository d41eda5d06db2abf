/-
  Walks of package path: Under, Up, Compare.
-/
import Derived.Test.YtcniahbliadgiaaDoorHelp
import Derived.Deep.QuietTactic
import Derived.BigQuiet
import Derived.WalkSpells
namespace Go.Proofs.YtcniahbliadgiaaDoor
open Go.RowKit
open Go.Proofs.PnKit Go.Proofs.PnPath

def under (d s : List UInt8) : Bool := decide (d = []) || decide (s = d) || Lib.hasPrefix s (d ++ [47])

theorem under_any (d s : ByteArray) (w : World) (hd : d.size ≤ 1000000) :
    Calls Tryd.prog 54 #[.string d, .string s] w fun e w' => e = .returned (.bool (under (bl d) (bl s))) ∧ w' = w := by
  cases e1 : d.toList.isEmpty with
  | true =>
    have HU : Hid (under (bl d) (bl s) = true) := by show _ = _; rw [under, decide_eq_true ((str_emp e1).2 rfl)]; rfl
    go_enter Tryd.func54, Tryd.ntmps54
    go_wp2_with fail
    go_ret
    exact ⟨by rw [HU.out]; rfl, rfl⟩
  | false =>
    have E1 := Lib.hid (mt (str_emp e1).1 (by decide))
    cases e2 : (s.toList == d.toList) with
    | true =>
      have HU : Hid (under (bl d) (bl s) = true) := by
        rw [ByteArray.toList_eq, ByteArray.toList_eq] at e2
        show _ = _
        have e3 : bl s = bl d := beq_iff_eq.1 e2
        rw [under, decide_eq_true e3, Bool.or_true]; rfl
      go_enter Tryd.func54, Tryd.ntmps54
      go_wp2_with fail
      go_ret
      exact ⟨by rw [HU.out]; rfl, rfl⟩
    | false =>
      have HU : Hid (under (bl d) (bl s) = Lib.hasPrefix s.data.toList (d ++ ⟨#[47]⟩ : ByteArray).data.toList) := by
        rw [ByteArray.toList_eq, ByteArray.toList_eq] at e2
        show _ = _
        have e3 : bl s ≠ bl d := fun h => by
          have h2 : s.data.toList = d.data.toList := h
          rw [h2] at e2; simp at e2
        rw [under, decide_eq_false E1.out, decide_eq_false e3, Bool.false_or, Bool.false_or]
        exact congrArg (Lib.hasPrefix (bl s)) (bl_append d ⟨#[47]⟩).symm
      go_enter Tryd.func54, Tryd.ntmps54
      go_wp2_with fail
      refine (Tryd.strings_HasPrefix _ _ _).mono ?_
      rintro e w1 ⟨rfl, rfl⟩
      go_wp2_with fail
      go_ret
      exact ⟨by rw [HU.out]; rfl, rfl⟩

/-- the order of paths, part by part -/
def cmpP : List (List UInt8) → List (List UInt8) → Int
  | x :: a, y :: b => if Lib.compareBytes x y = 0 then cmpP a b else Lib.compareBytes x y
  | [], b => -(b.length : Int)
  | x :: a, [] => ((x :: a).length : Int)

theorem cmpP_nil (b : List (List UInt8)) : cmpP [] b = -(b.length : Int) := by rw [cmpP]

theorem cmpP_nil2 (a : List (List UInt8)) : cmpP a [] = (a.length : Int) := by cases a <;> rfl

theorem cmpP_cons (x y : List UInt8) (a b : List (List UInt8)) : cmpP (x :: a) (y :: b) = if Lib.compareBytes x y = 0 then cmpP a b else Lib.compareBytes x y := rfl

theorem drop_cons' {a : List ByteArray} {k : Nat} (h : k < a.length) : bls (a.drop k) = bl (a.getD k ByteArray.empty) :: bls (a.drop (k + 1)) := bls_drop h

theorem bls_drop_len (a : List ByteArray) (k : Nat) : (bls (a.drop k)).length = a.length - k := by rw [bls_length, List.length_drop]

theorem quiet_add {f : FuncId} {args : Array Value} {w : World} {a n : Nat} {v : Value}
    (h : Calls Tryd.prog f args (w.drewN (a + n)) fun e w' => e = .returned v ∧ w' = w.drewN (a + n)) :
    Calls Tryd.prog f args (w.drewN (a + n)) fun e w'' => e = .returned v ∧ ∃ m, w'' = w.drewN (a + m) :=
  h.mono fun _ _ ⟨he, hm⟩ => ⟨he, n, hm⟩

set_option maxHeartbeats 1000000 in
theorem compare_any (d t : ByteArray) (w : World) (hE : Env w) (hd : d.size ≤ 100000) (ht : t.size ≤ 100000) :
    Calls Tryd.prog 31 #[.string d, .string t] w fun e w' => e = .returned (.int .i64 (cmpP (parts (bl d)) (parts (bl t)))) ∧ Below w.heap.size w w' := by
  obtain ⟨RES, hRES⟩ : ∃ RES, cmpP (parts (bl d)) (parts (bl t)) = RES := ⟨_, rfl⟩
  rw [hRES]
  have HRES := Lib.hid hRES
  clear hRES
  go_enter Tryd.func31, Tryd.ntmps31
  go_wp2_with fail
  refine (parts_any d _ hE (by omega)).mono ?_
  rintro e w1 ⟨Aa, ca, a, rfl, hRa, ha, hb1⟩
  go_wp2_with fail
  refine (parts_any t _ (hE.below hb1) (by omega)).mono ?_
  rintro e w2 ⟨Ab, cb, b, rfl, hRb, hb, hb2⟩
  have hal := (parts_bound ha).2
  have hbl := (parts_bound hb).2
  have HRa := Lib.hid (hRa.below hb2)
  have HRb := Lib.hid hRb
  have HB : Hid (Below w.heap.size w w2) := bch hb1 hb2
  rw [← ha, ← hb] at HRES
  clear ha hb hRa hRb hb1 hb2
  go_wp2_with fail
  go_loopw [7] (fun i wr => ∃ k q : Nat, i = .int .i64 k ∧ k ≤ a.length ∧ k ≤ b.length ∧ cmpP (bls (a.drop k)) (bls (b.drop k)) = RES ∧ wr = w2.drewN q) (fun i _ => a.length - (RowKit.intOf i).toNat)
  case atStart => exact ⟨0, 0, rfl, Nat.zero_le _, Nat.zero_le _, by rw [List.drop_zero, List.drop_zero]; exact HRES.out, rfl⟩
  case round =>
    obtain ⟨k, q, rfl, hka, hkb, hc, rfl⟩ := hrel
    have HC := Lib.hid hc
    clear hc
    by_cases hA : k < a.length
    case neg =>
      have HZ : Hid (RES = (a.length : Int) - (b.length : Int)) := by
        show _ = _
        have : a.drop k = [] := List.drop_eq_nil_of_le (by omega)
        have h2 := bls_drop_len b k
        rw [← HC.out, this]
        show cmpP [] _ = _
        rw [cmpP_nil, h2]; omega
      clear HC
      go_wp2_with fail
      go_ret
      exact ⟨ret_int HZ.out.symm, below_drewN HB.out _⟩
    by_cases hB : k < b.length
    case neg =>
      have HZ : Hid (RES = (a.length : Int) - (b.length : Int)) := by
        show _ = _
        have : b.drop k = [] := List.drop_eq_nil_of_le (by omega)
        have h2 := bls_drop_len a k
        rw [← HC.out, this]
        show cmpP _ [] = _
        rw [cmpP_nil2, h2]; omega
      clear HC
      go_wp2_with fail
      go_ret
      exact ⟨ret_int HZ.out.symm, below_drewN HB.out _⟩
    obtain ⟨o1, f1, rfl, -, -⟩ := HRa.out.pos (by omega)
    obtain ⟨o2, f2, rfl, -, -⟩ := HRb.out.pos (by omega)
    have hcx := HRa.out.row hA
    have hcy := HRb.out.row hB
    have hda := drop_cons' hA
    have hdb := drop_cons' hB
    rw [hda, hdb] at HC
    clear hda hdb
    generalize a.getD k ByteArray.empty = x at hcx HC
    generalize b.getD k ByteArray.empty = y at hcy HC
    have HC2 : Hid ((if Lib.compareBytes (bl x) (bl y) = 0 then cmpP (bls (a.drop (k + 1))) (bls (b.drop (k + 1))) else Lib.compareBytes (bl x) (bl y)) = RES) := HC.out
    clear HC
    have cS := fun W : World => Tryd.strings_Compare x y W
    by_cases h0 : Lib.compareBytes (bl x) (bl y) = 0
    · have HZ : Hid (cmpP (bls (a.drop (k + 1))) (bls (b.drop (k + 1))) = RES) := by
        have h := HC2.out
        rw [if_pos h0] at h
        exact h
      have h1 : Lib.compareBytes x.data.toList y.data.toList = 0 := h0
      rw [h1] at cS
      have CS := Lib.hid cS
      clear h0 h1 cS HC2
      go_wp2_with fail
      go_quiet ((go_at_call 51; exact quiet_add (CS.out _)))
      go_wp2_with fail
      exact ⟨⟨k + 1, _, by go_num, by omega, by omega, HZ.out, rfl⟩, by simp [RowKit.intOf] <;> omega⟩
    · have HZ : Hid (Lib.compareBytes (bl x) (bl y) = RES) := by
        have h := HC2.out
        rw [if_neg h0] at h
        exact h
      have hq : (RES != 0) = true := by rw [← HZ.out]; simp; exact h0
      have h1 : Lib.compareBytes x.data.toList y.data.toList = RES := HZ.out
      rw [h1] at cS
      have CS := Lib.hid cS
      clear h0 h1 cS HC2
      go_wp2_with fail
      go_quiet ((go_at_call 51; exact quiet_add (CS.out _)))
      go_wp2_with fail
      go_ret
      exact ⟨rfl, below_drewN HB.out _⟩

/-- the place of the last slash -/
theorem last_none {s : ByteArray} (h : (47 : UInt8) ∉ bl s) : Lib.lastIndexByte s 47 = -1 := by
  rcases Lib.lastIndexByte_spec s 47 with ⟨e, _⟩ | ⟨i, hi, _, hc, _⟩
  · exact e
  · exfalso
    apply h
    have hb := get!_bl s i hi
    have e : s.get! i = 47 := by
      have : ((s.get! i).toNat : Int) = 47 := hc
      exact UInt8.toNat_inj.1 (by show _ = 47; omega)
    rw [e] at hb
    exact List.mem_iff_getElem?.2 ⟨i, hb⟩

theorem last_at {s : ByteArray} {m p : List UInt8} (h : bl s = m ++ 47 :: p) (hp : (47 : UInt8) ∉ p) : Lib.lastIndexByte s 47 = (m.length : Int) ∧ m.length < s.size := by
  have hsz : s.size = m.length + (p.length + 1) := by rw [← bl_size, h, List.length_append, List.length_cons]
  refine ⟨?_, by omega⟩
  have at_m : (s.get! m.length).toNat = 47 := by
    have hb := get!_bl s m.length (by omega)
    rw [h, List.getElem?_append_right (Nat.le_refl _), Nat.sub_self, List.getElem?_cons_zero] at hb
    rw [← Option.some.inj hb]; rfl
  rcases Lib.lastIndexByte_spec s 47 with ⟨_, hn⟩ | ⟨i, hi, e, hc, hn⟩
  · exact absurd (by show ((s.get! m.length).toNat : Int) = 47; omega) (hn m.length (by omega))
  · rw [e]
    rcases Nat.lt_trichotomy i m.length with hlt | heq | hgt
    · exact absurd (by show ((s.get! m.length).toNat : Int) = 47; omega) (hn m.length hlt (by omega))
    · rw [heq]
    · exfalso
      apply hp
      have hb := get!_bl s i hi
      have e47 : s.get! i = 47 := by
        have : ((s.get! i).toNat : Int) = 47 := hc
        exact UInt8.toNat_inj.1 (by show _ = 47; omega)
      rw [h, List.getElem?_append_right (by omega), show i - m.length = (i - m.length - 1) + 1 by omega, List.getElem?_cons_succ, e47] at hb
      exact List.mem_iff_getElem?.2 ⟨_, hb⟩

theorem bl_take (s : ByteArray) (k : Nat) : bl (s.extract 0 k) = (bl s).take k := by
  show (s.extract 0 k).data.toList = _
  rw [Lib.extract_data, List.drop_zero, Nat.sub_zero]

/-- Up of a path of clean parts -/
theorem up_root (w : World) : Calls Tryd.prog 60 #[.string ⟨#[]⟩] w fun e w' => e = .returned (.tuple #[.string ⟨#[]⟩, .bool false]) ∧ w' = w := by
  go_enter Tryd.func60, Tryd.ntmps60
  go_wp2_with fail
  go_ret2
  exact ⟨rfl, rfl⟩

set_option maxHeartbeats 400000 in
theorem up_any (s : ByteArray) (L : List (List UInt8)) (w : World) (hs : bl s = join L) (hL : L ≠ []) (hG : G L) (hsz : s.size ≤ 1000000) :
    Calls Tryd.prog 60 #[.string s] w fun e w' => ∃ r, e = .returned (.tuple #[.string r, .bool true]) ∧ bl r = join L.dropLast ∧ w' = w := by
  have hne : s.toList.isEmpty = false := by
    have h2 : bl s ≠ [] := by rw [hs]; exact join_ne L hL (fun p hp => (hG p hp).ne)
    rw [ByteArray.toList_eq]; simpa using h2
  have hlast := hG _ (List.getLast_mem hL)
  have cL := Tryd.strings_LastIndexByte s 47 (by omega)
  by_cases h1 : L.dropLast = []
  · have e1 : L = [L.getLast hL] := by
      have := List.dropLast_concat_getLast hL
      rw [h1, List.nil_append] at this
      exact this.symm
    have e2 : bl s = L.getLast hL := by rw [hs]; exact (congrArg join e1).trans (join_one _)
    rw [last_none (s := s) (by rw [e2]; exact hlast.slash)] at cL
    have CL := Lib.hid cL
    have H1 := Lib.hid h1
    clear cL h1 e1 e2 hlast
    go_enter Tryd.func60, Tryd.ntmps60
    go_wp2_with fail
    refine (CL.out _).mono ?_
    rintro e w1 ⟨rfl, rfl⟩
    go_wp2_with fail
    go_ret2
    exact ⟨⟨#[]⟩, rfl, by rw [H1.out]; rfl, rfl⟩
  · have e2 : bl s = join L.dropLast ++ 47 :: L.getLast hL := by
      rw [hs]
      have h := List.dropLast_concat_getLast hL
      have h2 := join_append L.dropLast [L.getLast hL] h1 (by simp)
      rw [h, join_one] at h2
      exact h2
    obtain ⟨h3, h4⟩ := last_at e2 hlast.slash
    rw [h3] at cL
    have CL := Lib.hid cL
    have HT : Hid (bl (s.extract 0 (join L.dropLast).length) = join L.dropLast) := by
      show _ = _
      rw [bl_take, e2, List.take_left' rfl]
    clear cL h1 e2 hlast h3
    generalize join L.dropLast = m at *
    go_enter Tryd.func60, Tryd.ntmps60
    go_wp2_with fail
    refine (CL.out _).mono ?_
    rintro e w1 ⟨rfl, rfl⟩
    have h5 : m.length ≤ s.size := by omega
    go_wp2_with fail
    go_ret2
    exact ⟨_, rfl, HT.out, rfl⟩

theorem msplit_app2 (t : List UInt8) (a : List UInt8) : msplit (a ++ 47 :: t) = msplit a ++ msplit t := by
  refine msplit_ind (P := fun a => msplit (a ++ 47 :: t) = msplit a ++ msplit t) ?_ ?_ a
  · intro a ha
    rw [msplit_cut a t ha, msplit_plain a ha]; rfl
  · intro a b ha hb
    rw [List.append_assoc, List.cons_append, msplit_cut a _ ha, msplit_cut a b ha, hb]; rfl

theorem cl_app : ∀ (r acc t : List (List UInt8)), G r → cl acc (r ++ t) = cl (acc ++ r) t
  | [], acc, t, _ => by simp
  | p :: r, acc, t, h => by
    have hp := h p (by simp)
    rw [List.cons_append, cl_take (fun e => e.elim hp.ne hp.dot) hp.dots (by have := hp.len; omega), cl_app r _ t (fun q hq => h q (by simp [hq]))]
    simp

/-- the parts of a joined path, or the one empty part -/
theorem msplit_joined {L : List (List UInt8)} (hG : G L) : msplit (join L) = if L = [] then [[]] else L := by
  by_cases h : L = []
  · subst h; rfl
  · rw [if_neg h, msplit_join L h (fun p hp => (hG p hp).slash)]

theorem cl_joined {L acc r : List (List UInt8)} (hG : G L) : cl acc (msplit (join L) ++ r) = cl (acc ++ L) r := by
  rw [msplit_joined hG]
  by_cases h : L = []
  · subst h; rw [if_pos rfl, List.append_nil]; exact cl_skip (Or.inl rfl)
  · rw [if_neg h]; exact cl_app L acc r hG

theorem nul_joined {L : List (List UInt8)} (hG : G L) : (0 : UInt8) ∉ join L := fun h => by
  rcases join_mem L 0 h with h | ⟨p, hp, h⟩
  · cases h
  · exact (hG p hp).nul h

theorem V_joined {L : List (List UInt8)} (hG : G L) : V (join L) = true := V_join L (fun p hp => (hG p hp).utf)

theorem pre_iff {p s : List UInt8} : Lib.hasPrefix s p = true ↔ ∃ t, s = p ++ t := by
  show p.isPrefixOf s = true ↔ _
  rw [List.isPrefixOf_iff_prefix]
  exact ⟨fun ⟨t, h⟩ => ⟨t, h.symm⟩, fun ⟨t, h⟩ => ⟨t, h.symm⟩⟩

theorem under_join {M L : List (List UInt8)} (hM : G M) (hL : G L) : under (join M) (join L) = decide (M.length ≤ L.length ∧ L.take M.length = M) := by
  have e : ∀ a b : Bool, (a = true ↔ b = true) → a = b := by decide
  apply e
  rw [decide_eq_true_iff, under, Bool.or_eq_true, Bool.or_eq_true, decide_eq_true_iff, decide_eq_true_iff, pre_iff]
  constructor
  · rintro ((h | h) | ⟨t, h⟩)
    · by_cases hm : M = []
      · subst hm; exact ⟨Nat.zero_le _, rfl⟩
      · exact absurd h (join_ne M hm (fun p hp => (hM p hp).ne))
    · have := join_inj hL hM h
      subst this
      exact ⟨Nat.le_refl _, List.take_length⟩
    · by_cases hm : M = []
      · subst hm; exact ⟨Nat.zero_le _, rfl⟩
      have hl : L ≠ [] := by
        rintro rfl
        rw [List.append_assoc] at h
        have := congrArg List.length h
        simp [join] at this
      have h2 := congrArg msplit h
      rw [List.append_assoc, List.cons_append, List.nil_append, msplit_app2, msplit_join L hl (fun p hp => (hL p hp).slash), msplit_join M hm (fun p hp => (hM p hp).slash)] at h2
      rw [h2]
      exact ⟨by simp, List.take_left' rfl⟩
  · rintro ⟨h1, h2⟩
    by_cases hm : M = []
    · subst hm; exact Or.inl (Or.inl rfl)
    have h3 : L = M ++ L.drop M.length := by
      conv => lhs; rw [← List.take_append_drop M.length L, h2]
    by_cases hr : L.drop M.length = []
    · rw [hr, List.append_nil] at h3
      exact Or.inl (Or.inr (by rw [h3]))
    · right
      refine ⟨join (L.drop M.length), ?_⟩
      rw [List.append_assoc]
      conv => lhs; rw [h3]
      exact join_append M _ hm hr

theorem Env.drewN {w : World} (h : Env w) (n : Nat) : Env (w.drewN n) := h.below (below_drewN (Below.refl _ _) n)

theorem bl_drewN (w : World) (n : Nat) : Below w.heap.size w (w.drewN n) := below_drewN (Below.refl _ _) n

/-- the walk of Clean, where its error alone counts -/
theorem clean_code (s : ByteArray) (w : World) (hE : Env w) (code : Int) (h : (clean (bl s)).2 = code) :
    Calls Tryd.prog 21 #[.string s] w fun e w' => ∃ A c n, e = .returned (.tuple #[.slice A n c, .int .i64 code]) ∧ Below w.heap.size w w' := by
  refine (clean_any s w hE).mono ?_
  rintro e w' ⟨A, c, L, code', rfl, hR, h', hb⟩
  rw [h'] at h
  subst h
  exact ⟨A, c, _, rfl, hb⟩

theorem clean_bounds {s : ByteArray} {L : List (List UInt8)} (h : clean (bl s) = (L, 0)) : G L ∧ (join L).length ≤ s.size ∧ (join L).length ≤ 4000 := by
  obtain ⟨h1, h2⟩ := clean_good h
  have hs : sound (bl s) = 0 := by
    by_cases h0 : sound (bl s) = 0
    · exact h0
    · rw [clean, if_pos h0] at h
      simp only [Prod.mk.injEq] at h
      exact h.2
  have h3 := (sound_ok hs).2.1
  rw [bl_size] at h2 h3
  by_cases hL : L = []
  · subst hL; exact ⟨h1, Nat.zero_le _, Nat.zero_le _⟩
  · have := join_length L hL
    exact ⟨h1, by omega, by omega⟩

end Go.Proofs.YtcniahbliadgiaaDoor

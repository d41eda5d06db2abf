/-
  Walks of package path: Under, Up, Compare; of layer 10's statements: same, cleans.
-/
import Derived.Test.YtmdcplpaejenbaaDoorWalkE
import Derived.Deep.QuietTactic
import Derived.BigQuiet
namespace Go.Proofs.YtmdcplpaejenbaaDoor
open Go.RowKit
open Go.Proofs.PnKit Go.Proofs.PnPath

def under (d s : List UInt8) : Bool := decide (d = []) || decide (s = d) || Lib.hasPrefix s (d ++ [47])

theorem under_any (d s : ByteArray) (w : World) (hd : d.size ≤ 1000000) :
    Calls Tryd.prog 17 #[.string d, .string s] w fun e w' => e = .returned (.bool (under (bl d) (bl s))) ∧ w' = w := by
  cases e1 : d.toList.isEmpty with
  | true =>
    have HU : Hid (under (bl d) (bl s) = true) := by show _ = _; rw [under, decide_eq_true ((str_emp e1).2 rfl)]; rfl
    go_enter Tryd.func17, Tryd.ntmps17
    go_wp2_with fail
    go_ret
    exact ⟨by rw [HU.out]; rfl, rfl⟩
  | false =>
    have E1 := Lib.hid (mt (str_emp e1).1 (by decide))
    cases e2 : (s.toList == d.toList) with
    | true =>
      have HU : Hid (under (bl d) (bl s) = true) := by
        rw [ByteArray.toList_eq, ByteArray.toList_eq] at e2
        show _ = _
        have e3 : bl s = bl d := beq_iff_eq.1 e2
        rw [under, decide_eq_true e3, Bool.or_true]; rfl
      go_enter Tryd.func17, Tryd.ntmps17
      go_wp2_with fail
      go_ret
      exact ⟨by rw [HU.out]; rfl, rfl⟩
    | false =>
      have HU : Hid (under (bl d) (bl s) = Lib.hasPrefix s.data.toList (d ++ ⟨#[47]⟩ : ByteArray).data.toList) := by
        rw [ByteArray.toList_eq, ByteArray.toList_eq] at e2
        show _ = _
        have e3 : bl s ≠ bl d := fun h => by
          have h2 : s.data.toList = d.data.toList := h
          rw [h2] at e2; simp at e2
        rw [under, decide_eq_false E1.out, decide_eq_false e3, Bool.false_or, Bool.false_or]
        exact congrArg (Lib.hasPrefix (bl s)) (bl_append d ⟨#[47]⟩).symm
      go_enter Tryd.func17, Tryd.ntmps17
      go_wp2_with fail
      refine (Tryd.strings_HasPrefix _ _ _).mono ?_
      rintro e w1 ⟨rfl, rfl⟩
      go_wp2_with fail
      go_ret
      exact ⟨by rw [HU.out]; rfl, rfl⟩

/-- the order of paths, part by part -/
def cmpP : List (List UInt8) → List (List UInt8) → Int
  | x :: a, y :: b => if Lib.compareBytes x y = 0 then cmpP a b else Lib.compareBytes x y
  | [], b => -(b.length : Int)
  | x :: a, [] => ((x :: a).length : Int)
theorem cmpP_nil (b : List (List UInt8)) : cmpP [] b = -(b.length : Int) := by rw [cmpP]
theorem cmpP_nil2 (a : List (List UInt8)) : cmpP a [] = (a.length : Int) := by cases a <;> rfl
theorem cmpP_cons (x y : List UInt8) (a b : List (List UInt8)) : cmpP (x :: a) (y :: b) = if Lib.compareBytes x y = 0 then cmpP a b else Lib.compareBytes x y := rfl
theorem drop_cons' {a : List ByteArray} {k : Nat} (h : k < a.length) : bls (a.drop k) = bl (a.getD k ByteArray.empty) :: bls (a.drop (k + 1)) := bls_drop h
theorem bls_drop_len (a : List ByteArray) (k : Nat) : (bls (a.drop k)).length = a.length - k := by rw [bls_length, List.length_drop]

theorem quiet_add {f : FuncId} {args : Array Value} {w : World} {a n : Nat} {v : Value}
    (h : Calls Tryd.prog f args (w.drewN (a + n)) fun e w' => e = .returned v ∧ w' = w.drewN (a + n)) :
    Calls Tryd.prog f args (w.drewN (a + n)) fun e w'' => e = .returned v ∧ ∃ m, w'' = w.drewN (a + m) :=
  h.mono fun _ _ ⟨he, hm⟩ => ⟨he, n, hm⟩

set_option maxHeartbeats 1000000 in
theorem compare_any (d t : ByteArray) (w : World) (hE : Env w) (hd : d.size ≤ 100000) (ht : t.size ≤ 100000) :
    Calls Tryd.prog 33 #[.string d, .string t] w fun e w' => e = .returned (.int .i64 (cmpP (parts (bl d)) (parts (bl t)))) ∧ Below w.heap.size w w' := by
  obtain ⟨RES, hRES⟩ : ∃ RES, cmpP (parts (bl d)) (parts (bl t)) = RES := ⟨_, rfl⟩
  rw [hRES]
  have HRES := Lib.hid hRES
  clear hRES
  go_enter Tryd.func33, Tryd.ntmps33
  go_wp2_with fail
  refine (parts_any d _ hE (by omega)).mono ?_
  rintro e w1 ⟨Aa, ca, a, rfl, hRa, ha, hb1⟩
  go_wp2_with fail
  refine (parts_any t _ (hE.below hb1) (by omega)).mono ?_
  rintro e w2 ⟨Ab, cb, b, rfl, hRb, hb, hb2⟩
  have hal := (parts_bound ha).2
  have hbl := (parts_bound hb).2
  have HRa := Lib.hid (hRa.below hb2)
  have HRb := Lib.hid hRb
  have HB : Hid (Below w.heap.size w w2) := bch hb1 hb2
  rw [← ha, ← hb] at HRES
  clear ha hb hRa hRb hb1 hb2
  go_wp2_with fail
  go_loopw [7] (fun i wr => ∃ k q : Nat, i = .int .i64 k ∧ k ≤ a.length ∧ k ≤ b.length ∧ cmpP (bls (a.drop k)) (bls (b.drop k)) = RES ∧ wr = w2.drewN q) (fun i _ => a.length - (RowKit.intOf i).toNat)
  case atStart => exact ⟨0, 0, rfl, Nat.zero_le _, Nat.zero_le _, by rw [List.drop_zero, List.drop_zero]; exact HRES.out, rfl⟩
  case round =>
    obtain ⟨k, q, rfl, hka, hkb, hc, rfl⟩ := hrel
    have HC := Lib.hid hc
    clear hc
    by_cases hA : k < a.length
    case neg =>
      have HZ : Hid (RES = (a.length : Int) - (b.length : Int)) := by
        show _ = _
        have : a.drop k = [] := List.drop_eq_nil_of_le (by omega)
        have h2 := bls_drop_len b k
        rw [← HC.out, this]
        show cmpP [] _ = _
        rw [cmpP_nil, h2]; omega
      clear HC
      go_wp2_with fail
      go_ret
      exact ⟨ret_int HZ.out.symm, below_drewN HB.out _⟩
    by_cases hB : k < b.length
    case neg =>
      have HZ : Hid (RES = (a.length : Int) - (b.length : Int)) := by
        show _ = _
        have : b.drop k = [] := List.drop_eq_nil_of_le (by omega)
        have h2 := bls_drop_len a k
        rw [← HC.out, this]
        show cmpP _ [] = _
        rw [cmpP_nil2, h2]; omega
      clear HC
      go_wp2_with fail
      go_ret
      exact ⟨ret_int HZ.out.symm, below_drewN HB.out _⟩
    obtain ⟨o1, f1, rfl, -, -⟩ := HRa.out.pos (by omega)
    obtain ⟨o2, f2, rfl, -, -⟩ := HRb.out.pos (by omega)
    have hcx := HRa.out.row hA
    have hcy := HRb.out.row hB
    have hda := drop_cons' hA
    have hdb := drop_cons' hB
    rw [hda, hdb] at HC
    clear hda hdb
    generalize a.getD k ByteArray.empty = x at hcx HC
    generalize b.getD k ByteArray.empty = y at hcy HC
    have HC2 : Hid ((if Lib.compareBytes (bl x) (bl y) = 0 then cmpP (bls (a.drop (k + 1))) (bls (b.drop (k + 1))) else Lib.compareBytes (bl x) (bl y)) = RES) := HC.out
    clear HC
    have cS := fun W : World => Tryd.strings_Compare x y W
    by_cases h0 : Lib.compareBytes (bl x) (bl y) = 0
    · have HZ : Hid (cmpP (bls (a.drop (k + 1))) (bls (b.drop (k + 1))) = RES) := by
        have h := HC2.out
        rw [if_pos h0] at h
        exact h
      have h1 : Lib.compareBytes x.data.toList y.data.toList = 0 := h0
      rw [h1] at cS
      have CS := Lib.hid cS
      clear h0 h1 cS HC2
      go_wp2_with fail
      go_quiet ((go_at_call 42; exact quiet_add (CS.out _)))
      go_wp2_with fail
      exact ⟨⟨k + 1, _, by go_num, by omega, by omega, HZ.out, rfl⟩, by simp [RowKit.intOf] <;> omega⟩
    · have HZ : Hid (Lib.compareBytes (bl x) (bl y) = RES) := by
        have h := HC2.out
        rw [if_neg h0] at h
        exact h
      have hq : (RES != 0) = true := by rw [← HZ.out]; simp; exact h0
      have h1 : Lib.compareBytes x.data.toList y.data.toList = RES := HZ.out
      rw [h1] at cS
      have CS := Lib.hid cS
      clear h0 h1 cS HC2
      go_wp2_with fail
      go_quiet ((go_at_call 42; exact quiet_add (CS.out _)))
      go_wp2_with fail
      go_ret
      exact ⟨rfl, below_drewN HB.out _⟩

/-- the place of the last slash -/
theorem last_none {s : ByteArray} (h : (47 : UInt8) ∉ bl s) : Lib.lastIndexByte s 47 = -1 := by
  rcases Lib.lastIndexByte_spec s 47 with ⟨e, _⟩ | ⟨i, hi, _, hc, _⟩
  · exact e
  · exfalso
    apply h
    have hb := get!_bl s i hi
    have e : s.get! i = 47 := by
      have : ((s.get! i).toNat : Int) = 47 := hc
      exact UInt8.toNat_inj.1 (by show _ = 47; omega)
    rw [e] at hb
    exact List.mem_iff_getElem?.2 ⟨i, hb⟩
theorem last_at {s : ByteArray} {m p : List UInt8} (h : bl s = m ++ 47 :: p) (hp : (47 : UInt8) ∉ p) : Lib.lastIndexByte s 47 = (m.length : Int) ∧ m.length < s.size := by
  have hsz : s.size = m.length + (p.length + 1) := by rw [← bl_size, h, List.length_append, List.length_cons]
  refine ⟨?_, by omega⟩
  have at_m : (s.get! m.length).toNat = 47 := by
    have hb := get!_bl s m.length (by omega)
    rw [h, List.getElem?_append_right (Nat.le_refl _), Nat.sub_self, List.getElem?_cons_zero] at hb
    rw [← Option.some.inj hb]; rfl
  rcases Lib.lastIndexByte_spec s 47 with ⟨_, hn⟩ | ⟨i, hi, e, hc, hn⟩
  · exact absurd (by show ((s.get! m.length).toNat : Int) = 47; omega) (hn m.length (by omega))
  · rw [e]
    rcases Nat.lt_trichotomy i m.length with hlt | heq | hgt
    · exact absurd (by show ((s.get! m.length).toNat : Int) = 47; omega) (hn m.length hlt (by omega))
    · rw [heq]
    · exfalso
      apply hp
      have hb := get!_bl s i hi
      have e47 : s.get! i = 47 := by
        have : ((s.get! i).toNat : Int) = 47 := hc
        exact UInt8.toNat_inj.1 (by show _ = 47; omega)
      rw [h, List.getElem?_append_right (by omega), show i - m.length = (i - m.length - 1) + 1 by omega, List.getElem?_cons_succ, e47] at hb
      exact List.mem_iff_getElem?.2 ⟨_, hb⟩
theorem bl_take (s : ByteArray) (k : Nat) : bl (s.extract 0 k) = (bl s).take k := by
  show (s.extract 0 k).data.toList = _
  rw [Lib.extract_data, List.drop_zero, Nat.sub_zero]

/-- Up of a path of clean parts -/
theorem up_root (w : World) : Calls Tryd.prog 29 #[.string ⟨#[]⟩] w fun e w' => e = .returned (.tuple #[.string ⟨#[]⟩, .bool false]) ∧ w' = w := by
  go_enter Tryd.func29, Tryd.ntmps29
  go_wp2_with fail
  go_ret2
  exact ⟨rfl, rfl⟩
set_option maxHeartbeats 400000 in
theorem up_any (s : ByteArray) (L : List (List UInt8)) (w : World) (hs : bl s = join L) (hL : L ≠ []) (hG : G L) (hsz : s.size ≤ 1000000) :
    Calls Tryd.prog 29 #[.string s] w fun e w' => ∃ r, e = .returned (.tuple #[.string r, .bool true]) ∧ bl r = join L.dropLast ∧ w' = w := by
  have hne : s.toList.isEmpty = false := by
    have h2 : bl s ≠ [] := by rw [hs]; exact join_ne L hL (fun p hp => (hG p hp).ne)
    rw [ByteArray.toList_eq]; simpa using h2
  have hlast := hG _ (List.getLast_mem hL)
  have cL := Tryd.strings_LastIndexByte s 47 (by omega)
  by_cases h1 : L.dropLast = []
  · have e1 : L = [L.getLast hL] := by
      have := List.dropLast_concat_getLast hL
      rw [h1, List.nil_append] at this
      exact this.symm
    have e2 : bl s = L.getLast hL := by rw [hs]; exact (congrArg join e1).trans (join_one _)
    rw [last_none (s := s) (by rw [e2]; exact hlast.slash)] at cL
    have CL := Lib.hid cL
    have H1 := Lib.hid h1
    clear cL h1 e1 e2 hlast
    go_enter Tryd.func29, Tryd.ntmps29
    go_wp2_with fail
    refine (CL.out _).mono ?_
    rintro e w1 ⟨rfl, rfl⟩
    go_wp2_with fail
    go_ret2
    exact ⟨⟨#[]⟩, rfl, by rw [H1.out]; rfl, rfl⟩
  · have e2 : bl s = join L.dropLast ++ 47 :: L.getLast hL := by
      rw [hs]
      have h := List.dropLast_concat_getLast hL
      have h2 := join_append L.dropLast [L.getLast hL] h1 (by simp)
      rw [h, join_one] at h2
      exact h2
    obtain ⟨h3, h4⟩ := last_at e2 hlast.slash
    rw [h3] at cL
    have CL := Lib.hid cL
    have HT : Hid (bl (s.extract 0 (join L.dropLast).length) = join L.dropLast) := by
      show _ = _
      rw [bl_take, e2, List.take_left' rfl]
    clear cL h1 e2 hlast h3
    generalize join L.dropLast = m at *
    go_enter Tryd.func29, Tryd.ntmps29
    go_wp2_with fail
    refine (CL.out _).mono ?_
    rintro e w1 ⟨rfl, rfl⟩
    have h5 : m.length ≤ s.size := by omega
    go_wp2_with fail
    go_ret2
    exact ⟨_, rfl, HT.out, rfl⟩

set_option maxHeartbeats 1000000 in
/-- of two lists: are they the same? -/
theorem same_any (A : Option Addr) (c : Nat) (a : List ByteArray) (A' : Option Addr) (c' : Nat) (b : List ByteArray) (w : World) (ha : Rd w A c a) (hb : Rd w A' c' b) (hal : a.length ≤ 1000000) (hbl : b.length ≤ 1000000) :
    Calls Tryd.prog 20 #[.slice A (List.length a) c, .slice A' (List.length b) c'] w fun e w' => e = .returned (.bool (decide (bls a = bls b))) ∧ ∃ n, w' = w.drewN n := by
  have HRa := Lib.hid ha
  have HRb := Lib.hid hb
  clear ha hb
  by_cases hl : a.length = b.length
  case neg =>
    have hq : ((a.length : Int) != (b.length : Int)) = true := by rw [bne_iff_ne]; omega
    have HZ : Hid (decide (bls a = bls b) = false) := decide_eq_false (fun e => by
      have := congrArg List.length e
      rw [bls_length, bls_length] at this
      exact hl this)
    clear hl
    go_enter Tryd.func20, Tryd.ntmps20
    go_wp2_with fail
    go_ret
    exact ⟨by rw [HZ.out]; rfl, 0, rfl⟩
  case pos =>
    have hq : ((a.length : Int) != (b.length : Int)) = false := by rw [bne_eq_false_iff_eq]; omega
    have HL := Lib.hid hl
    have hle : a.length ≤ b.length := by omega
    clear hl
    obtain ⟨RES, hRES⟩ : ∃ RES, decide (bls a = bls b) = RES := ⟨_, rfl⟩
    rw [hRES]
    have HRES := Lib.hid hRES
    clear hRES
    go_enter Tryd.func20, Tryd.ntmps20
    go_wp2_with fail
    go_loopw [13] (fun i wr => ∃ k q : Nat, i = .int .i64 k ∧ k ≤ a.length ∧ decide (bls (a.drop k) = bls (b.drop k)) = RES ∧ wr = w.drewN q) (fun i _ => a.length - (RowKit.intOf i).toNat)
    case atStart => exact ⟨0, 0, rfl, Nat.zero_le _, by rw [List.drop_zero, List.drop_zero]; exact HRES.out, rfl⟩
    case round =>
      obtain ⟨k, q, rfl, hk, hc, rfl⟩ := hrel
      have HC := Lib.hid hc
      clear hc
      by_cases hlt : k < a.length
      · have hlb : k < b.length := by omega
        obtain ⟨o1, f1, rfl, -, -⟩ := HRa.out.pos (by omega)
        obtain ⟨o2, f2, rfl, -, -⟩ := HRb.out.pos (by omega)
        have hcx := HRa.out.row hlt
        have hcy := HRb.out.row hlb
        have hda := drop_cons' hlt
        have hdb := drop_cons' hlb
        rw [hda, hdb] at HC
        clear hda hdb
        generalize a.getD k ByteArray.empty = x at hcx HC
        generalize b.getD k ByteArray.empty = y at hcy HC
        cases e1 : (x.toList == y.toList) with
        | false =>
          have HZ : Hid (RES = false) := by
            show _ = _
            rw [← HC.out]
            refine decide_eq_false (fun e => ?_)
            injection e with e2 _
            rw [ByteArray.toList_eq, ByteArray.toList_eq] at e1
            have e3 : x.data.toList = y.data.toList := e2
            rw [e3] at e1
            simp at e1
          clear HC
          go_wp2_with fail
          go_quiet (fail)
          go_wp2_with fail
          go_ret
          exact ⟨by rw [HZ.out]; rfl, _, World.drewN_drewN _ _ _⟩
        | true =>
          have HZ : Hid (decide (bls (a.drop (k + 1)) = bls (b.drop (k + 1))) = RES) := by
            show _ = _
            rw [← HC.out]
            have e3 : bl x = bl y := by
              rw [ByteArray.toList_eq, ByteArray.toList_eq] at e1
              exact beq_iff_eq.1 e1
            rw [e3]
            simp only [List.cons.injEq, true_and]
          clear HC
          go_wp2_with fail
          go_quiet (fail)
          go_wp2_with fail
          exact ⟨⟨k + 1, _, by go_num, by omega, HZ.out, rfl⟩, by simp [RowKit.intOf] <;> omega⟩
      · have HZ : Hid (RES = true) := by
          show _ = _
          rw [← HC.out, List.drop_eq_nil_of_le (by omega), List.drop_eq_nil_of_le (by have := HL.out; omega)]
          rfl
        clear HC
        go_wp2_with fail
        go_ret
        exact ⟨by rw [HZ.out]; rfl, _, rfl⟩

theorem clean_at (s : ByteArray) (w : World) (hE : Env w) (r : List (List UInt8)) (code : Int) (h : clean (bl s) = (r, code)) :
    Calls Tryd.prog 14 #[.string s] w fun e w' => ∃ A c L, e = .returned (.tuple #[.slice A (List.length L) c, .int .i64 code]) ∧ Rd w' A c L ∧ bls L = r ∧ Below w.heap.size w w' := by
  refine (clean_any s w hE).mono ?_
  rintro e w' ⟨A, c, L, code', rfl, hR, h', hb⟩
  rw [h] at h'
  simp only [Prod.mk.injEq] at h'
  obtain ⟨h1, rfl⟩ := h'
  exact ⟨A, c, L, rfl, hR, h1.symm, hb⟩

set_option maxHeartbeats 400000 in
theorem cleans_any (w : World) (hE : Env w) : Calls Tryd.prog 18 #[] w fun e w' => e = .returned (.bool true) ∧ Below w.heap.size w w' := by
  have c1 := fun (w : World) (hE : Env w) => clean_at ⟨#[46, 47, 97, 47, 47, 98, 47]⟩ w hE [[97], [98]] 0 (by decide +kernel)
  have c2 := fun (w : World) (hE : Env w) => clean_at ⟨#[97, 47, 46, 46, 47, 98]⟩ w hE [] 104 (by decide +kernel)
  have c3 := fun (w : World) => under_any ⟨#[97]⟩ ⟨#[97, 47, 98]⟩ w (by decide)
  have c4 := fun (w : World) (hE : Env w) => compare_any ⟨#[97]⟩ ⟨#[97, 47, 98]⟩ w hE (by decide) (by decide)
  have e3 : under (bl ⟨#[97]⟩) (bl ⟨#[97, 47, 98]⟩) = true := by decide +kernel
  have e4 : cmpP (parts (bl ⟨#[97]⟩)) (parts (bl ⟨#[97, 47, 98]⟩)) = -1 := by decide +kernel
  rw [e3] at c3
  rw [e4] at c4
  have C1 := Lib.hid c1
  have C2 := Lib.hid c2
  have C3 := Lib.hid c3
  have C4 := Lib.hid c4
  clear c1 c2 c3 c4 e3 e4
  go_enter Tryd.func18, Tryd.ntmps18
  go_wp2_with fail
  refine (C1.out _ hE).mono ?_
  rintro e w1 ⟨A, c, L, rfl, hR, hL, hb1⟩
  go_wp2_with fail
  refine (C2.out _ (hE.below hb1)).mono ?_
  rintro e w2 ⟨A2, c2, L2, rfl, _, _, hb2⟩
  have hB2 := bch hb1 hb2
  have hl2 : L.length = 2 := by rw [← bls_length, hL]; rfl
  have hq : ((L.length : Int) == 2) = true := by rw [hl2]; rfl
  have HJ := Lib.hid (join_any A c L _ (hR.below hb2) (by rw [hL]; decide))
  have HL := Lib.hid hL
  clear hl2 hL hR hb1 hb2
  go_wp2_with fail
  refine HJ.out.mono ?_
  rintro e w3 ⟨r, rfl, hr, hb3⟩
  obtain rfl : (⟨#[97, 47, 98]⟩ : ByteArray) = r := bl_inj (by rw [hr, HL.out]; decide)
  have hB3 := bch hB2 hb3
  clear hr hb3 hB2
  go_wp2_with fail
  refine (C3.out _).mono ?_
  rintro e w4 ⟨rfl, rfl⟩
  go_wp2_with fail
  refine (C4.out _ (hE.below hB3)).mono ?_
  rintro e w5 ⟨rfl, hb5⟩
  go_wp2_with fail
  go_ret
  exact ⟨rfl, bch hB3 hb5⟩

end Go.Proofs.YtmdcplpaejenbaaDoor

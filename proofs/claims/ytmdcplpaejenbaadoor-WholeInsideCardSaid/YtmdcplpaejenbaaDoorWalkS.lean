/-
  Walks of the document's own package of layer 10: sign, Utf8, Sound, Join, Clean.
-/
import Derived.Test.YtmdcplpaejenbaaDoorWalkR
namespace Go.Proofs.YtmdcplpaejenbaaDoor
open Go.RowKit
open Go.Proofs.PnKit Go.Proofs.PnPath

theorem cont_zero (lo hi : Nat) (l : List UInt8) : cont 0 lo hi l = true := rfl
theorem cont_step {k lo hi : Nat} {c : UInt8} {t : List UInt8} : cont (k + 1) lo hi (c :: t) = (decide (lo ≤ c.toNat) && decide (c.toNat ≤ hi) && cont k 128 191 t) := rfl
theorem cont_short {k lo hi : Nat} {l : List UInt8} (h : l.length < k) : cont k lo hi l = false := by
  cases hc : cont k lo hi l with
  | false => rfl
  | true => have := cont_len _ _ _ _ hc; omega
theorem drop_len (s : ByteArray) (k : Nat) : ((bl s).drop k).length = s.size - k := by rw [List.length_drop, bl_size]

set_option maxRecDepth 100000 in
set_option maxHeartbeats 2000000 in
theorem sign_any (s : ByteArray) (k : Nat) (w : World) (hk : k < s.size) (hs : s.size ≤ 1000000) :
    Calls Tryd.prog 44 #[.string s, .int .i64 k] w fun e w' => e = .returned (.int .i64 (sgn ((bl s).drop k))) ∧ w' = w := by
  have hx : (s[k]'hk).toNat < 256 := UInt8.toNat_lt _
  have h7 : (s[k]'hk).toNat < 128 ∨ (128 ≤ (s[k]'hk).toNat ∧ (s[k]'hk).toNat < 194) ∨ (194 ≤ (s[k]'hk).toNat ∧ (s[k]'hk).toNat ≤ 223) ∨ (s[k]'hk).toNat = 224 ∨ (225 ≤ (s[k]'hk).toNat ∧ (s[k]'hk).toNat ≤ 239 ∧ (s[k]'hk).toNat ≠ 237) ∨ (s[k]'hk).toNat = 237 ∨
      (s[k]'hk).toNat = 240 ∨ (241 ≤ (s[k]'hk).toNat ∧ (s[k]'hk).toNat ≤ 243) ∨ (s[k]'hk).toNat = 244 ∨ 245 ≤ (s[k]'hk).toNat := by omega
  rcases h7 with h | ⟨h, h'⟩ | ⟨h, h'⟩ | h | ⟨h, h', h''⟩ | h | h | ⟨h, h'⟩ | h | h
  ·
    have qlt128 : decide (((s[k]'hk).toNat : Int) < 128) = true := decide_eq_true (by omega)
    have HZ : Hid (sgn ((bl s).drop k) = 1) := by
      show _ = _
      rw [bl_drop hk, sgn]
      repeat (first | rw [if_pos (by omega)] | rw [if_neg (by omega)])
    go_enter Tryd.func44, Tryd.ntmps44
    go_wp2_with fail
    go_ret
    exact ⟨ret_int (by rw [HZ.out]; rfl), rfl⟩
  ·
    have qlt128 : decide (((s[k]'hk).toNat : Int) < 128) = false := decide_eq_false (by omega)
    have qge194 : decide ((194 : Int) ≤ ((s[k]'hk).toNat : Int)) = false := decide_eq_false (by omega)
    have qge224 : decide ((224 : Int) ≤ ((s[k]'hk).toNat : Int)) = false := decide_eq_false (by omega)
    have qge240 : decide ((240 : Int) ≤ ((s[k]'hk).toNat : Int)) = false := decide_eq_false (by omega)
    have HZ : Hid (sgn ((bl s).drop k) = 0) := by
      show _ = _
      rw [bl_drop hk, sgn]
      repeat (first | rw [if_pos (by omega)] | rw [if_neg (by omega)])
    go_enter Tryd.func44, Tryd.ntmps44
    go_wp2_with fail
    go_ret
    exact ⟨ret_int (by rw [HZ.out]; rfl), rfl⟩
  ·
    have qlt128 : decide (((s[k]'hk).toNat : Int) < 128) = false := decide_eq_false (by omega)
    have qge194 : decide ((194 : Int) ≤ ((s[k]'hk).toNat : Int)) = true := decide_eq_true (by omega)
    have qle223 : decide (((s[k]'hk).toNat : Int) ≤ 223) = true := decide_eq_true (by omega)
    have SGN : sgn (s[k]'hk :: (bl s).drop (k + 1)) = if cont 1 128 191 ((bl s).drop (k + 1)) then 2 else 0 := by
      rw [sgn]
      repeat (first | rw [if_pos (by omega)] | rw [if_neg (by omega)])
    go_enter Tryd.func44, Tryd.ntmps44
    have HS : Hid (sgn ((bl s).drop k) = if cont 1 128 191 ((bl s).drop (k + 1)) then 2 else 0) := by
      show _ = _
      rw [bl_drop hk]
      exact SGN
    clear SGN
    by_cases hfar : s.size < k + 2
    · have HF : Hid (sgn ((bl s).drop k) = 0) := by
        show _ = _
        rw [HS.out, cont_short (by rw [drop_len]; omega)]; rfl
      have hd1 : decide ((s.size : Int) < (k : Int) + 2) = true := decide_eq_true (by omega)
      clear HS
      go_wp2_with fail
      go_ret
      exact ⟨ret_int (by rw [HF.out]; rfl), rfl⟩
    have hd1 : decide ((s.size : Int) < (k : Int) + 2) = false := decide_eq_false (by omega)
    go_wp2_with fail
    go_loop [7, 8, 9] (fun lo hi i => ∃ j a b : Nat, i = .int .i64 j ∧ 1 ≤ j ∧ j ≤ 2 ∧ lo = .int .i64 a ∧ hi = .int .i64 b ∧ cont (2 - j) a b ((bl s).drop (k + j)) = cont 1 128 191 ((bl s).drop (k + 1))) (fun _ _ i => 2 - (RowKit.intOf i).toNat)
    case atStart => exact ⟨1, 128, 191, rfl, by omega, by omega, rfl, rfl, rfl⟩
    case round =>
      obtain ⟨j, a, b, rfl, hj1, hj, rfl, rfl, hcn⟩ := hrel
      have HC := Lib.hid hcn
      clear hcn
      by_cases hlt : j < 2
      · have hkj : k + j < s.size := by omega
        have hdr := bl_drop hkj
        have HD := Lib.hid hdr
        clear hdr
        have HC2 : Hid ((decide (a ≤ (s[k + j]'hkj).toNat) && decide ((s[k + j]'hkj).toNat ≤ b) && cont (2 - (j + 1)) 128 191 ((bl s).drop (k + (j + 1)))) = cont 1 128 191 ((bl s).drop (k + 1))) := by
          have e : 2 - j = (2 - (j + 1)) + 1 := by omega
          have h := HC.out
          rw [e, HD.out, cont_step] at h
          exact h
        clear HC
        have hb256 : (s[k + j]'hkj).toNat < 256 := UInt8.toNat_lt _
        by_cases h1 : (s[k + j]'hkj).toNat < a
        · have g1 : decide (((s[k + j]'hkj).toNat : Int) < (a : Int)) = true := decide_eq_true (by omega)
          have HZ : Hid (sgn ((bl s).drop k) = 0) := by
            show _ = _
            have h := HC2.out
            rw [decide_eq_false (by omega : ¬ a ≤ (s[k + j]'hkj).toNat), Bool.false_and, Bool.false_and] at h
            rw [HS.out, ← h]; rfl
          clear HC2 HS
          go_wp2_with fail
          go_ret
          exact ⟨ret_int (by rw [HZ.out]; rfl), rfl⟩
        have g1 : decide (((s[k + j]'hkj).toNat : Int) < (a : Int)) = false := decide_eq_false (by omega)
        by_cases h2 : b < (s[k + j]'hkj).toNat
        · have g2 : decide ((b : Int) < ((s[k + j]'hkj).toNat : Int)) = true := decide_eq_true (by omega)
          have HZ : Hid (sgn ((bl s).drop k) = 0) := by
            show _ = _
            have h := HC2.out
            rw [decide_eq_false (by omega : ¬ (s[k + j]'hkj).toNat ≤ b), Bool.and_false, Bool.false_and] at h
            rw [HS.out, ← h]; rfl
          clear HC2 HS
          go_wp2_with fail
          go_ret
          exact ⟨ret_int (by rw [HZ.out]; rfl), rfl⟩
        have g2 : decide ((b : Int) < ((s[k + j]'hkj).toNat : Int)) = false := decide_eq_false (by omega)
        have HN : Hid (cont (2 - (j + 1)) 128 191 ((bl s).drop (k + (j + 1))) = cont 1 128 191 ((bl s).drop (k + 1))) := by
          have h := HC2.out
          rw [decide_eq_true (by omega : a ≤ (s[k + j]'hkj).toNat), decide_eq_true (by omega : (s[k + j]'hkj).toNat ≤ b), Bool.true_and, Bool.true_and] at h
          exact h
        clear HC2
        go_wp2_with fail
        exact ⟨⟨j + 1, 128, 191, by go_num, by omega, by omega, rfl, rfl, HN.out⟩, by simp [RowKit.intOf] <;> omega⟩
      · obtain rfl : j = 2 := by omega
        have HZ : Hid (sgn ((bl s).drop k) = 2) := by
          show _ = _
          rw [HS.out, ← HC.out]; rfl
        clear HC HS
        go_wp2_with fail
        go_ret
        exact ⟨ret_int (by rw [HZ.out]; rfl), rfl⟩
  ·
    have qlt128 : decide (((s[k]'hk).toNat : Int) < 128) = false := decide_eq_false (by omega)
    have qge194 : decide ((194 : Int) ≤ ((s[k]'hk).toNat : Int)) = true := decide_eq_true (by omega)
    have qle223 : decide (((s[k]'hk).toNat : Int) ≤ 223) = false := decide_eq_false (by omega)
    have qge224 : decide ((224 : Int) ≤ ((s[k]'hk).toNat : Int)) = true := decide_eq_true (by omega)
    have qle239 : decide (((s[k]'hk).toNat : Int) ≤ 239) = true := decide_eq_true (by omega)
    have qeq224 : (((s[k]'hk).toNat : Int) == 224) = true := beq_iff_eq.2 (by omega)
    have qeq237 : (((s[k]'hk).toNat : Int) == 237) = false := beq_eq_false_iff_ne.2 (by omega)
    have SGN : sgn (s[k]'hk :: (bl s).drop (k + 1)) = if cont 2 160 191 ((bl s).drop (k + 1)) then 3 else 0 := by
      rw [sgn]
      rw [show (if (s[k]'hk).toNat = 224 then 160 else 128 : Nat) = 160 from by first | exact if_pos (by omega) | exact if_neg (by omega)]
      rw [show (if (s[k]'hk).toNat = 237 then 159 else 191 : Nat) = 191 from by first | exact if_pos (by omega) | exact if_neg (by omega)]
      repeat (first | rw [if_pos (by omega)] | rw [if_neg (by omega)])
    go_enter Tryd.func44, Tryd.ntmps44
    have HS : Hid (sgn ((bl s).drop k) = if cont 2 160 191 ((bl s).drop (k + 1)) then 3 else 0) := by
      show _ = _
      rw [bl_drop hk]
      exact SGN
    clear SGN
    by_cases hfar : s.size < k + 3
    · have HF : Hid (sgn ((bl s).drop k) = 0) := by
        show _ = _
        rw [HS.out, cont_short (by rw [drop_len]; omega)]; rfl
      have hd1 : decide ((s.size : Int) < (k : Int) + 3) = true := decide_eq_true (by omega)
      clear HS
      go_wp2_with fail
      go_ret
      exact ⟨ret_int (by rw [HF.out]; rfl), rfl⟩
    have hd1 : decide ((s.size : Int) < (k : Int) + 3) = false := decide_eq_false (by omega)
    go_wp2_with fail
    go_loop [7, 8, 9] (fun lo hi i => ∃ j a b : Nat, i = .int .i64 j ∧ 1 ≤ j ∧ j ≤ 3 ∧ lo = .int .i64 a ∧ hi = .int .i64 b ∧ cont (3 - j) a b ((bl s).drop (k + j)) = cont 2 160 191 ((bl s).drop (k + 1))) (fun _ _ i => 3 - (RowKit.intOf i).toNat)
    case atStart => exact ⟨1, 160, 191, rfl, by omega, by omega, rfl, rfl, rfl⟩
    case round =>
      obtain ⟨j, a, b, rfl, hj1, hj, rfl, rfl, hcn⟩ := hrel
      have HC := Lib.hid hcn
      clear hcn
      by_cases hlt : j < 3
      · have hkj : k + j < s.size := by omega
        have hdr := bl_drop hkj
        have HD := Lib.hid hdr
        clear hdr
        have HC2 : Hid ((decide (a ≤ (s[k + j]'hkj).toNat) && decide ((s[k + j]'hkj).toNat ≤ b) && cont (3 - (j + 1)) 128 191 ((bl s).drop (k + (j + 1)))) = cont 2 160 191 ((bl s).drop (k + 1))) := by
          have e : 3 - j = (3 - (j + 1)) + 1 := by omega
          have h := HC.out
          rw [e, HD.out, cont_step] at h
          exact h
        clear HC
        have hb256 : (s[k + j]'hkj).toNat < 256 := UInt8.toNat_lt _
        by_cases h1 : (s[k + j]'hkj).toNat < a
        · have g1 : decide (((s[k + j]'hkj).toNat : Int) < (a : Int)) = true := decide_eq_true (by omega)
          have HZ : Hid (sgn ((bl s).drop k) = 0) := by
            show _ = _
            have h := HC2.out
            rw [decide_eq_false (by omega : ¬ a ≤ (s[k + j]'hkj).toNat), Bool.false_and, Bool.false_and] at h
            rw [HS.out, ← h]; rfl
          clear HC2 HS
          go_wp2_with fail
          go_ret
          exact ⟨ret_int (by rw [HZ.out]; rfl), rfl⟩
        have g1 : decide (((s[k + j]'hkj).toNat : Int) < (a : Int)) = false := decide_eq_false (by omega)
        by_cases h2 : b < (s[k + j]'hkj).toNat
        · have g2 : decide ((b : Int) < ((s[k + j]'hkj).toNat : Int)) = true := decide_eq_true (by omega)
          have HZ : Hid (sgn ((bl s).drop k) = 0) := by
            show _ = _
            have h := HC2.out
            rw [decide_eq_false (by omega : ¬ (s[k + j]'hkj).toNat ≤ b), Bool.and_false, Bool.false_and] at h
            rw [HS.out, ← h]; rfl
          clear HC2 HS
          go_wp2_with fail
          go_ret
          exact ⟨ret_int (by rw [HZ.out]; rfl), rfl⟩
        have g2 : decide ((b : Int) < ((s[k + j]'hkj).toNat : Int)) = false := decide_eq_false (by omega)
        have HN : Hid (cont (3 - (j + 1)) 128 191 ((bl s).drop (k + (j + 1))) = cont 2 160 191 ((bl s).drop (k + 1))) := by
          have h := HC2.out
          rw [decide_eq_true (by omega : a ≤ (s[k + j]'hkj).toNat), decide_eq_true (by omega : (s[k + j]'hkj).toNat ≤ b), Bool.true_and, Bool.true_and] at h
          exact h
        clear HC2
        go_wp2_with fail
        exact ⟨⟨j + 1, 128, 191, by go_num, by omega, by omega, rfl, rfl, HN.out⟩, by simp [RowKit.intOf] <;> omega⟩
      · obtain rfl : j = 3 := by omega
        have HZ : Hid (sgn ((bl s).drop k) = 3) := by
          show _ = _
          rw [HS.out, ← HC.out]; rfl
        clear HC HS
        go_wp2_with fail
        go_ret
        exact ⟨ret_int (by rw [HZ.out]; rfl), rfl⟩
  ·
    have qlt128 : decide (((s[k]'hk).toNat : Int) < 128) = false := decide_eq_false (by omega)
    have qge194 : decide ((194 : Int) ≤ ((s[k]'hk).toNat : Int)) = true := decide_eq_true (by omega)
    have qle223 : decide (((s[k]'hk).toNat : Int) ≤ 223) = false := decide_eq_false (by omega)
    have qge224 : decide ((224 : Int) ≤ ((s[k]'hk).toNat : Int)) = true := decide_eq_true (by omega)
    have qle239 : decide (((s[k]'hk).toNat : Int) ≤ 239) = true := decide_eq_true (by omega)
    have qeq224 : (((s[k]'hk).toNat : Int) == 224) = false := beq_eq_false_iff_ne.2 (by omega)
    have qeq237 : (((s[k]'hk).toNat : Int) == 237) = false := beq_eq_false_iff_ne.2 (by omega)
    have SGN : sgn (s[k]'hk :: (bl s).drop (k + 1)) = if cont 2 128 191 ((bl s).drop (k + 1)) then 3 else 0 := by
      rw [sgn]
      rw [show (if (s[k]'hk).toNat = 224 then 160 else 128 : Nat) = 128 from by first | exact if_pos (by omega) | exact if_neg (by omega)]
      rw [show (if (s[k]'hk).toNat = 237 then 159 else 191 : Nat) = 191 from by first | exact if_pos (by omega) | exact if_neg (by omega)]
      repeat (first | rw [if_pos (by omega)] | rw [if_neg (by omega)])
    go_enter Tryd.func44, Tryd.ntmps44
    have HS : Hid (sgn ((bl s).drop k) = if cont 2 128 191 ((bl s).drop (k + 1)) then 3 else 0) := by
      show _ = _
      rw [bl_drop hk]
      exact SGN
    clear SGN
    by_cases hfar : s.size < k + 3
    · have HF : Hid (sgn ((bl s).drop k) = 0) := by
        show _ = _
        rw [HS.out, cont_short (by rw [drop_len]; omega)]; rfl
      have hd1 : decide ((s.size : Int) < (k : Int) + 3) = true := decide_eq_true (by omega)
      clear HS
      go_wp2_with fail
      go_ret
      exact ⟨ret_int (by rw [HF.out]; rfl), rfl⟩
    have hd1 : decide ((s.size : Int) < (k : Int) + 3) = false := decide_eq_false (by omega)
    go_wp2_with fail
    go_loop [7, 8, 9] (fun lo hi i => ∃ j a b : Nat, i = .int .i64 j ∧ 1 ≤ j ∧ j ≤ 3 ∧ lo = .int .i64 a ∧ hi = .int .i64 b ∧ cont (3 - j) a b ((bl s).drop (k + j)) = cont 2 128 191 ((bl s).drop (k + 1))) (fun _ _ i => 3 - (RowKit.intOf i).toNat)
    case atStart => exact ⟨1, 128, 191, rfl, by omega, by omega, rfl, rfl, rfl⟩
    case round =>
      obtain ⟨j, a, b, rfl, hj1, hj, rfl, rfl, hcn⟩ := hrel
      have HC := Lib.hid hcn
      clear hcn
      by_cases hlt : j < 3
      · have hkj : k + j < s.size := by omega
        have hdr := bl_drop hkj
        have HD := Lib.hid hdr
        clear hdr
        have HC2 : Hid ((decide (a ≤ (s[k + j]'hkj).toNat) && decide ((s[k + j]'hkj).toNat ≤ b) && cont (3 - (j + 1)) 128 191 ((bl s).drop (k + (j + 1)))) = cont 2 128 191 ((bl s).drop (k + 1))) := by
          have e : 3 - j = (3 - (j + 1)) + 1 := by omega
          have h := HC.out
          rw [e, HD.out, cont_step] at h
          exact h
        clear HC
        have hb256 : (s[k + j]'hkj).toNat < 256 := UInt8.toNat_lt _
        by_cases h1 : (s[k + j]'hkj).toNat < a
        · have g1 : decide (((s[k + j]'hkj).toNat : Int) < (a : Int)) = true := decide_eq_true (by omega)
          have HZ : Hid (sgn ((bl s).drop k) = 0) := by
            show _ = _
            have h := HC2.out
            rw [decide_eq_false (by omega : ¬ a ≤ (s[k + j]'hkj).toNat), Bool.false_and, Bool.false_and] at h
            rw [HS.out, ← h]; rfl
          clear HC2 HS
          go_wp2_with fail
          go_ret
          exact ⟨ret_int (by rw [HZ.out]; rfl), rfl⟩
        have g1 : decide (((s[k + j]'hkj).toNat : Int) < (a : Int)) = false := decide_eq_false (by omega)
        by_cases h2 : b < (s[k + j]'hkj).toNat
        · have g2 : decide ((b : Int) < ((s[k + j]'hkj).toNat : Int)) = true := decide_eq_true (by omega)
          have HZ : Hid (sgn ((bl s).drop k) = 0) := by
            show _ = _
            have h := HC2.out
            rw [decide_eq_false (by omega : ¬ (s[k + j]'hkj).toNat ≤ b), Bool.and_false, Bool.false_and] at h
            rw [HS.out, ← h]; rfl
          clear HC2 HS
          go_wp2_with fail
          go_ret
          exact ⟨ret_int (by rw [HZ.out]; rfl), rfl⟩
        have g2 : decide ((b : Int) < ((s[k + j]'hkj).toNat : Int)) = false := decide_eq_false (by omega)
        have HN : Hid (cont (3 - (j + 1)) 128 191 ((bl s).drop (k + (j + 1))) = cont 2 128 191 ((bl s).drop (k + 1))) := by
          have h := HC2.out
          rw [decide_eq_true (by omega : a ≤ (s[k + j]'hkj).toNat), decide_eq_true (by omega : (s[k + j]'hkj).toNat ≤ b), Bool.true_and, Bool.true_and] at h
          exact h
        clear HC2
        go_wp2_with fail
        exact ⟨⟨j + 1, 128, 191, by go_num, by omega, by omega, rfl, rfl, HN.out⟩, by simp [RowKit.intOf] <;> omega⟩
      · obtain rfl : j = 3 := by omega
        have HZ : Hid (sgn ((bl s).drop k) = 3) := by
          show _ = _
          rw [HS.out, ← HC.out]; rfl
        clear HC HS
        go_wp2_with fail
        go_ret
        exact ⟨ret_int (by rw [HZ.out]; rfl), rfl⟩
  ·
    have qlt128 : decide (((s[k]'hk).toNat : Int) < 128) = false := decide_eq_false (by omega)
    have qge194 : decide ((194 : Int) ≤ ((s[k]'hk).toNat : Int)) = true := decide_eq_true (by omega)
    have qle223 : decide (((s[k]'hk).toNat : Int) ≤ 223) = false := decide_eq_false (by omega)
    have qge224 : decide ((224 : Int) ≤ ((s[k]'hk).toNat : Int)) = true := decide_eq_true (by omega)
    have qle239 : decide (((s[k]'hk).toNat : Int) ≤ 239) = true := decide_eq_true (by omega)
    have qeq224 : (((s[k]'hk).toNat : Int) == 224) = false := beq_eq_false_iff_ne.2 (by omega)
    have qeq237 : (((s[k]'hk).toNat : Int) == 237) = true := beq_iff_eq.2 (by omega)
    have SGN : sgn (s[k]'hk :: (bl s).drop (k + 1)) = if cont 2 128 159 ((bl s).drop (k + 1)) then 3 else 0 := by
      rw [sgn]
      rw [show (if (s[k]'hk).toNat = 224 then 160 else 128 : Nat) = 128 from by first | exact if_pos (by omega) | exact if_neg (by omega)]
      rw [show (if (s[k]'hk).toNat = 237 then 159 else 191 : Nat) = 159 from by first | exact if_pos (by omega) | exact if_neg (by omega)]
      repeat (first | rw [if_pos (by omega)] | rw [if_neg (by omega)])
    go_enter Tryd.func44, Tryd.ntmps44
    have HS : Hid (sgn ((bl s).drop k) = if cont 2 128 159 ((bl s).drop (k + 1)) then 3 else 0) := by
      show _ = _
      rw [bl_drop hk]
      exact SGN
    clear SGN
    by_cases hfar : s.size < k + 3
    · have HF : Hid (sgn ((bl s).drop k) = 0) := by
        show _ = _
        rw [HS.out, cont_short (by rw [drop_len]; omega)]; rfl
      have hd1 : decide ((s.size : Int) < (k : Int) + 3) = true := decide_eq_true (by omega)
      clear HS
      go_wp2_with fail
      go_ret
      exact ⟨ret_int (by rw [HF.out]; rfl), rfl⟩
    have hd1 : decide ((s.size : Int) < (k : Int) + 3) = false := decide_eq_false (by omega)
    go_wp2_with fail
    go_loop [7, 8, 9] (fun lo hi i => ∃ j a b : Nat, i = .int .i64 j ∧ 1 ≤ j ∧ j ≤ 3 ∧ lo = .int .i64 a ∧ hi = .int .i64 b ∧ cont (3 - j) a b ((bl s).drop (k + j)) = cont 2 128 159 ((bl s).drop (k + 1))) (fun _ _ i => 3 - (RowKit.intOf i).toNat)
    case atStart => exact ⟨1, 128, 159, rfl, by omega, by omega, rfl, rfl, rfl⟩
    case round =>
      obtain ⟨j, a, b, rfl, hj1, hj, rfl, rfl, hcn⟩ := hrel
      have HC := Lib.hid hcn
      clear hcn
      by_cases hlt : j < 3
      · have hkj : k + j < s.size := by omega
        have hdr := bl_drop hkj
        have HD := Lib.hid hdr
        clear hdr
        have HC2 : Hid ((decide (a ≤ (s[k + j]'hkj).toNat) && decide ((s[k + j]'hkj).toNat ≤ b) && cont (3 - (j + 1)) 128 191 ((bl s).drop (k + (j + 1)))) = cont 2 128 159 ((bl s).drop (k + 1))) := by
          have e : 3 - j = (3 - (j + 1)) + 1 := by omega
          have h := HC.out
          rw [e, HD.out, cont_step] at h
          exact h
        clear HC
        have hb256 : (s[k + j]'hkj).toNat < 256 := UInt8.toNat_lt _
        by_cases h1 : (s[k + j]'hkj).toNat < a
        · have g1 : decide (((s[k + j]'hkj).toNat : Int) < (a : Int)) = true := decide_eq_true (by omega)
          have HZ : Hid (sgn ((bl s).drop k) = 0) := by
            show _ = _
            have h := HC2.out
            rw [decide_eq_false (by omega : ¬ a ≤ (s[k + j]'hkj).toNat), Bool.false_and, Bool.false_and] at h
            rw [HS.out, ← h]; rfl
          clear HC2 HS
          go_wp2_with fail
          go_ret
          exact ⟨ret_int (by rw [HZ.out]; rfl), rfl⟩
        have g1 : decide (((s[k + j]'hkj).toNat : Int) < (a : Int)) = false := decide_eq_false (by omega)
        by_cases h2 : b < (s[k + j]'hkj).toNat
        · have g2 : decide ((b : Int) < ((s[k + j]'hkj).toNat : Int)) = true := decide_eq_true (by omega)
          have HZ : Hid (sgn ((bl s).drop k) = 0) := by
            show _ = _
            have h := HC2.out
            rw [decide_eq_false (by omega : ¬ (s[k + j]'hkj).toNat ≤ b), Bool.and_false, Bool.false_and] at h
            rw [HS.out, ← h]; rfl
          clear HC2 HS
          go_wp2_with fail
          go_ret
          exact ⟨ret_int (by rw [HZ.out]; rfl), rfl⟩
        have g2 : decide ((b : Int) < ((s[k + j]'hkj).toNat : Int)) = false := decide_eq_false (by omega)
        have HN : Hid (cont (3 - (j + 1)) 128 191 ((bl s).drop (k + (j + 1))) = cont 2 128 159 ((bl s).drop (k + 1))) := by
          have h := HC2.out
          rw [decide_eq_true (by omega : a ≤ (s[k + j]'hkj).toNat), decide_eq_true (by omega : (s[k + j]'hkj).toNat ≤ b), Bool.true_and, Bool.true_and] at h
          exact h
        clear HC2
        go_wp2_with fail
        exact ⟨⟨j + 1, 128, 191, by go_num, by omega, by omega, rfl, rfl, HN.out⟩, by simp [RowKit.intOf] <;> omega⟩
      · obtain rfl : j = 3 := by omega
        have HZ : Hid (sgn ((bl s).drop k) = 3) := by
          show _ = _
          rw [HS.out, ← HC.out]; rfl
        clear HC HS
        go_wp2_with fail
        go_ret
        exact ⟨ret_int (by rw [HZ.out]; rfl), rfl⟩
  ·
    have qlt128 : decide (((s[k]'hk).toNat : Int) < 128) = false := decide_eq_false (by omega)
    have qge194 : decide ((194 : Int) ≤ ((s[k]'hk).toNat : Int)) = true := decide_eq_true (by omega)
    have qle223 : decide (((s[k]'hk).toNat : Int) ≤ 223) = false := decide_eq_false (by omega)
    have qge224 : decide ((224 : Int) ≤ ((s[k]'hk).toNat : Int)) = true := decide_eq_true (by omega)
    have qle239 : decide (((s[k]'hk).toNat : Int) ≤ 239) = false := decide_eq_false (by omega)
    have qge240 : decide ((240 : Int) ≤ ((s[k]'hk).toNat : Int)) = true := decide_eq_true (by omega)
    have qle244 : decide (((s[k]'hk).toNat : Int) ≤ 244) = true := decide_eq_true (by omega)
    have qeq240 : (((s[k]'hk).toNat : Int) == 240) = true := beq_iff_eq.2 (by omega)
    have qeq244 : (((s[k]'hk).toNat : Int) == 244) = false := beq_eq_false_iff_ne.2 (by omega)
    have SGN : sgn (s[k]'hk :: (bl s).drop (k + 1)) = if cont 3 144 191 ((bl s).drop (k + 1)) then 4 else 0 := by
      rw [sgn]
      rw [show (if (s[k]'hk).toNat = 240 then 144 else 128 : Nat) = 144 from by first | exact if_pos (by omega) | exact if_neg (by omega)]
      rw [show (if (s[k]'hk).toNat = 244 then 143 else 191 : Nat) = 191 from by first | exact if_pos (by omega) | exact if_neg (by omega)]
      repeat (first | rw [if_pos (by omega)] | rw [if_neg (by omega)])
    go_enter Tryd.func44, Tryd.ntmps44
    have HS : Hid (sgn ((bl s).drop k) = if cont 3 144 191 ((bl s).drop (k + 1)) then 4 else 0) := by
      show _ = _
      rw [bl_drop hk]
      exact SGN
    clear SGN
    by_cases hfar : s.size < k + 4
    · have HF : Hid (sgn ((bl s).drop k) = 0) := by
        show _ = _
        rw [HS.out, cont_short (by rw [drop_len]; omega)]; rfl
      have hd1 : decide ((s.size : Int) < (k : Int) + 4) = true := decide_eq_true (by omega)
      clear HS
      go_wp2_with fail
      go_ret
      exact ⟨ret_int (by rw [HF.out]; rfl), rfl⟩
    have hd1 : decide ((s.size : Int) < (k : Int) + 4) = false := decide_eq_false (by omega)
    go_wp2_with fail
    go_loop [7, 8, 9] (fun lo hi i => ∃ j a b : Nat, i = .int .i64 j ∧ 1 ≤ j ∧ j ≤ 4 ∧ lo = .int .i64 a ∧ hi = .int .i64 b ∧ cont (4 - j) a b ((bl s).drop (k + j)) = cont 3 144 191 ((bl s).drop (k + 1))) (fun _ _ i => 4 - (RowKit.intOf i).toNat)
    case atStart => exact ⟨1, 144, 191, rfl, by omega, by omega, rfl, rfl, rfl⟩
    case round =>
      obtain ⟨j, a, b, rfl, hj1, hj, rfl, rfl, hcn⟩ := hrel
      have HC := Lib.hid hcn
      clear hcn
      by_cases hlt : j < 4
      · have hkj : k + j < s.size := by omega
        have hdr := bl_drop hkj
        have HD := Lib.hid hdr
        clear hdr
        have HC2 : Hid ((decide (a ≤ (s[k + j]'hkj).toNat) && decide ((s[k + j]'hkj).toNat ≤ b) && cont (4 - (j + 1)) 128 191 ((bl s).drop (k + (j + 1)))) = cont 3 144 191 ((bl s).drop (k + 1))) := by
          have e : 4 - j = (4 - (j + 1)) + 1 := by omega
          have h := HC.out
          rw [e, HD.out, cont_step] at h
          exact h
        clear HC
        have hb256 : (s[k + j]'hkj).toNat < 256 := UInt8.toNat_lt _
        by_cases h1 : (s[k + j]'hkj).toNat < a
        · have g1 : decide (((s[k + j]'hkj).toNat : Int) < (a : Int)) = true := decide_eq_true (by omega)
          have HZ : Hid (sgn ((bl s).drop k) = 0) := by
            show _ = _
            have h := HC2.out
            rw [decide_eq_false (by omega : ¬ a ≤ (s[k + j]'hkj).toNat), Bool.false_and, Bool.false_and] at h
            rw [HS.out, ← h]; rfl
          clear HC2 HS
          go_wp2_with fail
          go_ret
          exact ⟨ret_int (by rw [HZ.out]; rfl), rfl⟩
        have g1 : decide (((s[k + j]'hkj).toNat : Int) < (a : Int)) = false := decide_eq_false (by omega)
        by_cases h2 : b < (s[k + j]'hkj).toNat
        · have g2 : decide ((b : Int) < ((s[k + j]'hkj).toNat : Int)) = true := decide_eq_true (by omega)
          have HZ : Hid (sgn ((bl s).drop k) = 0) := by
            show _ = _
            have h := HC2.out
            rw [decide_eq_false (by omega : ¬ (s[k + j]'hkj).toNat ≤ b), Bool.and_false, Bool.false_and] at h
            rw [HS.out, ← h]; rfl
          clear HC2 HS
          go_wp2_with fail
          go_ret
          exact ⟨ret_int (by rw [HZ.out]; rfl), rfl⟩
        have g2 : decide ((b : Int) < ((s[k + j]'hkj).toNat : Int)) = false := decide_eq_false (by omega)
        have HN : Hid (cont (4 - (j + 1)) 128 191 ((bl s).drop (k + (j + 1))) = cont 3 144 191 ((bl s).drop (k + 1))) := by
          have h := HC2.out
          rw [decide_eq_true (by omega : a ≤ (s[k + j]'hkj).toNat), decide_eq_true (by omega : (s[k + j]'hkj).toNat ≤ b), Bool.true_and, Bool.true_and] at h
          exact h
        clear HC2
        go_wp2_with fail
        exact ⟨⟨j + 1, 128, 191, by go_num, by omega, by omega, rfl, rfl, HN.out⟩, by simp [RowKit.intOf] <;> omega⟩
      · obtain rfl : j = 4 := by omega
        have HZ : Hid (sgn ((bl s).drop k) = 4) := by
          show _ = _
          rw [HS.out, ← HC.out]; rfl
        clear HC HS
        go_wp2_with fail
        go_ret
        exact ⟨ret_int (by rw [HZ.out]; rfl), rfl⟩
  ·
    have qlt128 : decide (((s[k]'hk).toNat : Int) < 128) = false := decide_eq_false (by omega)
    have qge194 : decide ((194 : Int) ≤ ((s[k]'hk).toNat : Int)) = true := decide_eq_true (by omega)
    have qle223 : decide (((s[k]'hk).toNat : Int) ≤ 223) = false := decide_eq_false (by omega)
    have qge224 : decide ((224 : Int) ≤ ((s[k]'hk).toNat : Int)) = true := decide_eq_true (by omega)
    have qle239 : decide (((s[k]'hk).toNat : Int) ≤ 239) = false := decide_eq_false (by omega)
    have qge240 : decide ((240 : Int) ≤ ((s[k]'hk).toNat : Int)) = true := decide_eq_true (by omega)
    have qle244 : decide (((s[k]'hk).toNat : Int) ≤ 244) = true := decide_eq_true (by omega)
    have qeq240 : (((s[k]'hk).toNat : Int) == 240) = false := beq_eq_false_iff_ne.2 (by omega)
    have qeq244 : (((s[k]'hk).toNat : Int) == 244) = false := beq_eq_false_iff_ne.2 (by omega)
    have SGN : sgn (s[k]'hk :: (bl s).drop (k + 1)) = if cont 3 128 191 ((bl s).drop (k + 1)) then 4 else 0 := by
      rw [sgn]
      rw [show (if (s[k]'hk).toNat = 240 then 144 else 128 : Nat) = 128 from by first | exact if_pos (by omega) | exact if_neg (by omega)]
      rw [show (if (s[k]'hk).toNat = 244 then 143 else 191 : Nat) = 191 from by first | exact if_pos (by omega) | exact if_neg (by omega)]
      repeat (first | rw [if_pos (by omega)] | rw [if_neg (by omega)])
    go_enter Tryd.func44, Tryd.ntmps44
    have HS : Hid (sgn ((bl s).drop k) = if cont 3 128 191 ((bl s).drop (k + 1)) then 4 else 0) := by
      show _ = _
      rw [bl_drop hk]
      exact SGN
    clear SGN
    by_cases hfar : s.size < k + 4
    · have HF : Hid (sgn ((bl s).drop k) = 0) := by
        show _ = _
        rw [HS.out, cont_short (by rw [drop_len]; omega)]; rfl
      have hd1 : decide ((s.size : Int) < (k : Int) + 4) = true := decide_eq_true (by omega)
      clear HS
      go_wp2_with fail
      go_ret
      exact ⟨ret_int (by rw [HF.out]; rfl), rfl⟩
    have hd1 : decide ((s.size : Int) < (k : Int) + 4) = false := decide_eq_false (by omega)
    go_wp2_with fail
    go_loop [7, 8, 9] (fun lo hi i => ∃ j a b : Nat, i = .int .i64 j ∧ 1 ≤ j ∧ j ≤ 4 ∧ lo = .int .i64 a ∧ hi = .int .i64 b ∧ cont (4 - j) a b ((bl s).drop (k + j)) = cont 3 128 191 ((bl s).drop (k + 1))) (fun _ _ i => 4 - (RowKit.intOf i).toNat)
    case atStart => exact ⟨1, 128, 191, rfl, by omega, by omega, rfl, rfl, rfl⟩
    case round =>
      obtain ⟨j, a, b, rfl, hj1, hj, rfl, rfl, hcn⟩ := hrel
      have HC := Lib.hid hcn
      clear hcn
      by_cases hlt : j < 4
      · have hkj : k + j < s.size := by omega
        have hdr := bl_drop hkj
        have HD := Lib.hid hdr
        clear hdr
        have HC2 : Hid ((decide (a ≤ (s[k + j]'hkj).toNat) && decide ((s[k + j]'hkj).toNat ≤ b) && cont (4 - (j + 1)) 128 191 ((bl s).drop (k + (j + 1)))) = cont 3 128 191 ((bl s).drop (k + 1))) := by
          have e : 4 - j = (4 - (j + 1)) + 1 := by omega
          have h := HC.out
          rw [e, HD.out, cont_step] at h
          exact h
        clear HC
        have hb256 : (s[k + j]'hkj).toNat < 256 := UInt8.toNat_lt _
        by_cases h1 : (s[k + j]'hkj).toNat < a
        · have g1 : decide (((s[k + j]'hkj).toNat : Int) < (a : Int)) = true := decide_eq_true (by omega)
          have HZ : Hid (sgn ((bl s).drop k) = 0) := by
            show _ = _
            have h := HC2.out
            rw [decide_eq_false (by omega : ¬ a ≤ (s[k + j]'hkj).toNat), Bool.false_and, Bool.false_and] at h
            rw [HS.out, ← h]; rfl
          clear HC2 HS
          go_wp2_with fail
          go_ret
          exact ⟨ret_int (by rw [HZ.out]; rfl), rfl⟩
        have g1 : decide (((s[k + j]'hkj).toNat : Int) < (a : Int)) = false := decide_eq_false (by omega)
        by_cases h2 : b < (s[k + j]'hkj).toNat
        · have g2 : decide ((b : Int) < ((s[k + j]'hkj).toNat : Int)) = true := decide_eq_true (by omega)
          have HZ : Hid (sgn ((bl s).drop k) = 0) := by
            show _ = _
            have h := HC2.out
            rw [decide_eq_false (by omega : ¬ (s[k + j]'hkj).toNat ≤ b), Bool.and_false, Bool.false_and] at h
            rw [HS.out, ← h]; rfl
          clear HC2 HS
          go_wp2_with fail
          go_ret
          exact ⟨ret_int (by rw [HZ.out]; rfl), rfl⟩
        have g2 : decide ((b : Int) < ((s[k + j]'hkj).toNat : Int)) = false := decide_eq_false (by omega)
        have HN : Hid (cont (4 - (j + 1)) 128 191 ((bl s).drop (k + (j + 1))) = cont 3 128 191 ((bl s).drop (k + 1))) := by
          have h := HC2.out
          rw [decide_eq_true (by omega : a ≤ (s[k + j]'hkj).toNat), decide_eq_true (by omega : (s[k + j]'hkj).toNat ≤ b), Bool.true_and, Bool.true_and] at h
          exact h
        clear HC2
        go_wp2_with fail
        exact ⟨⟨j + 1, 128, 191, by go_num, by omega, by omega, rfl, rfl, HN.out⟩, by simp [RowKit.intOf] <;> omega⟩
      · obtain rfl : j = 4 := by omega
        have HZ : Hid (sgn ((bl s).drop k) = 4) := by
          show _ = _
          rw [HS.out, ← HC.out]; rfl
        clear HC HS
        go_wp2_with fail
        go_ret
        exact ⟨ret_int (by rw [HZ.out]; rfl), rfl⟩
  ·
    have qlt128 : decide (((s[k]'hk).toNat : Int) < 128) = false := decide_eq_false (by omega)
    have qge194 : decide ((194 : Int) ≤ ((s[k]'hk).toNat : Int)) = true := decide_eq_true (by omega)
    have qle223 : decide (((s[k]'hk).toNat : Int) ≤ 223) = false := decide_eq_false (by omega)
    have qge224 : decide ((224 : Int) ≤ ((s[k]'hk).toNat : Int)) = true := decide_eq_true (by omega)
    have qle239 : decide (((s[k]'hk).toNat : Int) ≤ 239) = false := decide_eq_false (by omega)
    have qge240 : decide ((240 : Int) ≤ ((s[k]'hk).toNat : Int)) = true := decide_eq_true (by omega)
    have qle244 : decide (((s[k]'hk).toNat : Int) ≤ 244) = true := decide_eq_true (by omega)
    have qeq240 : (((s[k]'hk).toNat : Int) == 240) = false := beq_eq_false_iff_ne.2 (by omega)
    have qeq244 : (((s[k]'hk).toNat : Int) == 244) = true := beq_iff_eq.2 (by omega)
    have SGN : sgn (s[k]'hk :: (bl s).drop (k + 1)) = if cont 3 128 143 ((bl s).drop (k + 1)) then 4 else 0 := by
      rw [sgn]
      rw [show (if (s[k]'hk).toNat = 240 then 144 else 128 : Nat) = 128 from by first | exact if_pos (by omega) | exact if_neg (by omega)]
      rw [show (if (s[k]'hk).toNat = 244 then 143 else 191 : Nat) = 143 from by first | exact if_pos (by omega) | exact if_neg (by omega)]
      repeat (first | rw [if_pos (by omega)] | rw [if_neg (by omega)])
    go_enter Tryd.func44, Tryd.ntmps44
    have HS : Hid (sgn ((bl s).drop k) = if cont 3 128 143 ((bl s).drop (k + 1)) then 4 else 0) := by
      show _ = _
      rw [bl_drop hk]
      exact SGN
    clear SGN
    by_cases hfar : s.size < k + 4
    · have HF : Hid (sgn ((bl s).drop k) = 0) := by
        show _ = _
        rw [HS.out, cont_short (by rw [drop_len]; omega)]; rfl
      have hd1 : decide ((s.size : Int) < (k : Int) + 4) = true := decide_eq_true (by omega)
      clear HS
      go_wp2_with fail
      go_ret
      exact ⟨ret_int (by rw [HF.out]; rfl), rfl⟩
    have hd1 : decide ((s.size : Int) < (k : Int) + 4) = false := decide_eq_false (by omega)
    go_wp2_with fail
    go_loop [7, 8, 9] (fun lo hi i => ∃ j a b : Nat, i = .int .i64 j ∧ 1 ≤ j ∧ j ≤ 4 ∧ lo = .int .i64 a ∧ hi = .int .i64 b ∧ cont (4 - j) a b ((bl s).drop (k + j)) = cont 3 128 143 ((bl s).drop (k + 1))) (fun _ _ i => 4 - (RowKit.intOf i).toNat)
    case atStart => exact ⟨1, 128, 143, rfl, by omega, by omega, rfl, rfl, rfl⟩
    case round =>
      obtain ⟨j, a, b, rfl, hj1, hj, rfl, rfl, hcn⟩ := hrel
      have HC := Lib.hid hcn
      clear hcn
      by_cases hlt : j < 4
      · have hkj : k + j < s.size := by omega
        have hdr := bl_drop hkj
        have HD := Lib.hid hdr
        clear hdr
        have HC2 : Hid ((decide (a ≤ (s[k + j]'hkj).toNat) && decide ((s[k + j]'hkj).toNat ≤ b) && cont (4 - (j + 1)) 128 191 ((bl s).drop (k + (j + 1)))) = cont 3 128 143 ((bl s).drop (k + 1))) := by
          have e : 4 - j = (4 - (j + 1)) + 1 := by omega
          have h := HC.out
          rw [e, HD.out, cont_step] at h
          exact h
        clear HC
        have hb256 : (s[k + j]'hkj).toNat < 256 := UInt8.toNat_lt _
        by_cases h1 : (s[k + j]'hkj).toNat < a
        · have g1 : decide (((s[k + j]'hkj).toNat : Int) < (a : Int)) = true := decide_eq_true (by omega)
          have HZ : Hid (sgn ((bl s).drop k) = 0) := by
            show _ = _
            have h := HC2.out
            rw [decide_eq_false (by omega : ¬ a ≤ (s[k + j]'hkj).toNat), Bool.false_and, Bool.false_and] at h
            rw [HS.out, ← h]; rfl
          clear HC2 HS
          go_wp2_with fail
          go_ret
          exact ⟨ret_int (by rw [HZ.out]; rfl), rfl⟩
        have g1 : decide (((s[k + j]'hkj).toNat : Int) < (a : Int)) = false := decide_eq_false (by omega)
        by_cases h2 : b < (s[k + j]'hkj).toNat
        · have g2 : decide ((b : Int) < ((s[k + j]'hkj).toNat : Int)) = true := decide_eq_true (by omega)
          have HZ : Hid (sgn ((bl s).drop k) = 0) := by
            show _ = _
            have h := HC2.out
            rw [decide_eq_false (by omega : ¬ (s[k + j]'hkj).toNat ≤ b), Bool.and_false, Bool.false_and] at h
            rw [HS.out, ← h]; rfl
          clear HC2 HS
          go_wp2_with fail
          go_ret
          exact ⟨ret_int (by rw [HZ.out]; rfl), rfl⟩
        have g2 : decide ((b : Int) < ((s[k + j]'hkj).toNat : Int)) = false := decide_eq_false (by omega)
        have HN : Hid (cont (4 - (j + 1)) 128 191 ((bl s).drop (k + (j + 1))) = cont 3 128 143 ((bl s).drop (k + 1))) := by
          have h := HC2.out
          rw [decide_eq_true (by omega : a ≤ (s[k + j]'hkj).toNat), decide_eq_true (by omega : (s[k + j]'hkj).toNat ≤ b), Bool.true_and, Bool.true_and] at h
          exact h
        clear HC2
        go_wp2_with fail
        exact ⟨⟨j + 1, 128, 191, by go_num, by omega, by omega, rfl, rfl, HN.out⟩, by simp [RowKit.intOf] <;> omega⟩
      · obtain rfl : j = 4 := by omega
        have HZ : Hid (sgn ((bl s).drop k) = 4) := by
          show _ = _
          rw [HS.out, ← HC.out]; rfl
        clear HC HS
        go_wp2_with fail
        go_ret
        exact ⟨ret_int (by rw [HZ.out]; rfl), rfl⟩
  ·
    have qlt128 : decide (((s[k]'hk).toNat : Int) < 128) = false := decide_eq_false (by omega)
    have qge194 : decide ((194 : Int) ≤ ((s[k]'hk).toNat : Int)) = true := decide_eq_true (by omega)
    have qle223 : decide (((s[k]'hk).toNat : Int) ≤ 223) = false := decide_eq_false (by omega)
    have qge224 : decide ((224 : Int) ≤ ((s[k]'hk).toNat : Int)) = true := decide_eq_true (by omega)
    have qle239 : decide (((s[k]'hk).toNat : Int) ≤ 239) = false := decide_eq_false (by omega)
    have qge240 : decide ((240 : Int) ≤ ((s[k]'hk).toNat : Int)) = true := decide_eq_true (by omega)
    have qle244 : decide (((s[k]'hk).toNat : Int) ≤ 244) = false := decide_eq_false (by omega)
    have HZ : Hid (sgn ((bl s).drop k) = 0) := by
      show _ = _
      rw [bl_drop hk, sgn]
      repeat (first | rw [if_pos (by omega)] | rw [if_neg (by omega)])
    go_enter Tryd.func44, Tryd.ntmps44
    go_wp2_with fail
    go_ret
    exact ⟨ret_int (by rw [HZ.out]; rfl), rfl⟩

end Go.Proofs.YtmdcplpaejenbaaDoor

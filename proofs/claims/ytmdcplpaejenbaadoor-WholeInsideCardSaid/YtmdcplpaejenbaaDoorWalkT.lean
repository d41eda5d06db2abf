/-
  Walks of the document's own package of layer 10: Utf8, Sound, Join, Clean.
-/
import Derived.Test.YtmdcplpaejenbaaDoorWalkS
namespace Go.Proofs.YtmdcplpaejenbaaDoor
open Go.RowKit
open Go.Proofs.PnKit Go.Proofs.PnPath

theorem V_bad {l : List UInt8} (h : l ≠ []) (h0 : sgn l = 0) : V l = false := by rw [V_step l h, if_pos h0]
theorem V_good {l : List UInt8} (h : l ≠ []) (h0 : sgn l ≠ 0) : V l = V (l.drop (sgn l)) := by rw [V_step l h, if_neg h0]

set_option maxHeartbeats 400000 in
theorem utf8_any (s : ByteArray) (w : World) (hs : s.size ≤ 1000000) :
    Calls Tryd.prog 35 #[.string s] w fun e w' => e = .returned (.bool (V (bl s))) ∧ w' = w := by
  obtain ⟨RES, hRES⟩ : ∃ RES, V (bl s) = RES := ⟨_, rfl⟩
  rw [hRES]
  have HR := Lib.hid hRES
  clear hRES
  go_enter Tryd.func35, Tryd.ntmps35
  go_wp2_with fail
  go_loop [3] (fun i => ∃ k : Nat, i = .int .i64 k ∧ k ≤ s.size ∧ V ((bl s).drop k) = RES) (fun i => s.size - (RowKit.intOf i).toNat)
  case atStart => exact ⟨0, rfl, Nat.zero_le _, HR.out⟩
  case round =>
    obtain ⟨k, rfl, hk, hv⟩ := hrel
    have HV := Lib.hid hv
    clear hv
    by_cases hlt : k < s.size
    · have hne : Hid ((bl s).drop k ≠ []) := fun e => by
        have := congrArg List.length e
        rw [drop_len] at this; simp at this; omega
      have hle := sgn_le ((bl s).drop k)
      rw [drop_len] at hle
      have HS := Lib.hid (sign_any s k w hlt hs)
      by_cases h0 : sgn ((bl s).drop k) = 0
      · have HF : Hid (RES = false) := by show _ = _; rw [← HV.out, V_bad hne.out h0]
        rw [h0] at HS
        clear h0 hle
        go_wp2_with fail
        refine HS.out.mono ?_
        rintro e w1 ⟨rfl, rfl⟩
        go_wp2_with fail
        go_ret
        exact ⟨by rw [HF.out]; rfl, rfl⟩
      · have HN : Hid (V ((bl s).drop (k + sgn ((bl s).drop k))) = RES) := by
          show _ = _
          rw [← HV.out, V_good hne.out h0, List.drop_drop]
        have hq : (((sgn ((bl s).drop k) : Nat) : Int) == 0) = false := by simp; exact h0
        have hpos : 0 < sgn ((bl s).drop k) := by omega
        clear h0 HV hne
        generalize sgn ((bl s).drop k) = n at *
        go_wp2_with fail
        refine HS.out.mono ?_
        rintro e w1 ⟨rfl, rfl⟩
        go_wp2_with fail
        exact ⟨⟨k + n, by go_num, by omega, HN.out⟩, by simp [RowKit.intOf] <;> omega⟩
    · obtain rfl : k = s.size := by omega
      have HF : Hid (RES = true) := by
        show _ = _
        rw [← HV.out, List.drop_eq_nil_of_le (by rw [bl_size]; exact Nat.le_refl _)]; rfl
      go_wp2_with fail
      go_ret
      exact ⟨by rw [HF.out]; rfl, rfl⟩

theorem byte_zero {s : ByteArray} {k : Nat} (hk : k < s.size) : (s.get! k).toNat = (s[k]'hk).toNat := by
  rw [Utf8W.get!_of_lt s k hk]

set_option maxHeartbeats 400000 in
theorem rsound_any (s : ByteArray) (w : World) :
    Calls Tryd.prog 22 #[.string s] w fun e w' => e = .returned (.int .i64 (sound (bl s))) ∧ w' = w := by
  go_enter Tryd.func22, Tryd.ntmps22
  go_wp2_with fail
  · go_ret
    exact ⟨ret_int (sound_empty (by assumption)).symm, rfl⟩
  · go_ret
    exact ⟨ret_int (sound_long (by assumption) (by assumption)).symm, rfl⟩
  have hsz : s.size ≤ 1000000 := by
    have : (s.size : Int) ≤ 4000 := by assumption
    omega
  have HU := Lib.hid (utf8_any s w hsz)
  go_loop [3] (fun i => ∃ k : Nat, i = .int .i64 k ∧ k ≤ s.size ∧ ∀ j, j < k → (s.get! j).toNat ≠ 0) (fun i => s.size - (RowKit.intOf i).toNat)
  case atStart => exact ⟨0, rfl, Nat.zero_le _, fun j hj => by omega⟩
  case round =>
    obtain ⟨k, rfl, hk, hz⟩ := hrel
    have HZ := Lib.hid hz
    clear hz
    by_cases hlt : k < s.size
    · by_cases h0 : (s[k]'hlt).toNat = 0
      · have hq : (((s[k]'hlt).toNat : Int) == 0) = true := beq_iff_eq.2 (by omega)
        have HN : Hid (sound (bl s) = 101) := by
          show _ = _
          have h1 : s.toList.isEmpty = false := by assumption
          have h2 : (s.size : Int) ≤ 4000 := by assumption
          rw [ByteArray.toList_eq] at h1
          have : bl s ≠ [] := by simpa using h1
          rw [sound, if_neg this, if_neg (by rw [bl_size]; omega), if_pos ((zero_mem s).2 ⟨k, hlt, by rw [byte_zero hlt, h0]⟩)]
        clear h0
        go_wp2_with fail
        go_ret
        exact ⟨ret_int HN.out.symm, rfl⟩
      · have hq : (((s[k]'hlt).toNat : Int) == 0) = false := beq_eq_false_iff_ne.2 (by omega)
        have HN : Hid (∀ j, j < k + 1 → (s.get! j).toNat ≠ 0) := fun j hj => by
          rcases Nat.lt_or_ge j k with h | h
          · exact HZ.out j h
          · obtain rfl : j = k := by omega
            rw [byte_zero hlt]; exact h0
        clear h0 HZ
        go_wp2_with fail
        exact ⟨⟨k + 1, by go_num, by omega, HN.out⟩, by simp [RowKit.intOf] <;> omega⟩
    · obtain rfl : k = s.size := by omega
      by_cases hv : V (bl s) = true
      · rw [hv] at HU
        have HV := Lib.hid hv
        clear hv
        have hs0 : 0 < s.size := size_pos (by assumption)
        go_wp2_with fail
        refine HU.out.mono ?_
        rintro e w1 ⟨rfl, rfl⟩
        go_wp2_with fail
        · go_ret
          exact ⟨ret_int (sound_last (by assumption) (by assumption) HZ.out (by rw [← V_eq]; exact HV.out) hs0 true (by assumption)).symm, rfl⟩
        · go_ret
          exact ⟨ret_int (sound_last (by assumption) (by assumption) HZ.out (by rw [← V_eq]; exact HV.out) hs0 false (by assumption)).symm, rfl⟩
      · have hv' : V (bl s) = false := by simpa using hv
        rw [hv'] at HU
        have HV := Lib.hid hv'
        clear hv hv'
        go_wp2_with fail
        refine HU.out.mono ?_
        rintro e w1 ⟨rfl, rfl⟩
        go_wp2_with fail
        go_ret
        exact ⟨ret_int (sound_text (by assumption) (by assumption) HZ.out (by rw [← V_eq]; exact HV.out)).symm, rfl⟩

end Go.Proofs.YtmdcplpaejenbaaDoor

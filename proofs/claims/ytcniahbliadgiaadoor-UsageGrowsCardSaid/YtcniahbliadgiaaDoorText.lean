/-
  Plain facts on texts (byte arrays), of no program: a rune 0 is a byte 0; a text cut at its slashes, in the kit's words and in ours.
-/
import Derived.Test.YtcniahbliadgiaaDoorPathB
import Derived.Test.YtcniahbliadgiaaDoorKit
import Derived.Lib.SplitLaws
import Derived.Lib.Join
namespace Go.Proofs.PnKit
open Go.Proofs.PnPath

theorem decN_zero (n b0 b1 b2 b3 : Nat) : (Lib.decodeN n b0 b1 b2 b3).1 = 0 ↔ b0 = 0 := by
  unfold Lib.decodeN
  repeat' split
  all_goals simp only []
  all_goals first | (constructor <;> intro h <;> omega) | omega

theorem decN_width (n b0 b1 b2 b3 : Nat) (hn : 1 ≤ n) : 1 ≤ (Lib.decodeN n b0 b1 b2 b3).2 ∧ (Lib.decodeN n b0 b1 b2 b3).2 ≤ n ∧ (Lib.decodeN n b0 b1 b2 b3).2 ≤ 4 ∧
    (1 < (Lib.decodeN n b0 b1 b2 b3).2 → b1 ≠ 0) ∧ (2 < (Lib.decodeN n b0 b1 b2 b3).2 → b2 ≠ 0) ∧ (3 < (Lib.decodeN n b0 b1 b2 b3).2 → b3 ≠ 0) := by
  unfold Lib.decodeN
  repeat' split
  all_goals simp only []
  all_goals (refine ⟨by omega, by omega, by omega, fun _ => ?_, fun _ => ?_, fun _ => ?_⟩ <;> omega)

theorem dec_zero (s : ByteArray) (pos : Nat) : (Utf8.decode s pos).1 = 0 ↔ (s.get! pos).toNat = 0 := by
  rw [Lib.decode_at]; exact decN_zero _ _ _ _ _
theorem dec_skip (s : ByteArray) (pos : Nat) (h : pos < s.size) : 1 ≤ (Utf8.decode s pos).2 ∧ pos + (Utf8.decode s pos).2 ≤ s.size ∧
    ∀ i, pos < i → i < pos + (Utf8.decode s pos).2 → (s.get! i).toNat ≠ 0 := by
  rw [Lib.decode_at]
  obtain ⟨h1, h2, h3, h4, h5, h6⟩ := decN_width (s.size - pos) (s.get! pos).toNat (s.get! (pos + 1)).toNat (s.get! (pos + 2)).toNat (s.get! (pos + 3)).toNat (by omega)
  refine ⟨h1, by omega, fun i hi hi' => ?_⟩
  obtain ⟨k, rfl⟩ : ∃ k, i = pos + k := ⟨i - pos, by omega⟩
  have : k = 1 ∨ k = 2 ∨ k = 3 := by omega
  rcases this with rfl | rfl | rfl
  · exact h4 (by omega)
  · exact h5 (by omega)
  · exact h6 (by omega)

theorem get!_bl (s : ByteArray) (i : Nat) (h : i < s.size) : (bl s)[i]? = some (s.get! i) := by
  have e := Lib.getD_get!' s i
  rw [List.getD_eq_getElem?_getD] at e
  have hl : i < (bl s).length := by rw [bl_size]; exact h
  have h2 : s.data.toList[i]? = some (s.data.toList[i]'hl) := List.getElem?_eq_getElem hl
  rw [h2] at e
  show s.data.toList[i]? = _
  rw [h2, ← e]; rfl
theorem zero_mem (s : ByteArray) : (0 : UInt8) ∈ bl s ↔ ∃ i, i < s.size ∧ (s.get! i).toNat = 0 := by
  constructor
  · intro h
    obtain ⟨i, hi⟩ := List.mem_iff_getElem?.1 h
    have hl : i < s.size := by rw [← bl_size]; exact (List.getElem?_eq_some_iff.1 hi).1
    rw [get!_bl s i hl] at hi
    exact ⟨i, hl, by rw [Option.some.inj hi]; rfl⟩
  · rintro ⟨i, hi, h⟩
    refine List.mem_iff_getElem?.2 ⟨i, ?_⟩
    rw [get!_bl s i hi]
    exact congrArg some (UInt8.toNat_inj.1 h)
theorem no_zero {s : ByteArray} (h : ∀ i, i < s.size → (s.get! i).toNat ≠ 0) : (0 : UInt8) ∉ bl s := fun hc => by
  obtain ⟨i, hi, h0⟩ := (zero_mem s).1 hc
  exact h i hi h0
theorem nozero_step {s : ByteArray} {pos : Nat} (h : pos < s.size) (hb : ∀ i, i < pos → (s.get! i).toNat ≠ 0) (h0 : (Utf8.decode s pos).1 ≠ 0) :
    ∀ i, i < pos + (Utf8.decode s pos).2 → (s.get! i).toNat ≠ 0 := fun i hi => by
  rcases Nat.lt_trichotomy i pos with h1 | h1 | h1
  · exact hb i h1
  · subst h1; exact fun e => h0 ((dec_zero s i).2 e)
  · exact (dec_skip s pos h).2.2 i h1 hi

/-! strings.Split at a slash -/
theorem index_miss {l : List UInt8} (h : (47 : UInt8) ∉ l) : Lib.index l [47] = -1 := by
  induction l with
  | nil => rfl
  | cons c l ih =>
    have hc : (47 : UInt8) ≠ c := fun e => h (by simp [e])
    have := ih (fun e => h (by simp [e]))
    rw [Lib.index, this]
    simp [List.isPrefixOf, hc]
theorem index_hit {a t : List UInt8} (h : (47 : UInt8) ∉ a) : Lib.index (a ++ 47 :: t) [47] = a.length := by
  induction a with
  | nil => simp [Lib.index, List.isPrefixOf]
  | cons c a ih =>
    have hc : (47 : UInt8) ≠ c := fun e => h (by simp [e])
    have := ih (fun e => h (by simp [e]))
    rw [List.cons_append, Lib.index, this]
    simp [List.isPrefixOf, hc]
theorem count_slash (l : List UInt8) : Lib.count l [47] + 1 = (msplit l).length := by
  rw [Lib.count_one]
  induction l using msplit_ind with
  | h1 a ha => rw [msplit_plain a ha, List.count_eq_zero.2 ha]; rfl
  | h2 a t ha ih => rw [msplit_cut a t ha, List.count_append, List.count_eq_zero.2 ha, List.count_cons_self, List.length_cons, ← ih]; omega
theorem splitK_slash (l : List UInt8) : Lib.splitK [47] 0 ((msplit l).length - 1) l = msplit l := by
  induction l using msplit_ind with
  | h1 a ha => rw [msplit_plain a ha]; rfl
  | h2 a t ha ih =>
    rw [msplit_cut a t ha, List.length_cons]
    have hl : 0 < (msplit t).length := List.length_pos_iff.2 (msplit_ne t)
    obtain ⟨n, hn⟩ : ∃ n, (msplit t).length = n + 1 := ⟨(msplit t).length - 1, by omega⟩
    rw [hn] at ih ⊢
    rw [Nat.add_sub_cancel, Lib.splitK, index_hit ha, if_neg (by simp)]
    simp only [Nat.add_sub_cancel] at ih
    have e1 : ((a.length : Int).toNat + 0) = a.length := by omega
    have e2 : ((a.length : Int).toNat + [(47 : UInt8)].length) = a.length + 1 := by simp
    rw [e1, e2, List.take_left' rfl, List.drop_append]
    simp only [List.drop_eq_nil_of_le (show a.length ≤ a.length + 1 by omega), List.nil_append, Nat.add_sub_cancel_left, List.drop_succ_cons, List.drop_zero]
    rw [ih]
theorem split_slash (s : ByteArray) : (Lib.splitB ⟨#[47]⟩ 0 (Lib.countB s ⟨#[47]⟩) s).map (·.data.toList) = msplit (bl s) := by
  rw [Lib.splitB_data]
  have hc : Lib.countB s ⟨#[47]⟩ = Lib.count (bl s) [47] := rfl
  have h := count_slash (bl s)
  rw [hc, show Lib.count (bl s) [47] = (msplit (bl s)).length - 1 by omega]
  exact splitK_slash (bl s)

theorem join_lib (L : List (List UInt8)) : Lib.join L [47] = join L := by
  induction L with
  | nil => rfl
  | cons p L ih =>
    by_cases hL : L = []
    · subst hL; rw [Lib.join_one, join_one]
    · rw [join_cons p L hL, ← ih]
      obtain ⟨q, r, rfl⟩ : ∃ q r, L = q :: r := by cases L with
        | nil => exact absurd rfl hL
        | cons q r => exact ⟨q, r, rfl⟩
      simp only [Lib.join_cons, Lib.joinTail, List.map_cons, List.flatten_cons, List.cons_append, List.nil_append]

end Go.Proofs.PnKit

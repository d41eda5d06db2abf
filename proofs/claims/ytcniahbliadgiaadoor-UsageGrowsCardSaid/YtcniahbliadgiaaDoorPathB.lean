/-
  More of the plain law of paths: how short a relative name is, the directory of a path, what lies under what; the kit's decoder of UTF-8.
-/
import Derived.Test.YtcniahbliadgiaaDoorPathA
import Derived.Lib.ValidLaws
namespace Go.Proofs.PnPath

/-! the kit's word for UTF-8 is ours -/
theorem getD_lt (l : B) (i : Nat) : (l.getD i 0).toNat < 256 := UInt8.toNat_lt _

theorem cont1 (lo hi : Nat) (t : B) : cont 1 lo hi t = decide (1 < t.length + 1 ∧ lo ≤ (t.getD 0 0).toNat ∧ (t.getD 0 0).toNat ≤ hi) := by
  cases t with
  | nil => simp [cont]
  | cons c t => simp [cont]
theorem cont2 (lo hi : Nat) (t : B) : cont 2 lo hi t = decide (2 < t.length + 1 ∧ lo ≤ (t.getD 0 0).toNat ∧ (t.getD 0 0).toNat ≤ hi ∧ 128 ≤ (t.getD 1 0).toNat ∧ (t.getD 1 0).toNat ≤ 191) := by
  match t with
  | [] => simp [cont]
  | [c] => simp [cont]
  | c :: d :: t => simp [cont, Bool.and_assoc]
theorem cont3 (lo hi : Nat) (t : B) : cont 3 lo hi t = decide (3 < t.length + 1 ∧ lo ≤ (t.getD 0 0).toNat ∧ (t.getD 0 0).toNat ≤ hi ∧ 128 ≤ (t.getD 1 0).toNat ∧ (t.getD 1 0).toNat ≤ 191 ∧ 128 ≤ (t.getD 2 0).toNat ∧ (t.getD 2 0).toNat ≤ 191) := by
  match t with
  | [] => simp [cont]
  | [c] => simp [cont]
  | [c, d] => simp [cont]
  | c :: d :: e :: t => simp [cont, Bool.and_assoc]

theorem pick {c : Prop} [Decidable c] {k : Nat} {d : Nat × Nat} (hk : 2 ≤ k) (h1 : ¬ c → d = (65533, 1)) (h2 : c → d.2 = k) :
    ((if c then k else 0) = 0 ∧ d = (65533, 1)) ∨ ((if c then k else 0) ≠ 0 ∧ d.2 = (if c then k else 0) ∧ ¬ (d.1 = 65533 ∧ d.2 = 1)) := by
  by_cases h : c
  · right
    rw [if_pos h]
    have := h2 h
    exact ⟨by omega, this, fun e => by omega⟩
  · left
    rw [if_neg h]
    exact ⟨rfl, h1 h⟩
theorem slow2 (n b0 b1 b2 b3 lo hi : Nat) : (¬ (1 < n ∧ lo ≤ b1 ∧ b1 ≤ hi) → Lib.slowN n b0 b1 b2 b3 2 lo hi = (65533, 1)) ∧ ((1 < n ∧ lo ≤ b1 ∧ b1 ≤ hi) → (Lib.slowN n b0 b1 b2 b3 2 lo hi).2 = 2) := by
  unfold Lib.slowN
  constructor <;> intro h <;> repeat' split
  all_goals first | rfl | (exfalso; omega)
theorem slow3 (n b0 b1 b2 b3 lo hi : Nat) : (¬ (2 < n ∧ lo ≤ b1 ∧ b1 ≤ hi ∧ 128 ≤ b2 ∧ b2 ≤ 191) → Lib.slowN n b0 b1 b2 b3 3 lo hi = (65533, 1)) ∧ ((2 < n ∧ lo ≤ b1 ∧ b1 ≤ hi ∧ 128 ≤ b2 ∧ b2 ≤ 191) → (Lib.slowN n b0 b1 b2 b3 3 lo hi).2 = 3) := by
  unfold Lib.slowN
  constructor <;> intro h <;> repeat' split
  all_goals first | rfl | (exfalso; omega)
theorem slow4 (n b0 b1 b2 b3 lo hi : Nat) : (¬ (3 < n ∧ lo ≤ b1 ∧ b1 ≤ hi ∧ 128 ≤ b2 ∧ b2 ≤ 191 ∧ 128 ≤ b3 ∧ b3 ≤ 191) → Lib.slowN n b0 b1 b2 b3 4 lo hi = (65533, 1)) ∧ ((3 < n ∧ lo ≤ b1 ∧ b1 ≤ hi ∧ 128 ≤ b2 ∧ b2 ≤ 191 ∧ 128 ≤ b3 ∧ b3 ≤ 191) → (Lib.slowN n b0 b1 b2 b3 4 lo hi).2 = 4) := by
  unfold Lib.slowN
  constructor <;> intro h <;> repeat' split
  all_goals first | rfl | (exfalso; omega)

/-- sign by sign the same -/
theorem sgn_decode (b : UInt8) (t : B) : (sgn (b :: t) = 0 ∧ Lib.decodeL (b :: t) = (65533, 1)) ∨ (sgn (b :: t) ≠ 0 ∧ (Lib.decodeL (b :: t)).2 = sgn (b :: t) ∧ ¬ ((Lib.decodeL (b :: t)).1 = 65533 ∧ (Lib.decodeL (b :: t)).2 = 1)) := by
  rw [Lib.decodeL_N]
  have e0 : (b :: t).getD 0 0 = b := rfl
  have e1 : (b :: t).getD 1 0 = t.getD 0 0 := rfl
  have e2 : (b :: t).getD 2 0 = t.getD 1 0 := rfl
  have e3 : (b :: t).getD 3 0 = t.getD 2 0 := rfl
  rw [e0, e1, e2, e3, List.length_cons]
  have h1 := getD_lt t 0
  have h2 := getD_lt t 1
  have h3 := getD_lt t 2
  have hb := b.toNat_lt
  have h256 : (2 : Nat) ^ 8 = 256 := by decide
  rw [h256] at hb
  rw [sgn, cont1, cont2, cont3]
  simp only [decide_eq_true_eq]
  generalize (t.getD 0 0).toNat = x1 at *
  generalize (t.getD 1 0).toNat = x2 at *
  generalize (t.getD 2 0).toNat = x3 at *
  generalize b.toNat = x0 at *
  generalize t.length = n at *
  clear e0 e1 e2 e3 h256
  by_cases c0 : x0 < 128
  · right
    rw [if_pos c0]
    have e : Lib.decodeN (n + 1) x0 x1 x2 x3 = (x0, 1) := by unfold Lib.decodeN; rw [if_pos c0]
    rw [e]
    exact ⟨by decide, rfl, fun h => by have := h.1; simp only at this; omega⟩
  rw [if_neg c0]
  by_cases c1 : 194 ≤ x0 ∧ x0 ≤ 223
  · rw [if_pos c1, ← Lib.slow_C2 (n + 1) x0 x1 x2 x3 (by omega) h1 h2 h3 (by omega)]
    exact pick (by omega) (slow2 _ _ _ _ _ _ _).1 (slow2 _ _ _ _ _ _ _).2
  rw [if_neg c1]
  by_cases c2 : 224 ≤ x0 ∧ x0 ≤ 239
  · rw [if_pos c2]
    by_cases c3 : x0 = 224
    · rw [if_pos c3, if_neg (show ¬ x0 = 237 by omega), ← Lib.slow_E0 (n + 1) x0 x1 x2 x3 (by omega) h1 h2 h3 (by omega)]
      exact pick (by omega) (slow3 _ _ _ _ _ _ _).1 (slow3 _ _ _ _ _ _ _).2
    rw [if_neg c3]
    by_cases c4 : x0 = 237
    · rw [if_pos c4, ← Lib.slow_ED (n + 1) x0 x1 x2 x3 (by omega) h1 h2 h3 (by omega)]
      exact pick (by omega) (slow3 _ _ _ _ _ _ _).1 (slow3 _ _ _ _ _ _ _).2
    · rw [if_neg c4, ← Lib.slow_E1 (n + 1) x0 x1 x2 x3 (by omega) h1 h2 h3 (by omega)]
      exact pick (by omega) (slow3 _ _ _ _ _ _ _).1 (slow3 _ _ _ _ _ _ _).2
  rw [if_neg c2]
  by_cases c5 : 240 ≤ x0 ∧ x0 ≤ 244
  · rw [if_pos c5]
    by_cases c6 : x0 = 240
    · rw [if_pos c6, if_neg (show ¬ x0 = 244 by omega), ← Lib.slow_F0 (n + 1) x0 x1 x2 x3 (by omega) h1 h2 h3 (by omega)]
      exact pick (by omega) (slow4 _ _ _ _ _ _ _).1 (slow4 _ _ _ _ _ _ _).2
    rw [if_neg c6]
    by_cases c7 : x0 = 244
    · rw [if_pos c7, ← Lib.slow_F4 (n + 1) x0 x1 x2 x3 (by omega) h1 h2 h3 (by omega)]
      exact pick (by omega) (slow4 _ _ _ _ _ _ _).1 (slow4 _ _ _ _ _ _ _).2
    · rw [if_neg c7, ← Lib.slow_F1 (n + 1) x0 x1 x2 x3 (by omega) h1 h2 h3 (by omega)]
      exact pick (by omega) (slow4 _ _ _ _ _ _ _).1 (slow4 _ _ _ _ _ _ _).2
  rw [if_neg c5]
  left
  exact ⟨rfl, Lib.decodeN_bad _ _ _ _ _ (by omega)⟩

theorem V_valid : ∀ (n : Nat) (l : B), l.length ≤ n → V l = Lib.validD l
  | 0, l, h => by
    have : l = [] := List.eq_nil_of_length_eq_zero (by omega)
    subst this; rfl
  | n + 1, [], _ => rfl
  | n + 1, b :: t, h => by
    rw [V_step _ (by simp), Lib.validD_step _ (by simp)]
    rcases sgn_decode b t with ⟨h1, h2⟩ | ⟨h1, h2, h3⟩
    · rw [if_pos h1, if_pos (by rw [h2]; exact ⟨rfl, rfl⟩)]
    · rw [if_neg h1, if_neg h3, h2]
      exact V_valid n _ (by rw [List.length_drop]; omega)
theorem V_eq (l : B) : V l = Lib.validD l := V_valid _ l (Nat.le_refl _)

end Go.Proofs.PnPath

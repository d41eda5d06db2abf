/-
  The order of paths is one: plain laws. And what a search in sorted rows finds.
-/
import Derived.Test.YtcniahbliadgiaaDoorRowsT
namespace Go.Proofs.YtcniahbliadgiaaDoor
open Go.RowKit
open Go.Proofs.PnKit Go.Proofs.PnPath

theorem cb_eq : ∀ (a b : List UInt8), Lib.compareBytes a b = 0 ↔ a = b
  | [], [] => by simp [Lib.compareBytes]
  | [], _ :: _ => by simp [Lib.compareBytes]
  | _ :: _, [] => by simp [Lib.compareBytes]
  | a :: ar, b :: br => by
    unfold Lib.compareBytes
    by_cases h1 : a < b
    · rw [if_pos h1]
      exact ⟨fun h => absurd h (by decide), fun h => by injection h with h _; subst h; exact absurd h1 (UInt8.lt_irrefl _)⟩
    · rw [if_neg h1]
      by_cases h2 : b < a
      · rw [if_pos h2]
        exact ⟨fun h => absurd h (by decide), fun h => by injection h with h _; subst h; exact absurd h2 (UInt8.lt_irrefl _)⟩
      · rw [if_neg h2, cb_eq ar br]
        have : a = b := UInt8.le_antisymm (UInt8.not_lt.1 h2) (UInt8.not_lt.1 h1)
        simp [this]
theorem cb_neg : ∀ (a b : List UInt8), Lib.compareBytes b a = - Lib.compareBytes a b
  | [], [] => by simp [Lib.compareBytes]
  | [], _ :: _ => by simp [Lib.compareBytes]
  | _ :: _, [] => by simp [Lib.compareBytes]
  | a :: ar, b :: br => by
    unfold Lib.compareBytes
    by_cases h1 : a < b
    · have h2 : ¬ b < a := fun h => UInt8.lt_irrefl _ (UInt8.lt_trans h1 h)
      rw [if_pos h1, if_neg h2, if_pos h1]; rfl
    · rw [if_neg h1]
      by_cases h2 : b < a
      · rw [if_pos h2, if_neg h1, if_pos h2]
      · rw [if_neg h2, if_neg h2, if_neg h1, cb_neg ar br]
theorem cb_trans : ∀ (a b c : List UInt8), Lib.compareBytes a b < 0 → Lib.compareBytes b c < 0 → Lib.compareBytes a c < 0
  | [], b, [], h, k => by cases b <;> simp [Lib.compareBytes] at h k
  | [], _, _ :: _, _, _ => by simp [Lib.compareBytes]
  | _ :: _, [], _, h, _ => by simp [Lib.compareBytes] at h
  | _ :: _, _ :: _, [], _, k => by simp [Lib.compareBytes] at k
  | a :: ar, b :: br, c :: cr, h, k => by
    unfold Lib.compareBytes at h k ⊢
    by_cases h1 : a < b
    · by_cases k1 : b < c
      · rw [if_pos (UInt8.lt_trans h1 k1)]; decide
      · rw [if_neg k1] at k
        by_cases k2 : c < b
        · rw [if_pos k2] at k; exact absurd k (by decide)
        · have : b = c := UInt8.le_antisymm (UInt8.not_lt.1 k2) (UInt8.not_lt.1 k1)
          rw [if_pos (this ▸ h1)]; decide
    · rw [if_neg h1] at h
      by_cases h2 : b < a
      · rw [if_pos h2] at h; exact absurd h (by decide)
      · rw [if_neg h2] at h
        have e : a = b := UInt8.le_antisymm (UInt8.not_lt.1 h2) (UInt8.not_lt.1 h1)
        subst e
        by_cases k1 : a < c
        · rw [if_pos k1]; decide
        · rw [if_neg k1] at k ⊢
          by_cases k2 : c < a
          · rw [if_pos k2] at k; exact absurd k (by decide)
          · rw [if_neg k2] at k ⊢
            exact cb_trans ar br cr h k

theorem cp_eq : ∀ (a b : List (List UInt8)), cmpP a b = 0 ↔ a = b
  | [], [] => by simp [cmpP]
  | [], _ :: _ => by simp [cmpP]; omega
  | _ :: _, [] => by simp [cmpP]; omega
  | x :: a, y :: b => by
    rw [cmpP_cons]
    by_cases h : Lib.compareBytes x y = 0
    · rw [if_pos h, cp_eq a b]
      have := (cb_eq x y).1 h
      simp [this]
    · rw [if_neg h]
      refine ⟨fun h' => absurd h' h, fun h' => ?_⟩
      injection h' with h1 _
      exact absurd ((cb_eq x y).2 h1) h
theorem cp_neg : ∀ (a b : List (List UInt8)), cmpP b a = - cmpP a b
  | [], [] => by simp [cmpP]
  | [], _ :: _ => by simp [cmpP]
  | _ :: _, [] => by simp [cmpP]
  | x :: a, y :: b => by
    rw [cmpP_cons, cmpP_cons, cb_neg x y]
    by_cases h : Lib.compareBytes x y = 0
    · rw [if_pos h, if_pos (by omega), cp_neg a b]
    · rw [if_neg h, if_neg (by omega)]
theorem cp_trans : ∀ (a b c : List (List UInt8)), cmpP a b < 0 → cmpP b c < 0 → cmpP a c < 0
  | [], b, [], h, k => by
    cases b with
    | nil => simp [cmpP] at h
    | cons y b => rw [cmpP_nil2] at k; simp at k; omega
  | [], _, z :: c, _, _ => by rw [cmpP_nil]; simp
  | x :: a, [], _, h, _ => by rw [cmpP_nil2] at h; simp at h; omega
  | _ :: _, y :: b, [], _, k => by rw [cmpP_nil2] at k; simp at k; omega
  | x :: a, y :: b, z :: c, h, k => by
    rw [cmpP_cons] at h k ⊢
    by_cases h1 : Lib.compareBytes x y = 0
    · have e := (cb_eq x y).1 h1
      subst e
      rw [if_pos h1] at h
      by_cases k1 : Lib.compareBytes x z = 0
      · rw [if_pos k1] at k ⊢
        exact cp_trans a b c h k
      · rw [if_neg k1] at k ⊢
        exact k
    · rw [if_neg h1] at h
      by_cases k1 : Lib.compareBytes y z = 0
      · have e := (cb_eq y z).1 k1
        subst e
        rw [if_neg h1]; exact h
      · rw [if_neg k1] at k
        have := cb_trans x y z h k
        rw [if_neg (by omega)]; exact this

/-- a row's place in the order -/
abbrev key (r : Rw) : List (List UInt8) := parts (bl r.path)
/-- rows in order, none twice -/
def Sorted (L : List Rw) : Prop := L.Pairwise fun a b => cmpP (key a) (key b) < 0
theorem Sorted.get {L : List Rw} (h : Sorted L) {i j : Nat} {x y : Rw} (hij : i < j) (hx : L[i]? = some x) (hy : L[j]? = some y) : cmpP (key x) (key y) < 0 := by
  obtain ⟨h1, rfl⟩ := List.getElem?_eq_some_iff.1 hx
  obtain ⟨h2, rfl⟩ := List.getElem?_eq_some_iff.1 hy
  exact List.pairwise_iff_getElem.1 h i j h1 h2 hij
theorem Sorted.down {L : List Rw} (h : Sorted L) {t : List (List UInt8)} {i j : Nat} {x y : Rw} (hij : i ≤ j) (hx : L[i]? = some x) (hy : L[j]? = some y) (ht : cmpP (key y) t < 0) : cmpP (key x) t < 0 := by
  rcases Nat.lt_or_ge i j with h1 | h1
  · exact cp_trans _ _ _ (h.get h1 hx hy) ht
  · obtain rfl : i = j := by omega
    rw [hx] at hy; cases hy; exact ht
theorem Sorted.up {L : List Rw} (h : Sorted L) {t : List (List UInt8)} {i j : Nat} {x y : Rw} (hij : i ≤ j) (hx : L[i]? = some x) (hy : L[j]? = some y) (ht : ¬ cmpP (key x) t < 0) : ¬ cmpP (key y) t < 0 :=
  fun h2 => ht (h.down hij hx hy h2)

end Go.Proofs.YtcniahbliadgiaaDoor

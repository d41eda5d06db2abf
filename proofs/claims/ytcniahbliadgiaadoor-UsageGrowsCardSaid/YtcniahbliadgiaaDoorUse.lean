/-
  Plain: how much rows have: a fold over the rows, and the same number by number.
-/
import Derived.Test.YtcniahbliadgiaaDoorTreeG
namespace Go.Proofs.YtcniahbliadgiaaDoor
open Go.RowKit
open Go.Proofs.PnKit Go.Proofs.PnPath

/-- how much rows have, the numbers that were seen ahead of them left out -/
structure Us where
  bytes : Int
  inodes : Int
  depth : Int
  length : Int
  deriving DecidableEq
def usOne (seen : List Int) (u : Us) (r : Rw) : Us :=
  ⟨if r.id ∈ seen then u.bytes else if r.kind = 1 then u.bytes + r.size else u.bytes, if r.id ∈ seen then u.inodes else u.inodes + 1, max u.depth (key r).length, max u.length r.path.size⟩
def usF : List Int → Us → List Rw → Us
  | _, u, [] => u
  | seen, u, r :: L => usF (r.id :: seen) (usOne seen u r) L
abbrev us (L : List Rw) : Us := usF [] ⟨0, 0, 0, 0⟩ L

/-! sums over numbers -/
def sumTo (f : Int → Int) : Nat → Int
  | 0 => 0
  | n + 1 => sumTo f n + f n
theorem sumTo_le {f g : Int → Int} : ∀ (n : Nat), (∀ i : Int, 0 ≤ i → i < n → f i ≤ g i) → sumTo f n ≤ sumTo g n
  | 0, _ => Int.le_refl _
  | n + 1, h => by
    have h1 := sumTo_le n fun i a b => h i a (by omega)
    have h2 := h n (by omega) (by omega)
    simp only [sumTo]; omega
theorem sumTo_congr {f g : Int → Int} (n : Nat) (h : ∀ i : Int, 0 ≤ i → i < n → f i = g i) : sumTo f n = sumTo g n :=
  Int.le_antisymm (sumTo_le n fun i a b => Int.le_of_eq (h i a b)) (sumTo_le n fun i a b => Int.le_of_eq (h i a b).symm)
theorem sumTo_zero : ∀ (n : Nat), sumTo (fun _ => 0) n = 0
  | 0 => rfl
  | n + 1 => by simp only [sumTo, sumTo_zero n]; rfl
theorem sumTo_nonneg {f : Int → Int} (n : Nat) (h : ∀ i : Int, 0 ≤ i → i < n → 0 ≤ f i) : 0 ≤ sumTo f n := by
  have := sumTo_le (f := fun _ => 0) (g := f) n h
  rwa [sumTo_zero] at this
theorem sumTo_add (f g : Int → Int) : ∀ (n : Nat), sumTo (fun i => f i + g i) n = sumTo f n + sumTo g n
  | 0 => rfl
  | n + 1 => by simp only [sumTo, sumTo_add f g n]; omega
/-- two that differ at one number -/
theorem sumTo_one {f g : Int → Int} {a : Int} (h : ∀ i, i ≠ a → f i = g i) (h0 : 0 ≤ a) : ∀ (n : Nat), sumTo f n = sumTo g n + if a < n then f a - g a else 0
  | 0 => by rw [if_neg (by omega)]; rfl
  | n + 1 => by
    have ih := sumTo_one h h0 n
    simp only [sumTo]
    by_cases e : (n : Int) = a
    · rw [if_neg (by omega)] at ih
      rw [if_pos (by omega), ih, e]; omega
    · rw [h n e, ih]
      by_cases e2 : a < n
      · rw [if_pos e2, if_pos (by omega)]; omega
      · rw [if_neg e2, if_neg (by omega)]; omega
theorem sumTo_ext {f : Int → Int} (n : Nat) : ∀ (m : Nat), n ≤ m → (∀ i : Int, (n : Int) ≤ i → f i = 0) → sumTo f m = sumTo f n
  | 0, h, _ => by obtain rfl : n = 0 := by omega
                  rfl
  | m + 1, h, hz => by
    by_cases e : n = m + 1
    · rw [e]
    · simp only [sumTo]
      rw [sumTo_ext n m (by omega) hz, hz m (by omega)]; omega

/-! number by number -/
def ownB (r : Rw) : Int := if r.kind = 1 then r.size else 0
def szOf : List Rw → Int → Int
  | [], _ => 0
  | r :: L, i => if r.id = i then ownB r else szOf L i
def isIn : List Rw → Int → Int
  | [], _ => 0
  | r :: L, i => if r.id = i then 1 else isIn L i
def Ids (L : List Rw) (n : Nat) : Prop := ∀ r ∈ L, 0 ≤ r.id ∧ r.id < n

theorem usF_bytes (n : Nat) : ∀ (L : List Rw) (seen : List Int) (u : Us), Ids L n → (usF seen u L).bytes = u.bytes + sumTo (fun i => if i ∈ seen then 0 else szOf L i) n
  | [], seen, u, _ => by
    rw [usF, sumTo_congr (g := fun _ => 0) n (fun i _ _ => by simp only [szOf]; split <;> rfl), sumTo_zero]; omega
  | r :: L, seen, u, h => by
    rw [usF, usF_bytes n L _ _ fun x hx => h x (by simp [hx])]
    have hr := h r (by simp)
    by_cases hs : r.id ∈ seen
    · have e : (usOne seen u r).bytes = u.bytes := by simp only [usOne, if_pos hs]
      rw [e]
      congr 1
      refine sumTo_congr n fun i _ _ => ?_
      by_cases h1 : i ∈ seen
      · simp [h1]
      · have h2 : i ≠ r.id := fun e => h1 (e ▸ hs)
        simp [h1, h2, szOf, Ne.symm h2]
    · have e : (usOne seen u r).bytes = u.bytes + ownB r := by
        simp only [usOne, if_neg hs, ownB]
        split <;> omega
      rw [e]
      have h1 := sumTo_one (f := fun i => if i ∈ seen then 0 else szOf (r :: L) i) (g := fun i => if i ∈ r.id :: seen then 0 else szOf L i) (a := r.id) (fun i hi => by
        simp [hi, szOf, Ne.symm hi]) hr.1 n
      rw [h1, if_pos hr.2]
      simp only [if_neg hs, szOf, List.mem_cons, true_or, if_true]
      omega
theorem usF_inodes (n : Nat) : ∀ (L : List Rw) (seen : List Int) (u : Us), Ids L n → (usF seen u L).inodes = u.inodes + sumTo (fun i => if i ∈ seen then 0 else isIn L i) n
  | [], seen, u, _ => by
    rw [usF, sumTo_congr (g := fun _ => 0) n (fun i _ _ => by simp only [isIn]; split <;> rfl), sumTo_zero]; omega
  | r :: L, seen, u, h => by
    rw [usF, usF_inodes n L _ _ fun x hx => h x (by simp [hx])]
    have hr := h r (by simp)
    by_cases hs : r.id ∈ seen
    · have e : (usOne seen u r).inodes = u.inodes := by simp only [usOne, if_pos hs]
      rw [e]
      congr 1
      refine sumTo_congr n fun i _ _ => ?_
      by_cases h1 : i ∈ seen
      · simp [h1]
      · have h2 : i ≠ r.id := fun e => h1 (e ▸ hs)
        simp [h1, h2, isIn, Ne.symm h2]
    · have e : (usOne seen u r).inodes = u.inodes + 1 := by simp only [usOne, if_neg hs]
      rw [e]
      have h1 := sumTo_one (f := fun i => if i ∈ seen then 0 else isIn (r :: L) i) (g := fun i => if i ∈ r.id :: seen then 0 else isIn L i) (a := r.id) (fun i hi => by
        simp [hi, isIn, Ne.symm hi]) hr.1 n
      rw [h1, if_pos hr.2]
      simp only [if_neg hs, isIn, List.mem_cons, true_or, if_true]
      omega
/-- the greatest of a measure -/
def maxF (f : Rw → Int) : Int → List Rw → Int
  | d, [] => d
  | d, r :: L => maxF f (max d (f r)) L
theorem usF_depth : ∀ (L : List Rw) (seen : List Int) (u : Us), (usF seen u L).depth = maxF (fun r => (key r).length) u.depth L
  | [], _, _ => rfl
  | r :: L, seen, u => by rw [usF, usF_depth L]; rfl
theorem usF_length : ∀ (L : List Rw) (seen : List Int) (u : Us), (usF seen u L).length = maxF (fun r => r.path.size) u.length L
  | [], _, _ => rfl
  | r :: L, seen, u => by rw [usF, usF_length L]; rfl
theorem maxF_le {f : Rw → Int} {b : Int} : ∀ {L : List Rw} {d : Int}, maxF f d L ≤ b ↔ d ≤ b ∧ ∀ r ∈ L, f r ≤ b
  | [], d => by simp [maxF]
  | r :: L, d => by
    rw [maxF, maxF_le]
    simp only [List.mem_cons, forall_eq_or_imp]
    constructor
    · rintro ⟨h1, h2⟩; exact ⟨by omega, by omega, h2⟩
    · rintro ⟨h1, h2, h3⟩; exact ⟨by omega, h3⟩
theorem maxF_ge {f : Rw → Int} {L : List Rw} {d : Int} : d ≤ maxF f d L ∧ ∀ r ∈ L, f r ≤ maxF f d L := maxF_le.1 (Int.le_refl _)
theorem maxF_mono {f : Rw → Int} {L M : List Rw} {d : Int} (h : ∀ r ∈ L, ∃ s ∈ M, f r ≤ f s) : maxF f d L ≤ maxF f d M :=
  maxF_le.2 ⟨maxF_ge.1, fun r hr => by
    obtain ⟨s, hs, h1⟩ := h r hr
    have := maxF_ge (f := f) (L := M) (d := d).2 s hs
    omega⟩
theorem maxF_mem {f : Rw → Int} : ∀ {L : List Rw} {d : Int}, maxF f d L = d ∨ ∃ r ∈ L, maxF f d L = f r
  | [], d => Or.inl rfl
  | r :: L, d => by
    rw [maxF]
    rcases maxF_mem (f := f) (L := L) (d := max d (f r)) with h | ⟨x, hx, h⟩
    · rw [h]
      rcases Int.le_total d (f r) with h2 | h2
      · exact Or.inr ⟨r, by simp, by omega⟩
      · exact Or.inl (by omega)
    · exact Or.inr ⟨x, by simp [hx], h⟩

theorem us_bytes {L : List Rw} {n : Nat} (h : Ids L n) : (us L).bytes = sumTo (szOf L) n := by
  rw [usF_bytes n L [] _ h]
  simp
theorem us_inodes {L : List Rw} {n : Nat} (h : Ids L n) : (us L).inodes = sumTo (isIn L) n := by
  rw [usF_inodes n L [] _ h]
  simp
theorem us_depth (L : List Rw) : (us L).depth = maxF (fun r => (key r).length) 0 L := usF_depth L _ _
theorem us_length (L : List Rw) : (us L).length = maxF (fun r => r.path.size) 0 L := usF_length L _ _

/-- rows of one number are alike -/
def Cons (L : List Rw) : Prop := ∀ x ∈ L, ∀ y ∈ L, x.id = y.id → x.kind = y.kind ∧ x.mode = y.mode ∧ x.size = y.size
theorem own_eq {x y : Rw} (h1 : x.kind = y.kind) (h2 : x.size = y.size) : ownB x = ownB y := by simp only [ownB, h1, h2]
theorem szOf_cases (i : Int) : ∀ (L : List Rw), (∃ x ∈ L, x.id = i ∧ szOf L i = ownB x) ∨ ((∀ x ∈ L, x.id ≠ i) ∧ szOf L i = 0)
  | [] => Or.inr ⟨(fun _ h => by cases h), rfl⟩
  | r :: L => by
    rw [szOf]
    by_cases h : r.id = i
    · rw [if_pos h]; exact Or.inl ⟨r, by simp, h, rfl⟩
    · rw [if_neg h]
      rcases szOf_cases i L with ⟨x, h1, h2, h3⟩ | ⟨h1, h2⟩
      · exact Or.inl ⟨x, by simp [h1], h2, h3⟩
      · exact Or.inr ⟨fun x hx => (List.mem_cons.1 hx).elim (fun e => e ▸ h) (h1 x), h2⟩
theorem isIn_cases (i : Int) : ∀ (L : List Rw), (∃ x ∈ L, x.id = i ∧ isIn L i = 1) ∨ ((∀ x ∈ L, x.id ≠ i) ∧ isIn L i = 0)
  | [] => Or.inr ⟨(fun _ h => by cases h), rfl⟩
  | r :: L => by
    rw [isIn]
    by_cases h : r.id = i
    · rw [if_pos h]; exact Or.inl ⟨r, by simp, h, rfl⟩
    · rw [if_neg h]
      rcases isIn_cases i L with ⟨x, h1, h2, h3⟩ | ⟨h1, h2⟩
      · exact Or.inl ⟨x, by simp [h1], h2, h3⟩
      · exact Or.inr ⟨fun x hx => (List.mem_cons.1 hx).elim (fun e => e ▸ h) (h1 x), h2⟩
theorem szOf_of {L : List Rw} (h : Cons L) {x : Rw} (hx : x ∈ L) : szOf L x.id = ownB x := by
  rcases szOf_cases x.id L with ⟨y, h1, h2, h3⟩ | ⟨h1, _⟩
  · have := h y h1 x hx h2
    rw [h3, own_eq this.1 this.2.2]
  · exact absurd rfl (h1 x hx)
theorem szOf_none {L : List Rw} {i : Int} (h : ∀ x ∈ L, x.id ≠ i) : szOf L i = 0 := by
  rcases szOf_cases i L with ⟨y, h1, h2, _⟩ | ⟨_, h1⟩
  · exact absurd h2 (h y h1)
  · exact h1
theorem isIn_of {L : List Rw} {x : Rw} (hx : x ∈ L) : isIn L x.id = 1 := by
  rcases isIn_cases x.id L with ⟨y, h1, h2, h3⟩ | ⟨h1, _⟩
  · exact h3
  · exact absurd rfl (h1 x hx)
theorem isIn_none {L : List Rw} {i : Int} (h : ∀ x ∈ L, x.id ≠ i) : isIn L i = 0 := by
  rcases isIn_cases i L with ⟨y, h1, h2, _⟩ | ⟨_, h1⟩
  · exact absurd h2 (h y h1)
  · exact h1

/-- what is in a tree with a row put -/
theorem mem_putR_iff {r : Rw} : ∀ {L : List Rw}, Sorted L → ∀ {x : Rw}, x ∈ putR L r ↔ x = r ∨ (x ∈ L ∧ key x ≠ key r)
  | [], _, x => by simp [putR]
  | y :: L, h, x => by
    rw [putR_cons]
    split
    · rename_i h1
      have hne : key y ≠ key r := fun e => by rw [e, cp_self] at h1; omega
      rw [List.mem_cons, mem_putR_iff h.tail, List.mem_cons]
      constructor
      · rintro (rfl | rfl | ⟨h2, h3⟩)
        · exact Or.inr ⟨Or.inl rfl, hne⟩
        · exact Or.inl rfl
        · exact Or.inr ⟨Or.inr h2, h3⟩
      · rintro (rfl | ⟨rfl | h2, h3⟩)
        · exact Or.inr (Or.inl rfl)
        · exact Or.inl rfl
        · exact Or.inr (Or.inr ⟨h2, h3⟩)
    · rename_i h1
      split
      · rename_i h2
        rw [List.mem_cons, List.mem_cons]
        constructor
        · rintro (rfl | h3)
          · exact Or.inl rfl
          · exact Or.inr ⟨Or.inr h3, fun e => by have := h.head x h3; rw [h2, e, cp_self] at this; omega⟩
        · rintro (rfl | ⟨rfl | h3, h4⟩)
          · exact Or.inl rfl
          · exact absurd h2 h4
          · exact Or.inr h3
      · rename_i h2
        rw [List.mem_cons]
        constructor
        · rintro (rfl | h3)
          · exact Or.inl rfl
          · refine Or.inr ⟨h3, fun e => ?_⟩
            rcases List.mem_cons.1 h3 with rfl | h3
            · exact h2 e
            · have := h.head x h3
              rw [e] at this; omega
        · rintro (rfl | ⟨h3, _⟩)
          · exact Or.inl rfl
          · exact Or.inr h3

end Go.Proofs.YtcniahbliadgiaaDoor

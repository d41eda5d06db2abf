/-
  Plain laws of sorted rows: what is found, what is put.
-/
import Derived.Test.YtcniahbliadgiaaDoorInsD
namespace Go.Proofs.YtcniahbliadgiaaDoor
open Go.RowKit
open Go.Proofs.PnKit Go.Proofs.PnPath

theorem cp_self (a : List (List UInt8)) : cmpP a a = 0 := (cp_eq a a).2 rfl
theorem cp_gt {a b : List (List UInt8)} : 0 < cmpP a b ↔ cmpP b a < 0 := by have := cp_neg a b; omega
theorem Sorted.tail {x : Rw} {L : List Rw} (h : Sorted (x :: L)) : Sorted L := (List.pairwise_cons.1 h).2
theorem Sorted.head {x : Rw} {L : List Rw} (h : Sorted (x :: L)) : ∀ y ∈ L, cmpP (key x) (key y) < 0 := (List.pairwise_cons.1 h).1
theorem Sorted.nil : Sorted [] := List.Pairwise.nil

/-- the row of a path -/
def look (L : List Rw) (t : List (List UInt8)) : Option Rw := L.find? fun x => decide (key x = t)
theorem look_nil (t : List (List UInt8)) : look [] t = none := rfl
theorem look_cons (x : Rw) (L : List Rw) (t : List (List UInt8)) : look (x :: L) t = if key x = t then some x else look L t := by
  unfold look
  rw [List.find?_cons]
  by_cases h : key x = t
  · rw [if_pos h, decide_eq_true h]
  · rw [if_neg h, decide_eq_false h]
theorem look_some {L : List Rw} {t : List (List UInt8)} {x : Rw} (h : look L t = some x) : x ∈ L ∧ key x = t :=
  ⟨List.mem_of_find?_eq_some h, by have := List.find?_some h; simpa using this⟩
theorem look_none {L : List Rw} {t : List (List UInt8)} : look L t = none ↔ ∀ x ∈ L, key x ≠ t := by
  unfold look; rw [List.find?_eq_none]; simp
theorem look_of {L : List Rw} (h : Sorted L) {x : Rw} (hx : x ∈ L) : look L (key x) = some x := by
  induction L with
  | nil => cases hx
  | cons y L ih =>
    rw [look_cons]
    rcases List.mem_cons.1 hx with rfl | hx'
    · rw [if_pos rfl]
    · have := h.head x hx'
      rw [if_neg (fun e => by rw [e, cp_self] at this; omega), ih h.tail hx']
/-- a row's path stands once -/
theorem Sorted.uniq {L : List Rw} (h : Sorted L) {x y : Rw} (hx : x ∈ L) (hy : y ∈ L) (e : key x = key y) : x = y := by
  have h1 := look_of h hx
  have h2 := look_of h hy
  rw [e, h2] at h1
  exact (Option.some.inj h1).symm

theorem Found.look {L : List Rw} {t : List (List UInt8)} {k : Nat} {b : Bool} (h : Found L t k b) (hS : Sorted L) : (b = true → ∃ x, L[k]? = some x ∧ Go.Proofs.YtcniahbliadgiaaDoor.look L t = some x) ∧ (b = false → Go.Proofs.YtcniahbliadgiaaDoor.look L t = none) := by
  constructor
  · intro hb
    obtain ⟨x, hx, h0⟩ := h.hit.1 hb
    refine ⟨x, hx, ?_⟩
    have e := (cp_eq _ _).1 h0
    rw [← e]
    exact look_of hS (List.mem_of_getElem? hx)
  · intro hb
    rw [look_none]
    intro x hx e
    obtain ⟨i, hi⟩ := List.mem_iff_getElem?.1 hx
    have h0 : cmpP (key x) t = 0 := (cp_eq _ _).2 e
    rcases Nat.lt_trichotomy i k with h1 | h1 | h1
    · have := h.low i x h1 hi; omega
    · subst h1
      have := h.hit.2 ⟨x, hi, h0⟩
      rw [hb] at this; cases this
    · have hk : k < L.length := by have := (List.getElem?_eq_some_iff.1 hi).1; omega
      have h2 := h.up k _ (Nat.le_refl _) (List.getElem?_eq_getElem hk)
      have h3 := hS.get h1 (List.getElem?_eq_getElem hk) hi
      rw [e] at h3; omega

/-- a row put in order, in the place of the one that it was -/
def putR : List Rw → Rw → List Rw
  | [], r => [r]
  | x :: L, r => if cmpP (key x) (key r) < 0 then x :: putR L r else if key x = key r then r :: L else r :: x :: L
theorem putR_nil (r : Rw) : putR [] r = [r] := rfl
theorem putR_cons (x : Rw) (L : List Rw) (r : Rw) : putR (x :: L) r = if cmpP (key x) (key r) < 0 then x :: putR L r else if key x = key r then r :: L else r :: x :: L := rfl
theorem Found.tail {x : Rw} {L : List Rw} {t : List (List UInt8)} {k : Nat} {b : Bool} (h : Found (x :: L) t (k + 1) b) : Found L t k b :=
  ⟨by have := h.le; simp at this; omega, fun i y hi hy => h.low (i + 1) y (by omega) (by simpa using hy), fun i y hi hy => h.up (i + 1) y (by omega) (by simpa using hy), by
    have := h.hit; simpa using this⟩
theorem putR_found {r : Rw} : ∀ {L : List Rw} {k : Nat} {b : Bool}, Found L (key r) k b → putR L r = if b then L.set k r else L.take k ++ r :: L.drop k
  | [], k, b, h => by
    have h0 := h.le
    simp at h0
    subst h0
    cases b with
    | true => obtain ⟨x, hx, _⟩ := h.hit.1 rfl; simp at hx
    | false => rfl
  | x :: L, 0, b, h => by
    have h1 := h.up 0 x (Nat.le_refl _) rfl
    rw [putR_cons, if_neg (by omega)]
    cases b with
    | true =>
      obtain ⟨y, hy, h2⟩ := h.hit.1 rfl
      simp at hy; subst hy
      rw [if_pos ((cp_eq _ _).1 h2)]; rfl
    | false =>
      rw [if_neg (fun e => by have := h.hit.2 ⟨x, rfl, (cp_eq _ _).2 e⟩; cases this)]; rfl
  | x :: L, k + 1, b, h => by
    have h1 := h.low 0 x (by omega) rfl
    rw [putR_cons, if_pos h1, putR_found h.tail]
    cases b <;> rfl

theorem mem_putR {r : Rw} : ∀ {L : List Rw} {x : Rw}, x ∈ putR L r → x = r ∨ x ∈ L
  | [], x, h => by simp [putR] at h; exact Or.inl h
  | y :: L, x, h => by
    rw [putR_cons] at h
    split at h
    · rcases List.mem_cons.1 h with h | h
      · exact Or.inr (by simp [h])
      · rcases mem_putR h with h | h
        · exact Or.inl h
        · exact Or.inr (by simp [h])
    · split at h
      · rcases List.mem_cons.1 h with h | h
        · exact Or.inl h
        · exact Or.inr (by simp [h])
      · rcases List.mem_cons.1 h with h | h
        · exact Or.inl h
        · exact Or.inr h
theorem self_putR (r : Rw) : ∀ (L : List Rw), r ∈ putR L r
  | [] => by simp [putR]
  | y :: L => by
    rw [putR_cons]
    split
    · exact List.mem_cons_of_mem _ (self_putR r L)
    · split <;> simp
theorem putR_sorted {r : Rw} : ∀ {L : List Rw}, Sorted L → Sorted (putR L r)
  | [], _ => List.pairwise_singleton _ _
  | x :: L, h => by
    rw [putR_cons]
    split
    · rename_i h1
      refine List.pairwise_cons.2 ⟨fun y hy => ?_, putR_sorted h.tail⟩
      rcases mem_putR hy with rfl | hy
      · exact h1
      · exact h.head y hy
    · rename_i h1
      split
      · rename_i h2
        refine List.pairwise_cons.2 ⟨fun y hy => ?_, h.tail⟩
        rw [← h2]; exact h.head y hy
      · rename_i h2
        have h3 : cmpP (key r) (key x) < 0 := by
          have := cp_neg (key x) (key r)
          have : cmpP (key x) (key r) ≠ 0 := fun e => h2 ((cp_eq _ _).1 e)
          omega
        refine List.pairwise_cons.2 ⟨fun y hy => ?_, h⟩
        rcases List.mem_cons.1 hy with rfl | hy
        · exact h3
        · exact cp_trans _ _ _ h3 (h.head y hy)
theorem look_putR {r : Rw} : ∀ {L : List Rw}, Sorted L → ∀ (t : List (List UInt8)), look (putR L r) t = if key r = t then some r else look L t
  | [], _, t => by rw [putR_nil, look_cons]
  | x :: L, h, t => by
    rw [putR_cons]
    split
    · rename_i h1
      rw [look_cons, look_putR h.tail t, look_cons]
      by_cases e : key r = t
      · rw [if_pos e, if_pos e, if_neg (fun e2 => by rw [e2, e, cp_self] at h1; omega)]
      · rw [if_neg e, if_neg e]
    · rename_i h1
      split
      · rename_i h2
        rw [look_cons, look_cons, h2]
        by_cases e : key r = t
        · rw [if_pos e, if_pos e]
        · rw [if_neg e, if_neg e, if_neg e]
      · rw [look_cons, look_cons]
theorem putR_length {r : Rw} : ∀ {L : List Rw}, Sorted L → (putR L r).length = L.length + if (look L (key r)).isSome then 0 else 1
  | [], _ => rfl
  | x :: L, h => by
    rw [putR_cons, look_cons]
    split
    · rename_i h1
      rw [List.length_cons, putR_length h.tail, if_neg (c := key x = key r) (fun e => by rw [e, cp_self] at h1; omega), List.length_cons]; omega
    · rename_i h1
      split
      · rfl
      · rename_i h2
        have : look L (key r) = none := by
          rw [look_none]
          intro y hy e
          have h3 := h.head y hy
          rw [e] at h3; omega
        rw [this]; rfl
theorem putR_length_le {r : Rw} {L : List Rw} (h : Sorted L) : (putR L r).length ≤ L.length + 1 := by
  rw [putR_length h]; split <;> omega
theorem putR_length_ge {r : Rw} {L : List Rw} (h : Sorted L) : L.length ≤ (putR L r).length := by
  rw [putR_length h]; omega

/-- a tree's rows, as they ever are: in order; their paths clean and no longer than may be -/
structure OkT (L : List Rw) : Prop where
  sorted : Sorted L
  path : ∀ x ∈ L, ∃ P, G P ∧ P ≠ [] ∧ bl x.path = join P
  psize : ∀ x ∈ L, x.path.size ≤ 1000
theorem OkT.nil : OkT [] := ⟨Sorted.nil, (fun _ h => by cases h), (fun _ h => by cases h)⟩
theorem OkT.putR {L : List Rw} (h : OkT L) {r : Rw} {P : List (List UInt8)} (hG : G P) (hP : P ≠ []) (he : bl r.path = join P) (hs : r.path.size ≤ 1000) : OkT (putR L r) :=
  ⟨putR_sorted h.sorted, fun x hx => (mem_putR hx).elim (fun e => by subst e; exact ⟨P, hG, hP, he⟩) (h.path x), fun x hx => (mem_putR hx).elim (fun e => by subst e; exact hs) (h.psize x)⟩
theorem key_of {r : Rw} {P : List (List UInt8)} (hG : G P) (he : bl r.path = join P) : key r = P := by
  show parts (bl r.path) = P
  rw [he, parts_join P hG]
theorem OkT.key_inj {L : List Rw} (h : OkT L) {x y : Rw} (hx : x ∈ L) (hy : y ∈ L) (e : key x = key y) : x.path = y.path := by
  obtain ⟨P, h1, _, h2⟩ := h.path x hx
  obtain ⟨Q, h3, _, h4⟩ := h.path y hy
  rw [key_of h1 h2, key_of h3 h4] at e
  subst e
  exact bl_inj (h2.trans h4.symm)

end Go.Proofs.YtcniahbliadgiaaDoor

/-
  Plain: the directories in which a path lies, made where they lack; a thing added; a name more.
-/
import Derived.Test.YtcniahbliadgiaaDoorTreeC
namespace Go.Proofs.YtcniahbliadgiaaDoor
open Go.RowKit
open Go.Proofs.PnKit Go.Proofs.PnPath

def pathOf (P : List (List UInt8)) : ByteArray := ⟨(join P).toArray⟩
theorem bl_pathOf (P : List (List UInt8)) : bl (pathOf P) = join P := rfl
theorem path_eq {s : ByteArray} {P : List (List UInt8)} (h : bl s = join P) : s = pathOf P := bl_inj h

/-- a directory that nobody named -/
def dirRow (P : List (List UInt8)) (id : Int) : Rw := ⟨pathOf P, id, 4, 493, 0, true⟩
/-- of the parts, the last one first: the tree with the directories above them, the next number, the error -/
def parV (L : List Rw) (next : Int) : List (List UInt8) → List Rw × Int × Int
  | [] => (L, next, 0)
  | _ :: U =>
    if U = [] then (L, next, 0) else
    match look L U.reverse with
    | some r => if r.kind = 4 then (L, next, 0) else (L, next, 130)
    | none => if (parV L next U).2.2 ≠ 0 then (L, next, (parV L next U).2.2) else (putR (parV L next U).1 (dirRow U.reverse (parV L next U).2.1), (parV L next U).2.1 + 1, 0)
theorem parV_nil (L : List Rw) (next : Int) : parV L next [] = (L, next, 0) := rfl
theorem parV_one (L : List Rw) (next : Int) (p : List UInt8) : parV L next [p] = (L, next, 0) := rfl
theorem parV_cons (L : List Rw) (next : Int) (p : List UInt8) {U : List (List UInt8)} (h : U ≠ []) : parV L next (p :: U) =
    match look L U.reverse with
    | some r => if r.kind = 4 then (L, next, 0) else (L, next, 130)
    | none => if (parV L next U).2.2 ≠ 0 then (L, next, (parV L next U).2.2) else (putR (parV L next U).1 (dirRow U.reverse (parV L next U).2.1), (parV L next U).2.1 + 1, 0) := by
  rw [parV, if_neg h]
theorem parV_hit {L : List Rw} {next : Int} {p : List UInt8} {U : List (List UInt8)} {r : Rw} (h : U ≠ []) (hr : look L U.reverse = some r) : parV L next (p :: U) = if r.kind = 4 then (L, next, 0) else (L, next, 130) := by
  rw [parV_cons L next p h, hr]
theorem parV_miss {L : List Rw} {next : Int} {p : List UInt8} {U : List (List UInt8)} (h : U ≠ []) (hr : look L U.reverse = none) : parV L next (p :: U) =
    if (parV L next U).2.2 ≠ 0 then (L, next, (parV L next U).2.2) else (putR (parV L next U).1 (dirRow U.reverse (parV L next U).2.1), (parV L next U).2.1 + 1, 0) := by
  rw [parV_cons L next p h, hr]

theorem join_drop {P : List (List UInt8)} (h : P ≠ []) : (join P.dropLast).length ≤ (join P).length := by
  by_cases h1 : P.dropLast = []
  · rw [h1]; exact Nat.zero_le _
  · have h2 := join_append P.dropLast [P.getLast h] h1 (by simp)
    rw [List.dropLast_concat_getLast h] at h2
    rw [h2, List.length_append]; omega
theorem G_rev {U : List (List UInt8)} (h : G U) : G U.reverse := fun p hp => h p (by simpa using hp)

/-- what the directories' making keeps -/
structure Kept (L : List Rw) (next : Int) (Q : List Rw × Int × Int) (k : Nat) : Prop where
  ok : OkT Q.1
  len : L.length ≤ Q.1.length ∧ Q.1.length ≤ L.length + k
  next : next ≤ Q.2.1 ∧ Q.2.1 ≤ next + k
theorem parV_kept {L : List Rw} (hO : OkT L) (next : Int) : ∀ (V : List (List UInt8)), G V → (join V.reverse).length ≤ 1000 → Kept L next (parV L next V) V.length
  | [], _, _ => ⟨hO, ⟨Nat.le_refl _, Nat.le_refl _⟩, ⟨Int.le_refl _, by simp [parV]⟩⟩
  | p :: U, hG, hl => by
    have hz : Kept L next (L, next, 0) (p :: U).length := ⟨hO, ⟨Nat.le_refl _, Nat.le_add_right _ _⟩, ⟨Int.le_refl _, by simp; omega⟩⟩
    by_cases hU : U = []
    · subst hU; exact hz
    have hGU : G U := fun q hq => hG q (by simp [hq])
    have hlU : (join U.reverse).length ≤ 1000 := by
      have h := join_drop (P := (p :: U).reverse) (by simp)
      rw [List.reverse_cons, List.dropLast_concat] at h
      rw [List.reverse_cons] at hl
      omega
    rcases ho : look L U.reverse with _ | r
    · rw [parV_miss hU ho]
      have ih := parV_kept hO next U hGU hlU
      split
      · exact ⟨hO, ⟨Nat.le_refl _, Nat.le_add_right _ _⟩, ⟨Int.le_refl _, by simp; omega⟩⟩
      · have h1 := putR_length_le (r := dirRow U.reverse (parV L next U).2.1) ih.ok.sorted
        have h2 := putR_length_ge (r := dirRow U.reverse (parV L next U).2.1) ih.ok.sorted
        have h3 := ih.len
        have h4 := ih.next
        refine ⟨ih.ok.putR (G_rev hGU) (by simpa using hU) (bl_pathOf _) ?_, ⟨?_, ?_⟩, ⟨?_, ?_⟩⟩
        · rw [← bl_size]; exact hlU
        · show L.length ≤ (putR _ _).length; omega
        · show (putR _ _).length ≤ _; rw [List.length_cons]; omega
        · show next ≤ _ + 1; omega
        · show _ + 1 ≤ _; rw [List.length_cons]; push_cast; omega
    · rw [parV_hit hU ho]
      split
      · exact hz
      · exact ⟨hO, ⟨Nat.le_refl _, Nat.le_add_right _ _⟩, ⟨Int.le_refl _, by simp; omega⟩⟩

end Go.Proofs.YtcniahbliadgiaaDoor

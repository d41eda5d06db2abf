/-
  Plain: layer 17's planted: a tree of some things, and the document's.
-/
import Derived.Test.YtcniahbliadgiaaDoorRefP
namespace Go.Proofs.YtcniahbliadgiaaDoor
open Go.RowKit
open Go.Proofs.PnKit Go.Proofs.PnPath

/-- a thing that is put, as layer 17's statements have it -/
structure Oq where
  thing : Int
  mark : Int
  path : ByteArray
  dest : ByteArray
def stepM (more : Int) (t : List Rw × Int) (o : Oq) : List Rw × Int :=
  if (clean (bl o.path)).2 ≠ 0 ∨ o.path.size > 300 ∨ o.mark < 0 ∨ o.mark > 1000 then t else
  if o.dest.size ≠ 0 then
    if (clean (bl o.dest)).2 = 0 then ((linkV t.1 t.2 (clean (bl o.path)).1 (clean (bl o.dest)).1).1, (linkV t.1 t.2 (clean (bl o.path)).1 (clean (bl o.dest)).1).2.1) else t
  else if o.thing = 1 ∨ o.thing = 3 ∨ o.thing = 4 then ((addV t.1 t.2 (clean (bl o.path)).1 o.thing (o.mark + more) (if o.thing = 1 then o.mark else 0) false).1, (addV t.1 t.2 (clean (bl o.path)).1 o.thing (o.mark + more) (if o.thing = 1 then o.mark else 0) false).2.1)
  else t
def plantM (more : Int) (l : List Oq) : List Rw × Int := l.foldl (stepM more) ([], 0)
theorem plantM_snoc (more : Int) (l : List Oq) (o : Oq) : plantM more (l ++ [o]) = stepM more (plantM more l) o := by simp [plantM]
def stepW (t : List Th × Int) (o : Oq) : List Th × Int :=
  if (clean (bl o.path)).2 ≠ 0 ∨ o.path.size > 300 ∨ o.mark < 0 ∨ o.mark > 1000 then t else
  if o.dest.size ≠ 0 then
    if (clean (bl o.dest)).2 = 0 then ((rlinkV t.1 t.2 (clean (bl o.path)).1 (clean (bl o.dest)).1).1, (rlinkV t.1 t.2 (clean (bl o.path)).1 (clean (bl o.dest)).1).2.1) else t
  else if o.thing = 1 ∨ o.thing = 3 ∨ o.thing = 4 then ((raddV t.1 t.2 (clean (bl o.path)).1 o.thing o.mark).1, (raddV t.1 t.2 (clean (bl o.path)).1 o.thing o.mark).2.1)
  else t
def plantW (l : List Oq) : List Th × Int := l.foldl stepW ([], 0)
theorem plantW_snoc (l : List Oq) (o : Oq) : plantW (l ++ [o]) = stepW (plantW l) o := by simp [plantW]

theorem Grown.stepM {t : List Rw × Int} {k : Nat} (h : Grown t k) (more : Int) (o : Oq) : Grown (stepM more t o) (k + 1) := by
  unfold Go.Proofs.YtcniahbliadgiaaDoor.stepM
  split
  · exact h.more
  rename_i hc
  have hc0 : (clean (bl o.path)).2 = 0 := Decidable.byContradiction fun e => hc (Or.inl e)
  have hb := clean_bounds (s := o.path) (L := (clean (bl o.path)).1) (by rw [← hc0])
  have hsz : o.path.size ≤ 300 := by
    rcases Nat.lt_or_ge 300 o.path.size with h1 | h1
    · exact absurd (Or.inr (Or.inl h1)) hc
    · exact h1
  have hs0 : 0 ≤ o.mark ∧ o.mark ≤ 1000 := by
    constructor
    · exact Int.not_lt.1 fun h1 => hc (Or.inr (Or.inr (Or.inl h1)))
    · exact Int.not_lt.1 fun h1 => hc (Or.inr (Or.inr (Or.inr h1)))
  split
  · split
    · exact h.link hb.1 (by omega)
    · exact h.more
  · split
    · exact h.add hb.1 (by omega) (by split <;> omega) (fun h => by rw [if_neg h]) (fun h => by cases h)
    · exact h.more
theorem plantM_grown (more : Int) (l : List Oq) : Grown (plantM more l) l.length := by
  have key : ∀ (l : List Oq) (t : List Rw × Int) (k : Nat), Grown t k → Grown (l.foldl (Go.Proofs.YtcniahbliadgiaaDoor.stepM more) t) (k + l.length) := fun l => by
    induction l with
    | nil => exact fun t k h => h
    | cons o l ih =>
      intro t k h
      have := ih _ _ (h.stepM more o)
      rw [List.foldl_cons, List.length_cons, show k + (l.length + 1) = k + 1 + l.length by omega]; exact this
  have := key l ([], 0) 0 Grown.nil
  rwa [Nat.zero_add] at this

/-- how great the document's tree may be -/
structure GrownW (t : List Th × Int) (k : Nat) : Prop where
  nat : 0 ≤ t.2
  len : t.1.length ≤ 151 * k
  next : t.2 ≤ 151 * k
theorem raddV_bounds (T : List Th) (n : Int) {P : List (List UInt8)} (hP : P.length ≤ 150) (kind mark : Int) : (raddV T n P kind mark).1.length ≤ T.length + 151 ∧ n ≤ (raddV T n P kind mark).2.1 ∧ (raddV T n P kind mark).2.1 ≤ n + 151 := by
  have hb := parT_bounds (heads P 1) T n
  rw [heads_len] at hb
  have hw := fun x => withV_len (parT (heads P 1) (T, n)).1 x
  have hz : (T, n, (0 : Int)).1.length ≤ T.length + 151 ∧ n ≤ n ∧ n ≤ n + 151 := ⟨Nat.le_add_right _ _, Int.le_refl _, by omega⟩
  unfold raddV
  split
  · exact hz
  · split
    · split
      · exact hz
      · split
        · exact hz
        · split
          · have := hw ⟨pathOf P, kind, mark, false, ‹Th›.which⟩
            exact ⟨by show (withV _ _).length ≤ _; omega, by show n ≤ (parT (heads P 1) (T, n)).2.1; omega, by show (parT (heads P 1) (T, n)).2.1 ≤ n + 151; omega⟩
          · have := hw ⟨pathOf P, kind, mark, false, (parT (heads P 1) (T, n)).2.1⟩
            exact ⟨by show (withV _ _).length ≤ _; omega, by show n ≤ _ + 1; omega, by show _ + 1 ≤ n + 151; omega⟩
    · split
      · exact hz
      · have := hw ⟨pathOf P, kind, mark, false, (parT (heads P 1) (T, n)).2.1⟩
        exact ⟨by show (withV _ _).length ≤ _; omega, by show n ≤ _ + 1; omega, by show _ + 1 ≤ n + 151; omega⟩
theorem rlinkV_bounds (T : List Th) (n : Int) {P : List (List UInt8)} (hP : P.length ≤ 150) (Q : List (List UInt8)) : (rlinkV T n P Q).1.length ≤ T.length + 151 ∧ n ≤ (rlinkV T n P Q).2.1 ∧ (rlinkV T n P Q).2.1 ≤ n + 151 := by
  have hb := parT_bounds (heads P 1) T n
  rw [heads_len] at hb
  have hw := fun x => withV_len (parT (heads P 1) (T, n)).1 x
  have hz : (T, n, (0 : Int)).1.length ≤ T.length + 151 ∧ n ≤ n ∧ n ≤ n + 151 := ⟨Nat.le_add_right _ _, Int.le_refl _, by omega⟩
  unfold rlinkV
  split
  · exact hz
  · split
    · exact hz
    · split
      · exact hz
      · split
        · exact hz
        · rename_i x _ _ _
          have := hw ⟨pathOf P, x.kind, x.mark, x.made, x.which⟩
          exact ⟨by show (withV _ _).length ≤ _; omega, by show n ≤ (parT (heads P 1) (T, n)).2.1; omega, by show (parT (heads P 1) (T, n)).2.1 ≤ n + 151; omega⟩
theorem GrownW.more {t : List Th × Int} {k : Nat} (h : GrownW t k) : GrownW t (k + 1) := ⟨h.nat, by have := h.len; omega, by have := h.next; omega⟩
theorem GrownW.step {t : List Th × Int} {k : Nat} (h : GrownW t k) (o : Oq) : GrownW (stepW t o) (k + 1) := by
  unfold stepW
  split
  · exact h.more
  rename_i hc
  have hc0 : (clean (bl o.path)).2 = 0 := Decidable.byContradiction fun e => hc (Or.inl e)
  have hb := clean_bounds (s := o.path) (L := (clean (bl o.path)).1) (by rw [← hc0])
  have hsz : o.path.size ≤ 300 := by
    rcases Nat.lt_or_ge 300 o.path.size with h1 | h1
    · exact absurd (Or.inr (Or.inl h1)) hc
    · exact h1
  have hP : (clean (bl o.path)).1.length ≤ 150 := G_len hb.1 (by omega)
  have h1 := h.nat
  have h2 := h.len
  have h3 := h.next
  split
  · split
    · have := rlinkV_bounds t.1 t.2 hP (clean (bl o.dest)).1
      exact ⟨by show 0 ≤ (rlinkV _ _ _ _).2.1; omega, by show (rlinkV _ _ _ _).1.length ≤ _; omega, by show (rlinkV _ _ _ _).2.1 ≤ _; omega⟩
    · exact h.more
  · split
    · have := raddV_bounds t.1 t.2 hP o.thing o.mark
      exact ⟨by show 0 ≤ (raddV _ _ _ _ _).2.1; omega, by show (raddV _ _ _ _ _).1.length ≤ _; omega, by show (raddV _ _ _ _ _).2.1 ≤ _; omega⟩
    · exact h.more
theorem plantW_grown (l : List Oq) : GrownW (plantW l) l.length := by
  have key : ∀ (l : List Oq) (t : List Th × Int) (k : Nat), GrownW t k → GrownW (l.foldl stepW t) (k + l.length) := fun l => by
    induction l with
    | nil => exact fun t k h => h
    | cons o l ih =>
      intro t k h
      have := ih _ _ (h.step o)
      rw [List.foldl_cons, List.length_cons, show k + (l.length + 1) = k + 1 + l.length by omega]; exact this
  have := key l ([], 0) 0 ⟨Int.le_refl _, Nat.le_refl _, Int.le_refl _⟩
  rwa [Nat.zero_add] at this

end Go.Proofs.YtcniahbliadgiaaDoor

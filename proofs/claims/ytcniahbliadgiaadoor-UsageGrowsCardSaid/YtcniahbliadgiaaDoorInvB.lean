/-
  Plain: what a thing more, a name more do to a tree.
-/
import Derived.Test.YtcniahbliadgiaaDoorInv
namespace Go.Proofs.YtcniahbliadgiaaDoor
open Go.RowKit
open Go.Proofs.PnKit Go.Proofs.PnPath

/-- what a thing that was added has done -/
structure AddOk (L : List Rw) (n : Int) (P : List (List UInt8)) (kind mode size : Int) (made : Bool) (M : List Rw) (m : Int) (r : Rw) (n' : Int) : Prop where
  ne : P ≠ []
  par : ParOk L n P.reverse M m
  row : r.path = pathOf P ∧ r.kind = kind ∧ r.mode = mode ∧ r.size = size ∧ r.made = made
  id : (r.id = m ∧ n' = m + 1 ∧ (kind = 4 → look L P = none)) ∨ (kind = 4 ∧ n' = m ∧ ∃ o, look L P = some o ∧ o.kind = 4 ∧ r.id = o.id)
  clash : ∀ o ∈ L, key o = P → (o.kind = 4 ↔ kind = 4)
  inv : Inv (putR M r) n'
theorem rev_ne {P : List (List UInt8)} (h : P.dropLast ≠ []) : P.reverse.tail ≠ [] := fun e => h (by
  have := tail_rev P.reverse
  rw [e, List.reverse_reverse] at this; exact this.symm)
theorem ParOk.up {L : List Rw} {n : Int} {P : List (List UInt8)} {M : List Rw} {m : Int} (h : ParOk L n P.reverse M m) (hd : P.dropLast ≠ []) : ∃ o ∈ M, key o = P.dropLast ∧ o.kind = 4 := by
  have h1 := h.dir (rev_ne hd)
  rw [tail_rev, List.reverse_reverse] at h1
  exact h1
theorem ParOk.at {L : List Rw} {n : Int} {P : List (List UInt8)} {M : List Rw} {m : Int} (h : ParOk L n P.reverse M m) {o : Rw} (ho : o ∈ M) (e : key o = P) : o ∈ L := by
  rcases h.new o ho with h1 | ⟨_, _, _, _, h1, _⟩
  · exact h1
  · rw [e, List.length_reverse] at h1; omega
theorem ParOk.le {L : List Rw} {n : Int} {V : List (List UInt8)} {M : List Rw} {m : Int} (h : ParOk L n V M m) : n ≤ m := by have := h.cnt; omega
theorem ParOk.look {L : List Rw} {n : Int} {P : List (List UInt8)} {M : List Rw} {m : Int} (h : ParOk L n P.reverse M m) : look M P = look L P := by
  rcases hl : Go.Proofs.YtcniahbliadgiaaDoor.look L P with _ | o
  · rw [look_none]
    exact fun x hx e => look_none.1 hl x (h.at hx e) e
  · obtain ⟨h1, h2⟩ := look_some hl
    have := look_of h.inv.ok.sorted (h.old o h1)
    rw [h2] at this; exact this
theorem key_path {r : Rw} {P : List (List UInt8)} (hG : G P) (h : r.path = pathOf P) : key r = P := key_of hG (by rw [h]; rfl)

theorem addV_ok {L : List Rw} {n : Int} (hI : Inv L n) (hn : 0 ≤ n) {P : List (List UInt8)} (hG : G P) (hl : (join P).length ≤ 1000) {kind mode size : Int} {made : Bool} (hs : 0 ≤ size ∧ size ≤ 1048576) (hz : kind ≠ 1 → size = 0) (hm : made = true → kind = 4)
    (h0 : (addV L n P kind mode size made).2.2 = 0) : ∃ M m r, AddOk L n P kind mode size made M m r (addV L n P kind mode size made).2.1 ∧ (addV L n P kind mode size made).1 = putR M r := by
  by_cases hP : P = []
  · subst hP; rw [addV_root] at h0; exact absurd h0 (show ¬ (100 : Int) = 0 by decide)
  have hps : (pathOf P).size ≤ 1000 := by rw [← bl_size]; exact hl
  by_cases hc : ∃ o, look L P = some o ∧ ((o.kind == 4) == (kind == 4)) = false
  · obtain ⟨o, ho, hk⟩ := hc
    rw [addV_clash hP ho hk] at h0; exact absurd h0 (show ¬ (130 : Int) = 0 by decide)
  have hc' : ∀ o, look L P = some o → ((o.kind == 4) == (kind == 4)) = true := fun o ho => by
    cases h : ((o.kind == 4) == (kind == 4))
    · exact absurd ⟨o, ho, h⟩ hc
    · rfl
  have hcl : ∀ o ∈ L, key o = P → (o.kind = 4 ↔ kind = 4) := fun o ho e => by
    have h1 := hc' o (by rw [← e]; exact look_of hI.ok.sorted ho)
    have h2 : (o.kind == 4) = (kind == 4) := by simpa using h1
    constructor
    · intro h; rw [h] at h2; simpa using h2.symm
    · intro h; rw [h] at h2; simpa using h2
  by_cases he : (parV L n P.reverse).2.2 = 0
  case neg => rw [addV_err hP hc' he] at h0; exact absurd h0 he
  have hp := parV_ok hI hn P.reverse (G_rev hG) (by rw [List.reverse_reverse]; exact hl) he
  have hle := hp.le
  rcases ho : look L P with _ | o
  · rw [addV_new hP (fun o h => by rw [ho] at h; cases h) he]
    refine ⟨_, _, ⟨pathOf P, (parV L n P.reverse).2.1, kind, mode, size, made⟩, ⟨hP, hp, ⟨rfl, rfl, rfl, rfl, rfl⟩, Or.inl ⟨rfl, rfl, fun _ => ho⟩, hcl, ?_⟩, rfl⟩
    refine hp.inv.put hG hP (bl_pathOf P) hps (Int.le_add_one (Int.le_refl _)) ⟨by show 0 ≤ (parV L n P.reverse).2.1; omega, by show (parV L n P.reverse).2.1 < _ + 1; omega⟩ hs hz hm (fun hd => hp.up hd) (fun o h1 e h4 => (hcl o (hp.at h1 e) e).1 h4) (fun x hx _ e => absurd e (hp.inv.fresh x hx))
  · obtain ⟨hoL, hok⟩ := look_some ho
    have hiff := hcl o hoL hok
    by_cases h4 : kind = 4
    · rw [addV_dir hP ho (hc' o ho) he h4]
      have ho4 := hiff.2 h4
      have hid := hp.inv.ids o (hp.old o hoL)
      refine ⟨_, _, ⟨pathOf P, o.id, kind, mode, size, made⟩, ⟨hP, hp, ⟨rfl, rfl, rfl, rfl, rfl⟩, Or.inr ⟨h4, rfl, o, ho, ho4, rfl⟩, hcl, ?_⟩, rfl⟩
      refine hp.inv.put hG hP (bl_pathOf P) hps (Int.le_refl _) hid hs hz hm (fun hd => hp.up hd) (fun o h1 e h4 => (hcl o (hp.at h1 e) e).1 h4) (fun x hx kx e => ?_)
      have := hp.inv.one o (hp.old o hoL) x hx e.symm (by omega)
      exact absurd (this ▸ hok) kx
    · rw [addV_new hP (fun o' h => ⟨hc' o' h, h4⟩) he]
      refine ⟨_, _, ⟨pathOf P, (parV L n P.reverse).2.1, kind, mode, size, made⟩, ⟨hP, hp, ⟨rfl, rfl, rfl, rfl, rfl⟩, Or.inl ⟨rfl, rfl, fun h => absurd h h4⟩, hcl, ?_⟩, rfl⟩
      refine hp.inv.put hG hP (bl_pathOf P) hps (Int.le_add_one (Int.le_refl _)) ⟨by show 0 ≤ (parV L n P.reverse).2.1; omega, by show (parV L n P.reverse).2.1 < _ + 1; omega⟩ hs hz hm (fun hd => hp.up hd) (fun o h1 e h4 => (hcl o (hp.at h1 e) e).1 h4) (fun x hx _ e => absurd e (hp.inv.fresh x hx))
/-- with an error nothing has changed -/
theorem addV_same {L : List Rw} {n : Int} {P : List (List UInt8)} {kind mode size : Int} {made : Bool} (h0 : (addV L n P kind mode size made).2.2 ≠ 0) : (addV L n P kind mode size made).1 = L ∧ (addV L n P kind mode size made).2.1 = n := by
  unfold addV at h0 ⊢
  by_cases h1 : P = []
  · rw [if_pos h1]; exact ⟨rfl, rfl⟩
  · rw [if_neg h1] at h0 ⊢
    by_cases h2 : ∃ o, look L P = some o ∧ ((o.kind == 4) == (kind == 4)) = false
    · rw [if_pos h2]; exact ⟨rfl, rfl⟩
    · rw [if_neg h2] at h0 ⊢
      by_cases h3 : (parV L n P.reverse).2.2 ≠ 0
      · rw [if_pos h3]; exact ⟨rfl, rfl⟩
      · rw [if_neg h3] at h0
        exfalso
        apply h0
        rcases look L P with _ | o
        · rfl
        · simp only
          split <;> rfl

/-- what a name more has done -/
structure LinkOk (L : List Rw) (n : Int) (P Q : List (List UInt8)) (M : List Rw) (m : Int) (r : Rw) : Prop where
  ne : P ≠ []
  par : ParOk L n P.reverse M m
  src : ∃ x ∈ L, key x = Q ∧ x.kind = 1 ∧ r = ⟨pathOf P, x.id, 1, x.mode, x.size, x.made⟩
  clash : ∀ o ∈ L, key o = P → o.kind ≠ 4
  inv : Inv (putR M r) m
theorem linkV_same {L : List Rw} {n : Int} {P Q : List (List UInt8)} (h0 : (linkV L n P Q).2.2 ≠ 0) : (linkV L n P Q).1 = L ∧ (linkV L n P Q).2.1 = n := by
  unfold linkV at h0 ⊢
  by_cases h1 : P = []
  · rw [if_pos h1]; exact ⟨rfl, rfl⟩
  · rw [if_neg h1] at h0 ⊢
    rcases hq : look L Q with _ | r
    · exact ⟨rfl, rfl⟩
    · rw [hq] at h0
      simp only at h0 ⊢
      by_cases h2 : r.kind ≠ 1
      · rw [if_pos h2]; exact ⟨rfl, rfl⟩
      · rw [if_neg h2] at h0 ⊢
        by_cases h3 : ∃ o, look L P = some o ∧ o.kind = 4
        · rw [if_pos h3]; exact ⟨rfl, rfl⟩
        · rw [if_neg h3] at h0 ⊢
          by_cases h4 : (parV L n P.reverse).2.2 ≠ 0
          · rw [if_pos h4]; exact ⟨rfl, rfl⟩
          · rw [if_neg h4] at h0; exact absurd rfl h0
theorem linkV_done {L : List Rw} {n : Int} (hI : Inv L n) (hn : 0 ≤ n) {P Q : List (List UInt8)} (hG : G P) (hl : (join P).length ≤ 1000) (h0 : (linkV L n P Q).2.2 = 0) :
    ∃ M r, LinkOk L n P Q M (linkV L n P Q).2.1 r ∧ (linkV L n P Q).1 = putR M r := by
  by_cases hP : P = []
  · subst hP; rw [linkV_root] at h0; exact absurd h0 (show ¬ (100 : Int) = 0 by decide)
  rcases hx : look L Q with _ | x
  · rw [linkV_none hP hx] at h0; exact absurd h0 (show ¬ (4 : Int) = 0 by decide)
  by_cases hk : x.kind = 1
  case neg => rw [linkV_kind hP hx hk] at h0; exact absurd h0 (show ¬ (130 : Int) = 0 by decide)
  obtain ⟨hxL, hxk⟩ := look_some hx
  by_cases hd : ∃ o, look L P = some o ∧ o.kind = 4
  · obtain ⟨o, ho, h4⟩ := hd
    rw [linkV_dir hP hx ho h4] at h0; exact absurd h0 (show ¬ (130 : Int) = 0 by decide)
  have hd' : ∀ o, look L P = some o → o.kind ≠ 4 := fun o ho h => hd ⟨o, ho, h⟩
  by_cases he : (parV L n P.reverse).2.2 = 0
  case neg => rw [linkV_err hP hx hk hd' he] at h0; exact absurd h0 he
  have hp := parV_ok hI hn P.reverse (G_rev hG) (by rw [List.reverse_reverse]; exact hl) he
  have hle := hp.le
  have hcl : ∀ o ∈ L, key o = P → o.kind ≠ 4 := fun o ho e => hd' o (by rw [← e]; exact look_of hI.ok.sorted ho)
  have hxM := hp.old x hxL
  have hxs := hI.size x hxL
  have hxi := hI.ids x hxL
  rw [linkV_ok hP hx hk hd' he, hk]
  refine ⟨_, ⟨pathOf P, x.id, 1, x.mode, x.size, x.made⟩, ⟨hP, hp, ⟨x, hxL, hxk, hk, rfl⟩, hcl, ?_⟩, rfl⟩
  refine hp.inv.put hG hP (bl_pathOf P) (by rw [← bl_size]; exact hl) (Int.le_refl _) ⟨hxi.1, by show x.id < (parV L n P.reverse).2.1; omega⟩ hxs (fun h => absurd rfl h) (fun h => ?_) (fun hd => hp.up hd) (fun o h1 e h4 => absurd h4 (hcl o (hp.at h1 e) e)) (fun y hy _ e => ?_)
  · have := hI.made x hxL h; omega
  · have h1 := hp.inv.cons y hy x hxM e
    exact ⟨by rw [h1.1, hk], rfl, h1.2.1, h1.2.2⟩

theorem G_len {P : List (List UInt8)} (hG : G P) {k : Nat} (hl : (join P).length ≤ 2 * k) : P.length ≤ k := by
  by_cases h : P = []
  · subst h; exact Nat.zero_le _
  · have h1 := G_two hG
    have h2 := join_length P h
    omega

/-! a tree of some things -/
structure Tg where
  path : ByteArray
  dest : ByteArray
  kind : Int
  size : Int
def stepT (t : List Rw × Int) (x : Tg) : List Rw × Int :=
  if (clean (bl x.path)).2 ≠ 0 ∨ x.size < 0 ∨ x.size > 1048576 ∨ x.path.size > 300 then t else
  if x.dest.size ≠ 0 then
    if (clean (bl x.dest)).2 = 0 then ((linkV t.1 t.2 (clean (bl x.path)).1 (clean (bl x.dest)).1).1, (linkV t.1 t.2 (clean (bl x.path)).1 (clean (bl x.dest)).1).2.1) else t
  else if x.kind = 1 then ((addV t.1 t.2 (clean (bl x.path)).1 1 0 x.size false).1, (addV t.1 t.2 (clean (bl x.path)).1 1 0 x.size false).2.1)
  else if x.kind = 3 ∨ x.kind = 4 then ((addV t.1 t.2 (clean (bl x.path)).1 x.kind 0 0 false).1, (addV t.1 t.2 (clean (bl x.path)).1 x.kind 0 0 false).2.1)
  else t
def plantV (l : List Tg) : List Rw × Int := l.foldl stepT ([], 0)
theorem plantV_snoc (l : List Tg) (x : Tg) : plantV (l ++ [x]) = stepT (plantV l) x := by simp [plantV]

/-- what is true of a tree of so many things -/
structure Grown (t : List Rw × Int) (k : Nat) : Prop where
  inv : Inv t.1 t.2
  nat : 0 ≤ t.2
  len : t.1.length ≤ 151 * k
  next : t.2 ≤ 151 * k
theorem Grown.nil : Grown ([], 0) 0 := ⟨Inv.nil, Int.le_refl _, Nat.le_refl _, Int.le_refl _⟩
theorem Grown.more {t : List Rw × Int} {k : Nat} (h : Grown t k) : Grown t (k + 1) := ⟨h.inv, h.nat, by have := h.len; omega, by have := h.next; omega⟩
theorem Grown.add {t : List Rw × Int} {k : Nat} (h : Grown t k) {P : List (List UInt8)} (hG : G P) (hl : (join P).length ≤ 300) {kind mode size : Int} {made : Bool} (hs : 0 ≤ size ∧ size ≤ 1048576) (hz : kind ≠ 1 → size = 0) (hm : made = true → kind = 4) :
    Grown ((addV t.1 t.2 P kind mode size made).1, (addV t.1 t.2 P kind mode size made).2.1) (k + 1) := by
  by_cases h0 : (addV t.1 t.2 P kind mode size made).2.2 = 0
  · obtain ⟨M, m, r, ha, he⟩ := addV_ok h.inv h.nat hG (by omega) hs hz hm h0
    have hp := ha.par
    have h3 := putR_length_le (r := r) hp.inv.ok.sorted
    have h4 := h.len
    have h5 := h.next
    have h6 := h.nat
    have h7 := hp.le
    have hlen : P.length ≤ 150 := G_len hG (by omega)
    have hm2 : (addV t.1 t.2 P kind mode size made).2.1 ≤ m + 1 ∧ m ≤ (addV t.1 t.2 P kind mode size made).2.1 := by
      rcases ha.id with ⟨_, e, _⟩ | ⟨_, e, _⟩ <;> omega
    have hcnt := hp.cnt
    rw [List.length_reverse] at hcnt
    refine ⟨?_, by show 0 ≤ (addV t.1 t.2 P kind mode size made).2.1; omega, ?_, ?_⟩
    · show Inv (addV t.1 t.2 P kind mode size made).1 _
      rw [he]; exact ha.inv
    · show (addV t.1 t.2 P kind mode size made).1.length ≤ _
      rw [he]; omega
    · show (addV t.1 t.2 P kind mode size made).2.1 ≤ _
      omega
  · have := addV_same h0
    rw [this.1, this.2]; exact h.more
theorem Grown.link {t : List Rw × Int} {k : Nat} (h : Grown t k) {P Q : List (List UInt8)} (hG : G P) (hl : (join P).length ≤ 300) :
    Grown ((linkV t.1 t.2 P Q).1, (linkV t.1 t.2 P Q).2.1) (k + 1) := by
  by_cases h0 : (linkV t.1 t.2 P Q).2.2 = 0
  · obtain ⟨M, r, ha, he⟩ := linkV_done h.inv h.nat hG (by omega) h0
    have hp := ha.par
    have h3 := putR_length_le (r := r) hp.inv.ok.sorted
    have h4 := h.len
    have h5 := h.next
    have h6 := h.nat
    have h7 := hp.le
    have hlen : P.length ≤ 150 := G_len hG (by omega)
    have hcnt := hp.cnt
    rw [List.length_reverse] at hcnt
    refine ⟨?_, by show 0 ≤ (linkV t.1 t.2 P Q).2.1; omega, ?_, ?_⟩
    · show Inv (linkV t.1 t.2 P Q).1 _
      rw [he]; exact ha.inv
    · show (linkV t.1 t.2 P Q).1.length ≤ _
      rw [he]; omega
    · show (linkV t.1 t.2 P Q).2.1 ≤ _
      omega
  · have := linkV_same h0
    rw [this.1, this.2]; exact h.more
theorem Grown.step {t : List Rw × Int} {k : Nat} (h : Grown t k) (x : Tg) : Grown (stepT t x) (k + 1) := by
  unfold stepT
  split
  · exact h.more
  rename_i hc
  have hc0 : (clean (bl x.path)).2 = 0 := Decidable.byContradiction fun e => hc (Or.inl e)
  have hb := clean_bounds (s := x.path) (L := (clean (bl x.path)).1) (by rw [← hc0])
  have hsz : x.path.size ≤ 300 := by
    rcases Nat.lt_or_ge 300 x.path.size with h1 | h1
    · exact absurd (Or.inr (Or.inr (Or.inr h1))) hc
    · exact h1
  have hs0 : 0 ≤ x.size ∧ x.size ≤ 1048576 := by
    constructor
    · exact Int.not_lt.1 fun h1 => hc (Or.inr (Or.inl h1))
    · exact Int.not_lt.1 fun h1 => hc (Or.inr (Or.inr (Or.inl h1)))
  split
  · split
    · exact h.link hb.1 (by omega)
    · exact h.more
  · split
    · exact h.add hb.1 (by omega) hs0 (fun h => absurd rfl h) (fun h => by cases h)
    · split
      · exact h.add hb.1 (by omega) ⟨by decide, by decide⟩ (fun _ => rfl) (fun h => by cases h)
      · exact h.more
theorem Grown.fold : ∀ (l : List Tg) {t : List Rw × Int} {k : Nat}, Grown t k → Grown (l.foldl stepT t) (k + l.length)
  | [], _, _, h => h
  | x :: l, t, k, h => by
    have := Grown.fold l (h.step x)
    rw [List.foldl_cons, List.length_cons, show k + (l.length + 1) = k + 1 + l.length by omega]; exact this
theorem plantV_grown (l : List Tg) : Grown (plantV l) l.length := by
  have := Grown.fold l Grown.nil
  rwa [Nat.zero_add] at this

end Go.Proofs.YtcniahbliadgiaaDoor

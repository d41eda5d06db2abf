/-
  Plain: a tree laid over another one.
  Plain: what is in a tree that was laid over another one, and what stays true of it.
  Plain: how much a merged tree has; its files; what is gone.
  Plain: a tree laid over a tree twice.
-/
import Derived.Test.YtcniahbliadgiaaDoorUseB
namespace Go.Proofs.YtcniahbliadgiaaDoor
open Go.RowKit
open Go.Proofs.PnKit Go.Proofs.PnPath

/-- one row over a tree: the rows, the error -/
def moveR (L : List Rw) (r : Rw) (more : Int) : List Rw × Int :=
  match look L (key r) with
  | none => (putR L { r with id := r.id + more }, 0)
  | some o => if ((o.kind == 4) == (r.kind == 4)) = false then (L, 130) else if r.made = true then (L, 0) else (putR L { r with id := if r.kind = 4 then o.id else r.id + more }, 0)
/-- rows over a tree, one by one -/
def overR (L : List Rw) (more : Int) : List Rw → List Rw × Int
  | [] => (L, 0)
  | r :: R => if (moveR L r more).2 ≠ 0 then (L, (moveR L r more).2) else overR (moveR L r more).1 more R
/-- a tree over a tree: the rows, the next number, the error -/
def mergeV (a b : List Rw × Int) : List Rw × Int × Int :=
  if (overR a.1 a.2 b.1).2 ≠ 0 then (a.1, a.2, (overR a.1 a.2 b.1).2) else ((overR a.1 a.2 b.1).1, a.2 + b.2, 0)
/-- what stands behind it at a row's path -/
def resR (L : List Rw) (more : Int) (r : Rw) : Rw :=
  match look L (key r) with
  | none => { r with id := r.id + more }
  | some o => if r.made = true then o else { r with id := if r.kind = 4 then o.id else r.id + more }
/-- does a row clash? -/
def clashR (L : List Rw) (r : Rw) : Prop := ∃ o, look L (key r) = some o ∧ ((o.kind == 4) == (r.kind == 4)) = false

theorem moveR_clash {L : List Rw} {r : Rw} {more : Int} (h : clashR L r) : moveR L r more = (L, 130) := by
  obtain ⟨o, ho, hk⟩ := h
  unfold moveR
  rw [ho]
  simp only [if_pos hk]
theorem moveR_ok {L : List Rw} {r : Rw} {more : Int} (h : ¬ clashR L r) : (moveR L r more).2 = 0 := by
  unfold moveR
  rcases ho : look L (key r) with _ | o
  · rfl
  · simp only
    have hk : ¬ ((o.kind == 4) == (r.kind == 4)) = false := fun hk => h ⟨o, ho, hk⟩
    rw [if_neg hk]
    split <;> rfl
theorem key_id (r : Rw) (i : Int) : key { r with id := i } = key r := rfl
/-- what is found behind one row laid over -/
theorem moveR_look {L : List Rw} (hS : Sorted L) {r : Rw} {more : Int} (h : ¬ clashR L r) (t : List (List UInt8)) : look (moveR L r more).1 t = if key r = t then some (resR L more r) else look L t := by
  unfold moveR resR
  rcases ho : look L (key r) with _ | o
  · simp only
    rw [look_putR hS, key_id]
  · simp only
    have hk : ¬ ((o.kind == 4) == (r.kind == 4)) = false := fun hk => h ⟨o, ho, hk⟩
    rw [if_neg hk]
    by_cases hm : r.made = true
    · rw [if_pos hm, if_pos hm]
      by_cases e : key r = t
      · rw [if_pos e, ← e, ho]
      · rw [if_neg e]
    · rw [if_neg hm, if_neg hm, look_putR hS, key_id]
theorem moveR_sorted {L : List Rw} (hS : Sorted L) (r : Rw) (more : Int) : Sorted (moveR L r more).1 := by
  unfold moveR
  rcases look L (key r) with _ | o
  · exact putR_sorted hS
  · simp only
    split
    · exact hS
    · split
      · exact hS
      · exact putR_sorted hS
/-- all rows, their paths distinct: no clash, and what is found -/
theorem overR_look {more : Int} : ∀ (R : List Rw) {L : List Rw}, Sorted L → Sorted R → (∀ r ∈ R, ¬ clashR L r) →
    (overR L more R).2 = 0 ∧ Sorted (overR L more R).1 ∧ ∀ t, look (overR L more R).1 t = match look R t with | some r => some (resR L more r) | none => look L t
  | [], L, hS, _, _ => ⟨rfl, hS, fun t => by simp [overR, look_nil]⟩
  | r :: R, L, hS, hR, hc => by
    have h0 := moveR_ok (more := more) (hc r (by simp))
    have hl := moveR_look hS (more := more) (hc r (by simp))
    have hne : ∀ x ∈ R, key r ≠ key x := fun x hx e => by
      have := hR.head x hx
      rw [e, cp_self] at this; omega
    have same : ∀ x ∈ R, look (moveR L r more).1 (key x) = look L (key x) := fun x hx => by rw [hl, if_neg (hne x hx)]
    have hc' : ∀ x ∈ R, ¬ clashR (moveR L r more).1 x := fun x hx ⟨o, ho, hk⟩ => hc x (by simp [hx]) ⟨o, by rw [← same x hx]; exact ho, hk⟩
    have ih := overR_look (more := more) R (moveR_sorted hS r more) hR.tail hc'
    rw [overR, if_neg (by rw [h0]; decide)]
    refine ⟨ih.1, ih.2.1, fun t => ?_⟩
    rw [ih.2.2 t, look_cons]
    by_cases e : key r = t
    · rw [if_pos e]
      have hn : look R t = none := look_none.2 fun x hx ex => hne x hx (by rw [ex]; exact e)
      rw [hn]
      simp only
      rw [hl, if_pos e]
    · rw [if_neg e]
      rcases hx : look R t with _ | x
      · simp only
        rw [hl, if_neg e]
      · simp only
        obtain ⟨h1, h2⟩ := look_some hx
        unfold resR
        rw [same x h1]
/-- a clash ends it -/
theorem overR_clash {more : Int} : ∀ (R : List Rw) {L : List Rw}, Sorted L → Sorted R → (∃ r ∈ R, clashR L r) → (overR L more R).2 = 130
  | [], L, _, _, h => by obtain ⟨r, hr, _⟩ := h; cases hr
  | r :: R, L, hS, hR, h => by
    by_cases hc : clashR L r
    · rw [overR, moveR_clash hc, if_pos (show (130 : Int) ≠ 0 by decide)]
    · have h0 := moveR_ok (more := more) hc
      have hl := moveR_look hS (more := more) hc
      have hne : ∀ x ∈ R, key r ≠ key x := fun x hx e => by
        have := hR.head x hx
        rw [e, cp_self] at this; omega
      rw [overR, if_neg (by rw [h0]; decide)]
      refine overR_clash R (moveR_sorted hS r more) hR.tail ?_
      obtain ⟨x, hx, o, ho, hk⟩ := h
      rcases List.mem_cons.1 hx with rfl | hx
      · exact absurd ⟨o, ho, hk⟩ hc
      · exact ⟨x, hx, o, by rw [hl, if_neg (hne x hx)]; exact ho, hk⟩

end Go.Proofs.YtcniahbliadgiaaDoor

namespace Go.Proofs.YtcniahbliadgiaaDoor
open Go.RowKit
open Go.Proofs.PnKit Go.Proofs.PnPath

theorem resR_key (L : List Rw) (more : Int) (r : Rw) : key (resR L more r) = key r := by
  unfold resR
  rcases ho : look L (key r) with _ | o
  · rfl
  · simp only
    split
    · exact (look_some ho).2
    · rfl
theorem mem_look {L : List Rw} (h : Sorted L) {x : Rw} : x ∈ L ↔ look L (key x) = some x := ⟨look_of h, fun e => (look_some e).1⟩
theorem overR_mem {more : Int} {R L : List Rw} (hS : Sorted L) (hR : Sorted R) (hc : ∀ r ∈ R, ¬ clashR L r) {x : Rw} :
    x ∈ (overR L more R).1 ↔ (∃ r ∈ R, x = resR L more r) ∨ (x ∈ L ∧ look R (key x) = none) := by
  have ho := overR_look (more := more) R hS hR hc
  rw [mem_look ho.2.1, ho.2.2]
  constructor
  · intro h
    rcases hr : look R (key x) with _ | r
    · rw [hr] at h
      exact Or.inr ⟨(look_some h).1, rfl⟩
    · rw [hr] at h
      exact Or.inl ⟨r, (look_some hr).1, (Option.some.inj h).symm⟩
  · rintro (⟨r, hr, rfl⟩ | ⟨h1, h2⟩)
    · rw [resR_key, look_of hR hr]
    · rw [h2]; exact look_of hS h1
/-- a row that is laid has the kind of what it stands on, as to directories -/
theorem resR_kind {L : List Rw} {more : Int} {r : Rw} (hc : ¬ clashR L r) : (resR L more r).kind = 4 ↔ r.kind = 4 := by
  unfold resR
  rcases ho : look L (key r) with _ | o
  · exact Iff.rfl
  · simp only
    have hk : ((o.kind == 4) == (r.kind == 4)) = true := by
      cases h : ((o.kind == 4) == (r.kind == 4))
      · exact absurd ⟨o, ho, h⟩ hc
      · rfl
    split
    · have h2 : (o.kind == 4) = (r.kind == 4) := by simpa using hk
      constructor
      · intro h; rw [h] at h2; simpa using h2.symm
      · intro h; rw [h] at h2; simpa using h2
    · exact Iff.rfl

/-- where a row of a merged tree comes from -/
theorem merge_from {a b : List Rw} {n m : Int} (ha : Inv a n) (hb : Inv b m) (hc : ∀ r ∈ b, ¬ clashR a r) {x : Rw} (hx : x ∈ (overR a n b).1) :
    (∃ o ∈ a, key o = key x ∧ o.id = x.id ∧ (x = o ∨ (o.kind = 4 ∧ x.kind = 4))) ∨ (∃ r ∈ b, x = { r with id := r.id + n }) := by
  rcases (overR_mem ha.ok.sorted hb.ok.sorted hc).1 hx with ⟨r, hr, rfl⟩ | ⟨h1, _⟩
  · have hkind := resR_kind (more := n) (hc r hr)
    unfold resR at hkind ⊢
    rcases ho : look a (key r) with _ | o
    · exact Or.inr ⟨r, hr, rfl⟩
    · obtain ⟨hoa, hok⟩ := look_some ho
      rw [ho] at hkind
      simp only at hkind ⊢
      by_cases hm : r.made = true
      · rw [if_pos hm]
        exact Or.inl ⟨o, hoa, rfl, rfl, Or.inl rfl⟩
      · rw [if_neg hm] at hkind ⊢
        by_cases h4 : r.kind = 4
        · rw [if_pos h4]
          have hk : ((o.kind == 4) == (r.kind == 4)) = true := by
            cases h : ((o.kind == 4) == (r.kind == 4))
            · exact absurd ⟨o, ho, h⟩ (hc r hr)
            · rfl
          have ho4 : o.kind = 4 := by rw [h4] at hk; simpa using hk
          exact Or.inl ⟨o, hoa, hok, rfl, Or.inr ⟨ho4, h4⟩⟩
        · rw [if_neg h4]
          exact Or.inr ⟨r, hr, rfl⟩
  · exact Or.inl ⟨x, h1, rfl, rfl, Or.inl rfl⟩
theorem merge_cons {a b : List Rw} {n m : Int} (ha : Inv a n) (hb : Inv b m) (hc : ∀ r ∈ b, ¬ clashR a r) :
    (∀ x ∈ (overR a n b).1, ∀ y ∈ (overR a n b).1, x.id = y.id → x.kind = y.kind ∧ x.mode = y.mode ∧ x.size = y.size) ∧ (∀ x ∈ (overR a n b).1, ∀ y ∈ (overR a n b).1, x.id = y.id → x.kind ≠ 1 → x = y) := by
  have hS := (overR_look (more := n) b ha.ok.sorted hb.ok.sorted hc).2.1
  have key2 : ∀ x ∈ (overR a n b).1, ∀ y ∈ (overR a n b).1, x.id = y.id → x = y ∨ (∃ o ∈ a, ∃ q ∈ a, x = o ∧ y = q) ∨ (∃ r ∈ b, ∃ q ∈ b, x = { r with id := r.id + n } ∧ y = { q with id := q.id + n } ∧ r.id = q.id) := by
    intro x hx y hy e
    rcases merge_from ha hb hc hx with ⟨o, ho, ko, io, h1⟩ | ⟨r, hr, rfl⟩ <;> rcases merge_from ha hb hc hy with ⟨q, hq, kq, iq, h2⟩ | ⟨s, hs, rfl⟩
    · by_cases hall : x = o ∧ y = q
      · exact Or.inr (Or.inl ⟨o, ho, q, hq, hall.1, hall.2⟩)
      · have hoq : o = q := by
          rcases h1 with h1 | ⟨h1, _⟩
          · rcases h2 with h2 | ⟨h2, _⟩
            · exact absurd ⟨h1, h2⟩ hall
            · exact (ha.one q hq o ho (by omega) (by omega)).symm
          · exact ha.one o ho q hq (by omega) (by omega)
        subst hoq
        exact Or.inl (hS.uniq hx hy (by rw [← ko, ← kq]))
    · have h3 := ha.ids o ho
      have h4 := hb.ids s hs
      simp only at e; omega
    · have h3 := ha.ids q hq
      have h4 := hb.ids r hr
      simp only at e; omega
    · simp only at e
      exact Or.inr (Or.inr ⟨r, hr, s, hs, rfl, rfl, by omega⟩)
  constructor
  · intro x hx y hy e
    rcases key2 x hx y hy e with rfl | ⟨o, ho, q, hq, rfl, rfl⟩ | ⟨r, hr, q, hq, rfl, rfl, he⟩
    · exact ⟨rfl, rfl, rfl⟩
    · exact ha.cons _ ho _ hq e
    · exact hb.cons r hr q hq he
  · intro x hx y hy e h1
    rcases key2 x hx y hy e with rfl | ⟨o, ho, q, hq, rfl, rfl⟩ | ⟨r, hr, q, hq, rfl, rfl, he⟩
    · rfl
    · exact ha.one _ ho _ hq e h1
    · have := hb.one r hr q hq he h1
      rw [this]

/-- a merged tree is a tree -/
theorem merge_inv {a b : List Rw} {n m : Int} (ha : Inv a n) (hb : Inv b m) (hn : 0 ≤ n) (hm : 0 ≤ m) (hc : ∀ r ∈ b, ¬ clashR a r) : Inv (overR a n b).1 (n + m) := by
  have hl := overR_look (more := n) b ha.ok.sorted hb.ok.sorted hc
  have hmem := fun {x : Rw} => overR_mem (more := n) ha.ok.sorted hb.ok.sorted hc (x := x)
  have hcs := merge_cons ha hb hc
  have hpath : ∀ x ∈ (overR a n b).1, ∃ y, (y ∈ a ∨ y ∈ b) ∧ x.path = y.path ∧ x.size = y.size ∧ x.made = y.made ∧ (x.kind = y.kind) := fun x hx => by
    rcases hmem.1 hx with ⟨r, hr, rfl⟩ | ⟨h1, _⟩
    · unfold resR
      rcases ho : look a (key r) with _ | o
      · exact ⟨r, Or.inr hr, rfl, rfl, rfl, rfl⟩
      · simp only
        split
        · exact ⟨o, Or.inl (look_some ho).1, rfl, rfl, rfl, rfl⟩
        · exact ⟨r, Or.inr hr, rfl, rfl, rfl, rfl⟩
    · exact ⟨x, Or.inl h1, rfl, rfl, rfl, rfl⟩
  have dir : ∀ o, (o ∈ a ∨ o ∈ b) → o.kind = 4 → ∃ o' ∈ (overR a n b).1, key o' = key o ∧ o'.kind = 4 := fun o ho h4 => by
    rcases hr : look b (key o) with _ | r
    · rcases ho with ho | ho
      · exact ⟨o, hmem.2 (Or.inr ⟨ho, hr⟩), rfl, h4⟩
      · exact absurd (look_of hb.ok.sorted ho) (by rw [hr]; simp)
    · obtain ⟨hrb, hrk⟩ := look_some hr
      refine ⟨resR a n r, hmem.2 (Or.inl ⟨r, hrb, rfl⟩), by rw [resR_key, hrk], (resR_kind (hc r hrb)).2 ?_⟩
      rcases ho with ho | ho
      · have hla := look_of ha.ok.sorted ho
        rw [← hrk] at hla
        have hk : ((o.kind == 4) == (r.kind == 4)) = true := by
          cases h : ((o.kind == 4) == (r.kind == 4))
          · exact absurd ⟨o, hla, h⟩ (hc r hrb)
          · rfl
        rw [h4] at hk
        simpa using hk
      · rw [← hb.ok.sorted.uniq ho hrb hrk.symm]; exact h4
  refine ⟨⟨hl.2.1, fun x hx => ?_, fun x hx => ?_⟩, hcs.1, fun x hx => ?_, hcs.2, fun x hx hd => ?_, fun x hx => ?_, fun x hx => ?_, fun x hx => ?_⟩
  · obtain ⟨y, hy, e, _⟩ := hpath x hx
    rw [e]
    exact hy.elim (ha.ok.path y) (hb.ok.path y)
  · obtain ⟨y, hy, e, _⟩ := hpath x hx
    rw [e]
    exact hy.elim (ha.ok.psize y) (hb.ok.psize y)
  · rcases merge_from ha hb hc hx with ⟨o, ho, _, e, _⟩ | ⟨r, hr, rfl⟩
    · have := ha.ids o ho; omega
    · have := hb.ids r hr; simp only; omega
  · obtain ⟨y, hy, e, _⟩ := hpath x hx
    have ek : key x = key y := by show parts (bl x.path) = parts (bl y.path); rw [e]
    rw [ek] at hd ⊢
    rcases hy with hy | hy
    · obtain ⟨o, ho, e2, h4⟩ := ha.up y hy hd
      obtain ⟨o', h1, h2, h3⟩ := dir o (Or.inl ho) h4
      exact ⟨o', h1, by rw [h2, e2], h3⟩
    · obtain ⟨o, ho, e2, h4⟩ := hb.up y hy hd
      obtain ⟨o', h1, h2, h3⟩ := dir o (Or.inr ho) h4
      exact ⟨o', h1, by rw [h2, e2], h3⟩
  · obtain ⟨y, hy, _, e, _⟩ := hpath x hx
    rw [e]
    exact hy.elim (ha.size y) (hb.size y)
  · obtain ⟨y, hy, _, e, _, ek⟩ := hpath x hx
    rw [e, ek]
    exact hy.elim (ha.zero y) (hb.zero y)
  · obtain ⟨y, hy, _, _, e, ek⟩ := hpath x hx
    rw [e, ek]
    exact hy.elim (ha.made y) (hb.made y)

end Go.Proofs.YtcniahbliadgiaaDoor

namespace Go.Proofs.YtcniahbliadgiaaDoor
open Go.RowKit
open Go.Proofs.PnKit Go.Proofs.PnPath

/-! sums over two ranges of numbers -/
theorem sumTo_shift (f : Int → Int) (n : Nat) : ∀ m : Nat, sumTo f (n + m) = sumTo f n + sumTo (fun i => f (i + n)) m
  | 0 => by simp [sumTo]
  | m + 1 => by
    rw [show n + (m + 1) = (n + m) + 1 by omega]
    simp only [sumTo]
    rw [sumTo_shift f n m, show (((n + m : Nat)) : Int) = (m : Int) + n by push_cast; omega]
    omega
theorem toNat_add {a b : Int} (ha : 0 ≤ a) (hb : 0 ≤ b) : (a + b).toNat = a.toNat + b.toNat := by omega

/-- is there a file of this number? -/
def fIn : List Rw → Int → Int
  | [], _ => 0
  | r :: L, i => if r.id = i ∧ r.kind = 1 then 1 else fIn L i
theorem fIn_cases (i : Int) : ∀ (L : List Rw), (∃ x ∈ L, x.id = i ∧ x.kind = 1 ∧ fIn L i = 1) ∨ ((∀ x ∈ L, x.id = i → x.kind ≠ 1) ∧ fIn L i = 0)
  | [] => Or.inr ⟨(fun _ h => by cases h), rfl⟩
  | r :: L => by
    rw [fIn]
    by_cases h : r.id = i ∧ r.kind = 1
    · rw [if_pos h]; exact Or.inl ⟨r, by simp, h.1, h.2, rfl⟩
    · rw [if_neg h]
      rcases fIn_cases i L with ⟨x, h1, h2, h3, h4⟩ | ⟨h1, h2⟩
      · exact Or.inl ⟨x, by simp [h1], h2, h3, h4⟩
      · exact Or.inr ⟨fun x hx e => (List.mem_cons.1 hx).elim (fun e2 => by subst e2; exact fun h3 => h ⟨e, h3⟩) (fun h3 => h1 x h3 e), h2⟩
theorem fIn_of {L : List Rw} {x : Rw} (hx : x ∈ L) (h : x.kind = 1) : fIn L x.id = 1 := by
  rcases fIn_cases x.id L with ⟨_, _, _, _, e⟩ | ⟨h1, _⟩
  · exact e
  · exact absurd h (h1 x hx rfl)
theorem fIn_none {L : List Rw} {i : Int} (h : ∀ x ∈ L, x.id = i → x.kind ≠ 1) : fIn L i = 0 := by
  rcases fIn_cases i L with ⟨x, h1, h2, h3, _⟩ | ⟨_, e⟩
  · exact absurd h3 (h x h1 h2)
  · exact e
theorem fIn_bound (L : List Rw) (i : Int) : fIn L i = 0 ∨ fIn L i = 1 := by
  rcases fIn_cases i L with ⟨_, _, _, _, e⟩ | ⟨_, e⟩
  · exact Or.inr e
  · exact Or.inl e
theorem fIn_iff {L : List Rw} {i : Int} : fIn L i = 1 ↔ ∃ x ∈ L, x.id = i ∧ x.kind = 1 := by
  constructor
  · intro h
    rcases fIn_cases i L with ⟨x, h1, h2, h3, _⟩ | ⟨_, e⟩
    · exact ⟨x, h1, h2, h3⟩
    · omega
  · rintro ⟨x, h1, rfl, h3⟩; exact fIn_of h1 h3
/-- is a file's number there, and gone in the other one? its bytes -/
def gIn (L M : List Rw) (i : Int) : Int := if fIn L i = 1 ∧ fIn M i = 0 then 1 else 0
def gSz (L M : List Rw) (i : Int) : Int := if fIn L i = 1 ∧ fIn M i = 0 then szOf L i else 0
theorem gone_self (L : List Rw) (n : Nat) : sumTo (gIn L L) n = 0 := by
  rw [sumTo_congr (g := fun _ => 0) n (fun i _ _ => by unfold gIn; rw [if_neg (by omega)]), sumTo_zero]

/-! a merged tree's numbers -/
section
variable {a b : List Rw} {n m : Int}

theorem noclash_kind {L : List Rw} {r o : Rw} (hc : ¬ clashR L r) (ho : look L (key r) = some o) : (o.kind = 4 ↔ r.kind = 4) := by
  have hk : ((o.kind == 4) == (r.kind == 4)) = true := by
    cases h : ((o.kind == 4) == (r.kind == 4))
    · exact absurd ⟨o, ho, h⟩ hc
    · rfl
  have h2 : (o.kind == 4) = (r.kind == 4) := by simpa using hk
  constructor
  · intro h; rw [h] at h2; simpa using h2.symm
  · intro h; rw [h] at h2; simpa using h2
/-- what isn't a directory is laid under a number of its own -/
theorem resR_plain {L : List Rw} {more : Int} {r : Rw} (hm : r.made = true → r.kind = 4) (h4 : r.kind ≠ 4) : resR L more r = { r with id := r.id + more } := by
  unfold resR
  rcases ho : look L (key r) with _ | o
  · rfl
  · have hmm : ¬ r.made = true := fun h => h4 (hm h)
    simp only [if_neg hmm, if_neg h4]
theorem res_mem (ha : Inv a n) (hb : Inv b m) (hc : ∀ r ∈ b, ¬ clashR a r) {r : Rw} (hr : r ∈ b) : resR a n r ∈ (overR a n b).1 :=
  (overR_mem ha.ok.sorted hb.ok.sorted hc).2 (Or.inl ⟨r, hr, rfl⟩)
theorem keep_mem (ha : Inv a n) (hb : Inv b m) (hc : ∀ r ∈ b, ¬ clashR a r) {x : Rw} (hx : x ∈ a) (hn : look b (key x) = none) : x ∈ (overR a n b).1 :=
  (overR_mem ha.ok.sorted hb.ok.sorted hc).2 (Or.inr ⟨hx, hn⟩)
/-- a row of a low number that isn't a directory is the base's, and nothing stands on it -/
theorem merge_low (ha : Inv a n) (hb : Inv b m) (hc : ∀ r ∈ b, ¬ clashR a r) {x : Rw} (hx : x ∈ (overR a n b).1) (hi : x.id < n) (h4 : x.kind ≠ 4) : x ∈ a ∧ look b (key x) = none := by
  rcases (overR_mem ha.ok.sorted hb.ok.sorted hc).1 hx with ⟨r, hr, rfl⟩ | h
  · have hrk : r.kind ≠ 4 := fun h => h4 ((resR_kind (hc r hr)).2 h)
    rw [resR_plain (hb.made r hr) hrk] at hi
    have := hb.ids r hr
    simp only at hi; omega
  · exact h
theorem merge_sz (ha : Inv a n) (hb : Inv b m) (hc : ∀ r ∈ b, ¬ clashR a r) {i : Int} (hi : i < n) : szOf (overR a n b).1 i ≤ szOf a i := by
  rcases szOf_cases i (overR a n b).1 with ⟨x, hx, hxi, e⟩ | ⟨_, e⟩
  · rw [e]
    rcases merge_from ha hb hc hx with ⟨o, ho, _, io, h1⟩ | ⟨r, hr, rfl⟩
    · rcases h1 with rfl | ⟨_, h4⟩
      · rw [← hxi, szOf_of ha.cons ho]; exact Int.le_refl _
      · rw [own_dir h4]; exact szOf_nonneg ha i
    · have := hb.ids r hr; simp only at hxi; omega
  · rw [e]; exact szOf_nonneg ha i
theorem merge_sz2 (ha : Inv a n) (hb : Inv b m) (hc : ∀ r ∈ b, ¬ clashR a r) {i : Int} (hi : 0 ≤ i) : szOf (overR a n b).1 (i + n) ≤ szOf b i := by
  rcases szOf_cases (i + n) (overR a n b).1 with ⟨x, hx, hxi, e⟩ | ⟨_, e⟩
  · rw [e]
    rcases merge_from ha hb hc hx with ⟨o, ho, _, io, h1⟩ | ⟨r, hr, rfl⟩
    · have := ha.ids o ho; omega
    · simp only at hxi
      obtain rfl : r.id = i := by omega
      rw [szOf_of hb.cons hr]; exact Int.le_refl _
  · rw [e]; exact szOf_nonneg hb i
theorem merge_in (ha : Inv a n) (hb : Inv b m) (hc : ∀ r ∈ b, ¬ clashR a r) {i : Int} (hi : i < n) : isIn (overR a n b).1 i ≤ isIn a i := by
  rcases isIn_cases i (overR a n b).1 with ⟨x, hx, hxi, e⟩ | ⟨_, e⟩
  · rw [e]
    rcases merge_from ha hb hc hx with ⟨o, ho, _, io, h1⟩ | ⟨r, hr, rfl⟩
    · rw [← hxi, ← io, isIn_of ho]; exact Int.le_refl _
    · have := hb.ids r hr; simp only at hxi; omega
  · rw [e]; exact (isIn_bound a i).1
theorem merge_in2 (ha : Inv a n) (hb : Inv b m) (hc : ∀ r ∈ b, ¬ clashR a r) {i : Int} (hi : 0 ≤ i) : isIn (overR a n b).1 (i + n) ≤ isIn b i := by
  rcases isIn_cases (i + n) (overR a n b).1 with ⟨x, hx, hxi, e⟩ | ⟨_, e⟩
  · rw [e]
    rcases merge_from ha hb hc hx with ⟨o, ho, _, io, h1⟩ | ⟨r, hr, rfl⟩
    · have := ha.ids o ho; omega
    · simp only at hxi
      obtain rfl : r.id = i := by omega
      rw [isIn_of hr]; exact Int.le_refl _
  · rw [e]; exact (isIn_bound b i).1
/-- each row's path is one of the two trees' -/
theorem merge_path (ha : Inv a n) (hb : Inv b m) (hc : ∀ r ∈ b, ¬ clashR a r) {x : Rw} (hx : x ∈ (overR a n b).1) : ∃ y, (y ∈ a ∨ y ∈ b) ∧ x.path = y.path := by
  rcases (overR_mem ha.ok.sorted hb.ok.sorted hc).1 hx with ⟨r, hr, rfl⟩ | ⟨h1, _⟩
  · unfold resR
    rcases ho : look a (key r) with _ | o
    · exact ⟨r, Or.inr hr, rfl⟩
    · simp only
      split
      · exact ⟨o, Or.inl (look_some ho).1, rfl⟩
      · exact ⟨r, Or.inr hr, rfl⟩
  · exact ⟨x, Or.inl h1, rfl⟩
/-- no more than both together -/
theorem us_merge (ha : Inv a n) (hb : Inv b m) (hn : 0 ≤ n) (hm : 0 ≤ m) (hc : ∀ r ∈ b, ¬ clashR a r) :
    (us (overR a n b).1).bytes ≤ (us a).bytes + (us b).bytes ∧ (us (overR a n b).1).inodes ≤ (us a).inodes + (us b).inodes ∧
    (us (overR a n b).1).depth ≤ max (us a).depth (us b).depth ∧ (us (overR a n b).1).length ≤ max (us a).length (us b).length := by
  have hi := (merge_inv ha hb hn hm hc).toIds (by omega)
  rw [toNat_add hn hm] at hi
  have e : ((n.toNat : Nat) : Int) = n := Int.toNat_of_nonneg hn
  refine ⟨?_, ?_, ?_, ?_⟩
  · rw [us_bytes hi, us_bytes (ha.toIds hn), us_bytes (hb.toIds hm), sumTo_shift]
    refine Int.add_le_add (sumTo_le _ fun i _ h => merge_sz ha hb hc (by omega)) (sumTo_le _ fun i h _ => ?_)
    rw [e]; exact merge_sz2 ha hb hc h
  · rw [us_inodes hi, us_inodes (ha.toIds hn), us_inodes (hb.toIds hm), sumTo_shift]
    refine Int.add_le_add (sumTo_le _ fun i _ h => merge_in ha hb hc (by omega)) (sumTo_le _ fun i h _ => ?_)
    rw [e]; exact merge_in2 ha hb hc h
  · rw [us_depth, us_depth, us_depth]
    refine maxF_le.2 ⟨by have := (maxF_ge (f := fun r => ((key r).length : Int)) (L := a) (d := 0)).1; omega, fun x hx => ?_⟩
    obtain ⟨y, hy, ep⟩ := merge_path ha hb hc hx
    have ek : key x = key y := by show parts (bl x.path) = parts (bl y.path); rw [ep]
    rw [ek]
    rcases hy with hy | hy
    · have := (maxF_ge (f := fun r => ((key r).length : Int)) (L := a) (d := 0)).2 y hy; omega
    · have := (maxF_ge (f := fun r => ((key r).length : Int)) (L := b) (d := 0)).2 y hy; omega
  · rw [us_length, us_length, us_length]
    refine maxF_le.2 ⟨by have := (maxF_ge (f := fun r => (r.path.size : Int)) (L := a) (d := 0)).1; omega, fun x hx => ?_⟩
    obtain ⟨y, hy, ep⟩ := merge_path ha hb hc hx
    rw [ep]
    rcases hy with hy | hy
    · have := (maxF_ge (f := fun r => (r.path.size : Int)) (L := a) (d := 0)).2 y hy; omega
    · have := (maxF_ge (f := fun r => (r.path.size : Int)) (L := b) (d := 0)).2 y hy; omega

/-! files -/
/-- the upper one's files are all there -/
theorem merge_f2 (ha : Inv a n) (hb : Inv b m) (hc : ∀ r ∈ b, ¬ clashR a r) {i : Int} (hi : 0 ≤ i) : fIn (overR a n b).1 (i + n) = fIn b i := by
  rcases fIn_cases i b with ⟨r, hr, hri, hk, e⟩ | ⟨hno, e⟩
  · rw [e]
    have h1 := res_mem ha hb hc hr
    rw [resR_plain (hb.made r hr) (by omega)] at h1
    have h2 := fIn_of h1 hk
    simp only at h2
    rw [← hri]; exact h2
  · rw [e]
    refine fIn_none fun x hx hxi hk => ?_
    rcases merge_from ha hb hc hx with ⟨o, ho, _, io, h1⟩ | ⟨r, hr, rfl⟩
    · have := ha.ids o ho; omega
    · simp only at hxi hk
      exact hno r hr (by omega) hk
/-- a file of the base is there, or it is gone -/
theorem merge_f1 (ha : Inv a n) (hb : Inv b m) (hc : ∀ r ∈ b, ¬ clashR a r) {i : Int} (hi : i < n) : fIn (overR a n b).1 i = 1 ↔ ∃ x ∈ a, x.id = i ∧ x.kind = 1 ∧ look b (key x) = none := by
  rw [fIn_iff]
  constructor
  · rintro ⟨x, hx, rfl, hk⟩
    obtain ⟨h1, h2⟩ := merge_low ha hb hc hx hi (by omega)
    exact ⟨x, h1, rfl, hk, h2⟩
  · rintro ⟨x, hx, rfl, hk, hn⟩
    exact ⟨x, keep_mem ha hb hc hx hn, rfl, hk⟩
/-- a file's number has a name just if it is a file's number there -/
theorem merge_named (ha : Inv a n) (hb : Inv b m) (hc : ∀ r ∈ b, ¬ clashR a r) {i : Int} (hi : i < n) (hf : fIn a i = 1) : (∀ x ∈ (overR a n b).1, x.id ≠ i) ↔ fIn (overR a n b).1 i = 0 := by
  obtain ⟨f, hfa, hfi, hfk⟩ := fIn_iff.1 hf
  constructor
  · exact fun h => fIn_none fun x hx e => absurd e (h x hx)
  · intro h x hx e
    rcases merge_from ha hb hc hx with ⟨o, ho, _, io, h1⟩ | ⟨r, hr, rfl⟩
    · have hok := (ha.cons o ho f hfa (by omega)).1
      rcases h1 with rfl | ⟨h4, _⟩
      · have := fIn_of hx (by omega)
        rw [e] at this; omega
      · omega
    · have := hb.ids r hr; simp only at e; omega

/-- the rows of both, those at one path counted once -/
theorem moveR_length {L : List Rw} (hS : Sorted L) {r : Rw} {more : Int} (h : ¬ clashR L r) : (moveR L r more).1.length = L.length + if (look L (key r)).isSome then 0 else 1 := by
  unfold moveR
  rcases ho : look L (key r) with _ | o
  · simp only
    rw [putR_length hS, key_id, ho]
  · simp only
    have hk : ¬ ((o.kind == 4) == (r.kind == 4)) = false := fun hk => h ⟨o, ho, hk⟩
    rw [if_neg hk]
    split
    · rfl
    · rw [putR_length hS, key_id, ho]
theorem overR_length {more : Int} : ∀ (R : List Rw) {L : List Rw}, Sorted L → Sorted R → (∀ r ∈ R, ¬ clashR L r) →
    (overR L more R).1.length + (R.filter fun r => (look L (key r)).isSome).length = L.length + R.length
  | [], L, _, _, _ => rfl
  | r :: R, L, hS, hR, hc => by
    have h0 := moveR_ok (more := more) (hc r (by simp))
    have hl := moveR_look hS (more := more) (hc r (by simp))
    have hne : ∀ x ∈ R, key r ≠ key x := fun x hx e => by
      have := hR.head x hx
      rw [e, cp_self] at this; omega
    have same : ∀ x ∈ R, look (moveR L r more).1 (key x) = look L (key x) := fun x hx => by rw [hl, if_neg (hne x hx)]
    have hc' : ∀ x ∈ R, ¬ clashR (moveR L r more).1 x := fun x hx ⟨o, ho, hk⟩ => hc x (by simp [hx]) ⟨o, by rw [← same x hx]; exact ho, hk⟩
    have ih := overR_length (more := more) R (moveR_sorted hS r more) hR.tail hc'
    have hlen := moveR_length hS (more := more) (hc r (by simp))
    rw [overR, if_neg (by rw [h0]; decide)]
    have hf : (R.filter fun x => (look (moveR L r more).1 (key x)).isSome) = R.filter fun x => (look L (key x)).isSome := List.filter_congr fun x hx => by rw [same x hx]
    rw [hf] at ih
    rw [List.filter_cons, List.length_cons]
    cases hs : (look L (key r)).isSome
    · rw [hs] at hlen
      simp only [Bool.false_eq_true, if_false] at hlen ⊢
      omega
    · rw [hs] at hlen
      simp only [if_true, List.length_cons] at hlen ⊢
      omega
end

end Go.Proofs.YtcniahbliadgiaaDoor

namespace Go.Proofs.YtcniahbliadgiaaDoor
open Go.RowKit
open Go.Proofs.PnKit Go.Proofs.PnPath

theorem sorted_ext : ∀ {L M : List Rw}, Sorted L → Sorted M → (∀ t, look L t = look M t) → L = M
  | [], [], _, _, _ => rfl
  | [], y :: M, _, _, h => by
    have := h (key y)
    rw [look_cons, if_pos rfl] at this; cases this
  | x :: L, [], _, _, h => by
    have := h (key x)
    rw [look_cons, if_pos rfl] at this; cases this
  | x :: L, y :: M, hL, hM, h => by
    have hx : x ∈ y :: M := (look_some (show look (y :: M) (key x) = some x by rw [← h, look_cons, if_pos rfl])).1
    have hy : y ∈ x :: L := (look_some (show look (x :: L) (key y) = some y by rw [h, look_cons, if_pos rfl])).1
    have e : x = y := by
      rcases List.mem_cons.1 hx with e | hx
      · exact e
      · rcases List.mem_cons.1 hy with e | hy
        · exact e.symm
        · have h1 := hM.head x hx
          have h2 := hL.head y hy
          have h3 := cp_trans _ _ _ h1 h2
          rw [cp_self] at h3; omega
    subst e
    rw [sorted_ext hL.tail hM.tail fun t => ?_]
    have := h t
    rw [look_cons, look_cons] at this
    by_cases hk : key x = t
    · have e1 : look L t = none := look_none.2 fun z hz e => by have := hL.head z hz; rw [hk, e, cp_self] at this; omega
      have e2 : look M t = none := look_none.2 fun z hz e => by have := hM.head z hz; rw [hk, e, cp_self] at this; omega
      rw [e1, e2]
    · rw [if_neg hk, if_neg hk] at this; exact this
theorem look_map (f : Rw → Rw) : ∀ (L : List Rw), (∀ x ∈ L, key (f x) = key x) → ∀ t, look (L.map f) t = (look L t).map f
  | [], _, t => rfl
  | x :: L, h, t => by
    rw [List.map_cons, look_cons, look_cons, h x (by simp), look_map f L (fun y hy => h y (by simp [hy]))]
    split <;> rfl
theorem map_sorted (f : Rw → Rw) : ∀ {L : List Rw}, (∀ x ∈ L, key (f x) = key x) → Sorted L → Sorted (L.map f)
  | [], _, _ => List.Pairwise.nil
  | x :: L, h, hS => by
    refine List.pairwise_cons.2 ⟨fun y hy => ?_, map_sorted f (fun y hy => h y (by simp [hy])) hS.tail⟩
    obtain ⟨z, hz, rfl⟩ := List.mem_map.1 hy
    have := hS.head z hz
    show cmpP (key (f x)) (key (f z)) < 0
    rw [h x (by simp), h z (by simp [hz])]; exact this

/-- what a row becomes when the same tree is laid over once more -/
def reR (M b : List Rw) (more : Int) (x : Rw) : Rw := match look b (key x) with | some r => resR M more r | none => x
theorem reR_key (M b : List Rw) (more : Int) (x : Rw) : key (reR M b more x) = key x := by
  unfold reR
  rcases h : look b (key x) with _ | r
  · rfl
  · simp only
    rw [resR_key]; exact (look_some h).2
theorem twice_map {M b : List Rw} {more : Int} (hM : Sorted M) (hb : Sorted b) (hall : ∀ r ∈ b, ∃ x, look M (key r) = some x) (hc : ∀ r ∈ b, ¬ clashR M r) : (overR M more b).1 = M.map (reR M b more) := by
  have h := overR_look (more := more) b hM hb hc
  refine sorted_ext h.2.1 (map_sorted _ (fun x _ => reR_key M b more x) hM) fun t => ?_
  rw [h.2.2, look_map _ _ (fun x _ => reR_key M b more x)]
  rcases hx : look M t with _ | x
  · rcases hr : look b t with _ | r
    · rfl
    · obtain ⟨h1, h2⟩ := look_some hr
      obtain ⟨x, h3⟩ := hall r h1
      rw [h2, hx] at h3; cases h3
  · have hk := (look_some hx).2
    rw [Option.map_some]
    unfold reR
    rw [hk]
    rcases look b t with _ | r <;> rfl

/-- rows that are alike but for their numbers, of which the same ones stay the same -/
theorem usF_map (f : Rw → Rw) : ∀ (L S : List Rw) (u : Us), (∀ x ∈ L, key (f x) = key x ∧ (f x).path.size = x.path.size ∧ (f x).kind = x.kind ∧ (f x).size = x.size) → (∀ x ∈ S ++ L, ∀ y ∈ S ++ L, (f x).id = (f y).id ↔ x.id = y.id) →
    usF ((S.map f).map (·.id)) u (L.map f) = usF (S.map (·.id)) u L
  | [], S, u, _, _ => rfl
  | r :: L, S, u, h1, h2 => by
    have hsub : ∀ x, x ∈ (r :: S) ++ L → x ∈ S ++ r :: L := fun x hx => by
      rcases List.mem_append.1 hx with h | h
      · rcases List.mem_cons.1 h with h | h
        · exact List.mem_append.2 (Or.inr (by simp [h]))
        · exact List.mem_append.2 (Or.inl h)
      · exact List.mem_append.2 (Or.inr (by simp [h]))
    have ih := usF_map f L (r :: S) (usOne (S.map (·.id)) u r) (fun x hx => h1 x (by simp [hx])) (fun x hx y hy => h2 x (hsub x hx) y (hsub y hy))
    have hm : ((f r).id ∈ (S.map f).map (·.id)) ↔ (r.id ∈ S.map (·.id)) := by
      simp only [List.map_map, List.mem_map, Function.comp]
      constructor
      · rintro ⟨x, hx, e⟩; exact ⟨x, hx, (h2 x (by simp [hx]) r (by simp)).1 e⟩
      · rintro ⟨x, hx, e⟩; exact ⟨x, hx, (h2 x (by simp [hx]) r (by simp)).2 e⟩
    have ho : usOne ((S.map f).map (·.id)) u (f r) = usOne (S.map (·.id)) u r := by
      obtain ⟨a, b, c, d⟩ := h1 r (by simp)
      unfold usOne
      simp only [hm, a, b, c, d]
    rw [List.map_cons, usF, usF, ho]
    exact ih

section
variable {a b : List Rw} {n m : Int}
theorem over_at (ha : Inv a n) (hb : Inv b m) (hc : ∀ r ∈ b, ¬ clashR a r) {r : Rw} (hr : r ∈ b) : look (overR a n b).1 (key r) = some (resR a n r) := by
  rw [(overR_look (more := n) b ha.ok.sorted hb.ok.sorted hc).2.2, look_of hb.ok.sorted hr]
/-- laid over once more nothing clashes -/
theorem twice_ok (ha : Inv a n) (hb : Inv b m) (hc : ∀ r ∈ b, ¬ clashR a r) : ∀ r ∈ b, ¬ clashR (overR a n b).1 r := by
  rintro r hr ⟨o, ho, hk⟩
  rw [over_at ha hb hc hr] at ho
  obtain rfl := Option.some.inj ho
  have h := resR_kind (more := n) (hc r hr)
  by_cases h4 : r.kind = 4
  · rw [h4, h.2 h4] at hk; cases hk
  · have h5 : ¬ (resR a n r).kind = 4 := fun e => h4 (h.1 e)
    have e1 : ((resR a n r).kind == 4) = false := by simpa using h5
    have e2 : (r.kind == 4) = false := by simpa using h4
    rw [e1, e2] at hk; cases hk
/-- a row as it was laid, but for its number -/
theorem resR_same {L : List Rw} {more : Int} {r : Rw} (hm : ¬ r.made = true) : resR L more r = { r with id := (resR L more r).id } := by
  unfold resR
  rcases look L (key r) with _ | o
  · rfl
  · simp only [if_neg hm]
/-- .. what isn't a directory and was laid has a new number, all else stays -/
theorem reR_eq (ha : Inv a n) (hb : Inv b m) (hc : ∀ r ∈ b, ¬ clashR a r) {x : Rw} (hx : x ∈ (overR a n b).1) :
    (reR (overR a n b).1 b (n + m) x = { x with id := x.id + m } ∧ n ≤ x.id ∧ x.kind ≠ 4) ∨ (reR (overR a n b).1 b (n + m) x = x ∧ (x.kind = 4 ∨ (x ∈ a ∧ x.id < n ∧ look b (key x) = none))) := by
  rcases (overR_mem ha.ok.sorted hb.ok.sorted hc).1 hx with ⟨r, hr, rfl⟩ | ⟨h1, h2⟩
  · have hlk : look b (key (resR a n r)) = some r := by rw [resR_key]; exact look_of hb.ok.sorted hr
    have hre : reR (overR a n b).1 b (n + m) (resR a n r) = resR (overR a n b).1 (n + m) r := by unfold reR; rw [hlk]
    rw [hre]
    by_cases hm : r.made = true
    · refine Or.inr ⟨?_, Or.inl ((resR_kind (hc r hr)).2 (hb.made r hr hm))⟩
      conv => lhs; unfold resR
      rw [over_at ha hb hc hr]
      simp only [if_pos hm]
    · by_cases h4 : r.kind = 4
      · refine Or.inr ⟨?_, Or.inl ((resR_kind (hc r hr)).2 h4)⟩
        conv => lhs; unfold resR
        rw [over_at ha hb hc hr]
        simp only [if_neg hm, if_pos h4]
        exact (resR_same hm).symm
      · refine Or.inl ⟨?_, ?_, ?_⟩
        · rw [resR_plain (hb.made r hr) h4, resR_plain (hb.made r hr) h4]
          simp only [Rw.mk.injEq, and_true, true_and]
          omega
        · rw [resR_plain (hb.made r hr) h4]
          have := hb.ids r hr
          simp only; omega
        · rw [resR_plain (hb.made r hr) h4]; exact h4
  · refine Or.inr ⟨?_, Or.inr ⟨h1, (ha.ids x h1).2, h2⟩⟩
    unfold reR; rw [h2]
theorem twice_eq (ha : Inv a n) (hb : Inv b m) (hc : ∀ r ∈ b, ¬ clashR a r) : (overR (overR a n b).1 (n + m) b).1 = (overR a n b).1.map (reR (overR a n b).1 b (n + m)) :=
  twice_map (overR_look (more := n) b ha.ok.sorted hb.ok.sorted hc).2.1 hb.ok.sorted (fun _ hr => ⟨_, over_at ha hb hc hr⟩) (twice_ok ha hb hc)
theorem twice_at (ha : Inv a n) (hb : Inv b m) (hc : ∀ r ∈ b, ¬ clashR a r) {x : Rw} (hx : x ∈ (overR a n b).1) :
    (reR (overR a n b).1 b (n + m) x).path = x.path ∧ (reR (overR a n b).1 b (n + m) x).kind = x.kind ∧ (reR (overR a n b).1 b (n + m) x).mode = x.mode ∧ (reR (overR a n b).1 b (n + m) x).size = x.size := by
  rcases reR_eq ha hb hc hx with ⟨e, _⟩ | ⟨e, _⟩ <;> rw [e] <;> exact ⟨rfl, rfl, rfl, rfl⟩
theorem twice_us (ha : Inv a n) (hb : Inv b m) (hn : 0 ≤ n) (hm : 0 ≤ m) (hc : ∀ r ∈ b, ¬ clashR a r) : us (overR (overR a n b).1 (n + m) b).1 = us (overR a n b).1 := by
  have hI := merge_inv ha hb hn hm hc
  rw [twice_eq ha hb hc]
  refine usF_map (reR (overR a n b).1 b (n + m)) (overR a n b).1 [] ⟨0, 0, 0, 0⟩ (fun x hx => ?_) ?_
  · have h := twice_at ha hb hc hx
    exact ⟨reR_key _ _ _ _, by rw [h.1], h.2.1, h.2.2.2⟩
  · intro x hx y hy
    simp only [List.nil_append] at hx hy
    have ix := hI.ids x hx
    have iy := hI.ids y hy
    have hk := hI.cons x hx y hy
    rcases reR_eq ha hb hc hx with ⟨e1, h1, h2⟩ | ⟨e1, h1⟩ <;> rcases reR_eq ha hb hc hy with ⟨e2, h3, h4⟩ | ⟨e2, h3⟩ <;> rw [e1, e2]
    · show x.id + m = y.id + m ↔ _; omega
    · show x.id + m = y.id ↔ _
      constructor
      · intro h; omega
      · intro h
        have := (hk h).1
        rcases h3 with h3 | ⟨_, h3, _⟩ <;> omega
    · show x.id = y.id + m ↔ _
      constructor
      · intro h; omega
      · intro h
        have := (hk h).1
        rcases h1 with h1 | ⟨_, h1, _⟩ <;> omega
/-- what is gone then: the upper one's files, as they were laid first -/
theorem twice_gone (ha : Inv a n) (hb : Inv b m) (hn : 0 ≤ n) (hm : 0 ≤ m) (hc : ∀ r ∈ b, ¬ clashR a r) :
    sumTo (gIn (overR a n b).1 (overR (overR a n b).1 (n + m) b).1) (n + m).toNat = sumTo (fIn b) m.toNat := by
  have e : ((n.toNat : Nat) : Int) = n := Int.toNat_of_nonneg hn
  rw [toNat_add hn hm, sumTo_shift]
  have h0 : sumTo (gIn (overR a n b).1 (overR (overR a n b).1 (n + m) b).1) n.toNat = 0 := by
    rw [sumTo_congr (g := fun _ => 0) n.toNat (fun i hi hlt => ?_), sumTo_zero]
    unfold gIn
    rw [if_neg]
    rintro ⟨h1, h2⟩
    obtain ⟨x, hx, hxi, hk⟩ := fIn_iff.1 h1
    obtain ⟨h3, h4⟩ := merge_low ha hb hc hx (by omega) (by omega)
    have hr : reR (overR a n b).1 b (n + m) x = x := by unfold reR; rw [h4]
    have hu : x ∈ (overR (overR a n b).1 (n + m) b).1 := by
      rw [twice_eq ha hb hc]
      exact List.mem_map.2 ⟨x, hx, hr⟩
    have := fIn_of hu hk
    rw [hxi] at this; omega
  rw [h0, Int.zero_add]
  refine sumTo_congr _ fun i hi hlt => ?_
  rw [e]
  have hu : fIn (overR (overR a n b).1 (n + m) b).1 (i + n) = 0 := fIn_none fun y hy hyi hk => by
    rw [twice_eq ha hb hc] at hy
    obtain ⟨x, hx, rfl⟩ := List.mem_map.1 hy
    rcases reR_eq ha hb hc hx with ⟨e1, h1, h2⟩ | ⟨e1, h1⟩ <;> rw [e1] at hyi hk
    · simp only at hyi; omega
    · rcases h1 with h1 | ⟨_, h1, _⟩ <;> omega
  unfold gIn
  rw [merge_f2 ha hb hc hi, hu]
  rcases fIn_bound b i with h | h <;> rw [h]
  · rw [if_neg (by omega)]
  · rw [if_pos ⟨rfl, rfl⟩]

/-! trees that have no path together but directories -/
theorem apart_files (ha : Inv a n) (hb : Inv b m) (hn : 0 ≤ n) (hm : 0 ≤ m) (hc : ∀ r ∈ b, ¬ clashR a r) (hd : ∀ r ∈ b, ∀ o, look a (key r) = some o → o.kind = 4) :
    sumTo (fIn (overR a n b).1) (n + m).toNat = sumTo (fIn a) n.toNat + sumTo (fIn b) m.toNat ∧ sumTo (gIn a (overR a n b).1) n.toNat = 0 := by
  have e : ((n.toNat : Nat) : Int) = n := Int.toNat_of_nonneg hn
  have h1 : ∀ i : Int, i < n → fIn a i = 1 → fIn (overR a n b).1 i = 1 := fun i hi hf => by
    obtain ⟨x, hx, hxi, hk⟩ := fIn_iff.1 hf
    refine (merge_f1 ha hb hc hi).2 ⟨x, hx, hxi, hk, ?_⟩
    rcases hr : look b (key x) with _ | r
    · rfl
    · obtain ⟨h2, h3⟩ := look_some hr
      have := hd r h2 x (by rw [h3]; exact look_of ha.ok.sorted hx)
      omega
  constructor
  · rw [toNat_add hn hm, sumTo_shift]
    congr 1
    · refine sumTo_congr _ fun i hi hlt => ?_
      rcases fIn_bound a i with h | h
      · rcases fIn_bound (overR a n b).1 i with h2 | h2
        · rw [h, h2]
        · obtain ⟨x, hx, hxi, hk, _⟩ := (merge_f1 ha hb hc (by omega)).1 h2
          have := fIn_of hx hk
          rw [hxi] at this; omega
      · rw [h, h1 i (by omega) h]
    · refine sumTo_congr _ fun i hi _ => ?_
      rw [e]; exact merge_f2 ha hb hc hi
  · rw [sumTo_congr (g := fun _ => 0) n.toNat (fun i hi hlt => ?_), sumTo_zero]
    unfold gIn
    rw [if_neg]
    rintro ⟨h2, h3⟩
    have := h1 i (by omega) h2
    omega
end

end Go.Proofs.YtcniahbliadgiaaDoor

/-
  Words for memory, of no program: a slice that reads as a list of texts; a slice of the call's own.
-/
import Derived.WalkKit
import Derived.Below
import Derived.Deep.Draws
import Derived.Lib.Hide
import Derived.Deep.AppendLies
import Derived.Laws.AppendOwnNone
namespace Go.Proofs.PnKit
open Go.RowKit

abbrev bl (s : ByteArray) : List UInt8 := s.data.toList
abbrev bls (L : List ByteArray) : List (List UInt8) := L.map (·.data.toList)

theorem bl_inj {s t : ByteArray} (h : bl s = bl t) : s = t := by
  cases s; cases t; simp only [bl] at h
  congr 1
  exact Array.toList_inj.1 h
theorem bl_size (s : ByteArray) : (bl s).length = s.size := by show s.data.toList.length = s.data.size; exact Array.length_toList

theorem add_at (b o j : Nat) : (⟨b, o, none⟩ : Addr).add j = ⟨b, o + j, none⟩ := by unfold Addr.add; split <;> simp_all

/-- the slice '.slice A n c' reads as these texts -/
structure Rd (w : World) (A : Option Addr) (c : Nat) (L : List ByteArray) : Prop where
  cap : L.length ≤ c
  nil0 : A = none → c = 0
  cell : ∀ (j : Nat) (x : ByteArray), L[j]? = some x → ∃ b o, A = some ⟨b, o, none⟩ ∧ b < w.heap.size ∧ w.cell? ⟨b, o + j, none⟩ = some (.string x)

theorem Rd.nil (w : World) : Rd w none 0 [] := ⟨Nat.zero_le _, fun _ => rfl, fun j x h => by simp at h⟩
theorem Rd.keep {w w' : World} {A : Option Addr} {c : Nat} {L : List ByteArray} (h : Rd w A c L) (hs : w.heap.size ≤ w'.heap.size) (hk : ∀ p : Addr, p.block < w.heap.size → w'.cell? p = w.cell? p) : Rd w' A c L :=
  ⟨h.cap, h.nil0, fun j x hx => by
    obtain ⟨b, o, e, hb, hc⟩ := h.cell j x hx
    exact ⟨b, o, e, by omega, (hk _ hb).trans hc⟩⟩
theorem Rd.below {w w' : World} {A : Option Addr} {c : Nat} {L : List ByteArray} (h : Rd w A c L) (hb : Below w.heap.size w w') : Rd w' A c L :=
  h.keep hb.size fun _ hp => hb.cell hp
theorem Rd.drew {w : World} {A : Option Addr} {c : Nat} {L : List ByteArray} (h : Rd w A c L) : Rd w.drew A c L := ⟨h.cap, h.nil0, h.cell⟩
theorem Rd.drewN {w : World} {A : Option Addr} {c : Nat} {L : List ByteArray} (h : Rd w A c L) (n : Nat) : Rd (w.drewN n) A c L := ⟨h.cap, h.nil0, h.cell⟩
/-- s[k:] -/
theorem Rd.cut {w : World} {A : Option Addr} {c : Nat} {L : List ByteArray} (h : Rd w A c L) {k : Nat} (hk : k ≤ L.length) :
    Rd w (if c = k then A else A.map (·.add k)) (c - k) (L.drop k) := by
  refine ⟨by rw [List.length_drop]; have := h.cap; omega, fun e => ?_, fun j x hx => ?_⟩
  · split at e
    · omega
    · have := h.nil0 (by simpa using e); omega
  rw [List.getElem?_drop] at hx
  obtain ⟨b, o, rfl, hb, hc⟩ := h.cell _ x hx
  have hlt : k + j < L.length := (List.getElem?_eq_some_iff.1 hx).1
  rw [if_neg (by have := h.cap; omega)]
  exact ⟨b, o + k, by rw [Option.map_some, add_at], hb, by rw [← hc, Nat.add_assoc]⟩
/-- s[:k] -/
theorem Rd.take {w : World} {A : Option Addr} {c : Nat} {L : List ByteArray} (h : Rd w A c L) (k : Nat) : Rd w A c (L.take k) :=
  ⟨by rw [List.length_take]; have := h.cap; omega, h.nil0, fun j x hx => h.cell j x (by
    rw [List.getElem?_take] at hx
    split at hx
    · exact hx
    · cases hx)⟩
/-- where there is an element there is a row -/
theorem Rd.pos {w : World} {A : Option Addr} {c : Nat} {L : List ByteArray} (h : Rd w A c L) (hl : 0 < L.length) :
    ∃ b o, A = some ⟨b, o, none⟩ ∧ b < w.heap.size ∧ ∀ (j : Nat) (x : ByteArray), L[j]? = some x → w.cell? ⟨b, o + j, none⟩ = some (.string x) := by
  obtain ⟨b, o, rfl, hb, _⟩ := h.cell 0 L[0] (List.getElem?_eq_getElem hl)
  refine ⟨b, o, rfl, hb, fun j x hx => ?_⟩
  obtain ⟨b', o', e, _, hc⟩ := h.cell j x hx
  injection e with e
  injection e with e1 e2
  subst e1; subst e2
  exact hc
/-- of a row whose place is known -/
theorem Rd.row {w : World} {b o c : Nat} {L : List ByteArray} (h : Rd w (some ⟨b, o, none⟩) c L) {j : Nat} (hj : j < L.length) : w.cell? ⟨b, o + j, none⟩ = some (.string (L.getD j ByteArray.empty)) := by
  obtain ⟨b', o', e, _, hc⟩ := h.cell j L[j] (List.getElem?_eq_getElem hj)
  injection e with e
  injection e with e1 e2
  subst e1; subst e2
  rw [hc, List.getD_eq_getElem?_getD, List.getElem?_eq_getElem hj]; rfl
theorem Rd.row0 {w : World} {b c : Nat} {L : List ByteArray} (h : Rd w (some ⟨b, 0, none⟩) c L) {j : Nat} (hj : j < L.length) : w.cell? ⟨b, j, none⟩ = some (.string (L.getD j ByteArray.empty)) := by
  have := h.row hj
  rwa [Nat.zero_add] at this

theorem Rd.alloc {w : World} {A : Option Addr} {c : Nat} {L : List ByteArray} (h : Rd w A c L) (o : Obj) : Rd (w.alloc o) A c L := h.below ((Below.refl _ _).alloc (Nat.le_refl _) o)
theorem Rd.olds {w : World} {A : Option Addr} {c : Nat} {L : List ByteArray} (h : Rd w A c L) : ∀ b, A = some b → ∀ (j : Nat) (u : ByteArray), L[j]? = some u → w.cell? (b.add j) = some (.string u) := by
  intro b e j x hx
  obtain ⟨b', o', e', _, hc⟩ := h.cell j x hx
  rw [e] at e'
  injection e' with e'
  subst e'
  rw [add_at]; exact hc
theorem Rd.none_nil {w : World} {A : Option Addr} {c : Nat} {L : List ByteArray} (h : Rd w A c L) (e : A = none) : L.length = 0 := by
  rcases Nat.eq_zero_or_pos L.length with h0 | h0
  · exact h0
  · obtain ⟨b, o, e', _⟩ := h.pos h0
    rw [e] at e'; cases e'

theorem below_drewN {B : Nat} {a w : World} (h : Below B a w) (n : Nat) : Below B a (w.drewN n) := ⟨h.os, h.tape, h.output, h.size, h.block⟩

/-- what the call owns reads -/
theorem Rd.of_own {w : World} {base : Nat} {e : TypeId} {A : Option Addr} {n c : Nat} {L : List ByteArray} (h : w.ownsRow base e 1 (.slice A n c) n (L.map Value.string)) (hc : n ≤ c) : n = L.length ∧ Rd w A c L := by
  have hl : n = L.length := by have := h.1; simpa using this.symm
  refine ⟨hl, by omega, fun e => ?_, fun j x hx => ?_⟩
  · subst e
    rcases h.2 with ⟨e, _⟩ | ⟨g, cap, cur, e, _⟩
    · injection e
    · cases e
  have hlt : j < L.length := (List.getElem?_eq_some_iff.1 hx).1
  obtain ⟨g, cap, hv, _, hlt'⟩ := h.form (by omega)
  have hA : A = some ⟨g, 0, none⟩ := by injection hv
  subst hA
  refine ⟨g, 0, rfl, hlt', ?_⟩
  have := h.cells (g := g) rfl j _ (by rw [List.getElem?_map, hx]; rfl)
  rwa [add_at] at this

theorem own_form {w : World} {base : Nat} {e : TypeId} {size n : Nat} {v : Value} {xs : List Value} (h : w.ownsRow base e size v n xs) : ∃ A c, v = .slice A n c ∧ n ≤ c := by
  rcases h.2 with ⟨rfl, rfl⟩ | ⟨g, cap, cur, rfl, _, _, hc, _⟩
  · exact ⟨none, 0, rfl, Nat.le_refl _⟩
  · exact ⟨_, cap, rfl, hc⟩
theorem own_rd {w : World} {base : Nat} {e : TypeId} {v : Value} {L : List ByteArray} (h : w.ownsRow base e 1 v L.length (L.map Value.string)) : ∃ A c, v = .slice A L.length c ∧ Rd w A c L := by
  obtain ⟨A, c, rfl, hc⟩ := own_form h
  exact ⟨A, c, rfl, (Rd.of_own h hc).2⟩
/-- behind an append: what was written is the call's own -/
theorem below_grown {B : Nat} {a w w' : World} {v : Value} {base : Nat} {e : TypeId} {size n : Nat} {xs : List Value} (h : Below B a w) (hg : w.grownBy w' v.ownBlock) (hown : w.ownsRow base e size v n xs) (hB : B ≤ base) (hs : base ≤ w.heap.size) : Below B a w' :=
  h.grown hg (by omega) (fun k hk => by have := hown.lt k hk; omega)

theorem news_one (w : World) (x : Value) (t : TypeId) : ∀ (j : Nat) (u : Value), [x][j]? = some u → (w.alloc (.cells #[x] t)).cell? ((⟨w.heap.size, 0, none⟩ : Addr).add j) = some u := by
  intro j u hu
  match j, hu with
  | 0, hu =>
    have e : (w.alloc (.cells #[x] t)).cell? ⟨w.heap.size, 0, none⟩ = #[x][0]? := cell_of_row _ _ _ _ _ _ (heap_alloc_new w _)
    show (w.alloc (.cells #[x] t)).cell? ⟨w.heap.size, 0, none⟩ = some u
    rw [e]; exact hu
  | j + 1, hu => simp at hu
theorem one_str (x : ByteArray) : ∀ u ∈ [Value.string x], u.oneCell' = true := by simp [Value.oneCell']
theorem base_alloc {B : Nat} {w : World} (h : B ≤ w.heap.size) (o : Obj) : B ≤ (w.alloc o).heap.size := by simp; omega

/-- 'append(out, xs...)' onto a row of the call's own: xs reads as texts, nil or not -/
theorem wpList_append_rd {P : Program} {w : World} {ops : Array Oper} {rest : List Oper} {o : Oper} {a : Act} {Q : Exit → Act → World → Prop} (hgd : o.guard = none) (s x : Operand) (t : TypeId)
    (ho : o.op = .call { callee := .builtin .append, args := #[s, x], argTypes := #[t, t] })
    (base : Nat) (e : TypeId) (i : TypeInfo) (z : Value) (bytes : Nat) (ht : P.underlying t = some (.slice e)) (hi : P.info? e = some i) (hz : i.zero = some z)
    (hsize : i.size = 1) (hby : i.bytes = bytes) (hzs : z.cells.size = 1)
    (v : Value) (n : Nat) (xs : List Value) (hs : a.eval s = v) (hown : w.ownsRow base e 1 v n xs)
    (A : Option Addr) (c : Nat) (L : List ByteArray) (hx : a.eval x = .slice A L.length c) (hR : Rd w A c L)
    (h63 : n + L.length ≤ maxLen) (hbytes : (n + L.length) * bytes ≤ 140737488355328) (hbase : base ≤ w.heap.size)
    (h : ∀ v' w', w'.ownsRow base e 1 v' (n + L.length) (xs ++ L.map Value.string) → w.grownBy w' v.ownBlock → wpList P ops Q rest (a.put o.dst v') w') : wpList P ops Q (o :: rest) a w := by
  cases A with
  | none =>
    have h0 : L = [] := by
      rcases Nat.eq_zero_or_pos L.length with h0 | h0
      · exact List.eq_nil_of_length_eq_zero h0
      · obtain ⟨b, o, e', _⟩ := hR.pos h0
        cases e'
    subst h0
    have hc := hR.nil0 rfl
    subst hc
    exact wpList_append_own_none hgd s x t ho base e i 1 ht hi v n xs hs hown hx (h v w (by simpa using hown) (World.grownBy.refl w _))
  | some ad =>
    refine wpList_append_own w hgd s x t ho base e i z 1 bytes ht hi hz hsize hby hzs (by decide) v n xs hs hown ad L.length c (L.map Value.string) hx (by simp) ?_ (by simp [Value.oneCell']) h63 hbytes hbase (fun v' w' h1 h2 _ => h v' w' h1 h2)
    intro j u hu
    rw [List.getElem?_map] at hu
    obtain ⟨y, hy, rfl⟩ := Option.map_eq_some_iff.1 hu
    obtain ⟨b', o', e', _, hc⟩ := hR.cell j y hy
    injection e' with e'
    subst e'
    rw [add_at]; exact hc

end Go.Proofs.PnKit

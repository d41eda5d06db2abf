/-
  Plain: what stays true of every tree that things are put into.
-/
import Derived.Test.YtcniahbliadgiaaDoorUse
namespace Go.Proofs.YtcniahbliadgiaaDoor
open Go.RowKit
open Go.Proofs.PnKit Go.Proofs.PnPath

/-- what is true of a tree's rows, and of the next number -/
structure Inv (L : List Rw) (n : Int) : Prop where
  ok : OkT L
  cons : Cons L
  ids : ∀ x ∈ L, 0 ≤ x.id ∧ x.id < n
  one : ∀ x ∈ L, ∀ y ∈ L, x.id = y.id → x.kind ≠ 1 → x = y
  up : ∀ x ∈ L, (key x).dropLast ≠ [] → ∃ o ∈ L, key o = (key x).dropLast ∧ o.kind = 4
  size : ∀ x ∈ L, 0 ≤ x.size ∧ x.size ≤ 1048576
  zero : ∀ x ∈ L, x.kind ≠ 1 → x.size = 0
  made : ∀ x ∈ L, x.made = true → x.kind = 4
theorem Inv.nil : Inv [] 0 := ⟨OkT.nil, (fun _ h => by cases h), (fun _ h => by cases h), (fun _ h => by cases h), (fun _ h => by cases h), (fun _ h => by cases h), (fun _ h => by cases h), (fun _ h => by cases h)⟩
theorem Inv.mono {L : List Rw} {n m : Int} (h : Inv L n) (hn : n ≤ m) : Inv L m :=
  ⟨h.ok, h.cons, (fun x hx => by have := h.ids x hx; omega), h.one, h.up, h.size, h.zero, h.made⟩
theorem Inv.fresh {L : List Rw} {n : Int} (h : Inv L n) : ∀ x ∈ L, x.id ≠ n := fun x hx e => by have := h.ids x hx; omega
theorem Inv.toIds {L : List Rw} {n : Int} (h : Inv L n) (h0 : 0 ≤ n) : Ids L n.toNat := fun x hx => by have := h.ids x hx; omega
theorem key_ne {L : List Rw} (h : OkT L) {x : Rw} (hx : x ∈ L) : key x ≠ [] := by
  obtain ⟨P, h1, h2, h3⟩ := h.path x hx
  rw [key_of h1 h3]; exact h2
theorem drop_ne {P : List (List UInt8)} (h : P ≠ []) : P.dropLast ≠ P := fun e => by
  have h1 := congrArg List.length e
  have h2 := List.length_pos_iff.2 h
  rw [List.length_dropLast] at h1; omega

theorem Inv.put {L : List Rw} {n m : Int} (h : Inv L n) {r : Rw} {P : List (List UInt8)} (hG : G P) (hP : P ≠ []) (he : bl r.path = join P) (hs : r.path.size ≤ 1000) (hm : n ≤ m) (hid : 0 ≤ r.id ∧ r.id < m)
    (hsz : 0 ≤ r.size ∧ r.size ≤ 1048576) (hz : r.kind ≠ 1 → r.size = 0) (hmd : r.made = true → r.kind = 4)
    (hup : P.dropLast ≠ [] → ∃ o ∈ L, key o = P.dropLast ∧ o.kind = 4) (hdir : ∀ o ∈ L, key o = P → o.kind = 4 → r.kind = 4)
    (hc : ∀ x ∈ L, key x ≠ P → x.id = r.id → x.kind = 1 ∧ r.kind = 1 ∧ x.mode = r.mode ∧ x.size = r.size) : Inv (putR L r) m := by
  have hk : key r = P := key_of hG he
  have mem := fun {x : Rw} => mem_putR_iff (r := r) h.ok.sorted (x := x)
  rw [hk] at mem
  refine ⟨h.ok.putR hG hP he hs, ?_, ?_, ?_, ?_, ?_, ?_, ?_⟩
  · intro x hx y hy e
    rcases mem.1 hx with ex | ⟨hx', kx⟩ <;> rcases mem.1 hy with ey | ⟨hy', ky⟩
    · rw [ex, ey]; exact ⟨rfl, rfl, rfl⟩
    · rw [ex] at e ⊢
      obtain ⟨a, b, c, d⟩ := hc y hy' ky e.symm
      exact ⟨by rw [a, b], c.symm, d.symm⟩
    · rw [ey] at e ⊢
      obtain ⟨a, b, c, d⟩ := hc x hx' kx e
      exact ⟨by rw [a, b], c, d⟩
    · exact h.cons x hx' y hy' e
  · intro x hx
    rcases mem.1 hx with rfl | ⟨hx, _⟩
    · exact hid
    · have := h.ids x hx; omega
  · intro x hx y hy e hn
    rcases mem.1 hx with ex | ⟨hx', kx⟩ <;> rcases mem.1 hy with ey | ⟨hy', ky⟩
    · rw [ex, ey]
    · rw [ex] at e hn
      exact absurd (hc y hy' ky e.symm).2.1 hn
    · rw [ey] at e
      exact absurd (hc x hx' kx e).1 hn
    · exact h.one x hx' y hy' e hn
  · intro x hx hd
    have key1 : ∀ o ∈ L, o.kind = 4 → ∃ o' ∈ putR L r, key o' = key o ∧ o'.kind = 4 := fun o ho h4 => by
      by_cases e : key o = P
      · exact ⟨r, mem.2 (Or.inl rfl), by rw [hk, e], hdir o ho e h4⟩
      · exact ⟨o, mem.2 (Or.inr ⟨ho, e⟩), rfl, h4⟩
    rcases mem.1 hx with rfl | ⟨hx, kx⟩
    · rw [hk] at hd ⊢
      obtain ⟨o, ho, e, h4⟩ := hup hd
      obtain ⟨o', h1, h2, h3⟩ := key1 o ho h4
      exact ⟨o', h1, by rw [h2, e], h3⟩
    · obtain ⟨o, ho, e, h4⟩ := h.up x hx hd
      obtain ⟨o', h1, h2, h3⟩ := key1 o ho h4
      exact ⟨o', h1, by rw [h2, e], h3⟩
  · intro x hx
    rcases mem.1 hx with rfl | ⟨hx, _⟩
    · exact hsz
    · exact h.size x hx
  · intro x hx
    rcases mem.1 hx with rfl | ⟨hx, _⟩
    · exact hz
    · exact h.zero x hx
  · intro x hx
    rcases mem.1 hx with rfl | ⟨hx, _⟩
    · exact hmd
    · exact h.made x hx

/-- what comes of the directories that are made for a path of these parts (the last one first) -/
structure ParOk (L : List Rw) (n : Int) (V : List (List UInt8)) (M : List Rw) (m : Int) : Prop where
  inv : Inv M m
  cnt : (M.length : Int) - L.length = m - n ∧ L.length ≤ M.length ∧ M.length ≤ L.length + V.length
  old : ∀ x ∈ L, x ∈ M
  new : ∀ x ∈ M, x ∈ L ∨ (n ≤ x.id ∧ x.kind = 4 ∧ x.made = true ∧ look L (key x) = none ∧ (key x).length < V.length ∧ ∃ T, V.reverse = key x ++ T)
  dir : V.tail ≠ [] → ∃ o ∈ M, key o = V.tail.reverse ∧ o.kind = 4
  same : M = L ∧ m = n ∨ L.length < M.length
theorem tail_rev (V : List (List UInt8)) : V.tail.reverse = V.reverse.dropLast := by
  cases V <;> simp
theorem dirRow_key {P : List (List UInt8)} (h : G P) (id : Int) : key (dirRow P id) = P := key_of h (bl_pathOf P)
theorem parV_ok {L : List Rw} {n : Int} (hI : Inv L n) (hn : 0 ≤ n) : ∀ (V : List (List UInt8)), G V → (join V.reverse).length ≤ 1000 → (parV L n V).2.2 = 0 → ParOk L n V (parV L n V).1 (parV L n V).2.1
  | [], _, _, _ => ⟨hI, ⟨by simp [parV], Nat.le_refl _, Nat.le_add_right _ _⟩, (fun _ h => h), (fun _ h => Or.inl h), (fun h => absurd rfl h), Or.inl ⟨rfl, rfl⟩⟩
  | p :: U, hG, hl, h0 => by
    have hz : (U ≠ [] → ∃ o ∈ L, key o = U.reverse ∧ o.kind = 4) → ParOk L n (p :: U) L n := fun hd =>
      ⟨hI, ⟨by omega, Nat.le_refl _, Nat.le_add_right _ _⟩, (fun _ h => h), (fun _ h => Or.inl h), hd, Or.inl ⟨rfl, rfl⟩⟩
    by_cases hU : U = []
    · subst hU; exact hz fun h => absurd rfl h
    have hGU : G U := fun q hq => hG q (by simp [hq])
    have hlU : (join U.reverse).length ≤ 1000 := by
      have h := join_drop (P := (p :: U).reverse) (by simp)
      rw [List.reverse_cons, List.dropLast_concat] at h
      rw [List.reverse_cons] at hl
      omega
    rcases ho : look L U.reverse with _ | r
    · rw [parV_miss hU ho] at h0 ⊢
      by_cases he : (parV L n U).2.2 ≠ 0
      · rw [if_pos he] at h0; exact absurd h0 he
      rw [if_neg he]
      have ih := parV_ok hI hn U hGU hlU (Decidable.not_not.1 he)
      have hm : n ≤ (parV L n U).2.1 := by have := ih.cnt; omega
      generalize (parV L n U).1 = M at ih ⊢
      generalize (parV L n U).2.1 = m at ih hm ⊢
      have hk : key (dirRow U.reverse m) = U.reverse := dirRow_key (G_rev hGU) m
      have hno : ∀ x ∈ M, key x ≠ U.reverse := fun x hx e => by
        rcases ih.new x hx with h1 | ⟨_, _, _, _, h1, _⟩
        · exact look_none.1 ho x h1 e
        · rw [e, List.length_reverse] at h1; omega
      have hlk : look M (key (dirRow U.reverse m)) = none := by rw [hk]; exact look_none.2 hno
      have hlen : (putR M (dirRow U.reverse m)).length = M.length + 1 := by rw [putR_length ih.inv.ok.sorted, hlk]; rfl
      have mem := fun {x : Rw} => mem_putR_iff (r := dirRow U.reverse m) ih.inv.ok.sorted (x := x)
      rw [hk] at mem
      refine ⟨?_, ?_, ?_, ?_, ?_, ?_⟩
      · refine ih.inv.put (P := U.reverse) (G_rev hGU) (by simpa using hU) (bl_pathOf _) (by rw [← bl_size]; exact hlU) (Int.le_add_one (Int.le_refl m)) ⟨by show 0 ≤ m; omega, by show m < m + 1; omega⟩ ⟨Int.le_refl 0, by show (0 : Int) ≤ 1048576; decide⟩ (fun _ => rfl) (fun _ => rfl) ?_ ?_ ?_
        · intro hd
          rw [← tail_rev] at hd ⊢
          exact ih.dir (fun e => hd (by rw [e]; rfl))
        · exact fun o ho e _ => absurd e (hno o ho)
        · exact fun x hx _ e => absurd e (ih.inv.fresh x hx)
      · have := ih.cnt
        rw [List.length_cons]
        show ((putR M (dirRow U.reverse m)).length : Int) - _ = (m + 1) - n ∧ _ ≤ (putR M (dirRow U.reverse m)).length ∧ (putR M (dirRow U.reverse m)).length ≤ _
        rw [hlen]; omega
      · exact fun x hx => mem.2 (Or.inr ⟨ih.old x hx, hno x (ih.old x hx)⟩)
      · intro x hx
        rcases mem.1 hx with rfl | ⟨hx, _⟩
        · refine Or.inr ⟨hm, rfl, rfl, by rw [hk]; exact ho, by rw [hk]; simp, [p], by rw [hk]; simp⟩
        · rcases ih.new x hx with h1 | ⟨h1, h2, h3, h4, h5, T, h6⟩
          · exact Or.inl h1
          · exact Or.inr ⟨h1, h2, h3, h4, by rw [List.length_cons]; omega, T ++ [p], by rw [List.reverse_cons, h6, List.append_assoc]⟩
      · exact fun _ => ⟨_, mem.2 (Or.inl rfl), hk, rfl⟩
      · exact Or.inr (by show _ < (putR M (dirRow U.reverse m)).length; have := ih.cnt; omega)
    · rw [parV_hit hU ho] at h0 ⊢
      by_cases h4 : r.kind = 4
      · rw [if_pos h4]
        have := look_some ho
        exact hz fun _ => ⟨r, this.1, this.2, h4⟩
      · rw [if_neg h4] at h0; exact absurd h0 (by show ¬ (130 : Int) = 0; decide)

end Go.Proofs.YtcniahbliadgiaaDoor

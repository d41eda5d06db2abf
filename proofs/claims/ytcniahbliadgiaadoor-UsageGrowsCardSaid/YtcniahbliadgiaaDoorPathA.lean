/-
  The plain law of paths: lists of bytes, no program. Parts between slashes, clean paths, joining and parting again.
-/
namespace Go.Proofs.PnPath

abbrev B := List UInt8

/-- a text cut at its slashes -/
def msplit : B → List B
  | [] => [[]]
  | c :: t => if c = 47 then [] :: msplit t else match msplit t with
    | [] => [[c]]
    | h :: r => (c :: h) :: r

theorem msplit_ne (l : B) : msplit l ≠ [] := by
  cases l with
  | nil => simp [msplit]
  | cons c t =>
    unfold msplit
    split
    · simp
    · split <;> simp

theorem msplit_slash (t : B) : msplit (47 :: t) = [] :: msplit t := by simp [msplit]

theorem msplit_other (c : UInt8) (t h : B) (r : List B) (hc : c ≠ 47) (e : msplit t = h :: r) : msplit (c :: t) = (c :: h) :: r := by
  simp [msplit, hc, e]

theorem msplit_app (a t : B) (ha : (47 : UInt8) ∉ a) : ∀ h r, msplit t = h :: r → msplit (a ++ t) = (a ++ h) :: r := by
  induction a with
  | nil => intro h r e; simpa using e
  | cons c a ih =>
    intro h r e
    have hc : c ≠ 47 := fun x => ha (by simp [x])
    have := ih (fun x => ha (by simp [x])) h r e
    rw [List.cons_append, msplit_other c _ _ _ hc this, List.cons_append]

theorem msplit_plain (a : B) (ha : (47 : UInt8) ∉ a) : msplit a = [a] := by
  have := msplit_app a [] ha [] [] rfl
  simpa using this

theorem msplit_cut (a t : B) (ha : (47 : UInt8) ∉ a) : msplit (a ++ 47 :: t) = a :: msplit t := by
  have := msplit_app a (47 :: t) ha [] (msplit t) (msplit_slash t)
  simpa using this

/-- a text is its first part, or that, a slash and the rest -/
theorem cut_of (l : B) : (47 : UInt8) ∉ l ∨ ∃ a t, l = a ++ 47 :: t ∧ (47 : UInt8) ∉ a ∧ t.length < l.length := by
  induction l with
  | nil => left; simp
  | cons c l ih =>
    by_cases hc : c = 47
    · right; exact ⟨[], l, by simp [hc], by simp, by simp⟩
    · rcases ih with h | ⟨a, t, rfl, ha, hl⟩
      · left; simp [h, Ne.symm hc]
      · right; exact ⟨c :: a, t, by simp, by simp [ha, Ne.symm hc], by simp; omega⟩

theorem msplit_ind {P : B → Prop} (h1 : ∀ a, (47 : UInt8) ∉ a → P a) (h2 : ∀ a t, (47 : UInt8) ∉ a → P t → P (a ++ 47 :: t)) (l : B) : P l := by
  suffices ∀ n (l : B), l.length ≤ n → P l from this _ l (Nat.le_refl _)
  intro n
  induction n with
  | zero =>
    intro l hl
    have : l = [] := List.eq_nil_of_length_eq_zero (by omega)
    subst this
    exact h1 _ (by simp)
  | succ n ih =>
    intro l hl
    rcases cut_of l with h | ⟨a, t, rfl, ha, hlt⟩
    · exact h1 l h
    · exact h2 a t ha (ih t (by omega))

theorem msplit_noslash (l : B) : ∀ p ∈ msplit l, (47 : UInt8) ∉ p := by
  induction l using msplit_ind with
  | h1 a ha => rw [msplit_plain a ha]; simpa using ha
  | h2 a t ha ih => rw [msplit_cut a t ha]; simpa using ⟨ha, ih⟩

theorem msplit_mem (l : B) : ∀ p ∈ msplit l, ∀ c ∈ p, c ∈ l := by
  induction l using msplit_ind with
  | h1 a ha => rw [msplit_plain a ha]; simp
  | h2 a t ha ih =>
    rw [msplit_cut a t ha]
    intro p hp c hc
    rcases List.mem_cons.1 hp with rfl | hp
    · simp [hc]
    · simp [ih p hp c hc]

/-- parts, with a slash between any two -/
def join : List B → B
  | [] => []
  | [p] => p
  | p :: q :: r => p ++ 47 :: join (q :: r)

theorem join_nil : join [] = [] := rfl
theorem join_one (p : B) : join [p] = p := rfl
theorem join_cons2 (p q : B) (r : List B) : join (p :: q :: r) = p ++ 47 :: join (q :: r) := rfl
theorem join_cons (p : B) (L : List B) (h : L ≠ []) : join (p :: L) = p ++ 47 :: join L := by
  cases L with
  | nil => exact absurd rfl h
  | cons q r => exact join_cons2 p q r

theorem msplit_join (L : List B) (h : L ≠ []) (hs : ∀ p ∈ L, (47 : UInt8) ∉ p) : msplit (join L) = L := by
  induction L with
  | nil => exact absurd rfl h
  | cons p L ih =>
    by_cases hL : L = []
    · subst hL; rw [join_one, msplit_plain p (hs p (by simp))]
    · rw [join_cons p L hL, msplit_cut p _ (hs p (by simp)), ih hL (fun q hq => hs q (by simp [hq]))]

theorem join_msplit (l : B) : join (msplit l) = l := by
  induction l using msplit_ind with
  | h1 a ha => rw [msplit_plain a ha, join_one]
  | h2 a t ha ih => rw [msplit_cut a t ha, join_cons _ _ (msplit_ne t), ih]

theorem join_append (L M : List B) (hL : L ≠ []) (hM : M ≠ []) : join (L ++ M) = join L ++ 47 :: join M := by
  induction L with
  | nil => exact absurd rfl hL
  | cons p L ih =>
    by_cases h : L = []
    · subst h; rw [List.singleton_append, join_cons _ _ hM, join_one]
    · rw [List.cons_append, join_cons _ _ (by simp [h]), join_cons _ _ h, ih h, List.append_assoc, List.cons_append]

/-- bytes and slashes together -/
def tot (L : List B) : Nat := (L.map fun p => p.length + 1).sum
theorem tot_nil : tot [] = 0 := rfl
theorem tot_cons (p : B) (L : List B) : tot (p :: L) = p.length + 1 + tot L := by simp [tot]
theorem tot_append (L M : List B) : tot (L ++ M) = tot L + tot M := by simp [tot]
theorem join_length (L : List B) (h : L ≠ []) : (join L).length + 1 = tot L := by
  induction L with
  | nil => exact absurd rfl h
  | cons p L ih =>
    by_cases hL : L = []
    · subst hL; rw [join_one]; simp [tot]
    · rw [join_cons p L hL, tot_cons, List.length_append, List.length_cons, ← ih hL]; omega
theorem join_length_le (L : List B) : (join L).length ≤ tot L := by
  by_cases h : L = []
  · subst h; simp [join_nil]
  · have := join_length L h; omega
theorem tot_msplit (l : B) : tot (msplit l) = l.length + 1 := by
  rw [← join_length _ (msplit_ne l), join_msplit]
theorem length_le_tot (L : List B) : L.length ≤ tot L := by
  induction L with
  | nil => simp
  | cons p L ih => rw [tot_cons, List.length_cons]; omega

def parts (l : B) : List B := if l = [] then [] else msplit l

/-- the parts that count: the empty ones and dots left out -/
def sp (l : B) : List B := (msplit l).filter fun p => p ≠ [] ∧ p ≠ [46]

theorem tot_filter_le (f : B → Bool) (L : List B) : tot (L.filter f) ≤ tot L := by
  induction L with
  | nil => simp
  | cons p L ih =>
    rw [List.filter_cons]
    split
    · rw [tot_cons, tot_cons]; omega
    · rw [tot_cons]; omega

/-! UTF-8, sign by sign -/

def cont : Nat → Nat → Nat → B → Bool
  | 0, _, _, _ => true
  | _ + 1, _, _, [] => false
  | k + 1, lo, hi, c :: t => decide (lo ≤ c.toNat) && decide (c.toNat ≤ hi) && cont k 128 191 t

/-- how many bytes the sign at the head has, or 0: it is none -/
def sgn : B → Nat
  | [] => 0
  | b :: t =>
    if b.toNat < 128 then 1
    else if 194 ≤ b.toNat ∧ b.toNat ≤ 223 then (if cont 1 128 191 t then 2 else 0)
    else if 224 ≤ b.toNat ∧ b.toNat ≤ 239 then (if cont 2 (if b.toNat = 224 then 160 else 128) (if b.toNat = 237 then 159 else 191) t then 3 else 0)
    else if 240 ≤ b.toNat ∧ b.toNat ≤ 244 then (if cont 3 (if b.toNat = 240 then 144 else 128) (if b.toNat = 244 then 143 else 191) t then 4 else 0)
    else 0

def vgo : Nat → B → Bool
  | 0, l => l.isEmpty
  | n + 1, l => if l = [] then true else if sgn l = 0 then false else vgo n (l.drop (sgn l))
def V (l : B) : Bool := vgo l.length l

theorem cont_len : ∀ (k lo hi : Nat) (l : B), cont k lo hi l = true → k ≤ l.length
  | 0, _, _, _, _ => Nat.zero_le _
  | _ + 1, _, _, [], h => by simp [cont] at h
  | k + 1, lo, hi, c :: t, h => by
    simp only [cont, Bool.and_eq_true] at h
    have := cont_len k 128 191 t h.2
    simp only [List.length_cons]; omega
theorem pick_le (k lo hi : Nat) (t : B) : (if cont k lo hi t = true then k + 1 else 0) ≤ t.length + 1 := by
  split
  · rename_i hc
    have := cont_len _ _ _ _ hc
    omega
  · omega
theorem sgn_le (l : B) : sgn l ≤ l.length := by
  cases l with
  | nil => simp [sgn]
  | cons b t =>
    rw [sgn, List.length_cons]
    split
    · omega
    · split
      · exact pick_le 1 _ _ t
      · split
        · exact pick_le 2 _ _ t
        · split
          · exact pick_le 3 _ _ t
          · omega
theorem cont_cut : ∀ (k lo hi : Nat) (a t : B), 128 ≤ lo → cont k lo hi (a ++ 47 :: t) = cont k lo hi a
  | 0, _, _, _, _, _ => rfl
  | k + 1, lo, hi, [], t, h => by
    simp only [List.nil_append, cont]
    rw [decide_eq_false (by show ¬ lo ≤ 47; omega)]
    rfl
  | k + 1, lo, hi, c :: a, t, h => by
    simp only [List.cons_append, cont]
    rw [cont_cut k 128 191 a t (by omega)]
theorem sgn_cut (a t : B) (h : a ≠ []) : sgn (a ++ 47 :: t) = sgn a := by
  cases a with
  | nil => exact absurd rfl h
  | cons b a =>
    simp only [List.cons_append, sgn]
    rw [cont_cut 1 128 191 a t (by omega), cont_cut 2 _ _ a t (by split <;> omega), cont_cut 3 _ _ a t (by split <;> omega)]
theorem vgo_fuel : ∀ (n m : Nat) (l : B), l.length ≤ n → l.length ≤ m → vgo n l = vgo m l
  | 0, m, l, hn, _ => by
    have : l = [] := List.eq_nil_of_length_eq_zero (by omega)
    subst this
    cases m <;> simp [vgo]
  | n + 1, 0, l, _, hm => by
    have : l = [] := List.eq_nil_of_length_eq_zero (by omega)
    subst this
    simp [vgo]
  | n + 1, m + 1, l, hn, hm => by
    unfold vgo
    by_cases h : l = []
    · rw [if_pos h, if_pos h]
    · rw [if_neg h, if_neg h]
      by_cases h0 : sgn l = 0
      · rw [if_pos h0, if_pos h0]
      · rw [if_neg h0, if_neg h0]
        have := sgn_le l
        exact vgo_fuel n m _ (by rw [List.length_drop]; omega) (by rw [List.length_drop]; omega)
theorem V_nil : V [] = true := rfl
theorem vgo_succ (n : Nat) (l : B) : vgo (n + 1) l = if l = [] then true else if sgn l = 0 then false else vgo n (l.drop (sgn l)) := rfl
theorem V_step (l : B) (h : l ≠ []) : V l = if sgn l = 0 then false else V (l.drop (sgn l)) := by
  have hl : 0 < l.length := List.length_pos_iff.2 h
  obtain ⟨n, hn⟩ : ∃ n, l.length = n + 1 := ⟨l.length - 1, by omega⟩
  have e : V l = vgo (n + 1) l := by rw [V, hn]
  rw [e, vgo_succ, if_neg h]
  by_cases h0 : sgn l = 0
  · rw [if_pos h0, if_pos h0]
  · rw [if_neg h0, if_neg h0]
    exact vgo_fuel n _ (l.drop (sgn l)) (by rw [List.length_drop]; omega) (Nat.le_refl _)
theorem V_ascii (b : UInt8) (t : B) (h : b.toNat < 128) : V (b :: t) = V t := by
  rw [V_step _ (by simp)]
  have : sgn (b :: t) = 1 := by simp [sgn, h]
  rw [this]
  simp
theorem V_cut (t : B) : ∀ (n : Nat) (a : B), a.length ≤ n → V (a ++ 47 :: t) = (V a && V t)
  | 0, a, h => by
    have : a = [] := List.eq_nil_of_length_eq_zero (by omega)
    subst this
    rw [List.nil_append, V_ascii 47 t (by decide), V_nil, Bool.true_and]
  | n + 1, a, h => by
    by_cases ha : a = []
    · subst ha
      rw [List.nil_append, V_ascii 47 t (by decide), V_nil, Bool.true_and]
    · rw [V_step _ (by simp), sgn_cut a t ha, V_step a ha]
      by_cases h0 : sgn a = 0
      · rw [if_pos h0, if_pos h0]; rfl
      · rw [if_neg h0, if_neg h0]
        have := sgn_le a
        rw [List.drop_append_of_le_length this]
        exact V_cut t n _ (by rw [List.length_drop]; omega)
theorem V_app (a t : B) : V (a ++ 47 :: t) = (V a && V t) := V_cut t _ a (Nat.le_refl _)
theorem V_msplit (l : B) : V l = true ↔ ∀ p ∈ msplit l, V p = true := by
  induction l using msplit_ind with
  | h1 a ha => rw [msplit_plain a ha]; simp
  | h2 a t ha ih =>
    rw [msplit_cut a t ha, V_app, Bool.and_eq_true, ih]; simp
theorem V_join (L : List B) (h : ∀ p ∈ L, V p = true) : V (join L) = true := by
  induction L with
  | nil => rfl
  | cons p L ih =>
    by_cases hL : L = []
    · subst hL; exact h p (by simp)
    · rw [join_cons p L hL, V_app, h p (by simp), ih (fun q hq => h q (by simp [hq]))]; rfl

/-! sound texts, clean paths -/

def sound (l : B) : Int :=
  if l = [] then 100 else if 4000 < l.length then 2 else if (0 : UInt8) ∈ l then 101 else if V l = false then 102 else if l.head? = some 47 then 103 else 0

def cl : List B → List B → List B × Int
  | acc, [] => (acc, 0)
  | acc, p :: r =>
    if p = [] ∨ p = [46] then cl acc r
    else if p = [46, 46] then ([], 104)
    else if 255 < p.length then ([], 2)
    else cl (acc ++ [p]) r
def clean (l : B) : List B × Int := if sound l ≠ 0 then ([], sound l) else cl [] (msplit l)

structure Good (p : B) : Prop where
  ne : p ≠ []
  dot : p ≠ [46]
  dots : p ≠ [46, 46]
  slash : (47 : UInt8) ∉ p
  nul : (0 : UInt8) ∉ p
  utf : V p = true
  len : p.length ≤ 255
def G (L : List B) : Prop := ∀ p ∈ L, Good p

theorem G_nil : G [] := fun _ h => by simp at h
theorem G_append {L M : List B} (hL : G L) (hM : G M) : G (L ++ M) := fun p hp => (List.mem_append.1 hp).elim (hL p) (hM p)
theorem G_sub {L M : List B} (h : ∀ p ∈ M, p ∈ L) (hL : G L) : G M := fun p hp => hL p (h p hp)

theorem sound_cases (l : B) : sound l = 100 ∨ sound l = 2 ∨ sound l = 101 ∨ sound l = 102 ∨ sound l = 103 ∨ sound l = 0 := by
  unfold sound; repeat' split
  all_goals simp

theorem sound_ok {l : B} (h : sound l = 0) : l ≠ [] ∧ l.length ≤ 4000 ∧ (0 : UInt8) ∉ l ∧ V l = true ∧ l.head? ≠ some 47 := by
  unfold sound at h
  repeat' split at h
  all_goals first | (exfalso; revert h; decide) | skip
  refine ⟨by assumption, by omega, by assumption, by simp_all, by assumption⟩
theorem sound_of {l : B} (h : l ≠ [] ∧ l.length ≤ 4000 ∧ (0 : UInt8) ∉ l ∧ V l = true ∧ l.head? ≠ some 47) : sound l = 0 := by
  obtain ⟨h1, h2, h3, h4, h5⟩ := h
  unfold sound
  rw [if_neg h1, if_neg (by omega), if_neg h3, if_neg (by simp [h4]), if_neg h5]

theorem cl_good : ∀ (r acc L : List B), cl acc r = (L, 0) → G acc → (∀ p ∈ r, (47 : UInt8) ∉ p ∧ (0 : UInt8) ∉ p ∧ V p = true) → G L ∧ tot L ≤ tot acc + tot r
  | [], acc, L, h, ha, _ => by
    simp only [cl, Prod.mk.injEq] at h
    obtain ⟨rfl, _⟩ := h
    exact ⟨ha, by omega⟩
  | p :: r, acc, L, h, ha, hr => by
    unfold cl at h
    have hr' : ∀ p ∈ r, (47 : UInt8) ∉ p ∧ (0 : UInt8) ∉ p ∧ V p = true := fun q hq => hr q (by simp [hq])
    split at h
    · have := cl_good r acc L h ha hr'
      rw [tot_cons]; exact ⟨this.1, by omega⟩
    · rename_i h1
      split at h
      · simp at h
      · rename_i h2
        split at h
        · simp at h
        · rename_i h3
          obtain ⟨q1, q2, q3⟩ := hr p (by simp)
          have hp : Good p := ⟨fun e => h1 (.inl e), fun e => h1 (.inr e), h2, q1, q2, q3, by omega⟩
          have := cl_good r (acc ++ [p]) L h (G_append ha (fun q hq => by simp at hq; subst hq; exact hp)) hr'
          rw [tot_append, tot_cons, tot_nil] at this
          rw [tot_cons]; exact ⟨this.1, by omega⟩

theorem clean_good {l : B} {L : List B} (h : clean l = (L, 0)) : G L ∧ tot L ≤ l.length + 1 := by
  unfold clean at h
  split at h
  · rename_i h0
    simp only [Prod.mk.injEq] at h
    exact absurd h.2 h0
  · rename_i h0
    obtain ⟨h1, h2, h3, h4, h5⟩ := sound_ok (Decidable.not_not.1 h0)
    have := cl_good (msplit l) [] L h G_nil (fun p hp => ⟨msplit_noslash l p hp, fun hc => h3 (msplit_mem l p hp _ hc), (V_msplit l).1 h4 p hp⟩)
    rw [tot_nil, tot_msplit] at this
    exact ⟨this.1, by omega⟩

theorem cl_err : ∀ (r acc : List B), (cl acc r).2 ≠ 0 → (cl acc r).1 = []
  | [], acc, h => by simp [cl] at h
  | p :: r, acc, h => by
    unfold cl at h ⊢
    repeat' split
    all_goals simp_all
    · exact cl_err r acc h
    · exact cl_err r _ h
theorem clean_err {l : B} (h : (clean l).2 ≠ 0) : (clean l).1 = [] := by
  unfold clean at h ⊢
  split
  · rfl
  · rename_i h0
    rw [if_neg h0] at h
    exact cl_err _ _ h

theorem cl_all : ∀ (r acc : List B), G r → cl acc r = (acc ++ r, 0)
  | [], acc, _ => by simp [cl]
  | p :: r, acc, h => by
    have hp := h p (by simp)
    unfold cl
    rw [if_neg (fun e => e.elim hp.ne hp.dot), if_neg hp.dots, if_neg (by have := hp.len; omega), cl_all r _ (fun q hq => h q (by simp [hq]))]
    simp

theorem join_head (L : List B) (hs : ∀ p ∈ L, p ≠ [] ∧ (47 : UInt8) ∉ p) : (join L).head? ≠ some 47 := by
  cases L with
  | nil => simp [join]
  | cons p L =>
    obtain ⟨h1, h2⟩ := hs p (by simp)
    obtain ⟨c, t, rfl⟩ : ∃ c t, p = c :: t := by cases p with
      | nil => exact absurd rfl h1
      | cons c t => exact ⟨c, t, rfl⟩
    have hc : c ≠ 47 := fun e => h2 (by simp [e])
    by_cases hL : L = []
    · subst hL; rw [join_one]; simp [hc]
    · rw [join_cons _ _ hL]; simp [hc]
theorem join_mem (L : List B) (c : UInt8) (h : c ∈ join L) : c = 47 ∨ ∃ p ∈ L, c ∈ p := by
  induction L with
  | nil => simp [join] at h
  | cons p L ih =>
    by_cases hL : L = []
    · subst hL; rw [join_one] at h; exact .inr ⟨p, by simp, h⟩
    · rw [join_cons p L hL] at h
      rcases List.mem_append.1 h with h | h
      · exact .inr ⟨p, by simp, h⟩
      · rcases List.mem_cons.1 h with h | h
        · exact .inl h
        · rcases ih h with h | ⟨q, hq, hc⟩
          · exact .inl h
          · exact .inr ⟨q, by simp [hq], hc⟩
theorem join_ne (L : List B) (h : L ≠ []) (hs : ∀ p ∈ L, p ≠ []) : join L ≠ [] := by
  cases L with
  | nil => exact absurd rfl h
  | cons p L =>
    by_cases hL : L = []
    · subst hL; rw [join_one]; exact hs p (by simp)
    · rw [join_cons _ _ hL]; simp

/-- a text of parts that are sound each -/
theorem sound_join (L : List B) (h : L ≠ []) (hl : (join L).length ≤ 4000) (hs : ∀ p ∈ L, p ≠ [] ∧ (47 : UInt8) ∉ p ∧ (0 : UInt8) ∉ p ∧ V p = true) : sound (join L) = 0 :=
  sound_of ⟨join_ne L h (fun p hp => (hs p hp).1), hl, fun hc => by
      rcases join_mem L 0 hc with h | ⟨p, hp, hc⟩
      · exact absurd h (by decide)
      · exact (hs p hp).2.2.1 hc,
    V_join L (fun p hp => (hs p hp).2.2.2), join_head L (fun p hp => ⟨(hs p hp).1, (hs p hp).2.1⟩)⟩
theorem Good.four {p : B} (h : Good p) : p ≠ [] ∧ (47 : UInt8) ∉ p ∧ (0 : UInt8) ∉ p ∧ V p = true := ⟨h.ne, h.slash, h.nul, h.utf⟩
theorem clean_join (L : List B) (h : L ≠ []) (hl : (join L).length ≤ 4000) (hG : G L) : clean (join L) = (L, 0) := by
  have hs := sound_join L h hl (fun p hp => (hG p hp).four)
  unfold clean
  rw [if_neg (by simp [hs]), msplit_join L h (fun p hp => (hG p hp).slash), cl_all _ _ hG]
  simp
theorem parts_join (L : List B) (hG : G L) : parts (join L) = L := by
  unfold parts
  by_cases h : L = []
  · subst h; rfl
  · rw [if_neg (join_ne L h (fun p hp => (hG p hp).ne)), msplit_join L h (fun p hp => (hG p hp).slash)]
theorem join_inj {L M : List B} (hL : G L) (hM : G M) (h : join L = join M) : L = M := by
  rw [← parts_join L hL, ← parts_join M hM, h]

/-! what a name points to -/

def rs : List B → List B → B × Int
  | D, [] => (join D, 0)
  | D, p :: r =>
    if p = [] ∨ p = [46] then rs D r
    else if p = [46, 46] then (if D = [] then ([], 110) else rs D.dropLast r)
    else if 255 < p.length then ([], 2)
    else rs (D ++ [p]) r
def resolveP (d t : B) : B × Int :=
  if sound t = 103 then ([], 110) else if sound t ≠ 0 then ([], sound t) else rs (parts d) (msplit t)

def strip : List B → List B → List B × List B
  | [], b => ([], b)
  | a, [] => (a, [])
  | x :: a, y :: b => if x = y then strip a b else (x :: a, y :: b)
def outOf (a b : List B) : List B := List.replicate (strip a b).1.length [46, 46] ++ (strip a b).2
def relativeP (d t : B) : B := if outOf (parts d) (parts t) = [] then [46] else join (outOf (parts d) (parts t))

theorem strip_eq : ∀ (a b : List B), ∃ c, a = c ++ (strip a b).1 ∧ b = c ++ (strip a b).2 ∧ (∀ x y r s, (strip a b).1 = x :: r → (strip a b).2 = y :: s → x ≠ y)
  | [], b => ⟨[], by simp [strip]⟩
  | x :: a, [] => ⟨[], by simp [strip]⟩
  | x :: a, y :: b => by
    unfold strip
    by_cases h : x = y
    · subst h
      rw [if_pos rfl]
      obtain ⟨c, h1, h2, h3⟩ := strip_eq a b
      exact ⟨x :: c, by rw [List.cons_append, ← h1], by rw [List.cons_append, ← h2], h3⟩
    · rw [if_neg h]
      refine ⟨[], rfl, rfl, ?_⟩
      intro x' y' r s e1 e2
      simp only [List.cons.injEq] at e1 e2
      rw [← e1.1, ← e2.1]; exact h

theorem rs_ups (c r : List B) : ∀ (n : Nat) (a : List B), a.length = n → rs (c ++ a) (List.replicate n [46, 46] ++ r) = rs c r
  | 0, a, h => by
    have : a = [] := List.eq_nil_of_length_eq_zero h
    subst this; simp
  | n + 1, a, h => by
    have ha : a ≠ [] := fun e => by subst e; simp at h
    rw [List.replicate_succ, List.cons_append, rs, if_neg (by decide), if_pos rfl, if_neg (by simp [ha]), List.dropLast_append_of_ne_nil ha]
    exact rs_ups c r n a.dropLast (by rw [List.length_dropLast]; omega)
theorem rs_out : ∀ (n : Nat) (D r : List B), D.length < n → rs D (List.replicate n [46, 46] ++ r) = ([], 110)
  | 0, _, _, h => by omega
  | n + 1, D, r, h => by
    rw [List.replicate_succ, List.cons_append, rs, if_neg (by decide), if_pos rfl]
    by_cases hD : D = []
    · rw [if_pos hD]
    · rw [if_neg hD]
      have := List.length_pos_iff.2 hD
      exact rs_out n D.dropLast r (by rw [List.length_dropLast]; omega)
theorem rs_down : ∀ (r D : List B), G r → rs D r = (join (D ++ r), 0)
  | [], D, _ => by simp [rs]
  | p :: r, D, h => by
    have hp := h p (by simp)
    rw [rs, if_neg (fun e => e.elim hp.ne hp.dot), if_neg hp.dots, if_neg (by have := hp.len; omega), rs_down r _ (fun q hq => h q (by simp [hq]))]
    simp
theorem rs_err : ∀ (r D : List B), (rs D r).2 ≠ 0 → (rs D r).1 = []
  | [], D, h => by simp [rs] at h
  | p :: r, D, h => by
    unfold rs at h ⊢
    repeat' split
    all_goals simp_all
    · exact rs_err r D h
    · exact rs_err r _ h
    · exact rs_err r _ h
theorem resolve_err {d t : B} (h : (resolveP d t).2 ≠ 0) : (resolveP d t).1 = [] := by
  unfold resolveP at h ⊢
  split
  · rfl
  · rename_i h1
    rw [if_neg h1] at h
    split
    · rfl
    · rename_i h2
      rw [if_neg h2] at h
      exact rs_err _ _ h

/-- what comes of a walk that is let by: clean parts; how far it went, step by step -/
theorem rs_ok : ∀ (r D : List B) (s : B), rs D r = (s, 0) → G D → (∀ p ∈ r, (47 : UInt8) ∉ p ∧ (0 : UInt8) ∉ p ∧ V p = true) →
    ∃ L, s = join L ∧ G L ∧ tot L ≤ tot D + tot r
  | [], D, s, h, hD, _ => by
    simp only [rs, Prod.mk.injEq] at h
    exact ⟨D, h.1.symm, hD, by omega⟩
  | p :: r, D, s, h, hD, hr => by
    have hr' : ∀ p ∈ r, (47 : UInt8) ∉ p ∧ (0 : UInt8) ∉ p ∧ V p = true := fun q hq => hr q (by simp [hq])
    unfold rs at h
    rw [tot_cons]
    split at h
    · obtain ⟨L, h1, h2, h3⟩ := rs_ok r D s h hD hr'
      exact ⟨L, h1, h2, by omega⟩
    · rename_i c1
      split at h
      · split at h
        · simp at h
        · rename_i c2 c3
          obtain ⟨L, h1, h2, h3⟩ := rs_ok r D.dropLast s h (G_sub (fun p hp => List.dropLast_subset _ hp) hD) hr'
          have e := List.dropLast_concat_getLast c3
          have : tot D = tot D.dropLast + tot [D.getLast c3] := by rw [← tot_append, e]
          exact ⟨L, h1, h2, by omega⟩
      · rename_i c2
        split at h
        · simp at h
        · rename_i c3
          obtain ⟨q1, q2, q3⟩ := hr p (by simp)
          have hp : Good p := ⟨fun e => c1 (.inl e), fun e => c1 (.inr e), c2, q1, q2, q3, by omega⟩
          obtain ⟨L, h1, h2, h3⟩ := rs_ok r (D ++ [p]) s h (G_append hD (fun q hq => by simp at hq; subst hq; exact hp)) hr'
          rw [tot_append, tot_cons, tot_nil] at h3
          exact ⟨L, h1, h2, by omega⟩

theorem msplit_fine {l : B} (h : sound l = 0) : ∀ p ∈ msplit l, (47 : UInt8) ∉ p ∧ (0 : UInt8) ∉ p ∧ V p = true := by
  obtain ⟨h1, h2, h3, h4, h5⟩ := sound_ok h
  exact fun p hp => ⟨msplit_noslash l p hp, fun hc => h3 (msplit_mem l p hp _ hc), (V_msplit l).1 h4 p hp⟩

theorem resolve_ok {D : List B} {t s : B} (h : resolveP (join D) t = (s, 0)) (hD : G D) :
    ∃ L, s = join L ∧ G L ∧ tot L ≤ tot D + t.length + 1 ∧ sound t = 0 ∧ rs D (msplit t) = (s, 0) := by
  unfold resolveP at h
  split at h
  · simp at h
  · split at h
    · rename_i c1 c2
      simp only [Prod.mk.injEq] at h
      exact absurd h.2 c2
    · rename_i c1 c2
      have hs : sound t = 0 := Decidable.not_not.1 c2
      rw [parts_join D hD] at h
      obtain ⟨L, h1, h2, h3⟩ := rs_ok _ _ _ h hD (msplit_fine hs)
      rw [tot_msplit] at h3
      exact ⟨L, h1, h2, by omega, hs, h⟩

theorem resolve_of {D : List B} {t : B} (hD : G D) (hs : sound t = 0) : resolveP (join D) t = rs D (msplit t) := by
  unfold resolveP
  rw [hs, if_neg (by decide), if_neg (by decide), parts_join D hD]

/-- the parts of a name that goes up and down -/
theorem out_four {n : Nat} {b : List B} (hb : G b) : ∀ p ∈ List.replicate n ([46, 46] : B) ++ b, p ≠ [] ∧ (47 : UInt8) ∉ p ∧ (0 : UInt8) ∉ p ∧ V p = true := by
  intro p hp
  rcases List.mem_append.1 hp with h | h
  · rw [(List.mem_replicate.1 h).2]
    exact ⟨by decide, by decide, by decide, by decide⟩
  · exact (hb p h).four
theorem tot_replicate (n : Nat) (p : B) : tot (List.replicate n p) = n * (p.length + 1) := by
  induction n with
  | zero => simp [tot]
  | succ n ih => rw [List.replicate_succ, tot_cons, ih, Nat.succ_mul]; omega

/-- a path that is named from a directory is found from there again -/
theorem back {D T : List B} (hD : G D) (hT : G T) (h : 3 * D.length + tot T ≤ 4001) :
    resolveP (join D) (relativeP (join D) (join T)) = (join T, 0) ∧ relativeP (join D) (join T) ≠ [] := by
  obtain ⟨c, e1, e2, _⟩ := strip_eq D T
  unfold relativeP
  rw [parts_join D hD, parts_join T hT]
  have hb : G (strip D T).2 := G_sub (fun p hp => by rw [e2]; exact List.mem_append.2 (.inr hp)) hT
  by_cases ho : outOf D T = []
  · rw [if_pos ho]
    unfold outOf at ho
    obtain ⟨h1, h2⟩ := List.append_eq_nil_iff.1 ho
    have h1' : (strip D T).1 = [] := by simpa using h1
    have hDT : D = T := by
      have a1 : D = c := by rw [h1', List.append_nil] at e1; exact e1
      have a2 : T = c := by rw [h2, List.append_nil] at e2; exact e2
      rw [a1, a2]
    refine ⟨?_, by simp⟩
    rw [resolve_of hD (by decide), msplit_plain [46] (by decide), rs, if_pos (.inr rfl), rs, hDT]
  · rw [if_neg ho]
    have hf := out_four (n := (strip D T).1.length) hb
    have hn : join (outOf D T) ≠ [] := join_ne _ ho (fun p hp => (hf p hp).1)
    refine ⟨?_, hn⟩
    have hl1 : (strip D T).1.length ≤ D.length := by
      have := congrArg List.length e1
      rw [List.length_append] at this; omega
    have hl2 : tot (strip D T).2 ≤ tot T := by
      have := congrArg tot e2
      rw [tot_append] at this; omega
    have hlen : (join (outOf D T)).length ≤ 4000 := by
      have h1 := join_length _ ho
      unfold outOf at h1 ⊢
      rw [tot_append, tot_replicate] at h1
      have h2 : ([46, 46] : B).length = 2 := rfl
      rw [h2] at h1
      omega
    rw [resolve_of hD (sound_join _ ho hlen hf), msplit_join _ ho (fun p hp => (hf p hp).2.1)]
    unfold outOf
    have e := rs_ups c (strip D T).2 _ (strip D T).1 rfl
    rw [← e1] at e
    rw [e, rs_down _ _ hb, ← e2]

/-- so many steps up -/
theorem ups {D : List B} (hD : G D) (n : Nat) (h1 : 1 ≤ n) (h50 : n ≤ 50) :
    resolveP (join D) (join (List.replicate n [46, 46])) = if D.length < n then ([], 110) else (join (D.take (D.length - n)), 0) := by
  have ho : List.replicate n ([46, 46] : B) ≠ [] := by
    intro e
    have := congrArg List.length e
    rw [List.length_replicate] at this; simp at this; omega
  have hf := out_four (n := n) (b := []) G_nil
  rw [List.append_nil] at hf
  have hlen : (join (List.replicate n ([46, 46] : B))).length ≤ 4000 := by
    have h := join_length _ ho
    rw [tot_replicate] at h
    have h2 : ([46, 46] : B).length = 2 := rfl
    rw [h2] at h; omega
  rw [resolve_of hD (sound_join _ ho hlen hf), msplit_join _ ho (fun p hp => (hf p hp).2.1)]
  by_cases hlt : D.length < n
  · rw [if_pos hlt]
    have := rs_out n D [] hlt
    rwa [List.append_nil] at this
  · rw [if_neg hlt]
    have e := rs_ups (D.take (D.length - n)) [] n (D.drop (D.length - n)) (by rw [List.length_drop]; omega)
    rw [List.take_append_drop, List.append_nil] at e
    rw [e, rs]

/-- down -/
theorem down {D T : List B} (hD : G D) (hT : G T) (hne : T ≠ []) (hl : tot T ≤ 4001) : resolveP (join D) (join T) = (join (D ++ T), 0) := by
  have := join_length T hne
  rw [resolve_of hD (sound_join T hne (by omega) (fun p hp => (hT p hp).four)), msplit_join T hne (fun p hp => (hT p hp).slash), rs_down _ _ hT]

/-- how deep one stands, step by step: up at two dots, else down -/
def depths : List B → Int → Option Int
  | [], d => some d
  | p :: r, d => if (if p = [46, 46] then d - 1 else d + 1) < 0 then none else depths r (if p = [46, 46] then d - 1 else d + 1)
theorem rs_depth : ∀ (r D : List B) (L : List B) (s : B), rs D r = (s, 0) → G D → G L → s = join L → (∀ p ∈ r, (47 : UInt8) ∉ p ∧ (0 : UInt8) ∉ p ∧ V p = true) →
    depths (r.filter fun p => p ≠ [] ∧ p ≠ [46]) D.length = some (L.length : Int)
  | [], D, L, s, h, hD, hL, hs, _ => by
    simp only [rs, Prod.mk.injEq] at h
    have : D = L := join_inj hD hL (by rw [h.1, hs])
    subst this
    rfl
  | p :: r, D, L, s, h, hD, hL, hs, hr => by
    have hr' : ∀ p ∈ r, (47 : UInt8) ∉ p ∧ (0 : UInt8) ∉ p ∧ V p = true := fun q hq => hr q (by simp [hq])
    unfold rs at h
    split at h
    · rename_i c1
      rw [List.filter_cons_of_neg (by simp only [decide_eq_true_eq]; rcases c1 with c1 | c1 <;> simp [c1])]
      exact rs_depth r D L s h hD hL hs hr'
    · rename_i c1
      rw [List.filter_cons_of_pos (by simp only [decide_eq_true_eq]; exact ⟨fun e => c1 (.inl e), fun e => c1 (.inr e)⟩)]
      split at h
      · split at h
        · simp at h
        · rename_i c2 c3
          have := rs_depth r D.dropLast L s h (G_sub (fun p hp => List.dropLast_subset _ hp) hD) hL hs hr'
          have hp := List.length_pos_iff.2 c3
          rw [List.length_dropLast] at this
          rw [depths, if_pos c2, if_neg (by omega), ← this]
          congr 1; omega
      · rename_i c2
        split at h
        · simp at h
        · rename_i c3
          obtain ⟨q1, q2, q3⟩ := hr p (by simp)
          have hp : Good p := ⟨fun e => c1 (.inl e), fun e => c1 (.inr e), c2, q1, q2, q3, by omega⟩
          have := rs_depth r (D ++ [p]) L s h (G_append hD (fun q hq => by simp at hq; subst hq; exact hp)) hL hs hr'
          rw [List.length_append] at this
          rw [depths, if_neg c2, if_neg (by omega), ← this]
          congr 1

end Go.Proofs.PnPath

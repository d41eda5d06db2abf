/-
  A region that draws its order: one fact for each operation, an invariant over the set of operations that have run. Of no program.
-/
import Derived.Test.YtcniahbliadgiaaDoorKit
import Derived.Orders
namespace Go.Proofs.PnKit
open Go.RowKit

/-- the block of a pointer or of a slice -/
def fblk : Value → Option Nat
  | .pointer (some ⟨g, _, _⟩) => some g
  | .slice (some ⟨g, _, _⟩) _ _ => some g
  | _ => none
def fR (n0 : Nat) (u v : Value) : Prop := ∀ g, n0 ≤ g → fblk u = some g → fblk v ≠ some g
theorem fR_symm {n0 : Nat} {u v : Value} (h : fR n0 u v) : fR n0 v u := fun g hg hv hu => h g hg hu hv

section
variable {P : Program} {ops : Array Oper} {Q : Exit → Act → World → Prop}

def fdst (ops : Array Oper) (i : Nat) : Option Tmp := (ops[i]?).bind (·.dst)
def fpred (ops : Array Oper) (i k : Nat) : Bool := match ops[i]? with
  | some o => o.after.any fun e => Region.binds .any e && e.on == k
  | none => false
def fok (ops : Array Oper) (n : Nat) : Bool := (List.range ops.size).all fun i =>
  (match fdst ops i with | some d => decide (d < n) | none => true) &&
  (match ops[i]? with | some o => o.guard.isNone && o.after.all (fun e => !Region.binds .any e || decide (e.on < i)) | none => true) &&
  (List.range ops.size).all fun j => i == j || (match fdst ops i, fdst ops j with | some d, some e => d != e | _, _ => true)

theorem fok_lt {n i : Nat} {d : Tmp} (h : fok ops n = true) (hd : fdst ops i = some d) : d < n := by
  have hi : i < ops.size := by
    rcases Nat.lt_or_ge i ops.size with h' | h'
    · exact h'
    · unfold fdst at hd; rw [Array.getElem?_eq_none h'] at hd; simp at hd
  have h1 := (List.all_eq_true.1 h) i (List.mem_range.2 hi)
  simp only [hd, Bool.and_eq_true] at h1
  simpa using h1.1.1
theorem fok_guard {n i : Nat} {o : Oper} (h : fok ops n = true) (ho : ops[i]? = some o) : o.guard = none := by
  have hi : i < ops.size := (Array.getElem?_eq_some_iff.1 ho).1
  have h1 := (List.all_eq_true.1 h) i (List.mem_range.2 hi)
  simp only [ho, Bool.and_eq_true] at h1
  simpa using h1.1.2.1
theorem fok_pred {n i k : Nat} (h : fok ops n = true) (hp : fpred ops i k = true) : k < i ∧ i < ops.size := by
  unfold fpred at hp
  cases ho : ops[i]? with
  | none => simp [ho] at hp
  | some o =>
    have hi : i < ops.size := (Array.getElem?_eq_some_iff.1 ho).1
    have h1 := (List.all_eq_true.1 h) i (List.mem_range.2 hi)
    simp only [ho, Bool.and_eq_true] at h1 hp
    obtain ⟨e, he, h2⟩ := Array.any_eq_true'.1 hp
    have h3 := Array.all_eq_true_iff_forall_mem.1 h1.1.2.2 e he
    simp only [Bool.and_eq_true, beq_iff_eq] at h2
    have h4 : e.on < i := by
      rw [h2.1] at h3
      simpa using h3
    exact ⟨by omega, hi⟩
theorem fok_ne {n i j : Nat} {d : Tmp} (h : fok ops n = true) (hd : fdst ops i = some d) (hij : i ≠ j) : fdst ops j ≠ some d := by
  intro he
  have lt : ∀ k, fdst ops k = some d → k < ops.size := fun k hk => by
    rcases Nat.lt_or_ge k ops.size with h' | h'
    · exact h'
    · unfold fdst at hk; rw [Array.getElem?_eq_none h'] at hk; simp at hk
  have h1 := (List.all_eq_true.1 h) i (List.mem_range.2 (lt i hd))
  simp only [Bool.and_eq_true] at h1
  have h2 := (List.all_eq_true.1 h1.2) j (List.mem_range.2 (lt j he))
  simp [hd, he, hij] at h2

def fput (ops : Array Oper) (a : Act) (xs : Nat → Value) : Nat → Act
  | 0 => a
  | n + 1 => (fput ops a xs n).put (fdst ops n) (xs n)
def fno (ops : Array Oper) (d : Tmp) : Bool := (List.range ops.size).all fun j => fdst ops j != some d
def fupd (xs : Nat → Value) (i : Nat) (v : Value) : Nat → Value := fun j => if j = i then v else xs j
theorem fupd_same (xs : Nat → Value) (i : Nat) (v : Value) : fupd xs i v i = v := by simp [fupd]
theorem fupd_ne {xs : Nat → Value} {i j : Nat} {v : Value} (h : j ≠ i) : fupd xs i v j = xs j := by simp [fupd, h]

theorem put_put (a : Act) (x : Option Tmp) (u v : Value) : (a.put x u).put x v = a.put x v := by
  cases x with
  | none => rfl
  | some d => simp [Act.put]
theorem fput_congr {a : Act} {xs ys : Nat → Value} : ∀ n, (∀ j, j < n → xs j = ys j) → fput ops a xs n = fput ops a ys n
  | 0, _ => rfl
  | n + 1, h => by rw [fput, fput, fput_congr n fun j hj => h j (by omega), h n (by omega)]
theorem fput_upd {m : Nat} (hk : fok ops m = true) {a : Act} {xs : Nat → Value} {i : Nat} {v : Value} : ∀ n, i < n → fput ops a (fupd xs i v) n = (fput ops a xs n).put (fdst ops i) v
  | 0, h => by omega
  | n + 1, h => by
    rw [fput, fput]
    by_cases hi : i = n
    · subst hi
      rw [fupd_same, put_put, fput_congr i fun j hj => fupd_ne (by omega)]
    · rw [fput_upd hk n (by omega), fupd_ne (by omega), Act.put_comm]
      intro d hd
      exact fok_ne hk hd hi
theorem fput_size (ops : Array Oper) {a : Act} {xs : Nat → Value} : ∀ n, (fput ops a xs n).tmps.size = a.tmps.size
  | 0 => rfl
  | n + 1 => by
    rw [fput]
    have ih := fput_size ops (a := a) (xs := xs) n
    cases fdst ops n with
    | none => simpa [Act.put] using ih
    | some d => simpa [Act.put] using ih
theorem fput_other {a : Act} {xs : Nat → Value} {d : Tmp} : ∀ n, (∀ j, j < n → fdst ops j ≠ some d) → (fput ops a xs n).tmps[d]? = a.tmps[d]?
  | 0, _ => rfl
  | n + 1, h => by
    rw [fput]
    have ih := fput_other (a := a) (xs := xs) (d := d) n fun j hj => h j (by omega)
    have h1 := h n (by omega)
    cases he : fdst ops n with
    | none => exact ih
    | some e =>
      have : e ≠ d := fun h => h1 (by rw [he, h])
      simp [Act.put, Array.getElem?_setIfInBounds_ne this, ih]
theorem fput_get {m : Nat} (hk : fok ops m = true) {a : Act} (hm : a.tmps.size = m) {xs : Nat → Value} {i : Nat} {d : Tmp} (hd : fdst ops i = some d) : ∀ n, i < n → (fput ops a xs n).tmps[d]? = some (xs i)
  | 0, h => by omega
  | n + 1, h => by
    rw [fput]
    by_cases hi : i = n
    · subst hi
      rw [hd]
      have : d < (fput ops a xs i).tmps.size := by rw [fput_size ops, hm]; exact fok_lt hk hd
      simp [Act.put, this]
    · have ih := fput_get hk hm (xs := xs) hd n (by omega)
      cases he : fdst ops n with
      | none => exact ih
      | some e =>
        have : e ≠ d := fun h => fok_ne hk hd hi (by rw [he, h])
        simp [Act.put, Array.getElem?_setIfInBounds_ne this, ih]
theorem fput_self {m : Nat} (hk : fok ops m = true) {a : Act} (hm : a.tmps.size = m) : ∀ n, fput ops a (fun j => match fdst ops j with | some d => a.tmps.getD d undef | none => undef) n = a
  | 0 => rfl
  | n + 1 => by
    rw [fput, fput_self hk hm n]
    cases hd : fdst ops n with
    | none => rfl
    | some d =>
      have hlt : d < a.tmps.size := by rw [hm]; exact fok_lt hk hd
      have hs : a.tmps.setIfInBounds d (a.tmps.getD d undef) = a.tmps := by
        apply Array.ext
        · simp
        · intro i h1 h2
          rw [Array.getElem_setIfInBounds]
          split
          · rename_i h; subst h; simp
          · rfl
      simp only [Act.put, hs]

/-- what holds when the operations of 'l' have run -/
structure FI (ops : Array Oper) (F : Nat → (Nat → Value) → World → Prop) (kills kin : Nat → Nat → Bool) (w0 : World) (l : Nat → Prop) (xs : Nat → Value) (w : World) : Prop where
  cl : ∀ j k, l j → fpred ops j k = true → l k
  below : Below w0.heap.size w0 w
  fact : ∀ j, l j → (∀ k, kills k j = true → ¬ l k) → F j xs w
  ap : ∀ j k, j ≠ k → l j → l k → kin j k = false → fR w0.heap.size (xs j) (xs k)
  lt : ∀ j g, l j → kin j j = false → fblk (xs j) = some g → g < w.heap.size

theorem wpAny_inv {I : (Nat → Prop) → Act → World → Prop} (hg : ∀ (i : Nat) (o : Oper), ops[i]? = some o → o.guard = none)
    (hstep : ∀ (l : Nat → Prop) (a : Act) (w : World) (i : Nat) (o : Oper), I l a w → ops[i]? = some o → ¬ l i → (∀ k, fpred ops i k = true → l k) → o.wp P a w (fun a' w' => I (fun j => j = i ∨ l j) a' w') Q)
    (hcong : ∀ l l' a w, (∀ j, l j ↔ l' j) → I l a w → I l' a w)
    (hend : ∀ l a w, I l a w → (∀ (i : Nat) (o : Oper), ops[i]? = some o → l i ∨ ∃ k, fpred ops i k = true ∧ ¬ l k) → Q .normal a w) :
    ∀ (fuel : Nat) (L : Array Bool) (a : Act) (w : World), L.size = ops.size → L.toList.count false ≤ fuel → I (fun j => L.getD j true = true ∧ j < ops.size) a w → wpAny P .any ops Q fuel L a w := by
  intro fuel
  have hlist : ∀ (L : Array Bool) (i : Nat) (o : Oper), L.size = ops.size → ops[i]? = some o → (L.getD i true = true ∧ i < ops.size) ∨ (L[i]? = some false) := fun L i o hL ho => by
    have hi : i < ops.size := (Array.getElem?_eq_some_iff.1 ho).1
    have hi' : i < L.size := by omega
    rcases hb : L[i]? with _ | b
    · rw [Array.getElem?_eq_none_iff] at hb; omega
    · cases b
      · exact Or.inr rfl
      · exact Or.inl ⟨by simp [hb], hi⟩
  have hpred : ∀ (L : Array Bool) (i : Nat) (o : Oper), L.size = ops.size → ops[i]? = some o → i ∈ Region.ready .any ops L → (∀ k, fpred ops i k = true → L.getD k true = true ∧ k < ops.size) := fun L i o hL ho hr k hk => by
    obtain ⟨_, o', ho', h⟩ := mem_ready.1 hr
    rw [ho] at ho'; injection ho' with e; subst e
    simp only [fpred, ho] at hk
    obtain ⟨e, he, h2⟩ := Array.any_eq_true'.1 hk
    simp only [Bool.and_eq_true, beq_iff_eq] at h2
    have h3 := h e he h2.1
    rw [h2.2] at h3
    have hlt : k < L.size := by
      rcases Nat.lt_or_ge k L.size with h' | h'
      · exact h'
      · simp [Array.getElem?_eq_none h'] at h3
    refine ⟨?_, by omega⟩
    simp [hlt] at h3 ⊢; exact h3
  have fin : ∀ (L : Array Bool) (a : Act) (w : World), L.size = ops.size → I (fun j => L.getD j true = true ∧ j < ops.size) a w → Region.ready .any ops L = [] → Q .normal a w := fun L a w hL hI hr => by
    refine hend _ a w hI fun i o ho => ?_
    rcases hlist L i o hL ho with h | h
    · exact Or.inl h
    right
    have hni : i ∉ Region.ready .any ops L := by rw [hr]; simp
    rw [mem_ready] at hni
    have hf : L.getD i true = false := by simp [h]
    apply Classical.byContradiction
    intro hno
    refine hni ⟨hf, o, ho, fun e he hb => ?_⟩
    have hp : fpred ops i e.on = true := by
      simp only [fpred, ho]
      exact Array.any_eq_true'.2 ⟨e, he, by simp [hb]⟩
    have h1 : L.getD e.on true = true ∧ e.on < ops.size := Classical.byContradiction fun hh => hno ⟨e.on, hp, hh⟩
    have : e.on < L.size := by omega
    have h2 := h1.1
    simp [this] at h2 ⊢; exact h2
  induction fuel with
  | zero =>
    intro L a w hL hc hI
    have hr : Region.ready .any ops L = [] := by
      rcases hr : Region.ready .any ops L with _ | ⟨i, rest⟩
      · rfl
      · have hi : i ∈ Region.ready .any ops L := by rw [hr]; simp
        obtain ⟨hf, _, _, _⟩ := mem_ready.1 hi
        have hm : false ∈ L.toList := by
          rcases hb : L[i]? with _ | b
          · rw [Array.getD_eq_getD_getElem?, hb] at hf; simp at hf
          · rw [Array.getD_eq_getD_getElem?, hb] at hf; simp at hf; subst hf
            exact Array.mem_toList_iff.2 (Array.mem_of_getElem? hb)
        have := List.count_pos_iff.2 hm
        omega
    exact ⟨hr, fin L a w hL hI hr⟩
  | succ fuel ih =>
    intro L a w hL hc hI
    refine ⟨fun hr => fin L a w hL hI hr, fun i hi => ?_⟩
    obtain ⟨hf, o, ho, _⟩ := mem_ready.1 hi
    have hp := hpred L i o hL ho hi
    have hilt : i < ops.size := (Array.getElem?_eq_some_iff.1 ho).1
    have hs := hstep _ a w i o hI ho (fun h => by rw [h.1] at hf; cases hf) hp
    unfold wpOp
    simp only [ho]
    have hw : Region.wanted o (yielded ops a.tmps) = true := by simp [Region.wanted, hg i o ho]
    rw [if_pos hw]
    refine Or.inl (Oper.wp_mono (fun a' w' h => ih (L.setIfInBounds i true) a' w' (by simp [hL]) ?_ ?_) hs)
    · have hiL : i < L.toList.length := by simp; omega
      have hget : L.toList[i] = false := by
        have : L.getD i true = L[i]'(by omega) := by simp [show i < L.size by omega]
        rw [this] at hf
        simpa using hf
      rw [Array.toList_setIfInBounds, List.count_set hiL, hget]
      have := List.count_pos_iff.2 (hget ▸ List.getElem_mem hiL : false ∈ L.toList)
      have e1 : ((false : Bool) == false) = true := rfl
      have e2 : ((true : Bool) == false) = false := rfl
      rw [e1, e2]
      simp only [if_true, Bool.false_eq_true, if_false]
      omega
    · refine hcong _ _ _ _ (fun j => ?_) h
      by_cases hji : j = i
      · subst hji
        simp [show j < L.size by omega, hilt]
      · rw [getD_set_ne true (fun h => hji h.symm)]
        simp [hji]


/-- each operation's own step -/
def fAll (S : Nat → Oper → Prop) : Nat → List Oper → Prop
  | _, [] => True
  | i, o :: L => S i o ∧ fAll S (i + 1) L
theorem fAll_get {S : Nat → Oper → Prop} : ∀ {L : List Oper} {i j : Nat} {o : Oper}, fAll S i L → L[j]? = some o → S (i + j) o
  | [], _, _, _, _, h => by simp at h
  | x :: L, i, 0, o, hS, h => by simp at h; subst h; exact hS.1
  | x :: L, i, j + 1, o, hS, h => by
    have := fAll_get (i := i + 1) (j := j) hS.2 (by simpa using h)
    rw [show i + (j + 1) = i + 1 + j by omega]
    exact this

theorem wp_region_facts {id : Nat} {a0 : Act} {w : World} (F : Nat → (Nat → Value) → World → Prop) (kills kin : Nat → Nat → Bool)
    (hm : P.follows .mixedOrders = true) (m : Nat) (hsz : a0.tmps.size = m) (hk : fok ops m = true) (n : Nat) (hn : ops.size = n)
    (hstep : fAll (fun i o => ∀ (l : Nat → Prop) (xs : Nat → Value) (w1 : World) (a : Act), ¬ l i → (∀ k, fpred ops i k = true → l k) → FI ops F kills kin w l xs w1 →
      (∀ j d, fdst ops j = some d → a.tmps[d]?.getD undef = xs j) → (∀ d, fno ops d = true → a.tmps[d]?.getD undef = a0.tmps[d]?.getD undef) →
      ∀ K : Act → World → Prop, (∀ v w', FI ops F kills kin w (fun j => j = i ∨ l j) (fupd xs i v) w' → K (a.put o.dst v) w') → o.wp P a w1 K Q) 0 ops.toList)
    (hend : ∀ xs w1, FI ops F kills kin w (fun j => j < n) xs w1 → Q .normal (fput ops a0 xs n) w1) :
    (Code.region id ops true).wp P Q a0 w := by
  subst hn
  refine wp_region_any hm ?_
  refine wpAny_inv (I := fun l a w1 => ∃ xs, a = fput ops a0 xs ops.size ∧ (∀ j, l j → j < ops.size) ∧ FI ops F kills kin w l xs w1) (fun i o ho => fok_guard hk ho) ?_ ?_ ?_ _ _ _ _ (by simp) (by simp) ?_
  · rintro l a w1 i o ⟨xs, rfl, hlt, hI⟩ ho hn hp
    have hil : i < ops.size := (Array.getElem?_eq_some_iff.1 ho).1
    have hd : fdst ops i = o.dst := by simp [fdst, ho]
    have hoL : ops.toList[i]? = some o := by simpa using ho
    have h := fAll_get hstep hoL
    rw [Nat.zero_add] at h
    refine h l xs w1 _ hn hp hI (fun j d hj => ?_) (fun d hd => ?_) _ (fun v w' h => ?_)
    · have hjl : j < ops.size := by
        rcases Nat.lt_or_ge j ops.size with h' | h'
        · exact h'
        · unfold fdst at hj; rw [Array.getElem?_eq_none h'] at hj; simp at hj
      have := fput_get hk hsz (xs := xs) hj ops.size hjl
      simp [this]
    · have := fput_other (a := a0) (xs := xs) ops.size (fun j hj => by have := (List.all_eq_true.1 hd) j (List.mem_range.2 hj); simpa using this)
      simp [this]
    · refine ⟨fupd xs i v, ?_, ?_, h⟩
      · rw [fput_upd hk ops.size hil, hd]
      · rintro j (rfl | h)
        · exact hil
        · exact hlt j h
  · rintro l l' a w1 hll ⟨xs, e, hlt, hI⟩
    have : l = l' := funext fun j => propext (hll j)
    subst this
    exact ⟨xs, e, hlt, hI⟩
  · rintro l a w1 ⟨xs, rfl, hlt, hI⟩ hall
    have all : ∀ n i, i ≤ n → i < ops.size → l i := by
      intro n
      induction n with
      | zero =>
        intro i hi his
        have ho : ops[i]? = some ops[i] := Array.getElem?_eq_getElem his
        rcases hall i _ ho with h | ⟨k, hk1, _⟩
        · exact h
        · have := (fok_pred hk hk1).1; omega
      | succ n ih =>
        intro i hi his
        have ho : ops[i]? = some ops[i] := Array.getElem?_eq_getElem his
        rcases hall i _ ho with h | ⟨k, hk1, hk2⟩
        · exact h
        · have h1 := (fok_pred hk hk1).1
          exact absurd (ih k (by omega) (by omega)) hk2
    have : l = fun j => j < ops.size := funext fun j => propext ⟨hlt j, fun h => all j j (Nat.le_refl _) h⟩
    subst this
    exact hend xs w1 hI
  · have e : (fun j => (Array.replicate ops.size false).getD j true = true ∧ j < ops.size) = fun _ => False := funext fun j => propext ⟨fun ⟨h1, h2⟩ => by simp [h2] at h1, False.elim⟩
    rw [e]
    refine ⟨_, (fput_self hk hsz ops.size).symm, fun _ h => h.elim, ⟨fun _ _ h => h.elim, ?_, fun _ h => h.elim, fun _ _ _ h => h.elim, fun _ _ h => h.elim⟩⟩
    exact (Below.refl _ _).drew

theorem FI.gen {F : Nat → (Nat → Value) → World → Prop} {kills kin : Nat → Nat → Bool} {w0 : World} {l : Nat → Prop} {xs : Nat → Value} {w w' : World} {i : Nat} {v : Value} (h : FI ops F kills kin w0 l xs w)
    (hext : ∀ j xs ys w, (∀ k, k = j ∨ fpred ops j k = true → xs k = ys k) → F j xs w → F j ys w) (hsym : ∀ j k, kin j k = kin k j)
    (hn : ¬ l i) (hp : ∀ k, fpred ops i k = true → l k) (hb : Below w0.heap.size w0 w') (hs : w.heap.size ≤ w'.heap.size)
    (hold : ∀ j, l j → kills i j = false → (∀ k, kills k j = true → ¬ l k) → F j xs w → F j xs w')
    (hR : ∀ k, l k → kin i k = false → fR w0.heap.size v (xs k)) (hv : kin i i = false → ∀ g, fblk v = some g → g < w'.heap.size)
    (hF : (∀ k, kills k i = true → ¬ l k) → F i (fupd xs i v) w') : FI ops F kills kin w0 (fun j => j = i ∨ l j) (fupd xs i v) w' := by
  have hne : ∀ j, l j → j ≠ i := fun j hj e => hn (e ▸ hj)
  refine ⟨?_, hb, ?_, ?_, ?_⟩
  · rintro j k (rfl | hj) hjk
    · exact Or.inr (hp k hjk)
    · exact Or.inr (h.cl j k hj hjk)
  · rintro j (rfl | hj) hal
    · exact hF fun k hkk hl => hal k hkk (Or.inr hl)
    · have h1 := hold j hj (by
        cases hki : kills i j
        · rfl
        · exact absurd (Or.inl rfl) (hal i hki)) (fun k hkk hl => hal k hkk (Or.inr hl)) (h.fact j hj fun k hkk hl => hal k hkk (Or.inr hl))
      refine hext j xs _ w' (fun k hkk => (fupd_ne ?_).symm) h1
      rcases hkk with rfl | hkk
      · exact hne _ hj
      · exact hne _ (h.cl j k hj hkk)
  · rintro j k hjk (rfl | hj) (rfl | hkk) hkin
    · exact absurd rfl hjk
    · rw [fupd_same, fupd_ne (hne k hkk)]; exact hR k hkk hkin
    · rw [fupd_same, fupd_ne (hne j hj)]; exact fR_symm (hR j hj (by rw [hsym]; exact hkin))
    · rw [fupd_ne (hne k hkk), fupd_ne (hne j hj)]; exact h.ap j k hjk hj hkk hkin
  · rintro j g (rfl | hj) hd hg
    · rw [fupd_same] at hg; exact hv hd g hg
    · rw [fupd_ne (hne j hj)] at hg; have := h.lt j g hj hd hg; omega

theorem FI.std {F : Nat → (Nat → Value) → World → Prop} {kills kin : Nat → Nat → Bool} {w0 : World} {l : Nat → Prop} {xs : Nat → Value} {w w' : World} {i : Nat} {v : Value} (h : FI ops F kills kin w0 l xs w)
    (hext : ∀ j xs ys w, (∀ k, k = j ∨ fpred ops j k = true → xs k = ys k) → F j xs w → F j ys w) (hsym : ∀ j k, kin j k = kin k j) (hdiag : ∀ j k, kin j k = false → kin k k = false)
    (hmono : ∀ j xs w w', F j xs w → Below w.heap.size w w' → F j xs w')
    (hn : ¬ l i) (hp : ∀ k, fpred ops i k = true → l k) (hb : Below w.heap.size w w')
    (hv : kin i i = false → ∀ g, fblk v = some g → g < w'.heap.size ∧ (g < w0.heap.size ∨ w.heap.size ≤ g))
    (hF : F i (fupd xs i v) w') : FI ops F kills kin w0 (fun j => j = i ∨ l j) (fupd xs i v) w' := by
  refine h.gen hext hsym hn hp (h.below.trans (hb.mono h.below.size)) hb.size (fun j _ _ _ hf => hmono j xs w w' hf hb) (fun k hl hkin g hg h1 h2 => ?_) (fun hd g hg => (hv hd g hg).1) (fun _ => hF)
  have h3 := h.lt k g hl (hdiag _ _ hkin) h2
  have hd := hdiag k i (by rw [hsym]; exact hkin)
  rcases (hv hd g h1).2 with h4 | h4 <;> omega

end
end Go.Proofs.PnKit

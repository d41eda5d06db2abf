/-
  pannierlaw14.UsageGrows: things as cells, append, and the facts of its drawn region.
-/
import Derived.Test.YtcniahbliadgiaaDoorPlant
import Derived.Test.YtcniahbliadgiaaDoorUseB
import Derived.Test.YtcniahbliadgiaaDoorFacts
import Derived.Deep.AppendLies
import Derived.Laws.OwnMore
import Derived.Deep.DrawnRows
import Derived.Deep.Cut
namespace Go.Proofs.YtcniahbliadgiaaDoor
open Go.RowKit
open Go.Proofs.PnKit Go.Proofs.PnPath

theorem grow_bytes {S : Int} : ∀ (L : List Rw) (seen : List Int) (u : Us), (∀ r ∈ L, 0 ≤ r.size ∧ r.size ≤ S) → 0 ≤ S → u.bytes ≤ (usF seen u L).bytes ∧ (usF seen u L).bytes ≤ u.bytes + S * L.length
  | [], seen, u, _, _ => by simp [usF]
  | r :: L, seen, u, h, hS => by
    have ih := grow_bytes L (r.id :: seen) (usOne seen u r) (fun x hx => h x (by simp [hx])) hS
    have hr := h r (by simp)
    have h1 : u.bytes ≤ (usOne seen u r).bytes ∧ (usOne seen u r).bytes ≤ u.bytes + S := by
      unfold usOne; simp only
      by_cases h1 : r.id ∈ seen <;> by_cases h2 : r.kind = 1 <;> simp only [h1, h2, if_true, if_false] <;> omega
    have h2 : S * ((r :: L).length : Int) = S * (L.length : Int) + S := by rw [List.length_cons]; push_cast; rw [Int.mul_add, Int.mul_one]
    rw [usF, h2]
    omega

/-- things as their cells -/
def flatG (T : List Tg) : List Value := T.flatMap tgC
theorem tgC_len (x : Tg) : (tgC x).length = 4 := rfl
theorem flatG_cons (x : Tg) (T : List Tg) : flatG (x :: T) = tgC x ++ flatG T := rfl
theorem flatG_snoc (T : List Tg) (x : Tg) : flatG (T ++ [x]) = flatG T ++ tgC x := by unfold flatG; rw [List.flatMap_append]; simp
theorem flatG_length : ∀ (T : List Tg), (flatG T).length = T.length * 4
  | [] => rfl
  | x :: T => by rw [flatG_cons, List.length_append, flatG_length T, tgC_len, List.length_cons]; omega
theorem flatG_drop : ∀ (T : List Tg) (i : Nat), flatG (T.drop i) = (flatG T).drop (i * 4)
  | [], i => by simp [flatG]
  | x :: T, 0 => by simp
  | x :: T, i + 1 => by
    have h : (tgC x).drop ((i + 1) * 4) = [] := List.drop_eq_nil_of_le (by rw [tgC_len]; omega)
    rw [List.drop_succ_cons, flatG_cons, flatG_drop T i, List.drop_append, tgC_len, h, List.nil_append, show (i + 1) * 4 - 4 = i * 4 by omega]
theorem flatG_get (T : List Tg) {j i : Nat} {x : Tg} (hj : T[j]? = some x) (hi : i < 4) : (flatG T)[j * 4 + i]? = (tgC x)[i]? := by
  have h2 : flatG (T.drop j) = (flatG T).drop (j * 4) := flatG_drop T j
  have hlt := (List.getElem?_eq_some_iff.1 hj).1
  rw [List.drop_eq_getElem_cons hlt, flatG_cons] at h2
  have h3 : (flatG T)[j * 4 + i]? = ((flatG T).drop (j * 4))[i]? := by rw [List.getElem?_drop]
  rw [h3, ← h2, List.getElem?_append_left (by rw [tgC_len]; omega)]
  have : T[j] = x := by rw [List.getElem?_eq_getElem hlt] at hj; exact Option.some.inj hj
  rw [this]
theorem tg_one (x : Tg) : ∀ u ∈ tgC x, u.oneCell' = true := by
  intro u hu
  simp only [tgC, List.mem_cons, List.not_mem_nil, or_false] at hu
  rcases hu with rfl | rfl | rfl | rfl <;> rfl
theorem flatG_one (T : List Tg) : ∀ u ∈ flatG T, u.oneCell' = true := by
  intro u hu
  obtain ⟨r, _, h⟩ := List.mem_flatMap.1 hu
  exact tg_one r u h
theorem Rg.of_own {w : World} {base : Nat} {e : TypeId} {v : Value} {T : List Tg} (h : w.ownsRow base e 4 v T.length (flatG T)) : ∃ A c, v = .slice A T.length c ∧ Rg w A c T := by
  rcases h.2 with ⟨rfl, h0⟩ | ⟨g, cap, cur, rfl, hb, hg, hc, hm, hs, ht⟩
  · obtain rfl : T = [] := List.eq_nil_of_length_eq_zero h0
    exact ⟨none, 0, rfl, ⟨Nat.le_refl _, fun _ => rfl, fun j x h => by simp at h⟩⟩
  · have hlt : g < w.heap.size := (Array.getElem?_eq_some_iff.1 hg).1
    have key : ∀ (j i : Nat) (x : Tg) (v : Value), T[j]? = some x → (tgC x)[i]? = some v → w.cell? ⟨g, 0 + j * 4 + i, none⟩ = some v := fun j i x v hj hi => by
      have hi4 : i < 4 := by have := (List.getElem?_eq_some_iff.1 hi).1; rwa [tgC_len] at this
      have h1 := flatG_get T hj hi4
      rw [hi, ← ht, List.getElem?_take] at h1
      split at h1
      · rw [Nat.zero_add]
        have e : w.cell? ⟨g, j * 4 + i, none⟩ = cur[j * 4 + i]? := cell_of_row _ _ _ _ _ _ hg
        rw [e, ← Array.getElem?_toList]; exact h1
      · cases h1
    exact ⟨_, cap, rfl, hc, (fun h => by cases h), fun j x hj => ⟨g, 0, rfl, hlt, key j 0 x _ hj rfl, key j 1 x _ hj rfl, key j 2 x _ hj rfl, key j 3 x _ hj rfl⟩⟩
theorem Rg.olds {w : World} {A : Option Addr} {c : Nat} {T : List Tg} (h : Rg w A c T) : ∀ b, A = some b → ∀ (j : Nat) (u : Value), (flatG T)[j]? = some u → w.cell? (b.add j) = some u := by
  intro b e j u hj
  have hjl : j < T.length * 4 := by have := (List.getElem?_eq_some_iff.1 hj).1; rwa [flatG_length] at this
  have hm : j / 4 < T.length := by omega
  have hx : T[j / 4]? = some T[j / 4] := List.getElem?_eq_getElem hm
  have hi : j % 4 < 4 := Nat.mod_lt _ (by decide)
  have h1 := flatG_get T hx hi
  rw [show j / 4 * 4 + j % 4 = j by omega, hj] at h1
  obtain ⟨b', o', e', _, c0, c1, c2, c3⟩ := h.cell _ _ hx
  rw [e] at e'
  injection e' with e'
  subst e'
  rw [add_at, show o' + j = o' + j / 4 * 4 + j % 4 by omega]
  have hq : j % 4 = 0 ∨ j % 4 = 1 ∨ j % 4 = 2 ∨ j % 4 = 3 := by omega
  rcases hq with hq | hq | hq | hq <;> rw [hq] at h1 ⊢ <;> (injection h1 with h1; subst h1) <;> assumption

theorem info_tg : (Tryd.prog.info? 49).map (fun i => (i.zero, i.size, i.bytes)) = some (some (.agg #[.string ⟨#[]⟩, .string ⟨#[]⟩, .int .i64 0, .int .i64 0]), 4, 48) := by kernel_rfl

/-- 'append' onto a row of the call's own, as one operation -/
theorem wp_append_tg {w : World} {o : Oper} {a : Act} {K : Act → World → Prop} {Q : Exit → Act → World → Prop} (s x : Operand)
    (ho : o.op = .call { callee := .builtin .append, args := #[s, x], argTypes := #[32, 32] })
    (base : Nat) (v : Value) (n : Nat) (xs : List Value) (hs : a.eval s = v) (hown : w.ownsRow base 49 4 v n xs)
    (A : Option Addr) (c : Nat) (T : List Tg) (hx : a.eval x = .slice A T.length c) (hR : Rg w A c T)
    (hlen : n + T.length ≤ 1000000) (hbase : base ≤ w.heap.size)
    (h : ∀ v' w', w'.ownsRow base 49 4 v' (n + T.length) (xs ++ flatG T) → w.grownBy w' v.ownBlock → (v'.ownBlock = v.ownBlock ∨ v'.ownBlock = some w.heap.size) → K (a.put o.dst v') w') : o.wp Tryd.prog a w K Q := by
  obtain ⟨i0, hi0, hz0, hz1, hz2⟩ := info_parts info_tg
  cases A with
  | none =>
    have h0 : T = [] := by
      cases T with
      | nil => rfl
      | cons y T => obtain ⟨b, o, e', _⟩ := hR.cell 0 y rfl; cases e'
    subst h0
    have hc := hR.nil0 rfl
    subst hc
    have hrun := run_append_owned_none (P := Tryd.prog) (w := w) base 32 o.type 49 i0 4 Tryd.underlying32 hi0 v n xs hown
    unfold Oper.wp
    simp [execOp, ho, resolve, invoke, builtin, hs, hx, hrun, Result.andThen]
    exact h _ _ (by simpa [flatG] using hown) (World.grownBy.refl w _) (Or.inl rfl)
  | some ad =>
    obtain ⟨v', w', hr, h2, h3, _, h5⟩ := run_append_own_at (P := Tryd.prog) w base 32 o.type 49 i0 _ 4 48 Tryd.underlying32 hi0 hz0 hz1 hz2 rfl (by decide) v n xs hown ad T.length c (flatG T) (flatG_length T) (hR.olds ad rfl) (flatG_one T) (by simp only [maxLen]; omega) (by omega) hbase
    unfold Oper.wp execOp
    simp only [ho, resolve, invoke, builtin, Sem.run_bind, Sem.run_pure, Result.andThen_ok, List.map_toArray, List.map_cons, List.map_nil, hs, hx, hr]
    exact h v' w' h2 h3 h5

theorem own_fblk {w : World} {base : Nat} {e : TypeId} {k n : Nat} {v : Value} {xs : List Value} (h : w.ownsRow base e k v n xs) : fblk v = v.ownBlock ∧ ∀ g, fblk v = some g → base ≤ g ∧ g < w.heap.size := by
  rcases h.2 with ⟨rfl, _⟩ | ⟨g, cap, cur, rfl, hb, hg, _⟩
  · exact ⟨rfl, fun g hg => by cases hg⟩
  · refine ⟨rfl, fun g' hg' => ?_⟩
    injection hg' with e
    subst e
    exact ⟨hb, blk_lt hg⟩
theorem own_below {w w' : World} {base : Nat} {e : TypeId} {k n : Nat} {v : Value} {xs : List Value} (h : w.ownsRow base e k v n xs) (hb : Below w.heap.size w w') : w'.ownsRow base e k v n xs := by
  refine ⟨h.1, ?_⟩
  rcases h.2 with h2 | ⟨g, cap, cur, h1, h3, hg, h4⟩
  · exact Or.inl h2
  · exact Or.inr ⟨g, cap, cur, h1, h3, (hb.block _ (blk_lt hg)).trans hg, h4⟩

theorem ownr_eq {w : World} {base : Nat} {e : TypeId} {k n : Nat} {u v : Value} {xs : List Value} (h : w.ownsRow base e k u n xs) (he : u = v) : w.ownsRow base e k v n xs := he ▸ h
abbrev trG (A : Option Addr) (n c : Nat) (x : Int) : Value := .agg #[.slice A n c, .int .i64 x]
abbrev tT : TypeId := 49
abbrev usT : TypeId := 23
def groF (n0 : Nat) (vt vl : Value) (L : List Tg) (x : Tg) (N : List Rw) (nn : Int) (uM uN : Us) : Nat → (Nat → Value) → World → Prop
  | 0, xs, _ => xs 0 = vt
  | 1, xs, _ => xs 1 = usV uM
  | 2, xs, w => w.ownsRow n0 tT 4 (xs 2) 0 []
  | 3, xs, _ => xs 3 = vl
  | 4, xs, w => w.ownsRow n0 tT 4 (xs 4) L.length (flatG L)
  | 5, xs, _ => xs 5 = .agg (tgC x).toArray
  | 6, xs, w => ∃ g, xs 6 = .slice (some ⟨g, 0, none⟩) 1 1 ∧ n0 ≤ g ∧ w.heap[g]? = some (.cells (tgC x).toArray tT (0, 0))
  | 7, xs, w => w.ownsRow n0 tT 4 (xs 7) (L ++ [x]).length (flatG (L ++ [x]))
  | 8, xs, w => ∃ A c, xs 8 = trG A N.length c nn ∧ RT w A c N
  | 9, xs, _ => xs 9 = usV uN
  | 10, xs, w => ∃ g, xs 10 = .pointer (some ⟨g, 0, none⟩) ∧ n0 ≤ g ∧ w.heap[g]? = some (.cells (usC ⟨0, 0, 0, 0⟩).toArray usT (0, 0))
  | 11, xs, w => ∃ g, xs 11 = .pointer (some ⟨g, 0, none⟩) ∧ n0 ≤ g ∧ w.heap[g]? = some (.cells (usC ⟨0, 0, 0, 0⟩).toArray usT (0, 0))
  | 12, xs, w => ∃ g, xs 10 = .pointer (some ⟨g, 0, none⟩) ∧ n0 ≤ g ∧ w.heap[g]? = some (.cells (usC uM).toArray usT (0, 0))
  | 13, xs, w => ∃ g, xs 11 = .pointer (some ⟨g, 0, none⟩) ∧ n0 ≤ g ∧ w.heap[g]? = some (.cells (usC uN).toArray usT (0, 0))
  | _, _, _ => True
def groK (i j : Nat) : Bool := (i == 4 && j == 2) || (i == 7 && j == 4) || (i == 7 && j == 6) || (i == 12 && j == 10) || (i == 13 && j == 11) || (i == 9 && j == 8)
def groKin (i j : Nat) : Bool := (i == 3 || j == 3) || (i == 2 && j == 4) || (i == 4 && j == 2) || (i == 2 && j == 7) || (i == 7 && j == 2) || (i == 4 && j == 7) || (i == 7 && j == 4)
theorem groKin_sym (j k : Nat) : groKin j k = groKin k j := by
  unfold groKin
  rw [Bool.eq_iff_iff]
  simp only [Bool.or_eq_true, Bool.and_eq_true, beq_iff_eq]
  omega
theorem groKin_diag (j k : Nat) (h : groKin j k = false) : groKin k k = false := by
  rw [← Bool.not_eq_true] at h ⊢
  unfold groKin at *
  simp only [Bool.or_eq_true, Bool.and_eq_true, beq_iff_eq] at *
  omega
theorem groKin_24 {k : Nat} (h : groKin 4 k = false) (hk : k ≠ 4) : groKin 2 k = false := by
  simp [groKin] at h ⊢
  omega
theorem groKin_47 {k : Nat} (h : groKin 7 k = false) (h7 : k ≠ 7) : groKin 4 k = false := by
  simp [groKin] at h ⊢
  omega
theorem groF_mono {n0 : Nat} {vt vl : Value} {L : List Tg} {x : Tg} {N : List Rw} {nn : Int} {uM uN : Us} : ∀ j xs w w', groF n0 vt vl L x N nn uM uN j xs w → Below w.heap.size w w' → groF n0 vt vl L x N nn uM uN j xs w' := by
  intro j xs w w' h hb
  rcases j with _ | _ | _ | _ | _ | _ | _ | _ | _ | _ | _ | _ | _ | _ | j
  all_goals first
    | exact h
    | exact own_below h hb
    | (obtain ⟨g, h1, h2, h3⟩ := h; exact ⟨g, h1, h2, (hb.block _ (blk_lt h3)).trans h3⟩)
    | (obtain ⟨A, c, h1, h2⟩ := h; exact ⟨A, c, h1, h2.below hb⟩)
theorem groF_ext {ops : Array Oper} (ha : fpred ops 12 10 = true) (hb : fpred ops 13 11 = true) {n0 : Nat} {vt vl : Value} {L : List Tg} {x : Tg} {N : List Rw} {nn : Int} {uM uN : Us} : ∀ (j : Nat) (xs ys : Nat → Value) (w : World), (∀ k, k = j ∨ fpred ops j k = true → xs k = ys k) → groF n0 vt vl L x N nn uM uN j xs w → groF n0 vt vl L x N nn uM uN j ys w := by
  intro j xs ys w h hf
  have hj := h j (Or.inl rfl)
  rcases j with _ | _ | _ | _ | _ | _ | _ | _ | _ | _ | _ | _ | _ | _ | j
  case succ.succ.succ.succ.succ.succ.succ.succ.succ.succ.succ.succ.zero => obtain ⟨g, h1, h2⟩ := hf; exact ⟨g, (h 10 (Or.inr ha)).symm.trans h1, h2⟩
  case succ.succ.succ.succ.succ.succ.succ.succ.succ.succ.succ.succ.succ.zero => obtain ⟨g, h1, h2⟩ := hf; exact ⟨g, (h 11 (Or.inr hb)).symm.trans h1, h2⟩
  case succ.succ.succ.succ.succ.succ.succ.succ.succ.succ.succ.succ.succ.succ => exact trivial
  all_goals first
    | exact hj.symm.trans hf
    | (obtain ⟨g, h1, h2⟩ := hf; exact ⟨g, hj.symm.trans h1, h2⟩)
    | (obtain ⟨A, c, h1, h2⟩ := hf; exact ⟨A, c, hj.symm.trans h1, h2⟩)
    | exact ownr_eq hf hj
section
variable {ops : Array Oper} {n0 : Nat} {vt vl : Value} {L : List Tg} {x : Tg} {N : List Rw} {nn : Int} {uM uN : Us} {w0 : World} {l : Nat → Prop} {xs : Nat → Value} {w w' : World} {i : Nat} {v : Value}
theorem gro_std (h : FI ops (groF n0 vt vl L x N nn uM uN) groK groKin w0 l xs w)
    (ha : fpred ops 12 10 = true) (hb' : fpred ops 13 11 = true) (hn : ¬ l i) (hp : ∀ k, fpred ops i k = true → l k) (hb : Below w.heap.size w w')
    (hv : groKin i i = false → ∀ g, fblk v = some g → g < w'.heap.size ∧ (g < w0.heap.size ∨ w.heap.size ≤ g)) (hF : groF n0 vt vl L x N nn uM uN i (fupd xs i v) w') :
    FI ops (groF n0 vt vl L x N nn uM uN) groK groKin w0 (fun j => j = i ∨ l j) (fupd xs i v) w' :=
  h.std (groF_ext ha hb') groKin_sym groKin_diag groF_mono hn hp hb hv hF
/-- the blocks of the others stand, when one of the call's own is written or grown -/
theorem gro_hold {b : Option Nat} {q : Nat} (h : FI ops (groF n0 vt vl L x N nn uM uN) groK groKin w0 l xs w) (hw0 : n0 = w0.heap.size) (hq : l q) (hqb : fblk (xs q) = b)
    (ha : fpred ops 12 10 = true) (hb' : fpred ops 13 11 = true) (h78 : fpred ops 8 7 = true) (h74 : fpred ops 7 4 = true) (h98 : fpred ops 9 8 = true)
    (hblk : ∀ g, g < w.heap.size → some g ≠ b → w'.heap[g]? = w.heap[g]?)
    (hq2 : (q = 2 ∧ ¬ l 4) ∨ (q = 4 ∧ ¬ l 7) ∨ (q = 10 ∧ l 9 ∧ ¬ l 12) ∨ (q = 11 ∧ l 9 ∧ ¬ l 13)) :
    ∀ j, l j → (q = 2 → j ≠ 2) → (q = 4 → j ≠ 4 ∧ j ≠ 6) → (q = 10 → j ≠ 10) → (q = 11 → j ≠ 11) → (∀ k, groK k j = true → ¬ l k) → groF n0 vt vl L x N nn uM uN j xs w → groF n0 vt vl L x N nn uM uN j xs w' := by
  intro j hj e2 e4 e10 e11 hal hf
  have n7 : l 7 → l 4 := fun h' => h.cl 7 4 h' h74
  have n8 : l 8 → l 7 := fun h' => h.cl 8 7 h' h78
  have n9 : l 9 → l 8 := fun h' => h.cl 9 8 h' h98
  have far : ∀ p g, l p → p ≠ q → groKin p q = false → n0 ≤ g → g < w.heap.size → fblk (xs p) = some g → w'.heap[g]? = w.heap[g]? := fun p g hp hpq hk hg hgl hfb => by
    refine hblk g hgl fun e => ?_
    exact h.ap p q hpq hp hq hk g (by omega) hfb (hqb.trans e.symm)
  have row : ∀ (p n : Nat) (zs : List Value), l p → p ≠ q → groKin p q = false → w.ownsRow n0 tT 4 (xs p) n zs → w'.ownsRow n0 tT 4 (xs p) n zs := fun p n zs hp hpq hk ho => by
    refine ⟨ho.1, ?_⟩
    rcases ho.2 with h2 | ⟨g, cap, cur, h1, h3, hg, h4⟩
    · exact Or.inl h2
    · exact Or.inr ⟨g, cap, cur, h1, h3, (far p g hp hpq hk h3 (blk_lt hg) (by rw [h1]; rfl)).trans hg, h4⟩
  rcases j with _ | _ | _ | _ | _ | _ | _ | _ | _ | _ | _ | _ | _ | _ | j
  case succ.succ.zero =>
    have n4 := hal 4 (by decide)
    rcases hq2 with ⟨rfl, _⟩ | ⟨rfl, _⟩ | ⟨rfl, h9, _⟩ | ⟨rfl, h9, _⟩
    · exact absurd rfl (e2 rfl)
    · exact absurd hq n4
    · exact absurd (n7 (n8 (n9 h9))) n4
    · exact absurd (n7 (n8 (n9 h9))) n4
  case succ.succ.succ.succ.zero =>
    have n7' := hal 7 (by decide)
    rcases hq2 with ⟨rfl, h4⟩ | ⟨rfl, _⟩ | ⟨rfl, h9, _⟩ | ⟨rfl, h9, _⟩
    · exact absurd hj h4
    · exact absurd rfl (e4 rfl).1
    · exact absurd (n8 (n9 h9)) n7'
    · exact absurd (n8 (n9 h9)) n7'
  case succ.succ.succ.succ.succ.succ.zero =>
    have n7' := hal 7 (by decide)
    obtain ⟨g, h1, h2, h3⟩ := hf
    rcases hq2 with ⟨rfl, h4⟩ | ⟨rfl, _⟩ | ⟨rfl, h9, _⟩ | ⟨rfl, h9, _⟩
    · exact ⟨g, h1, h2, (far 6 g hj (by decide) rfl h2 (blk_lt h3) (by rw [h1]; rfl)).trans h3⟩
    · exact absurd rfl (e4 rfl).2
    · exact absurd (n8 (n9 h9)) n7'
    · exact absurd (n8 (n9 h9)) n7'
  case succ.succ.succ.succ.succ.succ.succ.zero =>
    rcases hq2 with ⟨rfl, h4⟩ | ⟨rfl, h7⟩ | ⟨rfl, h9, _⟩ | ⟨rfl, h9, _⟩
    · exact absurd (n7 hj) h4
    · exact absurd hj h7
    · exact row 7 _ _ hj (by decide) rfl hf
    · exact row 7 _ _ hj (by decide) rfl hf
  case succ.succ.succ.succ.succ.succ.succ.succ.zero =>
    rcases hq2 with ⟨rfl, h4⟩ | ⟨rfl, h7⟩ | ⟨rfl, h9, _⟩ | ⟨rfl, h9, _⟩
    · exact absurd (n7 (n8 hj)) h4
    · exact absurd (n8 hj) h7
    · exact absurd h9 (hal 9 (by decide))
    · exact absurd h9 (hal 9 (by decide))
  case succ.succ.succ.succ.succ.succ.succ.succ.succ.succ.zero =>
    obtain ⟨g, h1, h2, h3⟩ := hf
    refine ⟨g, h1, h2, (far 10 g hj ?_ ?_ h2 (blk_lt h3) (by rw [h1]; rfl)).trans h3⟩
    · rintro rfl; exact e10 rfl rfl
    · rcases hq2 with ⟨rfl, _⟩ | ⟨rfl, _⟩ | ⟨rfl, _⟩ | ⟨rfl, _⟩ <;> rfl
  case succ.succ.succ.succ.succ.succ.succ.succ.succ.succ.succ.zero =>
    obtain ⟨g, h1, h2, h3⟩ := hf
    refine ⟨g, h1, h2, (far 11 g hj ?_ ?_ h2 (blk_lt h3) (by rw [h1]; rfl)).trans h3⟩
    · rintro rfl; exact e11 rfl rfl
    · rcases hq2 with ⟨rfl, _⟩ | ⟨rfl, _⟩ | ⟨rfl, _⟩ | ⟨rfl, _⟩ <;> rfl
  case succ.succ.succ.succ.succ.succ.succ.succ.succ.succ.succ.succ.zero =>
    obtain ⟨g, h1, h2, h3⟩ := hf
    refine ⟨g, h1, h2, (far 10 g (h.cl 12 10 hj ha) ?_ ?_ h2 (blk_lt h3) (by rw [h1]; rfl)).trans h3⟩
    · rintro rfl
      rcases hq2 with ⟨hh, _⟩ | ⟨hh, _⟩ | ⟨_, _, hh⟩ | ⟨hh, _⟩
      · cases hh
      · cases hh
      · exact hh hj
      · cases hh
    · rcases hq2 with ⟨rfl, _⟩ | ⟨rfl, _⟩ | ⟨rfl, _⟩ | ⟨rfl, _⟩ <;> rfl
  case succ.succ.succ.succ.succ.succ.succ.succ.succ.succ.succ.succ.succ.zero =>
    obtain ⟨g, h1, h2, h3⟩ := hf
    refine ⟨g, h1, h2, (far 11 g (h.cl 13 11 hj hb') ?_ ?_ h2 (blk_lt h3) (by rw [h1]; rfl)).trans h3⟩
    · rintro rfl
      rcases hq2 with ⟨hh, _⟩ | ⟨hh, _⟩ | ⟨hh, _⟩ | ⟨_, _, hh⟩
      · cases hh
      · cases hh
      · cases hh
      · exact hh hj
    · rcases hq2 with ⟨rfl, _⟩ | ⟨rfl, _⟩ | ⟨rfl, _⟩ | ⟨rfl, _⟩ <;> rfl
  all_goals exact hf
theorem gro_app4 (h : FI ops (groF n0 vt vl L x N nn uM uN) groK groKin w0 l xs w) (ho : w'.ownsRow n0 tT 4 v (0 + L.length) ([] ++ flatG L)) (hgr : w.grownBy w' (xs 2).ownBlock) (hob : v.ownBlock = (xs 2).ownBlock ∨ v.ownBlock = some w.heap.size) (hw0 : n0 = w0.heap.size)
    (ha : fpred ops 12 10 = true) (hb' : fpred ops 13 11 = true) (h78 : fpred ops 8 7 = true) (h74 : fpred ops 7 4 = true) (h98 : fpred ops 9 8 = true) (h42 : fpred ops 4 2 = true) (hn : ¬ l 4) (hp : ∀ k, fpred ops 4 k = true → l k) :
    FI ops (groF n0 vt vl L x N nn uM uN) groK groKin w0 (fun j => j = 4 ∨ l j) (fupd xs 4 v) w' := by
  have h2 : w.ownsRow n0 tT 4 (xs 2) 0 [] := h.fact 2 (hp 2 h42) (by
    intro k hk
    have h9 : k = 4 := by simpa [groK] using hk
    subst h9; exact hn)
  have hof := own_fblk h2
  have hov := own_fblk ho
  rw [Nat.zero_add, List.nil_append] at ho
  have hsz := h.below.size
  refine h.gen (groF_ext ha hb') groKin_sym hn hp (below_grown h.below hgr h2 (by omega) (by omega)) hgr.size ?_ ?_ (fun _ g hg => (hov.2 g hg).2) (fun _ => ownr_eq ho (fupd_same xs 4 v).symm)
  · intro j hj hk hal hf
    refine gro_hold h hw0 (hp 2 h42) hof.1 ha hb' h78 h74 h98 (fun g hg hne => hgr.block g hg hne) (Or.inl ⟨rfl, hn⟩) j hj ?_ (fun e => by cases e) (fun e => by cases e) (fun e => by cases e) hal hf
    rintro - rfl
    cases hk
  · intro k hk hkin g hg h1 h3
    have hk2 : k ≠ 2 := by rintro rfl; cases hkin
    rcases hob with e | e
    · rw [hov.1, e, ← hof.1] at h1
      exact h.ap 2 k (Ne.symm hk2) (hp 2 h42) hk (groKin_24 hkin (by rintro rfl; exact hn hk)) g (by omega) h1 h3
    · rw [hov.1, e] at h1
      injection h1 with h1
      have := h.lt k g hk (groKin_diag _ _ hkin) h3
      omega
theorem gro_app7 (h : FI ops (groF n0 vt vl L x N nn uM uN) groK groKin w0 l xs w) (ho : w'.ownsRow n0 tT 4 v (L.length + [x].length) (flatG L ++ flatG [x])) (hgr : w.grownBy w' (xs 4).ownBlock) (hob : v.ownBlock = (xs 4).ownBlock ∨ v.ownBlock = some w.heap.size) (hw0 : n0 = w0.heap.size)
    (ha : fpred ops 12 10 = true) (hb' : fpred ops 13 11 = true) (h78 : fpred ops 8 7 = true) (h74 : fpred ops 7 4 = true) (h98 : fpred ops 9 8 = true) (hn : ¬ l 7) (hp : ∀ k, fpred ops 7 k = true → l k) :
    FI ops (groF n0 vt vl L x N nn uM uN) groK groKin w0 (fun j => j = 7 ∨ l j) (fupd xs 7 v) w' := by
  have h2 : w.ownsRow n0 tT 4 (xs 4) L.length (flatG L) := h.fact 4 (hp 4 h74) (by
    intro k hk
    have h9 : k = 7 := by simpa [groK] using hk
    subst h9; exact hn)
  have hof := own_fblk h2
  have hov := own_fblk ho
  have e1 : flatG L ++ flatG [x] = flatG (L ++ [x]) := by unfold flatG; rw [List.flatMap_append]
  rw [e1, ← List.length_append] at ho
  have hsz := h.below.size
  refine h.gen (groF_ext ha hb') groKin_sym hn hp (below_grown h.below hgr h2 (by omega) (by omega)) hgr.size ?_ ?_ (fun _ g hg => (hov.2 g hg).2) (fun _ => ownr_eq ho (fupd_same xs 7 v).symm)
  · intro j hj hk hal hf
    refine gro_hold h hw0 (hp 4 h74) hof.1 ha hb' h78 h74 h98 (fun g hg hne => hgr.block g hg hne) (Or.inr (Or.inl ⟨rfl, hn⟩)) j hj (fun e => by cases e) ?_ (fun e => by cases e) (fun e => by cases e) hal hf
    intro _
    constructor
    · rintro rfl; cases hk
    · rintro rfl; cases hk
  · intro k hk hkin g hg h1 h3
    have hk2 : k ≠ 4 := by rintro rfl; cases hkin
    rcases hob with e | e
    · rw [hov.1, e, ← hof.1] at h1
      exact h.ap 4 k (Ne.symm hk2) (hp 4 h74) hk (groKin_47 hkin (by rintro rfl; exact hn hk)) g (by omega) h1 h3
    · rw [hov.1, e] at h1
      injection h1 with h1
      have := h.lt k g hk (groKin_diag _ _ hkin) h3
      omega
theorem gro_set12 {g : Nat} {old : Array Value} (h : FI ops (groF n0 vt vl L x N nn uM uN) groK groKin w0 l xs w) (hg : xs 10 = .pointer (some ⟨g, 0, none⟩)) (hn0 : n0 ≤ g) (hold : w.heap[g]? = some (.cells old usT (0, 0))) (hw0 : n0 = w0.heap.size)
    (ha : fpred ops 12 10 = true) (hb' : fpred ops 13 11 = true) (h78 : fpred ops 8 7 = true) (h74 : fpred ops 7 4 = true) (h98 : fpred ops 9 8 = true) (h129 : fpred ops 12 9 = true) (hn : ¬ l 12) (hp : ∀ k, fpred ops 12 k = true → l k) :
    FI ops (groF n0 vt vl L x N nn uM uN) groK groKin w0 (fun j => j = 12 ∨ l j) (fupd xs 12 undef) (w.setRow g (usC uM).toArray) := by
  refine h.gen (groF_ext ha hb') groKin_sym hn hp (below_setRow h.below (by omega) _) (by simp [World.setRow]) ?_ (fun k _ _ g' _ h1 => by cases h1) (fun _ g' hg' => by cases hg') (fun _ => ⟨g, (fupd_ne (by decide)).trans hg, hn0, setRow_heap _ _ _ _ _ _ hold⟩)
  intro j hj hk hal hf
  refine gro_hold h hw0 (hp 10 ha) rfl ha hb' h78 h74 h98 (fun g' hg' hne => heap_setRow_ne w g g' _ ?_) (Or.inr (Or.inr (Or.inl ⟨rfl, hp 9 h129, hn⟩))) j hj (fun e => by cases e) (fun e => by cases e) ?_ (fun e => by cases e) hal hf
  · intro e; subst e; rw [hg] at hne; exact hne rfl
  · rintro - rfl; cases hk
theorem gro_set13 {g : Nat} {old : Array Value} (h : FI ops (groF n0 vt vl L x N nn uM uN) groK groKin w0 l xs w) (hg : xs 11 = .pointer (some ⟨g, 0, none⟩)) (hn0 : n0 ≤ g) (hold : w.heap[g]? = some (.cells old usT (0, 0))) (hw0 : n0 = w0.heap.size)
    (ha : fpred ops 12 10 = true) (hb' : fpred ops 13 11 = true) (h78 : fpred ops 8 7 = true) (h74 : fpred ops 7 4 = true) (h98 : fpred ops 9 8 = true) (h139 : fpred ops 13 9 = true) (hn : ¬ l 13) (hp : ∀ k, fpred ops 13 k = true → l k) :
    FI ops (groF n0 vt vl L x N nn uM uN) groK groKin w0 (fun j => j = 13 ∨ l j) (fupd xs 13 undef) (w.setRow g (usC uN).toArray) := by
  refine h.gen (groF_ext ha hb') groKin_sym hn hp (below_setRow h.below (by omega) _) (by simp [World.setRow]) ?_ (fun k _ _ g' _ h1 => by cases h1) (fun _ g' hg' => by cases hg') (fun _ => ⟨g, (fupd_ne (by decide)).trans hg, hn0, setRow_heap _ _ _ _ _ _ hold⟩)
  intro j hj hk hal hf
  refine gro_hold h hw0 (hp 11 hb') rfl ha hb' h78 h74 h98 (fun g' hg' hne => heap_setRow_ne w g g' _ ?_) (Or.inr (Or.inr (Or.inr ⟨rfl, hp 9 h139, hn⟩))) j hj (fun e => by cases e) (fun e => by cases e) (fun e => by cases e) ?_ hal hf
  · intro e; subst e; rw [hg] at hne; exact hne rfl
  · rintro - rfl; cases hk
theorem grow_one {w : World} {g : Nat} {y : Tg} {t : TypeId} (h : w.heap[g]? = some (.cells (tgC y).toArray t (0, 0))) : Rg w (some ⟨g, 0, none⟩) 1 [y] := by
  obtain ⟨path, dest, kind, size⟩ := y
  obtain ⟨h0, h1, h2, h3⟩ := tg_cells h
  refine ⟨Nat.le_refl _, (fun e => by cases e), fun j z hz => ?_⟩
  rcases j with _ | j
  · simp at hz; subst hz
    exact ⟨g, 0, rfl, blk_lt h, h0, h1, h2, h3⟩
  · simp at hz
end

end Go.Proofs.YtcniahbliadgiaaDoor

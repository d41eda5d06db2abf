/-
  Walks of package tree: Contents, Names; of layer 17's statements: files. What a map of contents holds.
  merge.Gone: the walk.
-/
import Derived.Test.YtcniahbliadgiaaDoorOverP
import Derived.Maps.OwnSet
import Derived.Maps.RangeWalk
import Derived.OwnWalk
namespace Go.Proofs.YtcniahbliadgiaaDoor
open Go.RowKit
open Go.Proofs.PnKit Go.Proofs.PnPath

/-- how a content without blocks reads: its size -/
def conElem (v : Value) : Option (DataW Unit × List MemPlace) :=
  match v with
  | .agg cs => match cs.toList with
    | [.slice none 0 0, .int .i64 s] => some (.lit (.int .i64 s), [])
    | _ => none
  | _ => none
abbrev conV (s : Int) : Value := .agg #[.slice none 0 0, .int .i64 s]
theorem conElem_mk (s : Int) : conElem (.agg #[.slice none 0 0, .int .i64 s]) = some (.lit (.int .i64 s), []) := rfl
theorem conElem_inv {v : Value} {y : DataW Unit × List MemPlace} (h : conElem v = some y) : ∃ s : Int, v = conV s ∧ y = (.lit (.int .i64 s), []) := by
  unfold conElem at h
  split at h
  · rename_i cs
    split at h
    · rename_i s he
      obtain rfl := Option.some.inj h
      refine ⟨s, ?_, rfl⟩
      show Value.agg cs = Value.agg _
      congr 1
      exact Array.toList_inj.1 he
    · cases h
  · cases h

/-! numbers told of a few numbers -/
def putF (f : Int → Option Int) (k s : Int) (j : Int) : Option Int := if j = k then some s else f j
def delF (f : Int → Option Int) (k : Int) (j : Int) : Option Int := if j = k then none else f j
def cntF (f : Int → Option Int) (N : Nat) : Int := sumTo (fun j => if (f j).isSome then 1 else 0) N
def sumF (f : Int → Option Int) (N : Nat) : Int := sumTo (fun j => (f j).getD 0) N
theorem cntF_put {f : Int → Option Int} {k : Int} (s : Int) {N : Nat} (hk : 0 ≤ k ∧ k < N) : cntF (putF f k s) N = cntF f N + if (f k).isSome then 0 else 1 := by
  unfold cntF
  rw [sumTo_one (g := fun j => if (f j).isSome then 1 else 0) (a := k) (fun i hi => by simp only [putF, if_neg hi]) hk.1 N, if_pos hk.2]
  simp only [putF, if_true, Option.isSome_some]
  split <;> omega
theorem cntF_del {f : Int → Option Int} {k : Int} {N : Nat} (hk : 0 ≤ k ∧ k < N) : cntF (delF f k) N + (if (f k).isSome then 1 else 0) = cntF f N := by
  unfold cntF
  rw [sumTo_one (f := fun j => if (delF f k j).isSome then 1 else 0) (g := fun j => if (f j).isSome then 1 else 0) (a := k) (fun i hi => by simp only [delF, if_neg hi]) hk.1 N, if_pos hk.2]
  simp only [delF, if_true, Option.isSome_none, Bool.false_eq_true, if_false]
  split <;> omega
theorem sumF_del {f : Int → Option Int} {k : Int} {N : Nat} (hk : 0 ≤ k ∧ k < N) : sumF (delF f k) N + (f k).getD 0 = sumF f N := by
  unfold sumF
  rw [sumTo_one (f := fun j => (delF f k j).getD 0) (g := fun j => (f j).getD 0) (a := k) (fun i hi => by simp only [delF, if_neg hi]) hk.1 N, if_pos hk.2]
  simp only [delF, if_true, Option.getD_none]
  omega
theorem delF_none {f : Int → Option Int} {k : Int} (h : f k = none) : delF f k = f := by
  funext j
  unfold delF
  split
  · rename_i e; rw [e, h]
  · rfl

/-- the map's block holds these contents -/
structure ConM (w : World) (g n N : Nat) (f : Int → Option Int) : Prop where
  own : ∃ D : DataW Unit, w.ownsMap Tryd.prog 3 conElem g n D ∧ (Maps.size D : Int) = cntF f N ∧ (∀ j : Int, Maps.has D (.int .i64 j) = (f j).isSome) ∧ ∀ (j s : Int), f j = some s → ∀ z, D.atKey (.int .i64 j) z = .lit (.int .i64 s)
  rng : ∀ j : Int, (f j).isSome = true → 0 ≤ j ∧ j < N
theorem ConM.block {w w' : World} {g n N : Nat} {f : Int → Option Int} (h : ConM w g n N f) (e : w'.heap[g]? = w.heap[g]?) : ConM w' g n N f := by
  obtain ⟨⟨D, ⟨es, clock, h1, h2⟩, h3⟩, h4⟩ := h
  exact ⟨⟨D, ⟨es, clock, e.trans h1, h2⟩, h3⟩, h4⟩
theorem ConM.lt {w : World} {g n N : Nat} {f : Int → Option Int} (h : ConM w g n N f) : g < w.heap.size := by
  obtain ⟨⟨D, h1, _⟩, _⟩ := h
  exact h1.lt
theorem ConM.below {w w' : World} {g n N : Nat} {f : Int → Option Int} (h : ConM w g n N f) (hb : Below w.heap.size w w') : ConM w' g n N f := h.block (hb.block _ h.lt)
theorem conM_made (w : World) (N : Nat) : ConM (w.alloc (.map #[] 0)) w.heap.size 0 N (fun _ => none) :=
  ⟨⟨.map [], World.ownsMap_made w _ _ _, by unfold cntF; rw [sumTo_congr (g := fun _ => 0) N (fun _ _ _ => by simp), sumTo_zero]; rfl, (fun _ => rfl), (fun _ _ h => by cases h)⟩, (fun _ h => by cases h)⟩
theorem keyI {k : Int} (h : 0 ≤ k ∧ k ≤ 10000000) : keyOf Tryd.prog 3 (.int .i64 k) = some (.int .i64 k) := Maps.keyOf_int_mk Tryd.underlying3 (WalkArith.wf_i64 (by omega))
section
variable {w w1 : World} {g n N : Nat} {f : Int → Option Int} {D : DataW Unit} {k : Int}
theorem conM_put (hown : w.ownsMap Tryd.prog 3 conElem g n D) (hsz : (Maps.size D : Int) = cntF f N) (hhas : ∀ j : Int, Maps.has D (.int .i64 j) = (f j).isSome) (hat : ∀ (j s : Int), f j = some s → ∀ z, D.atKey (.int .i64 j) z = .lit (.int .i64 s))
    (hrng : ∀ j : Int, (f j).isSome = true → 0 ≤ j ∧ j < N) (hk : 0 ≤ k ∧ k < N) (hb : k ≤ 10000000) {s : Int} (hown1 : w1.ownsMap Tryd.prog 3 conElem g (n + 1) (D.put (.int .i64 k) (.lit (.int .i64 s)))) : ConM w1 g (n + 1) N (putF f k s) := by
  have T := hown.tidy intKeyed
  have hK := intKeyed.key (keyI ⟨hk.1, hb⟩)
  refine ⟨⟨_, hown1, ?_, fun j => ?_, fun j s' hj z => ?_⟩, fun j hj => ?_⟩
  · rw [cntF_put s hk, ← hsz, Maps.size_put T, hhas k]
    split <;> push_cast <;> omega
  · by_cases e : j = k
    · subst e
      rw [Maps.has_put_same T.isMap hK]; simp [putF]
    · rw [Maps.has_put_other (by intro h; injection h with _ h; exact e h), hhas j]; simp [putF, e]
  · by_cases e : j = k
    · subst e
      rw [Maps.atKey_put_same T.isMap hK]
      simp only [putF, if_true, Option.some.injEq] at hj
      rw [hj]
    · rw [Maps.atKey_put_other (by intro h; injection h with _ h; exact e h)]
      simp only [putF, if_neg e] at hj
      exact hat j s' hj z
  · by_cases e : j = k
    · subst e; exact hk
    · simp only [putF, if_neg e] at hj
      exact hrng j hj
theorem conM_del (hown : w.ownsMap Tryd.prog 3 conElem g n D) (hsz : (Maps.size D : Int) = cntF f N) (hhas : ∀ j : Int, Maps.has D (.int .i64 j) = (f j).isSome) (hat : ∀ (j s : Int), f j = some s → ∀ z, D.atKey (.int .i64 j) z = .lit (.int .i64 s))
    (hrng : ∀ j : Int, (f j).isSome = true → 0 ≤ j ∧ j < N) (hown1 : w1.ownsMap Tryd.prog 3 conElem g n (D.del (.int .i64 k))) : ConM w1 g n N (delF f k) := by
  have T := hown.tidy intKeyed
  refine ⟨⟨_, hown1, ?_, fun j => ?_, fun j s' hj z => ?_⟩, fun j hj => ?_⟩
  · rcases hf : f k with _ | s
    · have hh : Maps.has D (.int .i64 k) = false := by rw [hhas k, hf]; rfl
      rw [delF_none hf, Maps.del_of_not_has hh]; exact hsz
    · have hr := hrng k (by rw [hf]; rfl)
      have h1 := cntF_del (f := f) hr
      have h2 := Maps.size_del (k := .int .i64 k) T
      rw [hhas k, hf] at h2
      rw [hf] at h1
      simp only [Option.isSome_some, if_true] at h1 h2
      omega
  · by_cases e : j = k
    · subst e
      rw [Maps.has_del_same]; simp [delF]
    · rw [Maps.has_del_other (by intro h; injection h with _ h; exact e h), hhas j]; simp [delF, e]
  · by_cases e : j = k
    · simp [delF, e] at hj
    · rw [Maps.atKey_del_other (by intro h; injection h with _ h; exact e h)]
      simp only [delF, if_neg e] at hj
      exact hat j s' hj z
  · by_cases e : j = k
    · simp [delF, e] at hj
    · simp only [delF, if_neg e] at hj
      exact hrng j hj
end

/-- the contents of rows, by their numbers -/
def conF (L : List Rw) (j : Int) : Option Int := (L.find? fun r => decide (r.id = j ∧ r.kind = 1)).map (·.size)
theorem conF_nil : conF [] = fun _ => none := rfl
theorem conF_snoc {T : List Rw} {x : Rw} (h : Cons (T ++ [x])) : conF (T ++ [x]) = if x.kind = 1 then putF (conF T) x.id x.size else conF T := by
  have hT : ∀ j, conF T j = (T.find? fun r => decide (r.id = j ∧ r.kind = 1)).map (·.size) := fun _ => rfl
  funext j
  show ((T ++ [x]).find? fun r => decide (r.id = j ∧ r.kind = 1)).map (·.size) = _
  rw [List.find?_append]
  rcases hf : T.find? (fun r => decide (r.id = j ∧ r.kind = 1)) with _ | r
  · have hj : conF T j = none := by rw [hT, hf]; rfl
    by_cases hk : x.kind = 1
    · rw [if_pos hk]
      by_cases e : x.id = j
      · rw [hf, List.find?_cons, decide_eq_true ⟨e, hk⟩]
        simp only [putF, if_pos e.symm]; rfl
      · rw [hf, List.find?_cons, decide_eq_false (fun h => e h.1)]
        simp only [putF, if_neg (Ne.symm e), hj]; rfl
    · rw [if_neg hk, hf, List.find?_cons, decide_eq_false (fun h => hk h.2), hj]; rfl
  · have hr := List.find?_some hf
    have hm := List.mem_of_find?_eq_some hf
    simp only [decide_eq_true_eq] at hr
    have hj : conF T j = some r.size := by rw [hT, hf]; rfl
    rw [hf]
    by_cases hk : x.kind = 1
    · rw [if_pos hk]
      by_cases e : j = x.id
      · have := (h r (by simp [hm]) x (by simp) (by omega)).2.2
        simp only [putF, if_pos e, ← this]; rfl
      · simp only [putF, if_neg e, hj]; rfl
    · rw [if_neg hk, hj]; rfl
theorem conF_some {L : List Rw} (h : Cons L) {j s : Int} (hs : conF L j = some s) : fIn L j = 1 ∧ s = szOf L j := by
  unfold conF at hs
  rcases hf : L.find? (fun r => decide (r.id = j ∧ r.kind = 1)) with _ | r
  · rw [hf] at hs; cases hs
  · rw [hf] at hs
    have hr := List.find?_some hf
    have hm := List.mem_of_find?_eq_some hf
    simp only [decide_eq_true_eq] at hr
    simp only [Option.map_some, Option.some.injEq] at hs
    obtain ⟨rfl, hk⟩ := hr
    refine ⟨fIn_of hm hk, ?_⟩
    rw [szOf_of h hm, ← hs, ownB, if_pos hk]
theorem conF_isSome (L : List Rw) (j : Int) : (conF L j).isSome = decide (fIn L j = 1) := by
  unfold conF
  rcases hf : L.find? (fun r => decide (r.id = j ∧ r.kind = 1)) with _ | r
  · have : fIn L j = 0 := fIn_none fun x hx e hk => by
      have := List.find?_eq_none.1 hf x hx
      simp only [decide_eq_true_eq] at this
      exact this ⟨e, hk⟩
    rw [this, hf]; rfl
  · have hr := List.find?_some hf
    have hm := List.mem_of_find?_eq_some hf
    simp only [decide_eq_true_eq] at hr
    obtain ⟨rfl, hk⟩ := hr
    rw [fIn_of hm hk, hf]; rfl
theorem conF_cnt (L : List Rw) (N : Nat) : cntF (conF L) N = sumTo (fIn L) N := by
  refine sumTo_congr N fun j _ _ => ?_
  rw [conF_isSome]
  rcases fIn_bound L j with h | h <;> rw [h] <;> rfl

attribute [local go_sem ↓] Go.wp_at_zero Go.wp_at_succ

set_option maxRecDepth 100000 in
set_option maxHeartbeats 1000000 in
theorem contents_any (A : Option Addr) (c : Nat) (L : List Rw) (next : Int) (N : Nat) (w : World) (hR : RT w A c L) (hC : Cons L) (hI : Ids L N) (hN : N ≤ 1000000) (hl : L.length ≤ 50000) :
    Calls Tryd.prog 34 #[.agg #[.slice A (List.length L) c, .int .i64 next]] w fun e w' => ∃ g, e = .returned (.map (some g)) ∧ w.heap.size ≤ g ∧ ConM w' g L.length N (conF L) ∧ Below w.heap.size w w' := by
  have HR := Lib.hid hR
  have HC := Lib.hid hC
  have HI := Lib.hid hI
  have hmm := @run_makeMap Tryd.prog
  clear hR hC hI
  go_enter Tryd.func34, Tryd.ntmps34
  go_wp2_with fail
  go_loopg [10] L.length (fun g i wr => ∃ k : Nat, g = L.length - k ∧ i = .int .i64 k ∧ k ≤ L.length ∧ Hid (ConM wr (w.heap.size + 1) k N (conF (L.take k))) ∧ Hid (Below w.heap.size w wr))
  case atStart =>
    refine ⟨0, rfl, rfl, Nat.zero_le _, Lib.hid ?_, Lib.hid (((Below.refl w.heap.size w).alloc (Nat.le_refl _) _).alloc (by simp) _)⟩
    have h := conM_made (w.alloc (.cells #[.slice A (List.length L) c, .int .i64 next] 35)) N
    have e : (w.alloc (.cells #[.slice A (List.length L) c, .int .i64 next] 35)).heap.size = w.heap.size + 1 := by simp
    rw [e] at h; exact h
  case round =>
    obtain ⟨k, rfl, rfl, hk, HM, HB⟩ := hrel
    have hgl := HM.out.lt
    by_cases hlt : k < L.length
    case neg =>
      have hL : L.take k = L := List.take_of_length_le (by omega)
      have hkk : k = L.length := by omega
      have HL := Lib.hid hL
      have HKK := Lib.hid hkk
      clear hL hkk
      go_wp2_with fail
      go_ret
      refine ⟨_, rfl, Nat.le_succ _, ?_, HB.out⟩
      have h := HM.out
      rw [HL.out] at h
      rw [← HKK.out]; exact h
    have hx : L[k]? = some L[k] := List.getElem?_eq_getElem hlt
    have htk : L.take (k + 1) = L.take k ++ [L[k]] := List.take_succ_eq_append_getElem hlt
    have hmem : L[k] ∈ L := List.getElem_mem hlt
    generalize L[k] = r at hx htk hmem
    have hcs : Cons (L.take k ++ [r]) := by
      rw [← htk]
      exact fun x hx y hy => HC.out x (List.mem_of_mem_take hx) y (List.mem_of_mem_take hy)
    have hsn := conF_snoc hcs
    rw [← htk] at hsn
    have HSN := Lib.hid hsn
    have hid := HI.out r hmem
    obtain ⟨path, id, kind, mode, size, made⟩ := r
    obtain ⟨b, o, rfl, hbw⟩ := HR.out.pos (by omega)
    obtain ⟨q0, q1, q2, q3, q4, q5, q6, q7, q8, q9, q10, q11, q12⟩ := (HR.out.below HB.out).cells hx
    simp only at hid
    clear hx htk hmem hcs hsn
    by_cases hk1 : kind = 1
    case neg =>
      have hkb : (kind == 1) = false := by simp [hk1]
      have HSAME : Hid (conF (L.take (k + 1)) = conF (L.take k)) := Lib.hid (by rw [HSN.out, if_neg (by exact hk1)])
      clear hk1 HSN
      go_wp2_with fail
      go_roundg (L.length - (k + 1))
      case measure => omega
      case rel =>
        refine ⟨k + 1, rfl, by go_num, by omega, Lib.hid ?_, Lib.hid (HB.out.alloc HB.out.size _)⟩
        rw [HSAME.out]
        have h := HM.out.below ((Below.refl _ _).alloc (Nat.le_refl _) (.cells #[.string path, .int .i64 id, .int .i64 kind, .int .i64 mode, .int .i64 0, .int .i64 0, .int .i64 0, .string nos, .string nos, .string nos, .slice none 0 0, .int .i64 size, .bool made] 44))
        exact ⟨h.own.imp fun D hD => ⟨hD.1.mono (Nat.le_succ _), hD.2⟩, h.rng⟩
    subst hk1
    have HSAME : Hid (conF (L.take (k + 1)) = putF (conF (L.take k)) id size) := Lib.hid (by rw [HSN.out, if_pos rfl])
    obtain ⟨⟨D, hown, hsz, hhas, hat⟩, hrng⟩ := HM.out
    have HO := Lib.hid hown
    have HS := Lib.hid hsz
    have HH := Lib.hid hhas
    have HAT := Lib.hid hat
    have HRN := Lib.hid hrng
    have HK := Lib.hid (keyI (k := id) ⟨hid.1, by omega⟩)
    clear HSN hown hsz hhas hat hrng
    go_wp2_with (at_mapUpdate; refine wpList_mapUpdate_own _ rfl _ _ _ 78 rfl 3 40 intKeyed Tryd.underlying78 conElem (w.heap.size + 1) k D rfl (HO.out.alloc _) (by unfold maxLen; omega) _ _ (.int .i64 id) rfl rfl HK.out (.lit (.int .i64 size)) [] (conElem_mk size) ?_)
    intro w1 hown1 hgrow1
    have hCM := conM_put HO.out HS.out HH.out HAT.out HRN.out hid (by omega) hown1
    have HCM := Lib.hid hCM
    have hB1 := (HB.out.alloc HB.out.size (.cells #[.string path, .int .i64 id, .int .i64 1, .int .i64 mode, .int .i64 0, .int .i64 0, .int .i64 0, .string nos, .string nos, .string nos, .slice none 0 0, .int .i64 size, .bool made] 44))
    have HB1 := Lib.hid (hB1.grown hgrow1 hB1.size (fun j hj => by cases hj; exact Nat.le_succ _))
    clear hown1 hgrow1 hCM hB1
    go_wp2
    go_roundg (L.length - (k + 1))
    case measure => omega
    case rel =>
      refine ⟨k + 1, rfl, by go_num, by omega, Lib.hid ?_, HB1⟩
      rw [HSAME.out]; exact HCM.out

/-- how many names a thing has -/
def nameN (L : List Rw) (id : Int) : Nat := (L.filter fun r => decide (r.id = id)).length
theorem nameN_zero {L : List Rw} {id : Int} : nameN L id = 0 ↔ ∀ x ∈ L, x.id ≠ id := by
  unfold nameN
  rw [List.length_eq_zero_iff, List.filter_eq_nil_iff]
  simp
theorem nameN_snoc (T : List Rw) (x : Rw) (id : Int) : nameN (T ++ [x]) id = nameN T id + if x.id = id then 1 else 0 := by
  unfold nameN
  rw [List.filter_append, List.length_append]
  by_cases h : x.id = id <;> simp [h]
theorem nameN_le (L : List Rw) (id : Int) : nameN L id ≤ L.length := List.length_filter_le _ _

set_option maxRecDepth 100000 in
set_option maxHeartbeats 1000000 in
theorem names_any (A : Option Addr) (c : Nat) (L : List Rw) (next id : Int) (w : World) (hR : RT w A c L) (hl : L.length ≤ 50000) :
    Calls Tryd.prog 35 #[.agg #[.slice A (List.length L) c, .int .i64 next], .int .i64 id] w fun e w' => e = .returned (.int .i64 (nameN L id)) ∧ Below w.heap.size w w' := by
  have HR := Lib.hid hR
  clear hR
  go_enter Tryd.func35, Tryd.ntmps35
  go_wp2_with fail
  go_loopg [5, 11] L.length (fun g nn i wr => ∃ (k m : Nat), g = L.length - k ∧ nn = .int .i64 m ∧ i = .int .i64 k ∧ k ≤ L.length ∧ m ≤ k ∧ Hid (m = nameN (L.take k) id) ∧ Hid (Below w.heap.size w wr))
  case atStart => exact ⟨0, 0, rfl, rfl, rfl, Nat.zero_le _, Nat.le_refl _, Lib.hid rfl, Lib.hid ((Below.refl w.heap.size w).alloc (Nat.le_refl _) _)⟩
  case round =>
    obtain ⟨k, m, rfl, rfl, rfl, hk, hm, HMN, HB⟩ := hrel
    by_cases hlt : k < L.length
    case neg =>
      have hL : L.take k = L := List.take_of_length_le (by omega)
      have HL := Lib.hid hL
      clear hL
      go_wp2_with fail
      go_ret
      refine ⟨?_, HB.out⟩
      rw [HMN.out, HL.out]; rfl
    have hx : L[k]? = some L[k] := List.getElem?_eq_getElem hlt
    have htk : L.take (k + 1) = L.take k ++ [L[k]] := List.take_succ_eq_append_getElem hlt
    generalize L[k] = r at hx htk
    have hsn := nameN_snoc (L.take k) r id
    rw [← htk, ← HMN.out] at hsn
    have HSN := Lib.hid hsn
    obtain ⟨path, rid, kind, mode, size, made⟩ := r
    obtain ⟨b, o, rfl, hbw⟩ := HR.out.pos (by omega)
    obtain ⟨q0, q1, q2, q3, q4, q5, q6, q7, q8, q9, q10, q11, q12⟩ := (HR.out.below HB.out).cells hx
    clear hx htk hsn
    by_cases he : rid = id
    · have hb : (rid == id) = true := by simp [he]
      have HN : Hid (m + 1 = nameN (L.take (k + 1)) id) := Lib.hid (by rw [HSN.out, if_pos he])
      clear he HSN
      go_wp2_with fail
      go_roundg (L.length - (k + 1))
      case measure => omega
      case rel => exact ⟨k + 1, m + 1, rfl, by go_num, by go_num, by omega, by omega, HN, Lib.hid (HB.out.alloc HB.out.size _)⟩
    · have hb : (rid == id) = false := by simp [he]
      have HN : Hid (m = nameN (L.take (k + 1)) id) := Lib.hid (by rw [HSN.out, if_neg he]; rfl)
      clear he HSN
      go_wp2_with fail
      go_roundg (L.length - (k + 1))
      case measure => omega
      case rel => exact ⟨k + 1, m, rfl, rfl, by go_num, by omega, by omega, HN, Lib.hid (HB.out.alloc HB.out.size _)⟩

set_option maxHeartbeats 1000000 in
theorem files_any (A : Option Addr) (c : Nat) (L : List Rw) (next : Int) (N : Nat) (w : World) (hR : RT w A c L) (hC : Cons L) (hI : Ids L N) (hN : N ≤ 1000000) (hl : L.length ≤ 50000) :
    Calls Tryd.prog 32 #[.agg #[.slice A (List.length L) c, .int .i64 next]] w fun e w' => e = .returned (.int .i64 (sumTo (fIn L) N)) ∧ Below w.heap.size w w' := by
  have P := Lib.hid (fun (w : World) (hR : RT w A c L) => contents_any A c L next N w hR hC hI hN hl)
  have HR := Lib.hid hR
  clear hR
  go_enter Tryd.func32, Tryd.ntmps32
  go_wp2_with fail
  refine (P.out _ (HR.out.alloc _)).mono ?_
  rintro e w1 ⟨g, rfl, hg, hM, hb⟩
  obtain ⟨⟨D, hown, hsz, -, -⟩, -⟩ := hM
  rw [conF_cnt] at hsz
  have HO := Lib.hid hown
  have HS := Lib.hid hsz
  have HB := Lib.hid (bch ((Below.refl _ _).alloc (Nat.le_refl _) _) hb)
  clear hown hsz hb
  go_wp2_with (at_len; refine wpList_len_own _ rfl _ 78 rfl 3 40 Tryd.underlying78 conElem g L.length D rfl HO.out ?_)
  go_ret
  exact ⟨by rw [← HS.out]; rfl, HB.out⟩

end Go.Proofs.YtcniahbliadgiaaDoor

namespace Go.Proofs.YtcniahbliadgiaaDoor
open Go.RowKit
open Go.Proofs.PnKit Go.Proofs.PnPath

theorem zeroC (w : World) : (zeroValue 40).run Tryd.prog w = .ok (.agg #[.slice none 0 0, .int .i64 0]) w := by kernel_rfl

section
variable (w : World) {ops : Array Oper} {rest : List Oper} {o : Oper} {a : Act} {Q : Exit → Act → World → Prop}
theorem wpList_lookup_con (hg : o.guard = none) (m x : Operand) (hop : o.op = Op.lookup 78 m x true) (g n N : Nat) (f : Int → Option Int) (hm : a.eval m = .map (some g)) (hM : ConM w g n N f) (k : Int) (hx : a.eval x = .int .i64 k) (hk : 0 ≤ k ∧ k ≤ 10000000)
    (s : Int) (b : Bool) (hs : (f k).getD 0 = s) (hb : (f k).isSome = b) (hK : wpList Tryd.prog ops Q rest (a.put o.dst (.tuple #[.agg #[.slice none 0 0, .int .i64 s], .bool b])) w) : wpList Tryd.prog ops Q (o :: rest) a w := by
  obtain ⟨⟨D, hown, _, hhas, hat⟩, _⟩ := hM
  refine wpList_lookup_own_ok w hg m x 78 hop 3 40 intKeyed Tryd.underlying78 conElem (zeroC w) (.lit (.int .i64 0)) [] (conElem_mk 0) g n D hm hown (.int .i64 k) (.int .i64 k) hx (keyI hk) (fun v ps hv => ?_)
  obtain ⟨s', rfl, hy⟩ := conElem_inv hv
  have h1 : D.atKey (.int .i64 k) (.lit (.int .i64 0)) = .lit (.int .i64 s') := congrArg Prod.fst hy
  have h2 : s' = s := by
    rcases hf : f k with _ | u
    · have hh : Maps.has D (.int .i64 k) = false := by rw [hhas k, hf]; rfl
      rw [Maps.atKey_of_not_has hh] at h1
      rw [hf] at hs
      simp only [DataW.lit.injEq, Lit.int.injEq, true_and] at h1
      rw [← h1, ← hs]; rfl
    · rw [hat k u hf] at h1
      rw [hf] at hs
      simp only [DataW.lit.injEq, Lit.int.injEq, true_and] at h1
      rw [← h1, ← hs]; rfl
  rw [hhas k, hb, h2]
  exact hK
theorem wpList_delete_con (hg : o.guard = none) (m x : Operand) (hop : o.op = Op.call { callee := Callee.builtin Builtin.delete, args := #[m, x], argTypes := #[78, 3] }) (g n N : Nat) (f : Int → Option Int) (hm : a.eval m = .map (some g)) (hM : ConM w g n N f) (k : Int) (hx : a.eval x = .int .i64 k) (hk : 0 ≤ k ∧ k ≤ 10000000)
    (hK : ∀ w', ConM w' g n N (delF f k) → w.grownBy w' (some g) → wpList Tryd.prog ops Q rest (a.put o.dst (.tuple #[])) w') : wpList Tryd.prog ops Q (o :: rest) a w := by
  obtain ⟨⟨D, hown, hsz, hhas, hat⟩, hrng⟩ := hM
  refine wpList_delete_own w hg m x 78 3 hop 40 intKeyed Tryd.underlying78 conElem g n D hm hown (.int .i64 k) (.int .i64 k) hx (keyI hk) (fun w1 hown1 hturn => ?_)
  exact hK w1 (conM_del hown hsz hhas hat hrng hown1) hturn.grown
theorem wpList_next_con (hg : o.guard = none) (it : Operand) (hop : o.op = Op.next it false) (b r n : Nat) (D : DataW Unit) (left : Lit → Bool) (cnt : Nat)
    (hit : a.eval it = .pointer (some ⟨r, 0, none⟩)) (h : w.ranges Tryd.prog 3 conElem b r n D left cnt)
    (hDone : cnt = 0 → (∀ kl, left kl = false) → wpList Tryd.prog ops Q rest (a.put o.dst (.tuple #[.bool false])) w)
    (hMore : ∀ (x s : Int) (w' : World) (cnt' : Nat), (Lit.int .i64 x).wf = true → left (.int .i64 x) = true → (∀ zd, D.atKey (.int .i64 x) zd = .lit (.int .i64 s)) → w'.ranges Tryd.prog 3 conElem b r n D (fun z => left z && !z.sameKey (.int .i64 x)) cnt' → cnt' < cnt →
      w.grownBy w' (some r) → (Instr.entry (.pointer (some ⟨r, 0, none⟩))).run Tryd.prog w' = .ok (.tuple #[.int .i64 x, .agg #[.slice none 0 0, .int .i64 s]]) w' → wpList Tryd.prog ops Q rest (a.put o.dst (.tuple #[.bool true, .int .i64 x, .agg #[.slice none 0 0, .int .i64 s]])) w') :
    wpList Tryd.prog ops Q (o :: rest) a w :=
  wpList_next_ranges w hg it hop 3 intKeyed conElem (Value.int .i64) (fun s : Int => .agg #[.slice none 0 0, .int .i64 s]) (fun key kl hkey => by obtain ⟨x, rfl, _⟩ := Maps.keyOf_int_inv Tryd.underlying3 hkey; exact ⟨x, rfl⟩) (fun v y hv => by obtain ⟨c, rfl, _⟩ := conElem_inv hv; exact ⟨c, rfl⟩)
    b r n D left cnt hit h hDone (fun x c kl y w' cnt' hkey hlk hv hat hrg hlt hgr _ hen => by
      obtain ⟨x', ex, rfl, hwx⟩ := Maps.keyOf_int_inv Tryd.underlying3 hkey
      cases ex
      obtain ⟨c', ec, rfl⟩ := conElem_inv hv
      simp only [Value.agg.injEq, Array.mk.injEq, List.cons.injEq, Value.int.injEq, true_and, and_true] at ec
      subst ec
      exact hMore x c w' cnt' hwx hlk hat hrg hlt hgr hen)
end

/-- the slice '.slice A n c' reads as contents of these sizes -/
structure RC (w : World) (A : Option Addr) (c : Nat) (S : List Int) : Prop where
  cap : S.length ≤ c
  nil0 : A = none → c = 0
  cell : ∀ (j : Nat) (s : Int), S[j]? = some s → ∃ b o, A = some ⟨b, o, none⟩ ∧ b < w.heap.size ∧ w.cell? ⟨b, o + j * 2, none⟩ = some (.slice none 0 0) ∧ w.cell? ⟨b, o + j * 2 + 1, none⟩ = some (.int .i64 s)
theorem RC.below {w w' : World} {A : Option Addr} {c : Nat} {S : List Int} (h : RC w A c S) (hb : Below w.heap.size w w') : RC w' A c S :=
  ⟨h.cap, h.nil0, fun j x hx => by
    obtain ⟨b, o, e, hlt, h0, h1⟩ := h.cell j x hx
    have := hb.size
    exact ⟨b, o, e, by omega, (hb.cell (p := ⟨b, _, none⟩) hlt).trans h0, (hb.cell (p := ⟨b, _, none⟩) hlt).trans h1⟩⟩
def flatC (S : List Int) : List Value := S.flatMap fun s => [.slice none 0 0, .int .i64 s]
theorem flatC_snoc (S : List Int) (s : Int) : flatC (S ++ [s]) = flatC S ++ [.slice none 0 0, .int .i64 s] := by simp [flatC]
theorem flatC_len : ∀ (S : List Int), (flatC S).length = S.length * 2
  | [] => rfl
  | s :: S => by
    have := flatC_len S
    simp only [flatC, List.flatMap_cons, List.length_append, List.length_cons, List.length_nil] at this ⊢
    omega
theorem flatC_get : ∀ (S : List Int) (j : Nat) (s : Int), S[j]? = some s → (flatC S)[j * 2]? = some (.slice none 0 0) ∧ (flatC S)[j * 2 + 1]? = some (.int .i64 s)
  | [], _, _, h => by simp at h
  | x :: S, 0, s, h => by
    simp at h; subst h
    exact ⟨rfl, rfl⟩
  | x :: S, j + 1, s, h => by
    have ih := flatC_get S j s (by simpa using h)
    have e : flatC (x :: S) = .slice none 0 0 :: .int .i64 x :: flatC S := rfl
    rw [e, show (j + 1) * 2 = j * 2 + 1 + 1 by omega]
    exact ih
theorem RC.of_own {w : World} {base : Nat} {e : TypeId} {v : Value} {S : List Int} (h : w.ownsRow base e 2 v S.length (flatC S)) : ∃ A c, v = .slice A S.length c ∧ RC w A c S := by
  have hl := flatC_len S
  rcases h.2 with ⟨rfl, h0⟩ | ⟨g, cap, cur, rfl, hbg, hg, hc, hm, hs, htk⟩
  · have hS : S = [] := List.eq_nil_of_length_eq_zero h0
    subst hS
    exact ⟨none, 0, rfl, Nat.le_refl _, fun _ => rfl, fun j s hj => by simp at hj⟩
  · refine ⟨some ⟨g, 0, none⟩, cap, rfl, hc, (fun h => by cases h), fun j s hj => ?_⟩
    obtain ⟨h1, h2⟩ := flatC_get S j s hj
    have hj2 : j < S.length := (List.getElem?_eq_some_iff.1 hj).1
    have key : ∀ i v, i < S.length * 2 → (flatC S)[i]? = some v → w.cell? ⟨g, 0 + i, none⟩ = some v := fun i v hi hv => by
      rw [Nat.zero_add, cell_of_row w g i cur e (0, 0) hg]
      rw [← htk, List.getElem?_take, if_pos hi] at hv
      simpa using hv
    refine ⟨g, 0, rfl, (Array.getElem?_eq_some_iff.1 hg).1, ?_, ?_⟩
    · exact key _ _ (by omega) h1
    · have := key _ _ (by omega) h2
      rwa [← Nat.add_assoc] at this

def isum : List Int → Int
  | [] => 0
  | s :: S => s + isum S
theorem isum_snoc : ∀ (S : List Int) (s : Int), isum (S ++ [s]) = isum S + s
  | [], s => by simp [isum]
  | x :: S, s => by simp only [List.cons_append, isum, isum_snoc S s]; omega

/-- what is left when the numbers of the other rows are struck -/
def goneF (L M : List Rw) (j : Int) : Option Int := if fIn M j = 1 then none else conF L j
theorem goneF_cnt (L M : List Rw) (N : Nat) : cntF (goneF L M) N = sumTo (gIn L M) N := by
  refine sumTo_congr N fun j _ _ => ?_
  show (if (if fIn M j = 1 then none else conF L j).isSome = true then (1 : Int) else 0) = if fIn L j = 1 ∧ fIn M j = 0 then 1 else 0
  rcases fIn_bound M j with h | h <;> rw [h]
  · rw [if_neg (c := (0 : Int) = 1) (by decide), conF_isSome]
    rcases fIn_bound L j with h2 | h2 <;> rw [h2] <;> rfl
  · rw [if_pos (c := (1 : Int) = 1) rfl, if_neg (c := fIn L j = 1 ∧ (1 : Int) = 0) (by omega)]; rfl
theorem goneF_sum {L : List Rw} (hC : Cons L) (M : List Rw) (N : Nat) : sumF (goneF L M) N = sumTo (gSz L M) N := by
  refine sumTo_congr N fun j _ _ => ?_
  show (if fIn M j = 1 then none else conF L j).getD 0 = if fIn L j = 1 ∧ fIn M j = 0 then szOf L j else 0
  rcases fIn_bound M j with h | h <;> rw [h]
  · rw [if_neg (c := (0 : Int) = 1) (by decide)]
    rcases hf : conF L j with _ | s
    · have := conF_isSome L j
      rw [hf] at this
      have h2 : ¬ fIn L j = 1 := by simpa using this.symm
      rw [if_neg (fun h => h2 h.1)]; rfl
    · obtain ⟨h1, h2⟩ := conF_some hC hf
      rw [if_pos ⟨h1, rfl⟩]; exact h2
  · rw [if_pos (c := (1 : Int) = 1) rfl, if_neg (c := fIn L j = 1 ∧ (1 : Int) = 0) (by omega)]; rfl
/-- .. as a function of what is still to come -/
def strikeF (L M : List Rw) (left : Lit → Bool) (j : Int) : Option Int := if fIn M j = 1 ∧ left (.int .i64 j) = false then none else conF L j
theorem strikeF_step {L M : List Rw} {left : Lit → Bool} {x : Int} (hx : fIn M x = 1) : strikeF L M (fun z => left z && !z.sameKey (.int .i64 x)) = delF (strikeF L M left) x := by
  funext j
  unfold strikeF delF
  by_cases e : j = x
  · subst e
    rw [if_pos rfl, if_pos ⟨hx, by show (left (.int .i64 j) && !(Lit.int .i64 j).sameKey (.int .i64 j)) = false; rw [WideAt.sameKey_self (a := .int .i64 j) (by exact True.intro)]; simp⟩]
  · have hs : (Lit.int .i64 j).sameKey (.int .i64 x) = false := Maps.sameKey_ne (by intro h; injection h with _ h; exact e h)
    rw [if_neg e]
    simp only [hs, Bool.not_false, Bool.and_true]
theorem strikeF_end {L M : List Rw} {left : Lit → Bool} (h : ∀ kl, left kl = false) : strikeF L M left = goneF L M := by
  funext j
  unfold strikeF goneF
  simp only [h, and_true]
theorem strikeF_start {L M : List Rw} {left : Lit → Bool} (h : ∀ j : Int, left (.int .i64 j) = (conF M j).isSome) : strikeF L M left = conF L := by
  funext j
  unfold strikeF
  rw [if_neg]
  rintro ⟨h1, h2⟩
  rw [h, conF_isSome, h1] at h2
  cases h2

theorem info_con : (Tryd.prog.info? 40).map (fun i => (i.zero, i.size, i.bytes)) = some (some (.agg #[.slice none 0 0, .int .i64 0]), 2, 32) := by kernel_rfl

attribute [local go_sem ↓] Go.wp_at_zero Go.wp_at_succ

set_option maxRecDepth 100000 in
set_option maxHeartbeats 2000000 in
theorem gone_any (A : Option Addr) (c : Nat) (L : List Rw) (next : Int) (B : Option Addr) (d : Nat) (M : List Rw) (mext : Int) (NL NM : Nat) (w : World) (hA : RT w A c L) (hB : RT w B d M) (hC : Cons L) (hI : Ids L NL) (hNL : NL ≤ 1000000) (hl : L.length ≤ 50000) (hCM : Cons M) (hIM : Ids M NM) (hNM : NM ≤ 1000000) (hm : M.length ≤ 50000) :
    Calls Tryd.prog 33 #[.agg #[.slice A (List.length L) c, .int .i64 next], .agg #[.slice B (List.length M) d, .int .i64 mext]] w fun e w' =>
      ∃ A' c' S, e = .returned (.slice A' (List.length S) c') ∧ RC w' A' c' S ∧ (S.length : Int) = sumTo (gIn L M) NL ∧ isum S = sumTo (gSz L M) NL ∧ Below w.heap.size w w' := by
  have P1 := Lib.hid (fun (w : World) (hR : RT w A c L) => contents_any A c L next NL w hR hC hI hNL hl)
  have P2 := Lib.hid (fun (w : World) (hR : RT w B d M) => contents_any B d M mext NM w hR hCM hIM hNM hm)
  have HA := Lib.hid hA
  have HB := Lib.hid hB
  have HI := Lib.hid hI
  have HC := Lib.hid hC
  obtain ⟨i0, hi0, hz0, hz1, hz2⟩ := info_parts info_con
  clear hA hB hI hC hCM hIM
  go_enter Tryd.func33, Tryd.ntmps33
  go_wp2_with fail
  have hal := fun o p : Obj => ((Below.refl w.heap.size w).alloc (Nat.le_refl _) o).alloc (by simp) p
  refine (P1.out _ (HA.out.below (hal _ _))).mono ?_
  rintro e w1 ⟨g1, rfl, hg1, hM1, hb1⟩
  have hB1 := bch (hal _ _) hb1
  have b0 : w1.heap[w.heap.size]? = some (.cells [.slice A (List.length L) c, .int .i64 next].toArray 35 (0, 0)) := by
    rw [hb1.block _ (by simp; omega), Below.heap_alloc _ _ _ (by simp)]
    exact heap_alloc_new w _
  have b1 : w1.heap[w.heap.size + 1]? = some (.cells [.slice B (List.length M) d, .int .i64 mext].toArray 35 (0, 0)) := by
    rw [hb1.block _ (by simp)]
    exact heap_alloc2_new w _ _
  have t0 := blk_cell b1 (j := 0) rfl
  have t1 := blk_cell b1 (j := 1) rfl
  have hgs : w.heap.size + 2 ≤ g1 := by simp at hg1; omega
  have HB1 := Lib.hid hB1
  have HM1 := Lib.hid hM1
  have B0 := Lib.hid b0
  have B1 := Lib.hid b1
  clear hb1 hM1 hB1 b0 b1 hal hg1
  go_wp2_with fail
  refine (P2.out _ (HB.out.below HB1.out)).mono ?_
  rintro e w2 ⟨g2, rfl, hg2, hM2, hb2⟩
  have HB2 := Lib.hid (bch HB1.out hb2)
  have HM12 := Lib.hid (HM1.out.below hb2)
  have b0 := (hb2.block _ (blk_lt B0.out)).trans B0.out
  have HBK := Lib.hid b0
  have hg12 : g1 < g2 := Nat.lt_of_lt_of_le HM1.out.lt hg2
  have hg2l := hM2.lt
  obtain ⟨⟨D2, hown2, -, hhas2, hat2⟩, hrng2⟩ := hM2
  have HRN2 := Lib.hid hrng2
  have HO2 := Lib.hid hown2
  have HH2 := Lib.hid hhas2
  clear hb2 b0 B0 B1 HM1 t0 t1 hown2 hhas2 hat2 hrng2
  go_wp2_with (at_range; refine wpList_range_own _ rfl _ 78 rfl 3 40 intKeyed Tryd.underlying78 conElem g2 M.length D2 rfl HO2.out ?_)
  intro w0 hrg0 hgr0 hs0
  generalize hrr : w2.heap.size = r at hrg0 hs0 hg2l ⊢
  have HRR := Lib.hid hrr
  have hb0 : Below w.heap.size w w0 := HB2.out.grown hgr0 HB2.out.size (fun j hj => by cases hj)
  have hM10 : ConM w0 g1 L.length NL (conF L) := HM12.out.block (hgr0.block _ HM12.out.lt (by simp))
  have HB0 := Lib.hid hb0
  have HM10 := Lib.hid hM10
  have HG0 := Lib.hid hgr0
  have HRG0 := Lib.hid hrg0
  clear hrr hb0 hM10 hgr0 hrg0 HM12 HO2
  go_wp2_with fail
  try go_frame
  go_loopg [6] (Maps.size D2) (fun g _ wr => ∃ left, Hid (wr.ranges Tryd.prog 3 conElem g2 r M.length D2 left g) ∧ Hid (ConM wr g1 L.length NL (strikeF L M left)) ∧ Hid (Below w.heap.size w wr) ∧ Hid (wr.heap[w.heap.size]? = w2.heap[w.heap.size]?))
  case atStart =>
    refine ⟨_, HRG0, Lib.hid ?_, HB0, Lib.hid (HG0.out.block _ (by have := HRR.out; omega) (by simp))⟩
    rw [strikeF_start HH2.out]; exact HM10.out
  case round =>
    obtain ⟨left, HRG, HM, HBW, HBK0⟩ := hrel
    have hrg : r ≠ g1 := by have := HRR.out; omega
    have hg2g : g2 ≠ g1 := by omega
    have hHAS : ∀ x : Int, left (.int .i64 x) = true → (∃ s, ∀ zd, D2.atKey (.int .i64 x) zd = .lit (.int .i64 s)) → fIn M x = 1 := fun x _ ⟨s, h⟩ => by
      have h1 := Maps.has_true_of_atKey h
      rw [HH2.out, conF_isSome] at h1
      simpa using h1
    have HHAS := Lib.hid hHAS
    clear hHAS
    go_wp2_with (at_next; refine wpList_next_con _ rfl _ rfl g2 r M.length D2 left _ rfl HRG.out ?_ ?_)
    case refine_2 =>
      intro x s w3 cnt3 hwx hlx hat3 hrg3 hlt3 hgr3 hen
      have HF := Lib.hid (HHAS.out x hlx ⟨s, hat3⟩)
      have HWX := Lib.hid hwx
      have hm3 : ConM w3 g1 L.length NL (strikeF L M left) := HM.out.block (hgr3.block _ HM.out.lt (by simp; omega))
      have HM3 := Lib.hid hm3
      have HRG3 := Lib.hid hrg3
      have HGR3 := Lib.hid hgr3
      have HLT3 := Lib.hid hlt3
      have HBW3 := Lib.hid (HBW.out.grown hgr3 HBW.out.size (fun j hj => by cases hj; have := HRR.out; have := HB2.out.size; omega))
      have hxb : 0 ≤ x ∧ x ≤ 10000000 := by
        have := HRN2.out x (by rw [conF_isSome, HF.out]; rfl)
        omega
      clear hwx hlx hat3 hrg3 hlt3 hgr3 hm3
      go_wp2_with (at_delete; refine wpList_delete_con _ rfl _ _ rfl g1 L.length NL (strikeF L M left) rfl HM3.out x rfl hxb ?_)
      intro w4 hM4 hgr4
      have hrg4 := HRG3.out.kept hgr4 (by simp; omega) (by simp; omega)
      have HM4 := Lib.hid hM4
      have HRG4 := Lib.hid hrg4
      have HGR4 := Lib.hid hgr4
      clear hM4 hgr4 hrg4
      go_wp2_with fail
      go_roundg cnt3
      case measure => exact HLT3.out
      case rel =>
        refine ⟨_, HRG4, Lib.hid ?_, Lib.hid (HBW3.out.grown HGR4.out HBW3.out.size (fun j hj => by cases hj; omega)), Lib.hid ?_⟩
        · rw [strikeF_step HF.out]; exact HM4.out
        · exact (HGR4.out.block _ (by have := HM3.out.lt; omega) (by simp; omega)).trans ((HGR3.out.block _ (by have := HM.out.lt; omega) (by simp; have := HRR.out; omega)).trans HBK0.out)
    case refine_1 =>
      intro _ hl0
      have hfin := strikeF_end (L := L) (M := M) hl0
      have hc0 := blk_cell (HBK0.out.trans HBK.out) (j := 0) rfl
      have hmf : ConM wr g1 L.length NL (goneF L M) := by rw [← hfin]; exact HM.out
      have HMF := Lib.hid hmf
      clear hl0 hfin hmf HM HHAS HRG
      go_wp2_with fail
      clear hc0
      obtain ⟨wa, rfl⟩ : ∃ wa : World, wa = wr := ⟨wr, rfl⟩
      have hg1r : g1 < wa.heap.size := HMF.out.lt
      go_loopg [7, 26] L.length (fun g out i wq => ∃ (k : Nat) (f : Int → Option Int) (S : List Int), g = L.length - k ∧ i = .int .i64 k ∧ k ≤ L.length ∧ S.length ≤ k ∧ wa.heap.size ≤ wq.heap.size ∧ Hid (wq.ownsRow wa.heap.size 40 2 out S.length (flatC S)) ∧ Hid (ConM wq g1 L.length NL f) ∧
        Hid ((S.length : Int) + cntF f NL = cntF (goneF L M) NL ∧ isum S + sumF f NL = sumF (goneF L M) NL) ∧ Hid (∀ j s, f j = some s → goneF L M j = some s) ∧ Hid (∀ x ∈ L.take k, f x.id = none) ∧ Hid (Below w.heap.size w wq))
      case atStart =>
        exact ⟨0, goneF L M, [], rfl, rfl, Nat.zero_le _, Nat.le_refl _, Nat.le_refl _, Lib.hid (World.ownsRow_nil _ _ _ _), HMF, Lib.hid ⟨by simp, by simp [isum]⟩, Lib.hid (fun _ _ h => h), Lib.hid (fun x hx => by simp at hx), HBW⟩
      case round =>
        obtain ⟨k, f, S, rfl, rfl, hk, hSk, hwl, HO, HM, HCN, HSUB, HNO, HBQ⟩ := hrel
        obtain ⟨A', c', rfl, hRC⟩ := RC.of_own HO.out
        have HRC := Lib.hid hRC
        clear hRC
        by_cases hlt : k < L.length
        case neg =>
          have hall : ∀ j, f j = none := fun j => by
            rcases hf : f j with _ | s
            · rfl
            · have h1 := HSUB.out j s hf
              unfold goneF at h1
              split at h1
              · cases h1
              · obtain ⟨h2, _⟩ := conF_some HC.out h1
                obtain ⟨x, hx, hxi, _⟩ := fIn_iff.1 h2
                have h3 := HNO.out x (by rw [List.take_of_length_le (by omega)]; exact hx)
                rw [hxi, hf] at h3; cases h3
          have hfn : f = fun _ => none := funext hall
          have hc0 : cntF f NL = 0 := by rw [hfn]; unfold cntF; rw [sumTo_congr (g := fun _ => 0) NL (fun _ _ _ => by simp), sumTo_zero]
          have hs0 : sumF f NL = 0 := by rw [hfn]; unfold sumF; rw [sumTo_congr (g := fun _ => 0) NL (fun _ _ _ => by simp), sumTo_zero]
          have HEND : Hid ((S.length : Int) = sumTo (gIn L M) NL ∧ isum S = sumTo (gSz L M) NL) := Lib.hid (by
            have h := HCN.out
            rw [goneF_cnt, goneF_sum HC.out] at h
            omega)
          clear hall hfn hc0 hs0
          go_wp2_with fail
          go_ret
          exact ⟨A', c', S, rfl, HRC.out, HEND.out.1, HEND.out.2, HBQ.out⟩
        have hx : L[k]? = some L[k] := List.getElem?_eq_getElem hlt
        have htk : L.take (k + 1) = L.take k ++ [L[k]] := List.take_succ_eq_append_getElem hlt
        have hmem : L[k] ∈ L := List.getElem_mem hlt
        generalize L[k] = r0 at hx htk hmem
        have hid := HI.out r0 hmem
        have HTK := Lib.hid htk
        obtain ⟨path, id, kind, mode, size, made⟩ := r0
        obtain ⟨b, o, rfl, hbw⟩ := HA.out.pos (by omega)
        obtain ⟨q0, q1, q2, q3, q4, q5, q6, q7, q8, q9, q10, q11, q12⟩ := (HA.out.below HBQ.out).cells hx
        simp only at hid
        have hkid : 0 ≤ id ∧ id ≤ 10000000 := by omega
        have hal := fun o : Obj => (Below.refl wr.heap.size wr).alloc (Nat.le_refl _) o
        have HM1 := Lib.hid (fun o : Obj => HM.out.below (hal o))
        clear hx htk hmem hal
        rcases hf : f id with _ | s
        · have h1 : (f id).getD 0 = 0 := by rw [hf]; rfl
          have h2 : (f id).isSome = false := by rw [hf]; rfl
          have HF := Lib.hid hf
          have H1 := Lib.hid h1
          have H2 := Lib.hid h2
          clear hf h1 h2
          go_wp2_with (at_lookup; refine wpList_lookup_con _ rfl _ _ rfl g1 L.length NL f rfl (HM1.out _) id rfl hkid 0 false H1.out H2.out ?_)
          go_roundg (L.length - (k + 1))
          case measure => omega
          case rel =>
            have hb2 := fun o p : Obj => ((Below.refl wr.heap.size wr).alloc (Nat.le_refl _) o).alloc (by simp) p
            refine ⟨k + 1, f, S, rfl, by go_num, by omega, by omega, by simp; omega, Lib.hid ((HO.out.alloc _).alloc _), Lib.hid (HM.out.below (hb2 _ _)), HCN, HSUB, Lib.hid (fun x hx => ?_), Lib.hid (HBQ.out.trans ((hb2 _ _).mono HBQ.out.size))⟩
            rw [HTK.out] at hx
            rcases List.mem_append.1 hx with hx | hx
            · exact HNO.out x hx
            · rcases List.mem_cons.1 hx with rfl | hx
              · exact HF.out
              · cases hx
        · have h1 : (f id).getD 0 = s := by rw [hf]; rfl
          have h2 : (f id).isSome = true := by rw [hf]; rfl
          have HF := Lib.hid hf
          have H1 := Lib.hid h1
          have H2 := Lib.hid h2
          clear hf h1 h2
          go_wp2_with (first
            | (at_lookup; refine wpList_lookup_con _ rfl _ _ rfl g1 L.length NL f rfl (HM1.out _) id rfl hkid s true H1.out H2.out ?_)
            | (at_builtin; refine wpList_append_own _ rfl _ _ 76 rfl wa.heap.size 40 i0 (.agg #[.slice none 0 0, .int .i64 0]) 2 32 Tryd.underlying76 hi0 hz0 hz1 hz2 rfl (by decide) _ S.length (flatC S) rfl (((HO.out.alloc _).alloc _).alloc _) ⟨wr.heap.size + 1 + 1, 0, none⟩ 1 1 [.slice none 0 0, .int .i64 s] rfl rfl ?c1 ?c2 ?c3 ?c4 ?c5 ?_))
          case c1 =>
            intro j u hj
            have hj2 := World.news_of_block (heap_alloc_new ((wr.alloc (.cells #[.string path, .int .i64 id, .int .i64 kind, .int .i64 mode, .int .i64 0, .int .i64 0, .int .i64 0, .string nos, .string nos, .string nos, .slice none 0 0, .int .i64 size, .bool made] 44)).alloc (.cells #[.slice none 0 0, .int .i64 s] 40)) (.cells #[.slice none 0 0, .int .i64 s] 40)) j u hj
            have e : ((wr.alloc (.cells #[.string path, .int .i64 id, .int .i64 kind, .int .i64 mode, .int .i64 0, .int .i64 0, .int .i64 0, .string nos, .string nos, .string nos, .slice none 0 0, .int .i64 size, .bool made] 44)).alloc (.cells #[.slice none 0 0, .int .i64 s] 40)).heap.size = wr.heap.size + 1 + 1 := by simp
            rw [e] at hj2
            exact hj2
          case c2 => simp [Value.oneCell']
          case c3 => simp only [maxLen]; omega
          case c4 => omega
          case c5 => simp; omega
          intro v' w4 hown4 hgr4 _
          have hne : ∀ j, j < wa.heap.size ∨ wr.heap.size ≤ j → some j ≠ (Value.slice A' S.length c').ownBlock := fun j hj e => by
            have := HO.out.lt j e.symm; omega
          have hb3 := fun o p q : Obj => (((Below.refl wr.heap.size wr).alloc (Nat.le_refl _) o).alloc (by simp) p).alloc (by simp; omega) q
          have hM4 : ConM w4 g1 L.length NL f := (HM.out.below (hb3 _ _ _)).block (hgr4.block g1 (by simp; omega) (hne g1 (.inl hg1r)))
          have hrow : w4.heap[wr.heap.size]? = some (.cells (Rw.cells ⟨path, id, kind, mode, size, made⟩).toArray 44 (0, 0)) := by
            rw [hgr4.block _ (by simp; omega) (hne _ (.inr (Nat.le_refl _))), Below.heap_alloc _ _ _ (by simp; omega), Below.heap_alloc _ _ _ (by simp)]
            exact heap_alloc_new wr _
          have HB4 : Hid (Below w.heap.size w w4) := Lib.hid ((HBQ.out.trans ((hb3 _ _ _).mono HBQ.out.size)).grown hgr4 (by have := HBQ.out.size; simp; omega) (fun j hj => by have := HO.out.lt j hj; have := HM.out.lt; have := HMF.out.lt; omega))
          obtain ⟨-, z1, -⟩ := row_cells hrow
          have HM4 := Lib.hid hM4
          have HO4 := Lib.hid hown4
          have HS4 := Lib.hid hgr4.size
          clear hown4 hgr4 hne hb3 hM4 hrow
          go_wp2_with (at_delete; refine wpList_delete_con _ rfl _ _ rfl g1 L.length NL f rfl HM4.out id rfl hkid ?_)
          intro w5 hM5 hgr5
          have HM5 := Lib.hid hM5
          have HGR5 := Lib.hid hgr5
          clear z1 hM5 hgr5
          go_wp2_with fail
          go_roundg (L.length - (k + 1))
          case measure => omega
          case rel =>
            have hsz4 : wr.heap.size ≤ w4.heap.size := by have := HS4.out; simp at this; omega
            refine ⟨k + 1, delF f id, S ++ [s], rfl, by go_num, by omega, by simp; omega, by have := HGR5.out.size; omega, Lib.hid ?_, HM5, Lib.hid ?_, Lib.hid ?_, Lib.hid ?_, Lib.hid (HB4.out.grown HGR5.out HB4.out.size (fun j hj => by cases hj; omega))⟩
            · have h := HO4.out
              rw [← flatC_snoc, show S.length + 1 = (S ++ [s]).length by simp] at h
              exact h.kept HGR5.out (Or.inr (fun e => by have := (h.lt g1 (by exact e)).1; omega))
            · have hb := HM.out.rng id H2.out
              have h1 := cntF_del (f := f) hb
              have h2 := sumF_del (f := f) hb
              rw [HF.out] at h1 h2
              have h3 := HCN.out
              rw [isum_snoc, List.length_append]
              simp only [Option.isSome_some, if_true, Option.getD_some, List.length_cons, List.length_nil] at h1 h2 ⊢
              omega
            · intro j u hj
              unfold delF at hj
              split at hj
              · cases hj
              · exact HSUB.out j u hj
            · intro x hx
              rw [HTK.out] at hx
              unfold delF
              rcases List.mem_append.1 hx with hx | hx
              · split
                · rfl
                · exact HNO.out x hx
              · rcases List.mem_cons.1 hx with rfl | hx
                · rw [if_pos rfl]
                · cases hx

end Go.Proofs.YtcniahbliadgiaaDoor

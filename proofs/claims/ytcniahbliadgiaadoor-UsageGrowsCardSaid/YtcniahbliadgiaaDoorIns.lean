/-
  slices.Clone and slices.Insert at a tree's rows.
-/
import Derived.Test.YtcniahbliadgiaaDoorSearch
import Derived.Shelf.Spec.SlicesInsertGrow
import Derived.Laws.CopyRow
namespace Go.Proofs.YtcniahbliadgiaaDoor
open Go.RowKit
open Go.Proofs.PnKit Go.Proofs.PnPath

/-- rows as their cells -/
def flat (L : List Rw) : List Value := L.flatMap Rw.cells
theorem flat_nil : flat [] = [] := rfl
theorem flat_cons (r : Rw) (L : List Rw) : flat (r :: L) = r.cells ++ flat L := rfl
theorem flat_append (L M : List Rw) : flat (L ++ M) = flat L ++ flat M := List.flatMap_append
theorem flat_length : ∀ (L : List Rw), (flat L).length = L.length * 13
  | [] => rfl
  | r :: L => by rw [flat_cons, List.length_append, flat_length L, r.len, List.length_cons]; omega
theorem flat_take : ∀ (L : List Rw) (i : Nat), flat (L.take i) = (flat L).take (i * 13)
  | [], i => by simp [flat]
  | r :: L, 0 => by simp [flat]
  | r :: L, i + 1 => by
    rw [List.take_succ_cons, flat_cons, flat_cons, flat_take L i, List.take_append, r.len, List.take_of_length_le (l := r.cells) (by rw [r.len]; omega), show (i + 1) * 13 - 13 = i * 13 by omega]
theorem flat_drop : ∀ (L : List Rw) (i : Nat), flat (L.drop i) = (flat L).drop (i * 13)
  | [], i => by simp [flat]
  | r :: L, 0 => by simp [flat]
  | r :: L, i + 1 => by
    have h : r.cells.drop ((i + 1) * 13) = [] := List.drop_eq_nil_of_le (by rw [r.len]; omega)
    rw [List.drop_succ_cons, flat_cons, flat_drop L i, List.drop_append, r.len, h, List.nil_append, show (i + 1) * 13 - 13 = i * 13 by omega]
theorem flat_get (L : List Rw) {j i : Nat} {x : Rw} {v : Value} (hj : L[j]? = some x) (hi : x.cells[i]? = some v) : (flat L)[j * 13 + i]? = some v := by
  have h1 : i < 13 := by have := (List.getElem?_eq_some_iff.1 hi).1; rwa [x.len] at this
  have h2 : flat (L.drop j) = (flat L).drop (j * 13) := flat_drop L j
  have hlt := (List.getElem?_eq_some_iff.1 hj).1
  rw [List.drop_eq_getElem_cons hlt, flat_cons] at h2
  have h3 : (flat L)[j * 13 + i]? = ((flat L).drop (j * 13))[i]? := by rw [List.getElem?_drop]
  rw [h3, ← h2, List.getElem?_append_left (by rw [Rw.len]; omega)]
  have : L[j] = x := by rw [List.getElem?_eq_getElem hlt] at hj; exact Option.some.inj hj
  rw [this]; exact hi
theorem cells_one (r : Rw) : ∀ u ∈ r.cells, u.oneCell' = true := by
  intro u hu
  simp only [Rw.cells, nodeC, List.mem_cons, List.not_mem_nil, or_false] at hu
  rcases hu with rfl | rfl | rfl | rfl | rfl | rfl | rfl | rfl | rfl | rfl | rfl | rfl | rfl <;> rfl
theorem flat_one (L : List Rw) : ∀ u ∈ flat L, u.oneCell' = true := by
  intro u hu
  obtain ⟨r, _, h⟩ := List.mem_flatMap.1 hu
  exact cells_one r u h

/-- what the call owns reads -/
theorem RT.of_own {w : World} {base : Nat} {e : TypeId} {v : Value} {L : List Rw} (h : w.ownsRow base e 13 v L.length (flat L)) : ∃ A c, v = .slice A L.length c ∧ RT w A c L := by
  rcases h.2 with ⟨rfl, h0⟩ | ⟨g, cap, cur, rfl, hb, hg, hc, hm, hs, ht⟩
  · obtain rfl : L = [] := List.eq_nil_of_length_eq_zero h0
    exact ⟨none, 0, rfl, RT.nil w⟩
  · have hlt : g < w.heap.size := (Array.getElem?_eq_some_iff.1 hg).1
    refine ⟨_, cap, rfl, hc, (fun h => by cases h), fun j x hj => ⟨g, 0, rfl, hlt, fun i v hi => ?_⟩⟩
    have h1 := flat_get L hj hi
    rw [← ht, List.getElem?_take] at h1
    split at h1
    · rw [Nat.zero_add]
      have e : w.cell? ⟨g, j * 13 + i, none⟩ = cur[j * 13 + i]? := cell_of_row _ _ _ _ _ _ hg
      rw [e, ← Array.getElem?_toList]; exact h1
    · cases h1
/-- rows that can be read, as cells -/
theorem RT.flat {w : World} {b o c : Nat} {L : List Rw} (h : RT w (some ⟨b, o, none⟩) c L) : ∀ j u, (flat L)[j]? = some u → w.cell? ⟨b, o + j, none⟩ = some u := by
  intro j u hu
  have hlt := (List.getElem?_eq_some_iff.1 hu).1
  rw [flat_length] at hlt
  have hq : j / 13 < L.length := by omega
  have hx : L[j / 13]? = some L[j / 13] := List.getElem?_eq_getElem hq
  have hi : j % 13 < (L[j / 13]).cells.length := by rw [Rw.len]; omega
  have h1 := flat_get L hx (List.getElem?_eq_getElem hi)
  rw [show j / 13 * 13 + j % 13 = j by omega, hu] at h1
  have h2 := h.row hx (List.getElem?_eq_getElem hi)
  rw [show o + j / 13 * 13 + j % 13 = o + j by omega] at h2
  rw [h2, ← h1]

/-- 'copy' onto a block that is known, elements of k cells -/
theorem run_copy_rowK {P : Program} (w : World) (dT sT ty elem : TypeId) (k g o dLen dCap : Nat) (a : Addr) (sLen sCap : Nat) (cur : Array Value) (t : TypeId) (cs : List Value)
    (hu : P.underlying dT = some (.slice elem)) (hs : (P.info? elem).map (·.size) = some k)
    (hg : w.heap[g]? = some (.cells cur t (0, 0))) (hn : cs.length = Nat.min sLen dLen * k)
    (hsrc : ∀ j v, cs[j]? = some v → w.cell? (a.add j) = some v) (hfit : o + cs.length ≤ cur.size) (h1 : ∀ v ∈ cs, v.oneCell' = true) :
    (Builtin.copy_ #[dT, sT] ty #[.slice (some ⟨g, o, none⟩) dLen dCap, .slice (some a) sLen sCap]).run P w =
      .ok (goInt (Nat.min sLen dLen)) (w.setRow g (cur.toList.take o ++ cs ++ cur.toList.drop (o + cs.length)).toArray) := by
  have hl := run_loadCells_list (P := P) w a cs hsrc
  have hst := run_storeCells_at P g o t cs 0 cur w hg (by simpa using hfit) h1
  cases hq : P.info? elem with
  | none => simp [hq] at hs
  | some i =>
    have hi : i.size = k := by simpa [hq] using hs
    simp [Builtin.copy_, run_underlying hu, Builtin.lenOf, Builtin.firstCells, sizeOf, typeInfo, hq, hi, ← hn, hl, hst]

theorem info_row : (Tryd.prog.info? 44).map (fun i => (i.zero, i.size, i.bytes)) = some (some zrow.val, 13, 152) := by kernel_rfl

set_option maxRecDepth 100000 in
set_option maxHeartbeats 1000000 in
/-- slices.Clone at rows: rows of the call's own -/
theorem clone_any (A : Option Addr) (c : Nat) (L : List Rw) (w : World) (hR : RT w A c L) (hl : L.length ≤ 100000) :
    Calls Tryd.prog 45 #[.slice A (List.length L) c] w fun e w' => ∃ v', e = .returned v' ∧ w'.ownsRow w.heap.size 44 13 v' L.length (flat L) ∧ Below w.heap.size w w' := by
  obtain ⟨i0, hi0, hz0, hz1, hz2⟩ := info_parts info_row
  have q22 : ∀ (w : World) (a : Option Addr) (n c n' c' : Nat), (binOp .eql 33 (.slice a n c) (.slice none n' c')).run Tryd.prog w = .ok (.bool a.isNone) w := fun w a n c n' c' => Lib.run_eql_slice_nil w _ _ a n c n' c' Tryd.underlying33
  cases A with
  | none =>
    have h0 : L = [] := by
      rcases Nat.eq_zero_or_pos L.length with h | h
      · exact List.eq_nil_of_length_eq_zero h
      · obtain ⟨b, o, e, _⟩ := hR.pos h
        cases e
    subst h0
    have hc := hR.nil0 rfl
    subst hc
    go_enter Tryd.func45, Tryd.ntmps45
    go_wp2_with fail
    go_ret
    exact ⟨_, rfl, World.ownsRow_nil _ _ _ _, Below.refl _ _⟩
  | some ad =>
    have HF : Hid (∀ j u, (flat L)[j]? = some u → w.cell? (ad.add j) = some u) := by
      show ∀ j u, _
      intro j u hu
      have hp : 0 < L.length := by
        have := (List.getElem?_eq_some_iff.1 hu).1
        rw [flat_length] at this; omega
      obtain ⟨b, o, e, _⟩ := hR.pos hp
      injection e with e
      subst e
      rw [add_at]
      exact hR.flat j u hu
    clear hR
    go_enter Tryd.func45, Tryd.ntmps45
    go_wp2_with (at_builtin; refine wpList_append_own _ rfl _ _ 33 rfl w.heap.size 44 i0 zrow.val 13 152 Tryd.underlying33 hi0 hz0 hz1 hz2 rfl (by decide) _ _ _ rfl (World.ownsRow_made w #[] 0 (Nat.le_refl _) (Nat.zero_le _) (by simp)) ad L.length c (flat L) rfl ?qc1 ?qc2 ?qc3 ?qc4 ?qc5 ?qc6 ?_)
    case qc1 => exact flat_length L
    case qc2 =>
      intro j u hj
      exact Lib.cell?_alloc_some _ (HF.out j u hj)
    case qc3 => exact flat_one L
    case qc4 => rw [Nat.zero_add]; unfold maxLen; omega
    case qc5 => rw [Nat.zero_add]; omega
    case qc6 => simp
    intro v' w1 hown hgrow hnil
    go_wp2
    go_ret
    refine ⟨v', rfl, by simpa using hown, ?_⟩
    exact ((Below.refl _ w).alloc (Nat.le_refl _) _).grown hgrow (by simp) (by intro k hk; simp [Value.ownBlock] at hk; omega)

end Go.Proofs.YtcniahbliadgiaaDoor

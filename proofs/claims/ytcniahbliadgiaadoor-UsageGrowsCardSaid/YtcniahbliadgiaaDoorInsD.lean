/-
  slices.Insert at a tree's rows: one row, wherever.
-/
import Derived.Test.YtcniahbliadgiaaDoorInsC
namespace Go.Proofs.YtcniahbliadgiaaDoor
open Go.RowKit
open Go.Proofs.PnKit Go.Proofs.PnPath

set_option maxRecDepth 100000 in
set_option maxHeartbeats 4000000 in
theorem insert_end (v : Value) (L : List Rw) (r : Rw) (B vb : Nat) (w : World) (hl : L.length ≤ 100000) (hB : B ≤ w.heap.size) (hown : w.ownsRow B 44 13 v L.length (flat L))
    (hvb : w.heap[vb]? = some (.cells r.cells.toArray 44 (0, 0))) :
    Calls Tryd.prog 61 #[v, .int .i64 (List.length L), .slice (some ⟨vb, 0, none⟩) 1 1] w fun e w' =>
      ∃ v', e = .returned v' ∧ w'.ownsRow B 44 13 v' (L.length + 1) (flat L ++ r.cells) ∧ Below B w w' := by
  obtain ⟨i0, hi0, hz0, hz1, hz2⟩ := info_parts info_row
  obtain ⟨A, c, rfl, hc⟩ := own_form hown
  have HO := Lib.hid hown
  have HV : Hid (∀ j u, r.cells[j]? = some u → w.cell? ((⟨vb, 0, none⟩ : Addr).add j) = some u) := by
    show ∀ j u, _
    intro j u hu
    rw [add_at, Nat.zero_add]
    have e : w.cell? ⟨vb, j, none⟩ = r.cells.toArray[j]? := cell_of_row _ _ _ _ _ _ hvb
    rw [e, List.getElem?_toArray]; exact hu
  clear hown hvb
  cases A with
  | none =>
    obtain rfl : c = 0 := by
      rcases HO.out.2 with ⟨e, _⟩ | ⟨g, cap, cur, e, _⟩
      · injection e
      · cases e
    have h0 : L.length = 0 := by omega
    obtain rfl : L = [] := List.eq_nil_of_length_eq_zero h0
    go_enter Tryd.func61, Tryd.ntmps61
    go_wp2_with (at_builtin; refine wpList_append_own _ rfl _ _ 33 rfl B 44 i0 zrow.val 13 152 Tryd.underlying33 hi0 hz0 hz1 hz2 rfl (by decide) _ _ _ rfl HO.out ⟨vb, 0, none⟩ 1 1 r.cells rfl ?qc1 ?qc2 ?qc3 ?qc4 ?qc5 ?qc6 ?_)
    case qc1 => exact r.len
    case qc2 => exact HV.out
    case qc3 => exact cells_one r
    case qc4 => decide
    case qc5 => decide
    case qc6 => exact hB
    intro v' w1 hown hgrow hnil
    go_wp2
    go_ret
    exact ⟨v', rfl, hown, (Below.refl _ w).grown hgrow hB (fun k hk => (HO.out.lt k hk).1)⟩
  | some ad =>
    obtain ⟨ab, ao, asp⟩ := ad
    go_enter Tryd.func61, Tryd.ntmps61
    go_wp2_with (at_builtin; refine wpList_append_own _ rfl _ _ 33 rfl B 44 i0 zrow.val 13 152 Tryd.underlying33 hi0 hz0 hz1 hz2 rfl (by decide) _ _ _ rfl HO.out ⟨vb, 0, none⟩ 1 1 r.cells rfl (show r.cells.length = 1 * 13 from rfl) HV.out (cells_one r) (by unfold maxLen; omega) (by omega) hB ?_)
    all_goals
      intro v' w1 hown hgrow hnil
      go_wp2
      go_ret
      exact ⟨v', rfl, hown, (Below.refl _ w).grown hgrow hB (fun k hk => (HO.out.lt k hk).1)⟩

theorem insert_any (v : Value) (L : List Rw) (r : Rw) (i : Nat) (B vb : Nat) (w : World) (hi : i ≤ L.length) (hl : L.length ≤ 100000) (hB : B ≤ w.heap.size) (hown : w.ownsRow B 44 13 v L.length (flat L))
    (hvb : w.heap[vb]? = some (.cells r.cells.toArray 44 (0, 0))) (hne : v.ownBlock ≠ some vb) :
    Calls Tryd.prog 61 #[v, .int .i64 i, .slice (some ⟨vb, 0, none⟩) 1 1] w fun e w' =>
      ∃ v', e = .returned v' ∧ w'.ownsRow B 44 13 v' (L.take i ++ r :: L.drop i).length (flat (L.take i ++ r :: L.drop i)) ∧ Below B w w' := by
  have hlen : (L.take i ++ r :: L.drop i).length = L.length + 1 := by simp; omega
  rw [hlen]
  by_cases h : i = L.length
  · subst h
    refine (insert_end v L r B vb w hl hB hown hvb).mono ?_
    rintro e w' ⟨v', rfl, hown', hb⟩
    refine ⟨v', rfl, ?_, hb⟩
    rw [List.take_length, List.drop_length, flat_append, flat_cons, flat_nil, List.append_nil]
    exact hown'
  · have hi' : i < L.length := by omega
    rcases hown.2 with ⟨_, h0⟩ | ⟨g, cap, cur, rfl, hb, hg, hc, hm, hs, ht⟩
    · omega
    have hng : vb ≠ g := fun e => hne (by subst e; rfl)
    have hgw : g < w.heap.size := (Array.getElem?_eq_some_iff.1 hg).1
    by_cases hroom : L.length + 1 ≤ cap
    · refine (insert_shift g cap cur L r i vb w hi' hl hg hroom hm hs ht hvb hng).mono ?_
      rintro e w' ⟨rfl, cur', rfl, hs', ht'⟩
      refine ⟨_, rfl, ⟨by rw [flat_length, hlen], .inr ⟨g, cap, cur', rfl, hb, setRow_heap w.drew g cur cur' _ _ hg, hroom, hm, hs', ht'⟩⟩, below_setRow (Below.refl B w).drew hb cur'⟩
    · refine (insert_grow g cap cur L r i vb w hi' hl hg hc (by omega) ht hvb).mono ?_
      rintro e w' ⟨G, rfl, hG, hGm, hw', hbel⟩
      have hfl := flat_length L
      refine ⟨_, rfl, ⟨by rw [flat_length, hlen], .inr ⟨w.heap.size, G, _, rfl, hB, hw', hG, hGm, ?_, ?_⟩⟩, hbel.mono hB⟩
      · rw [List.size_toArray, rowC_len hfl hi' hG r.len]
      · show (rowC (flat L) r.cells i L.length G).take ((L.length + 1) * 13) = _
        rw [rowC_take hfl hi' hG r.len, flat_append, flat_cons, flat_take, flat_drop]

end Go.Proofs.YtcniahbliadgiaaDoor

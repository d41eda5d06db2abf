/-
  slices.BinarySearchFunc at a tree's rows.
-/
import Derived.Test.YtcniahbliadgiaaDoorOrder
namespace Go.Proofs.YtcniahbliadgiaaDoor
open Go.RowKit
open Go.Proofs.PnKit Go.Proofs.PnPath

/-- the place that a search in sorted rows finds -/
structure Found (L : List Rw) (t : List (List UInt8)) (k : Nat) (b : Bool) : Prop where
  le : k ≤ L.length
  low : ∀ i x, i < k → L[i]? = some x → cmpP (key x) t < 0
  up : ∀ i x, k ≤ i → L[i]? = some x → 0 ≤ cmpP (key x) t
  hit : b = true ↔ ∃ x, L[k]? = some x ∧ cmpP (key x) t = 0

set_option maxHeartbeats 2000000 in
theorem search_any (A : Option Addr) (c : Nat) (L : List Rw) (s : ByteArray) (w : World) (hE : Env w) (hR : RT w A c L) (hS : Sorted L) (hp : ∀ x ∈ L, x.path.size ≤ 100000) (ht : s.size ≤ 100000) (hl : L.length ≤ 100000) :
    Calls Tryd.prog 42 #[.slice A (List.length L) c, .string s, .func (.func 43) #[] #[]] w fun e w' =>
      ∃ (k : Nat) (b : Bool), e = .returned (.tuple #[.int .i64 k, .bool b]) ∧ Found L (parts (bl s)) k b ∧ Below w.heap.size w w' := by
  have HR := Lib.hid hR
  have HS := Lib.hid hS
  have P := Lib.hid (fun (r : Rw) (hr : r ∈ L) (w : World) (hE : Env w) => bypath_any r s w hE (hp r hr) ht)
  clear hR hS hp
  go_enter Tryd.func42, Tryd.ntmps42
  go_wp2_with fail
  go_loopw [9, 10] (fun vi vj wr => ∃ i j : Nat, vi = .int .i64 i ∧ vj = .int .i64 j ∧ i ≤ j ∧ j ≤ L.length ∧ Hid (∀ k x, k < i → L[k]? = some x → cmpP (key x) (parts (bl s)) < 0) ∧ Hid (∀ k x, j ≤ k → L[k]? = some x → 0 ≤ cmpP (key x) (parts (bl s))) ∧ Below w.heap.size w wr) (fun vi vj _ => (RowKit.intOf vj).toNat - (RowKit.intOf vi).toNat)
  case atStart =>
    exact ⟨0, L.length, rfl, rfl, Nat.zero_le _, Nat.le_refl _, (show Hid _ from fun k x h => absurd h (Nat.not_lt_zero _)), (show Hid _ from fun k x h hx => absurd (List.getElem?_eq_some_iff.1 hx).1 (by omega)), Below.refl _ _⟩
  case round =>
    obtain ⟨i, j, rfl, rfl, hij, hj, HL, HU, hbr⟩ := hrel
    have aE := row_agg
    have zE := row_size
    by_cases hlt : i < j
    · have hmid : (i + j) / 2 < L.length := by omega
      obtain ⟨x, hx⟩ : ∃ x, L[(i + j) / 2]? = some x := ⟨_, List.getElem?_eq_getElem hmid⟩
      obtain ⟨b, o, rfl, hbw⟩ := HR.out.pos (by omega)
      have HC := Lib.hid (P.out x (List.mem_of_getElem? hx) _ (hE.below hbr))
      have HX := Lib.hid hx
      obtain ⟨path, id, kind, mode, size, made⟩ := x
      obtain ⟨q0, q1, q2, q3, q4, q5, q6, q7, q8, q9, q10, q11, q12⟩ := (HR.out.below hbr).cells hx
      clear hx
      obtain ⟨cv, hcv⟩ : ∃ cv, cmpP (parts (bl path)) (parts (bl s)) = cv := ⟨_, rfl⟩
      have HCV := Lib.hid hcv
      have HC2 : Hid (Calls Tryd.prog 43 #[.agg #[.string path, .int .i64 id, .int .i64 kind, .int .i64 mode, .int .i64 0, .int .i64 0, .int .i64 0, .string nos, .string nos, .string nos, .slice none 0 0, .int .i64 size, .bool made], .string s] wr fun e w' => e = .returned (.int .i64 cv) ∧ Below wr.heap.size wr w') := by
        have h := HC.out
        rw [← hcv]; exact h
      clear hcv HC
      by_cases hneg : cv < 0
      · have g : decide (cv < 0) = true := decide_eq_true hneg
        go_wp2_with fail
        refine HC2.out.mono ?_
        rintro e w1 ⟨rfl, hb1⟩
        go_wp2_with fail
        refine ⟨⟨(i + j) / 2 + 1, j, by go_num, rfl, by omega, hj, (show Hid _ from fun k y hk hy => ?_), HU, bch hbr hb1⟩, by simp [RowKit.intOf] <;> omega⟩
        exact HS.out.down (by omega) hy HX.out (by show cmpP (parts (bl path)) _ < 0; rw [HCV.out]; exact hneg)
      · have g : decide (cv < 0) = false := decide_eq_false hneg
        go_wp2_with fail
        refine HC2.out.mono ?_
        rintro e w1 ⟨rfl, hb1⟩
        go_wp2_with fail
        refine ⟨⟨i, (i + j) / 2, rfl, by go_num, by omega, by omega, HL, (show Hid _ from fun k y hk hy => ?_), bch hbr hb1⟩, by simp [RowKit.intOf] <;> omega⟩
        have := HS.out.up (t := parts (bl s)) hk HX.out hy (by show ¬ cmpP (parts (bl path)) _ < 0; rw [HCV.out]; omega)
        omega
    · obtain rfl : i = j := by omega
      by_cases hn : i < L.length
      · obtain ⟨x, hx⟩ : ∃ x, L[i]? = some x := ⟨_, List.getElem?_eq_getElem hn⟩
        obtain ⟨b, o, rfl, hbw⟩ := HR.out.pos (by omega)
        have HC := Lib.hid (P.out x (List.mem_of_getElem? hx) _ (hE.below hbr))
        have HX := Lib.hid hx
        obtain ⟨path, id, kind, mode, size, made⟩ := x
        obtain ⟨q0, q1, q2, q3, q4, q5, q6, q7, q8, q9, q10, q11, q12⟩ := (HR.out.below hbr).cells hx
        clear hx
        obtain ⟨cv, hcv⟩ : ∃ cv, cmpP (parts (bl path)) (parts (bl s)) = cv := ⟨_, rfl⟩
        have HCV := Lib.hid hcv
        have HC2 : Hid (Calls Tryd.prog 43 #[.agg #[.string path, .int .i64 id, .int .i64 kind, .int .i64 mode, .int .i64 0, .int .i64 0, .int .i64 0, .string nos, .string nos, .string nos, .slice none 0 0, .int .i64 size, .bool made], .string s] wr fun e w' => e = .returned (.int .i64 cv) ∧ Below wr.heap.size wr w') := by
          have h := HC.out
          rw [← hcv]; exact h
        clear hcv HC
        obtain ⟨bb, hbb⟩ : ∃ bb, (cv == 0) = bb := ⟨_, rfl⟩
        go_wp2_with fail
        refine HC2.out.mono ?_
        rintro e w1 ⟨rfl, hb1⟩
        go_wp2_with fail
        go_ret2
        refine ⟨i, bb, rfl, ⟨hj, HL.out, HU.out, ?_⟩, bch hbr hb1⟩
        rw [← hbb, beq_iff_eq, ← HCV.out]
        constructor
        · exact fun h => ⟨_, HX.out, h⟩
        · rintro ⟨y, hy, h⟩
          rw [HX.out] at hy; cases hy; exact h
      · go_wp2_with fail
        go_ret2
        refine ⟨i, false, rfl, ⟨hj, HL.out, HU.out, ?_⟩, hbr⟩
        exact ⟨fun h => Bool.noConfusion h, fun ⟨y, hy, _⟩ => absurd (List.getElem?_eq_some_iff.1 hy).1 hn⟩

end Go.Proofs.YtcniahbliadgiaaDoor

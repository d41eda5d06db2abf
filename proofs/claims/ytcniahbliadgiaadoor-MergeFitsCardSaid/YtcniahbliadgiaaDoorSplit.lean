/-
  The document's own package of layer 10: Split (for tree seats).
-/
import Derived.Test.YtcniahbliadgiaaDoorWalkQ
import Derived.WalkSpells
namespace Go.Proofs.YtcniahbliadgiaaDoor
open Go.RowKit
open Go.Proofs.PnKit Go.Proofs.PnPath

theorem sp_cut (p r : List UInt8) (h : (47 : UInt8) ∉ p) : sp (p ++ 47 :: r) = (if p = [] ∨ p = [46] then [] else [p]) ++ sp r := by
  unfold sp
  rw [msplit_cut p r h, List.filter_cons]
  by_cases hp : p = [] ∨ p = [46]
  · rw [if_neg (by simp only [decide_eq_true_eq]; rcases hp with e | e <;> simp [e]), if_pos hp, List.nil_append]
  · rw [if_pos (by simp only [decide_eq_true_eq]; exact ⟨fun e => hp (.inl e), fun e => hp (.inr e)⟩), if_neg hp, List.singleton_append]
theorem sp_end (p : List UInt8) (h : (47 : UInt8) ∉ p) : sp p = (if p = [] ∨ p = [46] then [] else [p]) := by
  unfold sp
  rw [msplit_plain p h, List.filter_cons]
  by_cases hp : p = [] ∨ p = [46]
  · rw [if_neg (by simp only [decide_eq_true_eq]; rcases hp with e | e <;> simp [e]), if_pos hp, List.filter_nil]
  · rw [if_pos (by simp only [decide_eq_true_eq]; exact ⟨fun e => hp (.inl e), fun e => hp (.inr e)⟩), if_neg hp, List.filter_nil]
theorem bl_drop {s : ByteArray} {k : Nat} (h : k < s.size) : (bl s).drop k = s[k]'h :: (bl s).drop (k + 1) := by
  have hl : k < (bl s).length := by rw [bl_size]; exact h
  rw [List.drop_eq_getElem_cons hl]
  rfl
theorem bl_one {s : ByteArray} {k : Nat} (h : k < s.size) : bl (s.extract k (k + 1)) = [s[k]'h] := by
  have e : bl (s.extract k (k + 1)) = ((bl s).drop k).take 1 := by
    show (s.extract k (k + 1)).data.toList = _
    rw [Lib.extract_data, show k + 1 - k = 1 by omega]
  rw [e, bl_drop h]; rfl
theorem u8_ne {b : UInt8} {c : Nat} (hc : c < 256) {v : Bool} (h : (((b.toNat : Int)) != ((c : Nat) : Int)) = v) : (b ≠ UInt8.ofNat c) ↔ v = true := by
  subst h
  rw [bne_iff_ne]
  constructor
  · intro hne e
    exact hne (UInt8.toNat_inj.1 (by rw [UInt8.toNat_ofNat_of_lt' hc]; omega))
  · intro hne e
    exact hne (by rw [e, UInt8.toNat_ofNat_of_lt' hc])

theorem snoc_len {acc : List ByteArray} {x : ByteArray} : (acc ++ [x]).length = acc.length + 1 := by simp
theorem snoc_map {acc : List ByteArray} {x : ByteArray} : (acc ++ [x]).map Value.string = acc.map Value.string ++ [.string x] := by simp

set_option maxRecDepth 100000 in
set_option maxHeartbeats 1000000 in
theorem rsplit_any (s : ByteArray) (w : World) (hs : s.size ≤ 1000000) :
    Calls Tryd.prog 20 #[.string s] w fun e w' => ∃ A c L, e = .returned (.slice A (List.length L) c) ∧ Rd w' A c L ∧ bls L = sp (bl s) ∧ Below w.heap.size w w' := by
  obtain ⟨i0, hi0, hz0, hz1, hz2⟩ := info_parts info_str
  obtain ⟨RES, hRES⟩ : ∃ RES, sp (bl s) = RES := ⟨_, rfl⟩
  have HRES := Lib.hid hRES
  clear hRES
  go_enter Tryd.func20, Tryd.ntmps20
  go_wp2_with fail
  go_loopw [3, 4, 5] (fun out p i wr => ∃ (k : Nat) (acc : List ByteArray) (x : ByteArray), i = .int .i64 k ∧ k ≤ s.size + 1 ∧ p = .string x ∧ x.size ≤ k ∧ acc.length ≤ k ∧
      wr.ownsRow w.heap.size 9 1 out acc.length (acc.map Value.string) ∧ Below w.heap.size w wr ∧
      (k ≤ s.size → (47 : UInt8) ∉ bl x ∧ bls acc ++ sp (bl x ++ (bl s).drop k) = RES) ∧ (k = s.size + 1 → bls acc = RES)) (fun _ _ i _ => s.size + 1 - (RowKit.intOf i).toNat)
  case atStart => exact ⟨0, [], ⟨#[]⟩, rfl, Nat.zero_le _, rfl, Nat.le_refl _, Nat.le_refl _, World.ownsRow_nil _ _ _ _, Below.refl _ _, fun _ => ⟨by simp, by rw [← HRES.out]; rfl⟩, fun h => by omega⟩
  case round =>
    obtain ⟨k, acc, x, rfl, hk, rfl, hxs, hacc, hown, hbr, h1, h2⟩ := hrel
    have H1 := Lib.hid h1
    have H2 := Lib.hid h2
    clear h1 h2
    by_cases hlt : k < s.size
    · have hle : k ≤ s.size := by omega
      have hk1 : k + 1 ≤ s.size := hlt
      cases hc : ((((s[k]'hlt).toNat : Int)) != 47) with
      | true =>
        have HC := Lib.hid ((u8_ne (by decide) hc).2 rfl)
        go_wp2_with fail
        refine ⟨⟨k + 1, acc, x ++ s.extract k (k + 1), by go_num, by omega, rfl, ?_, by omega, hown, hbr, fun _ => ⟨?_, ?_⟩, fun h => by omega⟩, by simp [RowKit.intOf] <;> omega⟩
        · have e : (bl (x ++ s.extract k (k + 1))).length = (bl x).length + 1 := by rw [bl_append, bl_one hlt, List.length_append]; rfl
          rw [bl_size, bl_size] at e; omega
        · rw [bl_append, bl_one hlt]
          intro hm
          rcases List.mem_append.1 hm with h | h
          · exact (H1.out hle).1 h
          · exact HC.out (List.mem_singleton.1 h).symm
        · have := (H1.out hle).2
          rw [bl_drop hlt] at this
          rw [bl_append, bl_one hlt, List.append_assoc]
          exact this
      | false =>
        have hcc : s[k]'hlt = 47 := by
          by_cases h : s[k]'hlt = 47
          · exact h
          · have := (u8_ne (by decide) hc).1 h; cases this
        have HS : Hid (bls acc ++ ((if bl x = [] ∨ bl x = [46] then [] else [bl x]) ++ sp ((bl s).drop (k + 1))) = RES) := by
          have h := H1.out hle
          have h2 := h.2
          rw [bl_drop hlt, hcc, sp_cut _ _ h.1] at h2
          exact h2
        clear hcc
        cases e1 : x.toList.isEmpty with
        | true =>
          have HN : Hid (bl x = [] ∨ bl x = [46]) := .inl ((str_emp e1).2 rfl)
          go_wp2_with fail
          refine ⟨⟨k + 1, acc, ⟨#[]⟩, by go_num, by omega, rfl, Nat.zero_le _, by omega, hown, hbr, fun _ => ⟨by simp, by have := HS.out; rw [if_pos HN.out, List.nil_append] at this; exact this⟩, fun h => by omega⟩, by simp [RowKit.intOf] <;> omega⟩
        | false =>
        have E1 := Lib.hid (mt (str_emp e1).1 (by decide))
        cases e2 : (x.toList == [46]) with
        | true =>
          have HN : Hid (bl x = [] ∨ bl x = [46]) := .inr ((str_eq e2).2 rfl)
          go_wp2_with fail
          refine ⟨⟨k + 1, acc, ⟨#[]⟩, by go_num, by omega, rfl, Nat.zero_le _, by omega, hown, hbr, fun _ => ⟨by simp, by have := HS.out; rw [if_pos HN.out, List.nil_append] at this; exact this⟩, fun h => by omega⟩, by simp [RowKit.intOf] <;> omega⟩
        | false =>
        have HN : Hid (¬ (bl x = [] ∨ bl x = [46])) := fun h => h.elim E1.out (mt (str_eq e2).1 (by decide))
        go_wp2_with (at_builtin; refine wpList_append_own _ rfl _ _ 45 rfl w.heap.size 9 i0 (.string ByteArray.empty) 1 16 Tryd.underlying45 hi0 hz0 hz1 hz2 rfl (by decide) _ _ _ rfl (hown.alloc _) ⟨wr.heap.size, 0, none⟩ 1 1 [.string x] rfl rfl (news_one _ _ _) (one_str _) (by simp only [maxLen]; omega) (by omega) (base_alloc hbr.size _) ?_)
        intro v' w3 hown' hg _
        have hb3 : Below w.heap.size w w3 := below_grown (hbr.alloc hbr.size _) hg (hown.alloc _) (Nat.le_refl _) (base_alloc hbr.size _)
        have hown2 : w3.ownsRow w.heap.size 9 1 v' (acc ++ [x]).length ((acc ++ [x]).map Value.string) := by rw [snoc_len, snoc_map]; exact hown'
        clear hown' hg
        go_wp2_with fail
        refine ⟨⟨k + 1, acc ++ [x], ⟨#[]⟩, by go_num, by omega, rfl, Nat.zero_le _, by rw [snoc_len]; omega, hown2, hb3, fun _ => ⟨by simp, by have := HS.out; rw [if_neg HN.out, List.singleton_append] at this; rw [bls_snoc, List.append_assoc]; exact this⟩, fun h => by omega⟩, by simp [RowKit.intOf] <;> omega⟩
    · by_cases hle : k ≤ s.size
      · obtain rfl : k = s.size := by omega
        have HS : Hid (bls acc ++ (if bl x = [] ∨ bl x = [46] then [] else [bl x]) = RES) := by
          have h := H1.out hle
          have h2 := h.2
          rw [List.drop_eq_nil_of_le (by rw [bl_size]; exact Nat.le_refl _), List.append_nil, sp_end _ h.1] at h2
          exact h2
        cases e1 : x.toList.isEmpty with
        | true =>
          have HN : Hid (bl x = [] ∨ bl x = [46]) := .inl ((str_emp e1).2 rfl)
          go_wp2_with fail
          refine ⟨⟨s.size + 1, acc, ⟨#[]⟩, by go_num, by omega, rfl, Nat.zero_le _, by omega, hown, hbr, fun h => by omega, fun _ => by have := HS.out; rw [if_pos HN.out, List.append_nil] at this; exact this⟩, by simp [RowKit.intOf] <;> omega⟩
        | false =>
        have E1 := Lib.hid (mt (str_emp e1).1 (by decide))
        cases e2 : (x.toList == [46]) with
        | true =>
          have HN : Hid (bl x = [] ∨ bl x = [46]) := .inr ((str_eq e2).2 rfl)
          go_wp2_with fail
          refine ⟨⟨s.size + 1, acc, ⟨#[]⟩, by go_num, by omega, rfl, Nat.zero_le _, by omega, hown, hbr, fun h => by omega, fun _ => by have := HS.out; rw [if_pos HN.out, List.append_nil] at this; exact this⟩, by simp [RowKit.intOf] <;> omega⟩
        | false =>
        have HN : Hid (¬ (bl x = [] ∨ bl x = [46])) := fun h => h.elim E1.out (mt (str_eq e2).1 (by decide))
        go_wp2_with (at_builtin; refine wpList_append_own _ rfl _ _ 45 rfl w.heap.size 9 i0 (.string ByteArray.empty) 1 16 Tryd.underlying45 hi0 hz0 hz1 hz2 rfl (by decide) _ _ _ rfl (hown.alloc _) ⟨wr.heap.size, 0, none⟩ 1 1 [.string x] rfl rfl (news_one _ _ _) (one_str _) (by simp only [maxLen]; omega) (by omega) (base_alloc hbr.size _) ?_)
        intro v' w3 hown' hg _
        have hb3 : Below w.heap.size w w3 := below_grown (hbr.alloc hbr.size _) hg (hown.alloc _) (Nat.le_refl _) (base_alloc hbr.size _)
        have hown2 : w3.ownsRow w.heap.size 9 1 v' (acc ++ [x]).length ((acc ++ [x]).map Value.string) := by rw [snoc_len, snoc_map]; exact hown'
        clear hown' hg
        go_wp2_with fail
        refine ⟨⟨s.size + 1, acc ++ [x], ⟨#[]⟩, by go_num, by omega, rfl, Nat.zero_le _, by rw [snoc_len]; omega, hown2, hb3, fun h => by omega, fun _ => by have := HS.out; rw [if_neg HN.out] at this; rw [bls_snoc]; exact this⟩, by simp [RowKit.intOf] <;> omega⟩
      · obtain rfl : k = s.size + 1 := by omega
        have HO := Lib.hid (own_rd hown)
        have HE : Hid (bls acc = RES) := H2.out rfl
        clear hown H1 H2
        go_wp2_with fail
        go_ret
        obtain ⟨A, c, rfl, hR⟩ := HO.out
        exact ⟨A, c, acc, rfl, hR, HE.out.trans HRES.out.symm, hbr⟩

end Go.Proofs.YtcniahbliadgiaaDoor

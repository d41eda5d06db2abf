/-
  Plain law, third part: dots around a clean path; what lies under a path.
-/
import Derived.Test.YtmdcplpaejenbaaDoorWalkP
namespace Go.Proofs.YtmdcplpaejenbaaDoor
open Go.RowKit
open Go.Proofs.PnKit Go.Proofs.PnPath

theorem msplit_app2 (t : List UInt8) (a : List UInt8) : msplit (a ++ 47 :: t) = msplit a ++ msplit t := by
  refine msplit_ind (P := fun a => msplit (a ++ 47 :: t) = msplit a ++ msplit t) ?_ ?_ a
  · intro a ha
    rw [msplit_cut a t ha, msplit_plain a ha]; rfl
  · intro a b ha hb
    rw [List.append_assoc, List.cons_append, msplit_cut a _ ha, msplit_cut a b ha, hb]; rfl
theorem cl_app : ∀ (r acc t : List (List UInt8)), G r → cl acc (r ++ t) = cl (acc ++ r) t
  | [], acc, t, _ => by simp
  | p :: r, acc, t, h => by
    have hp := h p (by simp)
    rw [List.cons_append, cl_take (fun e => e.elim hp.ne hp.dot) hp.dots (by have := hp.len; omega), cl_app r _ t (fun q hq => h q (by simp [hq]))]
    simp

/-- the parts of a joined path, or the one empty part -/
theorem msplit_joined {L : List (List UInt8)} (hG : G L) : msplit (join L) = if L = [] then [[]] else L := by
  by_cases h : L = []
  · subst h; rfl
  · rw [if_neg h, msplit_join L h (fun p hp => (hG p hp).slash)]
theorem cl_joined {L acc r : List (List UInt8)} (hG : G L) : cl acc (msplit (join L) ++ r) = cl (acc ++ L) r := by
  rw [msplit_joined hG]
  by_cases h : L = []
  · subst h; rw [if_pos rfl, List.append_nil]; exact cl_skip (Or.inl rfl)
  · rw [if_neg h]; exact cl_app L acc r hG
theorem nul_joined {L : List (List UInt8)} (hG : G L) : (0 : UInt8) ∉ join L := fun h => by
  rcases join_mem L 0 h with h | ⟨p, hp, h⟩
  · cases h
  · exact (hG p hp).nul h
theorem V_joined {L : List (List UInt8)} (hG : G L) : V (join L) = true := V_join L (fun p hp => (hG p hp).utf)

theorem dots_ahead {L : List (List UInt8)} (hG : G L) (hl : (join L).length ≤ 3000) : clean ([46, 46] ++ 47 :: join L) = ([], 104) := by
  have hs : sound ([46, 46] ++ 47 :: join L) = 0 := sound_of ⟨by simp, by simp; omega, by
    have := nul_joined hG
    simp [this], by rw [V_app, V_joined hG]; rfl, by simp⟩
  rw [clean, hs, if_neg (by decide), msplit_cut _ _ (by decide), cl_dots]
theorem dots_behind {L : List (List UInt8)} (hG : G L) (hl : (join L).length ≤ 3000) : clean ([46] ++ 47 :: (join L ++ 47 :: [46, 46])) = ([], 104) := by
  have hs : sound ([46] ++ 47 :: (join L ++ 47 :: [46, 46])) = 0 := sound_of ⟨by simp, by simp; omega, by
    have := nul_joined hG
    simp [this], by rw [V_app, V_app, V_joined hG]; rfl, by simp⟩
  rw [clean, hs, if_neg (by decide), msplit_cut _ _ (by decide), cl_skip (Or.inr rfl), msplit_app2, cl_joined hG, msplit_plain _ (by decide), cl_dots]
theorem dots_inside {L : List (List UInt8)} (hG : G L) (hl : (join L).length ≤ 3000) : (clean ([120, 46, 46, 121] ++ 47 :: join L)).2 = 0 := by
  have hs : sound ([120, 46, 46, 121] ++ 47 :: join L) = 0 := sound_of ⟨by simp, by simp; omega, by
    have := nul_joined hG
    simp [this], by rw [V_app, V_joined hG]; rfl, by simp⟩
  have h := cl_joined (r := []) (acc := [] ++ [[120, 46, 46, 121]]) hG
  rw [List.append_nil] at h
  rw [clean, hs, if_neg (by decide), msplit_cut _ _ (by decide), cl_take (by decide) (by decide) (by decide), h]
  rfl

theorem pre_iff {p s : List UInt8} : Lib.hasPrefix s p = true ↔ ∃ t, s = p ++ t := by
  show p.isPrefixOf s = true ↔ _
  rw [List.isPrefixOf_iff_prefix]
  exact ⟨fun ⟨t, h⟩ => ⟨t, h.symm⟩, fun ⟨t, h⟩ => ⟨t, h.symm⟩⟩
theorem under_join {M L : List (List UInt8)} (hM : G M) (hL : G L) : under (join M) (join L) = decide (M.length ≤ L.length ∧ L.take M.length = M) := by
  have e : ∀ a b : Bool, (a = true ↔ b = true) → a = b := by decide
  apply e
  rw [decide_eq_true_iff, under, Bool.or_eq_true, Bool.or_eq_true, decide_eq_true_iff, decide_eq_true_iff, pre_iff]
  constructor
  · rintro ((h | h) | ⟨t, h⟩)
    · by_cases hm : M = []
      · subst hm; exact ⟨Nat.zero_le _, rfl⟩
      · exact absurd h (join_ne M hm (fun p hp => (hM p hp).ne))
    · have := join_inj hL hM h
      subst this
      exact ⟨Nat.le_refl _, List.take_length⟩
    · by_cases hm : M = []
      · subst hm; exact ⟨Nat.zero_le _, rfl⟩
      have hl : L ≠ [] := by
        rintro rfl
        rw [List.append_assoc] at h
        have := congrArg List.length h
        simp [join] at this
      have h2 := congrArg msplit h
      rw [List.append_assoc, List.cons_append, List.nil_append, msplit_app2, msplit_join L hl (fun p hp => (hL p hp).slash), msplit_join M hm (fun p hp => (hM p hp).slash)] at h2
      rw [h2]
      exact ⟨by simp, List.take_left' rfl⟩
  · rintro ⟨h1, h2⟩
    by_cases hm : M = []
    · subst hm; exact Or.inl (Or.inl rfl)
    have h3 : L = M ++ L.drop M.length := by
      conv => lhs; rw [← List.take_append_drop M.length L, h2]
    by_cases hr : L.drop M.length = []
    · rw [hr, List.append_nil] at h3
      exact Or.inl (Or.inr (by rw [h3]))
    · right
      refine ⟨join (L.drop M.length), ?_⟩
      rw [List.append_assoc]
      conv => lhs; rw [h3]
      exact join_append M _ hm hr

theorem Env.drewN {w : World} (h : Env w) (n : Nat) : Env (w.drewN n) := h.below (below_drewN (Below.refl _ _) n)
theorem bl_drewN (w : World) (n : Nat) : Below w.heap.size w (w.drewN n) := below_drewN (Below.refl _ _) n

/-- the walk of Clean, where its error alone counts -/
theorem clean_code (s : ByteArray) (w : World) (hE : Env w) (code : Int) (h : (clean (bl s)).2 = code) :
    Calls Tryd.prog 14 #[.string s] w fun e w' => ∃ A c n, e = .returned (.tuple #[.slice A n c, .int .i64 code]) ∧ Below w.heap.size w w' := by
  refine (clean_any s w hE).mono ?_
  rintro e w' ⟨A, c, L, code', rfl, hR, h', hb⟩
  rw [h'] at h
  subst h
  exact ⟨A, c, _, rfl, hb⟩
theorem clean_bounds {s : ByteArray} {L : List (List UInt8)} (h : clean (bl s) = (L, 0)) : G L ∧ (join L).length ≤ s.size ∧ (join L).length ≤ 4000 := by
  obtain ⟨h1, h2⟩ := clean_good h
  have hs : sound (bl s) = 0 := by
    by_cases h0 : sound (bl s) = 0
    · exact h0
    · rw [clean, if_pos h0] at h
      simp only [Prod.mk.injEq] at h
      exact h.2
  have h3 := (sound_ok hs).2.1
  rw [bl_size] at h2 h3
  by_cases hL : L = []
  · subst hL; exact ⟨h1, Nat.zero_le _, Nat.zero_le _⟩
  · have := join_length L hL
    exact ⟨h1, by omega, by omega⟩

end Go.Proofs.YtmdcplpaejenbaaDoor

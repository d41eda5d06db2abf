/- TargetDown: the walk. -/
import Derived.Test.YtmdcplpaejenbaaDoorWalkE
namespace Go.Proofs.YtmdcplpaejenbaaDoor
open Go.RowKit
open Go.Proofs.PnKit Go.Proofs.PnPath

set_option maxHeartbeats 400000 in
theorem down_walk (d t : ByteArray) (w : World) (hE : Env w) :
    Calls Tryd.prog 10 #[.string d, .string t] w fun e w' => e = .returned (.bool true) ∧ Below w.heap.size w w' := by
  have P := Lib.hid (points_any w hE)
  cases hd : okc d <;> cases ht : okc t
  case true.true =>
    go_enter Tryd.func10, Tryd.ntmps10
    go_wp2_with fail
    refine P.out.mono ?_
    rintro e w1 ⟨rfl, hb1⟩
    go_wp2_with fail
    refine (lclean_ok d _ (hE.below hb1) hd).mono ?_
    rintro e w2 ⟨r, D, rfl, hr, hD, htD, hb2⟩
    have hB2 := bch hb1 hb2
    have HR := Lib.hid hr
    have hrs := size_of_join hr
    clear hr hb1 hb2
    go_wp2_with fail
    refine (lclean_ok t _ (hE.below hB2) ht).mono ?_
    rintro e w3 ⟨s, T, rfl, hs, hT, htT, hb3⟩
    have hB3 := bch hB2 hb3
    have HS := Lib.hid hs
    have hss := size_of_join hs
    clear hs hB2 hb3
    cases es : s.toList.isEmpty with
    | true =>
      go_wp2_with fail
      go_ret
      exact ⟨rfl, hB3⟩
    | false =>
      have hTne : T ≠ [] := by
        rintro rfl
        rw [ByteArray.toList_eq] at es
        have h1 : bl s = [] := HS.out
        have h2 : s.data.toList = [] := h1
        rw [h2] at es; cases es
      have H1 : Hid (resolveP [] (bl s) = (bl s, 0)) := by
        have := down (D := []) G_nil hT hTne (by omega)
        show _ = _
        rw [HS.out]; exact this
      have H2 : Hid (resolveP (bl r) (bl s) = (join (D ++ T), 0)) := by
        show _ = _
        rw [HR.out, HS.out]; exact down hD hT hTne (by omega)
      go_wp2_with fail
      refine (resolve_any ⟨#[]⟩ s _ (hE.below hB3) (by decide)).mono ?_
      rintro e w4 ⟨r1, c1, rfl, hres, hb4⟩
      have hB4 := bch hB3 hb4
      clear hB3 hb4
      have hres' : resolveP [] (bl s) = (bl r1, c1) := hres
      rw [H1.out] at hres'
      clear hres
      simp only [Prod.mk.injEq] at hres'
      obtain ⟨h1, rfl⟩ := hres'
      obtain rfl : s = r1 := bl_inj h1
      clear h1
      go_wp2_with fail
      refine (resolve_any r s _ (hE.below hB4) (by omega)).mono ?_
      rintro e w5 ⟨r2, c2, rfl, hres, hb5⟩
      have hB5 := bch hB4 hb5
      clear hB4 hb5
      rw [H2.out] at hres
      simp only [Prod.mk.injEq] at hres
      obtain ⟨h2, rfl⟩ := hres
      have HR2 := Lib.hid h2
      clear h2
      cases er : r.toList.isEmpty with
      | true =>
        have hD0 : D = [] := by
          cases hh : D with
          | nil => rfl
          | cons p q =>
            rw [ByteArray.toList_eq] at er
            have h1 := HR.out
            have h2 : bl r = [] := by simpa using er
            rw [h2] at h1
            exact absurd h1.symm (join_ne D (by simp [hh]) (fun p hp => (hD p hp).ne))
        obtain rfl : s = r2 := bl_inj (by rw [HS.out, ← HR2.out, hD0]; rfl)
        clear hD0
        go_wp2_with fail
        go_ret
        exact ⟨rfl, hB5⟩
      | false =>
        have hDn : D ≠ [] := by
          rintro rfl
          rw [ByteArray.toList_eq] at er
          have h1 : bl r = [] := HR.out
          have h2 : r.data.toList = [] := h1
          rw [h2] at er; cases er
        have hq : (r2.toList == (r ++ ⟨#[47]⟩ ++ s).toList) = true := beq_bl (by
          rw [bl_append, bl_append, ← HR2.out, HR.out, HS.out, join_append D T hDn hTne, List.append_assoc]; rfl)
        clear hDn
        go_wp2_with fail
        go_ret
        exact ⟨rfl, hB5⟩
  all_goals
    go_enter Tryd.func10, Tryd.ntmps10
    go_wp2_with fail
    refine P.out.mono ?_
    rintro e w1 ⟨rfl, hb1⟩
    go_wp2_with fail
    refine (lclean_any d _ (hE.below hb1)).mono ?_
    rintro e w2 ⟨r, rfl, _, hb2⟩
    have hB2 := bch hb1 hb2
    rw [hd]
    go_wp2_with fail
    refine (lclean_any t _ (hE.below hB2)).mono ?_
    rintro e w3 ⟨r', rfl, _, hb3⟩
    rw [ht]
    go_wp2_with fail
    go_ret
    exact ⟨rfl, bch hB2 hb3⟩

end Go.Proofs.YtmdcplpaejenbaaDoor

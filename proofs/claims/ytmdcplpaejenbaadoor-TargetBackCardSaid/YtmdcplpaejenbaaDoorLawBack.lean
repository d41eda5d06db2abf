/- TargetBack: the walk. -/
import Derived.Test.YtmdcplpaejenbaaDoorWalkE
namespace Go.Proofs.YtmdcplpaejenbaaDoor
open Go.RowKit
open Go.Proofs.PnKit Go.Proofs.PnPath

set_option maxHeartbeats 400000 in
theorem back_walk (d t : ByteArray) (w : World) (hE : Env w) :
    Calls Tryd.prog 8 #[.string d, .string t] w fun e w' => e = .returned (.bool true) ∧ Below w.heap.size w w' := by
  have P := Lib.hid (points_any w hE)
  cases hd : okc d <;> cases ht : okc t
  case true.true =>
    go_enter Tryd.func8, Tryd.ntmps8
    go_wp2_with fail
    refine P.out.mono ?_
    rintro e w1 ⟨rfl, hb1⟩
    go_wp2_with fail
    refine (lclean_ok d _ (hE.below hb1) hd).mono ?_
    rintro e w2 ⟨r, D, rfl, hr, hD, htD, hb2⟩
    have hB2 := bch hb1 hb2
    have HR := Lib.hid hr
    have hrs := size_of_join hr
    clear hr hb1 hb2
    go_wp2_with fail
    refine (lclean_ok t _ (hE.below hB2) ht).mono ?_
    rintro e w3 ⟨s, T, rfl, hs, hT, htT, hb3⟩
    have hB3 := bch hB2 hb3
    have HS := Lib.hid hs
    have hss := size_of_join hs
    clear hs hB2 hb3
    have hback := back hD hT (by have := G_two hD; omega)
    rw [← HR.out, ← HS.out] at hback
    have HBK := Lib.hid hback
    clear hback
    go_wp2_with fail
    refine (relative_any r s _ (hE.below hB3) (by omega) (by omega)).mono ?_
    rintro e w4 ⟨n, rfl, hn, hb4⟩
    rw [← hn] at HBK
    clear hn
    have hB4 := bch hB3 hb4
    clear hB3 hb4
    go_wp2_with fail
    refine (resolve_any r n _ (hE.below hB4) (by omega)).mono ?_
    rintro e w5 ⟨r', code, rfl, hres, hb5⟩
    have hB5 := bch hB4 hb5
    clear hB4 hb5
    rw [HBK.out.1] at hres
    simp only [Prod.mk.injEq] at hres
    obtain ⟨h1, rfl⟩ := hres
    obtain rfl : s = r' := bl_inj h1
    have hne : n.toList.isEmpty = false := by
      have := HBK.out.2
      rw [ByteArray.toList_eq]; simpa using this
    clear h1
    go_wp2_with fail
    go_ret
    exact ⟨rfl, hB5⟩
  all_goals
    go_enter Tryd.func8, Tryd.ntmps8
    go_wp2_with fail
    refine P.out.mono ?_
    rintro e w1 ⟨rfl, hb1⟩
    go_wp2_with fail
    refine (lclean_any d _ (hE.below hb1)).mono ?_
    rintro e w2 ⟨r, rfl, _, hb2⟩
    have hB2 := bch hb1 hb2
    rw [hd]
    go_wp2_with fail
    refine (lclean_any t _ (hE.below hB2)).mono ?_
    rintro e w3 ⟨r', rfl, _, hb3⟩
    rw [ht]
    go_wp2_with fail
    go_ret
    exact ⟨rfl, bch hB2 hb3⟩

end Go.Proofs.YtmdcplpaejenbaaDoor

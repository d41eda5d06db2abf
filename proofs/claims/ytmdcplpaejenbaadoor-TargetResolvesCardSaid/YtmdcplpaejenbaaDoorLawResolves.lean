/- TargetResolves: the walk. -/
import Derived.Test.YtmdcplpaejenbaaDoorWalkV
namespace Go.Proofs.YtmdcplpaejenbaaDoor
open Go.RowKit
open Go.Proofs.PnKit Go.Proofs.PnPath

set_option maxHeartbeats 1000000 in
theorem resolves_walk (d t : ByteArray) (w : World) (hE : Env w) :
    Calls Tryd.prog 6 #[.string d, .string t] w fun e w' => e = .returned (.bool true) ∧ Below w.heap.size w w' := by
  have P := Lib.hid (points_any w hE)
  cases hd : okc d
  case false =>
    go_enter Tryd.func6, Tryd.ntmps6
    go_wp2_with fail
    refine P.out.mono ?_
    rintro e w1 ⟨rfl, hb1⟩
    go_wp2_with fail
    refine (lclean_any d _ (hE.below hb1)).mono ?_
    rintro e w2 ⟨r, rfl, _, hb2⟩
    have hB2 := bch hb1 hb2
    rw [hd]
    go_wp2_with fail
    go_ret
    exact ⟨rfl, hB2⟩
  case true =>
    by_cases h1 : 1000 < t.size
    · have g1 : decide ((1000 : Int) < (t.size : Int)) = true := decide_eq_true (by omega)
      go_enter Tryd.func6, Tryd.ntmps6
      go_wp2_with fail
      refine P.out.mono ?_
      rintro e w1 ⟨rfl, hb1⟩
      go_wp2_with fail
      refine (lclean_ok d _ (hE.below hb1) hd).mono ?_
      rintro e w2 ⟨r, D, rfl, hr, hD, htD, hb2⟩
      clear hr
      go_wp2_with fail
      go_ret
      exact ⟨rfl, bch hb1 hb2⟩
    have g1 : decide ((1000 : Int) < (t.size : Int)) = false := decide_eq_false (by omega)
    go_enter Tryd.func6, Tryd.ntmps6
    go_wp2_with fail
    refine P.out.mono ?_
    rintro e w1 ⟨rfl, hb1⟩
    go_wp2_with fail
    refine (lclean_ok d _ (hE.below hb1) hd).mono ?_
    rintro e w2 ⟨r, D, rfl, hr, hD, htD, hb2⟩
    have hB2 := bch hb1 hb2
    have HR := Lib.hid hr
    have hrs := size_of_join hr
    clear hr hb1 hb2
    go_wp2_with fail
    refine (resolve_any r t _ (hE.below hB2) (by omega)).mono ?_
    rintro e w3 ⟨s, code, rfl, hres, hb3⟩
    have hB3 := bch hB2 hb3
    have HRES := Lib.hid hres
    clear hB2 hb3 hres
    go_wp2_with fail
    refine (rresolve_any r t D _ HR.out hD (by omega)).mono ?_
    rintro e w4 ⟨s2, code2, rfl, hres2, hb4⟩
    have hB4 := bch hB3 hb4
    rw [HRES.out] at hres2
    simp only [Prod.mk.injEq] at hres2
    obtain ⟨h2, rfl⟩ := hres2
    obtain rfl : s = s2 := bl_inj h2
    clear h2 hB3 hb4
    go_wp2_with fail
    go_ret
    exact ⟨rfl, hB4⟩

end Go.Proofs.YtmdcplpaejenbaaDoor

/- PathDots: the walk. -/
import Derived.Test.YtmdcplpaejenbaaDoorPathC
namespace Go.Proofs.YtmdcplpaejenbaaDoor
open Go.RowKit
open Go.Proofs.PnKit Go.Proofs.PnPath

set_option maxHeartbeats 400000 in
theorem dots_walk (s more : ByteArray) (w : World) (hE : Env w) :
    Calls Tryd.prog 5 #[.string s, .string more] w fun e w' => e = .returned (.bool true) ∧ Below w.heap.size w w' := by
  have P := Lib.hid (cleans_any w hE)
  go_enter Tryd.func5, Tryd.ntmps5
  go_wp2_with fail
  refine P.out.mono ?_
  rintro e w1 ⟨rfl, hb1⟩
  go_wp2_with fail
  refine (clean_any s _ (hE.below hb1)).mono ?_
  rintro e w2 ⟨A, c, L, code, rfl, hR, hc, hb2⟩
  have hB2 := bch hb1 hb2
  clear hb1 hb2
  by_cases h0 : code = 0
  case neg =>
    have hcb : (code != 0) = true := by simp [h0]
    clear hc
    go_wp2_with fail
    go_ret
    exact ⟨rfl, hB2⟩
  subst h0
  have HC := Lib.hid (clean_bounds hc)
  have hj := (clean_bounds hc).2.1
  clear hc
  by_cases h1 : 1000 < s.size
  · have g1 : decide ((1000 : Int) < (s.size : Int)) = true := decide_eq_true (by omega)
    clear hj hR HC
    go_wp2_with fail
    go_ret
    exact ⟨rfl, hB2⟩
  have g1 : decide ((1000 : Int) < (s.size : Int)) = false := decide_eq_false (by omega)
  by_cases h2 : 100 < more.size
  · have g2 : decide ((100 : Int) < (more.size : Int)) = true := decide_eq_true (by omega)
    clear hj hR HC
    go_wp2_with fail
    go_ret
    exact ⟨rfl, hB2⟩
  have g2 : decide ((100 : Int) < (more.size : Int)) = false := decide_eq_false (by omega)
  have htot : tot (bls L) ≤ 1001 := by
    by_cases hL : bls L = []
    · rw [hL]; decide
    · have := join_length _ hL
      omega
  have HJ := Lib.hid (join_any A c L _ hR (by omega))
  have HS : Hid (s.size ≤ 1000 ∧ (join (bls L)).length ≤ 1000) := ⟨by omega, by omega⟩
  clear hj htot hR h1 h2
  go_wp2_with fail
  refine HJ.out.mono ?_
  rintro e w3 ⟨r, rfl, hr, hb3⟩
  have hB3 := bch hB2 hb3
  clear hb3 hB2 HJ
  have d1 : (clean (bl (⟨#[46, 46, 47]⟩ ++ r))).2 = 104 := by
    rw [bl_append, hr]
    exact congrArg Prod.snd (dots_ahead HC.out.1 (by have := HS.out; omega))
  have d2 : (clean (bl (⟨#[46, 47]⟩ ++ r ++ ⟨#[47, 46, 46]⟩))).2 = 104 := by
    rw [bl_append, bl_append, hr]
    have h := dots_behind HC.out.1 (by have := HS.out; omega)
    rw [show bl ⟨#[46, 47]⟩ ++ join (bls L) ++ bl ⟨#[47, 46, 46]⟩ = [46] ++ 47 :: (join (bls L) ++ 47 :: [46, 46]) by rw [List.append_assoc]; rfl, h]
  have d3 : (clean (bl (⟨#[120, 46, 46, 121, 47]⟩ ++ r))).2 = 0 := by
    rw [bl_append, hr]
    exact dots_inside HC.out.1 (by have := HS.out; omega)
  have D1 := Lib.hid d1
  have D2 := Lib.hid d2
  have D3 := Lib.hid d3
  have hrs : r.size ≤ 1000 := by rw [← bl_size, hr]; exact HS.out.2
  clear d1 d2 d3 hr
  go_wp2_with fail
  refine (clean_code _ _ (hE.below hB3) _ D1.out).mono ?_
  rintro e w4 ⟨A4, c4, n4, rfl, hb4⟩
  have hB4 := bch hB3 hb4
  clear hB3 hb4
  go_wp2_with fail
  refine (clean_code _ _ (hE.below hB4) _ D2.out).mono ?_
  rintro e w5 ⟨A5, c5, n5, rfl, hb5⟩
  have hB5 := bch hB4 hb5
  clear hB4 hb5
  go_wp2_with fail
  refine (clean_code _ _ (hE.below hB5) _ D3.out).mono ?_
  rintro e w6 ⟨A6, c6, n6, rfl, hb6⟩
  go_wp2_with fail
  go_ret
  exact ⟨rfl, bch hB5 hb6⟩

end Go.Proofs.YtmdcplpaejenbaaDoor

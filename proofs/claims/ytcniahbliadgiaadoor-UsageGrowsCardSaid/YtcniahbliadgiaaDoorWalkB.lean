/-
  Walks of package path: Join, Parts, Up, Under; of package target: Resolve, Relative.
-/
import Derived.Test.YtcniahbliadgiaaDoorWalkA
namespace Go.Proofs.YtcniahbliadgiaaDoor
open Go.RowKit
open Go.Proofs.PnKit Go.Proofs.PnPath

theorem joinlib_any (A : Option Addr) (c : Nat) (L : List ByteArray) (w : World) (hR : Rd w A c L) (hlen : tot (bls L) ≤ 100000000) :
    Calls Tryd.prog 44 #[.slice A (List.length L) c, .string ⟨#[47]⟩] w fun e w' => ∃ r, e = .returned (.string r) ∧ bl r = join (bls L) ∧ Below w.heap.size w w' := by
  by_cases h0 : L = []
  · subst h0
    refine (Tryd.strings_Join_none A c ⟨#[47]⟩ w).mono ?_
    rintro e w' ⟨rfl, rfl⟩
    exact ⟨_, rfl, rfl, Below.refl _ _⟩
  · obtain ⟨b, o, rfl, hb, hc⟩ := hR.pos (List.length_pos_iff.2 h0)
    have hj : Lib.join (L.map (·.data.toList)) (⟨#[47]⟩ : ByteArray).data.toList = join (bls L) := join_lib (bls L)
    have hl := join_length_le (bls L)
    have hL := length_le_tot (bls L)
    rw [List.length_map] at hL
    refine (Tryd.strings_Join b o c L ⟨#[47]⟩ w hc hb (by omega) hR.cap (by rw [hj]; omega)).mono ?_
    rintro e w' ⟨rfl, hbw⟩
    exact ⟨_, rfl, by rw [hj], hbw⟩

theorem join_any (A : Option Addr) (c : Nat) (L : List ByteArray) (w : World) (hR : Rd w A c L) (hlen : tot (bls L) ≤ 100000000) :
    Calls Tryd.prog 23 #[.slice A (List.length L) c] w fun e w' => ∃ r, e = .returned (.string r) ∧ bl r = join (bls L) ∧ Below w.heap.size w w' := by
  go_enter Tryd.func23, Tryd.ntmps23
  go_wp2_with (go_at_call 44; refine (joinlib_any A c L _ hR hlen).mono ?_; rintro e w1 ⟨r, rfl, hr, hb⟩)
  go_ret
  exact ⟨r, rfl, hr, hb⟩

theorem parts_any (s : ByteArray) (w : World) (hE : Env w) (hs : s.size < 4294967281) :
    Calls Tryd.prog 38 #[.string s] w fun e w' => ∃ A c L, e = .returned (.slice A (List.length L) c) ∧ Rd w' A c L ∧ bls L = parts (bl s) ∧ Below w.heap.size w w' := by
  cases e1 : s.toList.isEmpty with
  | true =>
    have E1 := Lib.hid ((str_emp e1).2 rfl)
    go_enter Tryd.func38, Tryd.ntmps38
    go_wp2_with fail
    go_ret
    exact ⟨none, 0, [], rfl, Rd.nil _, by rw [parts, if_pos E1.out]; rfl, Below.refl _ _⟩
  | false =>
    have E1 := Lib.hid (mt (str_emp e1).1 (by decide))
    go_enter Tryd.func38, Tryd.ntmps38
    go_wp2_with (go_at_call 41; refine (split_any s _ hE hs).mono ?_; rintro e w2 ⟨L, rfl, hL, hR, hb2⟩)
    go_ret
    exact ⟨_, _, L, rfl, hR, by rw [parts, if_neg E1.out]; exact hL, hb2⟩

end Go.Proofs.YtcniahbliadgiaaDoor

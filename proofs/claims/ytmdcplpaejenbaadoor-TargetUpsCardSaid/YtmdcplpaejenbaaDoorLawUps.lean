/- TargetUps: the walk. -/
import Derived.Test.YtmdcplpaejenbaaDoorWalkE
namespace Go.Proofs.YtmdcplpaejenbaaDoor
open Go.RowKit
open Go.Proofs.PnKit Go.Proofs.PnPath

def stepsUp (n : Nat) : List (List UInt8) := List.replicate n [46, 46]
theorem steps_one : join (stepsUp 1) = [46, 46] := rfl
theorem steps_succ (k : Nat) : join (stepsUp (k + 1 + 1)) = join (stepsUp (k + 1)) ++ [47, 46, 46] := by
  have e : stepsUp (k + 1 + 1) = stepsUp (k + 1) ++ [[46, 46]] := List.replicate_succ'
  rw [e, join_append _ _ (by simp [stepsUp, List.replicate_succ]) (by simp)]
  rfl
theorem steps_size {x : ByteArray} {k : Nat} (h : bl x = join (stepsUp (k + 1))) : x.size ≤ 3 * k + 3 := by
  have h1 := join_length (stepsUp (k + 1)) (by simp [stepsUp, List.replicate_succ])
  have h2 : tot (stepsUp (k + 1)) = (k + 1) * (2 + 1) := tot_replicate _ _
  rw [← bl_size, h]; omega
theorem bls_take (L : List ByteArray) (k : Nat) : bls (L.take k) = (bls L).take k := by simp [List.map_take]

set_option maxHeartbeats 1000000 in
theorem ups_walk (d : ByteArray) (n : Int) (w : World) (hE : Env w) :
    Calls Tryd.prog 9 #[.string d, .int .i64 n] w fun e w' => e = .returned (.bool true) ∧ Below w.heap.size w w' := by
  have P := Lib.hid (points_any w hE)
  cases hd : okc d
  case false =>
    go_enter Tryd.func9, Tryd.ntmps9
    go_wp2_with fail
    refine P.out.mono ?_
    rintro e w1 ⟨rfl, hb1⟩
    go_wp2_with fail
    refine (lclean_any d _ (hE.below hb1)).mono ?_
    rintro e w2 ⟨r, rfl, _, hb2⟩
    have hB2 := bch hb1 hb2
    rw [hd]
    go_wp2_with fail
    go_ret
    exact ⟨rfl, hB2⟩
  case true =>
    by_cases h1 : n < 1
    · have g1 : decide (n < 1) = true := decide_eq_true h1
      go_enter Tryd.func9, Tryd.ntmps9
      go_wp2_with fail
      refine P.out.mono ?_
      rintro e w1 ⟨rfl, hb1⟩
      go_wp2_with fail
      refine (lclean_ok d _ (hE.below hb1) hd).mono ?_
      rintro e w2 ⟨r, D, rfl, hr, hD, htD, hb2⟩
      clear hr
      go_wp2_with fail
      go_ret
      exact ⟨rfl, bch hb1 hb2⟩
    have g1 : decide (n < 1) = false := decide_eq_false h1
    by_cases h2 : 50 < n
    · have g2 : decide (50 < n) = true := decide_eq_true h2
      go_enter Tryd.func9, Tryd.ntmps9
      go_wp2_with fail
      refine P.out.mono ?_
      rintro e w1 ⟨rfl, hb1⟩
      go_wp2_with fail
      refine (lclean_ok d _ (hE.below hb1) hd).mono ?_
      rintro e w2 ⟨r, D, rfl, hr, hD, htD, hb2⟩
      clear hr
      go_wp2_with fail
      go_ret
      exact ⟨rfl, bch hb1 hb2⟩
    have g2 : decide (50 < n) = false := decide_eq_false h2
    obtain ⟨m, rfl⟩ : ∃ m : Nat, n = ((m + 1 : Nat) : Int) := ⟨(n - 1).toNat, by omega⟩
    have hm : m ≤ 49 := by omega
    go_enter Tryd.func9, Tryd.ntmps9
    go_wp2_with fail
    refine P.out.mono ?_
    rintro e w1 ⟨rfl, hb1⟩
    go_wp2_with fail
    refine (lclean_ok d _ (hE.below hb1) hd).mono ?_
    rintro e w2 ⟨r, D, rfl, hr, hD, htD, hb2⟩
    have hB2 := bch hb1 hb2
    have HR := Lib.hid hr
    have hrs := size_of_join hr
    have HU := Lib.hid (ups hD (m + 1) (by omega) (by omega))
    rw [← hr] at HU
    clear hr hb1 hb2
    go_wp2_with fail
    go_loop [30, 7] (fun i t => ∃ (k : Nat) (x : ByteArray), i = .int .i64 k ∧ k ≤ m ∧ t = .string x ∧ bl x = join (stepsUp (k + 1))) (fun i _ => m - (RowKit.intOf i).toNat)
    case atStart => exact ⟨0, ⟨#[46, 46]⟩, rfl, Nat.zero_le _, rfl, rfl⟩
    case round =>
      obtain ⟨k, x, rfl, hk, rfl, hx⟩ := hrel
      have HX := Lib.hid hx
      have hxs := steps_size hx
      clear hx
      by_cases hlt : k < m
      · go_wp2_with fail
        refine ⟨⟨k + 1, x ++ ⟨#[47, 46, 46]⟩, by go_num, by omega, rfl, ?_⟩, by simp [RowKit.intOf]; omega⟩
        rw [bl_append, HX.out, steps_succ]
      · obtain rfl : k = m := by omega
        go_wp2_with fail
        refine (resolve_any r x _ (hE.below hB2) (by omega)).mono ?_
        rintro e w3 ⟨r', code, rfl, hres, hb3⟩
        have hB3 := bch hB2 hb3
        clear hB2 hb3
        have HU2 : Hid ((if D.length < k + 1 then (([], 110) : List UInt8 × Int) else (join (D.take (D.length - (k + 1))), 0)) = (bl r', code)) := by
          show _ = _
          rw [← HU.out, ← hres, HX.out]; rfl
        clear hres HU
        go_wp2_with fail
        refine (parts_any r _ (hE.below hB3) (by omega)).mono ?_
        rintro e w4 ⟨A, c, L, rfl, hRL, hL, hb4⟩
        have hB4 := bch hB3 hb4
        clear hB3 hb4
        have hLD : bls L = D := by rw [hL, HR.out, parts_join D hD]
        have hLl : L.length = D.length := by rw [← hLD, bls_length]
        have hcap := hRL.cap
        have hLm : L.length ≤ 1001 := by have := length_le_tot D; omega
        have HLD := Lib.hid hLD
        by_cases hlt2 : D.length < k + 1
        · have h := HU2.out
          rw [if_pos hlt2] at h
          simp only [Prod.mk.injEq] at h
          obtain ⟨h3, rfl⟩ := h
          obtain rfl : (⟨#[]⟩ : ByteArray) = r' := bl_inj h3
          have hgt : (L.length : Int) < (k : Int) + 1 := by omega
          clear hL hLD hLl h3
          go_wp2_with fail
          go_ret
          exact ⟨rfl, hB4⟩
        · have h := HU2.out
          rw [if_neg hlt2] at h
          simp only [Prod.mk.injEq] at h
          obtain ⟨h3, rfl⟩ := h
          have hgt : ¬ ((L.length : Int) < (k : Int) + 1) := by omega
          have hle : k + 1 ≤ L.length := by omega
          have HR3 : Hid (bl r' = join (bls (L.take (L.length - (k + 1))))) := by
            show _ = _
            rw [← h3, bls_take, hLD, hLl]
          have htl : (L.take (L.length - (k + 1))).length = L.length - (k + 1) := by rw [List.length_take]; omega
          have htt : tot (bls (L.take (L.length - (k + 1)))) ≤ 100000000 := by
            have h5 : tot (bls L) = tot (bls (L.take (L.length - (k + 1)))) + tot (bls (L.drop (L.length - (k + 1)))) := by
              rw [← tot_append, ← List.map_append, List.take_append_drop]
            rw [hLD] at h5; omega
          have cJ := join_any A c (L.take (L.length - (k + 1))) w4 (hRL.take _) htt
          rw [htl] at cJ
          have CJ := Lib.hid cJ
          clear hL hLD hLl h3 cJ htl htt HU2
          go_wp2_with fail
          refine CJ.out.mono ?_
          rintro e w5 ⟨q, rfl, hq, hb5⟩
          obtain rfl : r' = q := bl_inj (by rw [HR3.out, hq])
          clear hq
          go_wp2_with fail
          go_ret
          exact ⟨rfl, bch hB4 hb5⟩

end Go.Proofs.YtmdcplpaejenbaaDoor

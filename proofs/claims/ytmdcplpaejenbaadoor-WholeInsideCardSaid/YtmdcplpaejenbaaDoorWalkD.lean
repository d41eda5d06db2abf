/-
  Walks of package target: Relative.
-/
import Derived.Test.YtmdcplpaejenbaaDoorWalkC
import Derived.Deep.QuietTactic
import Derived.BigQuiet
namespace Go.Proofs.YtmdcplpaejenbaaDoor
open Go.RowKit
open Go.Proofs.PnKit Go.Proofs.PnPath

def lenOf : Value → Nat
  | .slice _ n _ => n
  | _ => 0
theorem strip_nil (b : List (List UInt8)) : strip [] b = ([], b) := by simp [strip]
theorem strip_nil2 (a : List (List UInt8)) : strip a [] = (a, []) := by cases a <;> simp [strip]
theorem strip_same (x : List UInt8) (a b : List (List UInt8)) : strip (x :: a) (x :: b) = strip a b := by rw [strip, if_pos rfl]
theorem strip_other {x y : List UInt8} (a b : List (List UInt8)) (h : x ≠ y) : strip (x :: a) (y :: b) = (x :: a, y :: b) := by rw [strip, if_neg h]

theorem tot_parts (l : List UInt8) : tot (parts l) ≤ l.length + 1 := by
  unfold parts
  split
  · simp [tot]
  · rw [tot_msplit]; exact Nat.le_refl _
theorem parts_bound {L : List ByteArray} {s : ByteArray} (h : bls L = parts (bl s)) : tot (bls L) ≤ s.size + 1 ∧ L.length ≤ s.size + 1 := by
  have h1 := length_le_tot (bls L)
  rw [bls_length] at h1
  have h2 := tot_parts (bl s)
  rw [bl_size, ← h] at h2
  omega
def dd : ByteArray := ⟨#[46, 46]⟩
theorem dd_bl : bl dd = [46, 46] := rfl
theorem outOf_bls {A0 B0 : List (List UInt8)} {a b : List ByteArray} (h : strip A0 B0 = (bls a, bls b)) : outOf A0 B0 = bls (List.replicate a.length dd ++ b) := by
  rw [outOf, h]
  simp only [List.length_map, List.map_append, List.map_replicate, dd_bl]
theorem rep_snoc (k : Nat) : List.replicate k (Value.string dd) ++ [.string ⟨#[46, 46]⟩] = List.replicate (k + 1) (Value.string dd) := by
  rw [List.replicate_succ']; rfl
theorem rep_map (k : Nat) (b : List ByteArray) : List.replicate k (Value.string dd) ++ b.map Value.string = (List.replicate k dd ++ b).map Value.string := by
  rw [List.map_append, List.map_replicate]
theorem rep_len (k : Nat) (b : List ByteArray) : k + b.length = (List.replicate k dd ++ b).length := by simp
theorem tot_rep (k : Nat) (b : List ByteArray) : tot (bls (List.replicate k dd ++ b)) = 3 * k + tot (bls b) := by
  have e : bls (List.replicate k dd ++ b) = List.replicate k (bl dd) ++ bls b := by simp only [bls, List.map_append, List.map_replicate]
  rw [e, tot_append, tot_replicate]
  show k * (2 + 1) + _ = _
  omega

set_option maxHeartbeats 1000000 in
theorem relative_any (d t : ByteArray) (w : World) (hE : Env w) (hd : d.size ≤ 100000) (ht : t.size ≤ 100000) :
    Calls Tryd.prog 16 #[.string d, .string t] w fun e w' => ∃ r, e = .returned (.string r) ∧ bl r = relativeP (bl d) (bl t) ∧ Below w.heap.size w w' := by
  obtain ⟨i0, hi0, hz0, hz1, hz2⟩ := info_parts info_str
  have hfin : relativeP (bl d) (bl t) = relativeP (bl d) (bl t) := rfl
  have HF : Hid (relativeP (bl d) (bl t) = if outOf (parts (bl d)) (parts (bl t)) = [] then [46] else join (outOf (parts (bl d)) (parts (bl t)))) := rfl
  go_enter Tryd.func16, Tryd.ntmps16
  go_wp2_with fail
  refine (parts_any d _ hE (by omega)).mono ?_
  rintro e w1 ⟨Aa, ca, a0, rfl, hRa, ha0, hb1⟩
  have HA0 := Lib.hid ha0
  clear ha0
  go_wp2_with fail
  refine (parts_any t _ (hE.below hb1) (by omega)).mono ?_
  rintro e w2 ⟨Ab, cb, b0, rfl, hRb, hb0, hb2⟩
  have HB0 := Lib.hid hb0
  have HRa := Lib.hid (hRa.below hb2)
  have HRb := Lib.hid hRb
  have HB : Hid (Below w.heap.size w w2) := hb1.trans (hb2.mono hb1.size)
  clear hb0 hRa hRb hb1 hb2
  obtain ⟨ST, hST⟩ : ∃ ST, strip (bls a0) (bls b0) = ST := ⟨_, rfl⟩
  have HST := Lib.hid hST
  clear hST
  have hla0 : a0.length ≤ 100001 := by have := (parts_bound HA0.out).2; omega
  have htb0 : tot (bls b0) ≤ 100001 := by have := (parts_bound HB0.out).1; omega
  go_wp2_with fail
  go_loopw [5, 6] (fun u v wr => ∃ (a b : List ByteArray) (A : Option Addr) (c : Nat) (A' : Option Addr) (c' q : Nat), u = .slice A a.length c ∧ v = .slice A' b.length c' ∧ Rd w2 A c a ∧ Rd w2 A' c' b ∧
      strip (bls a) (bls b) = ST ∧ a.length ≤ a0.length ∧ tot (bls b) ≤ tot (bls b0) ∧ wr = w2.drewN q) (fun u _ _ => lenOf u)
  case atStart => exact ⟨a0, b0, Aa, ca, Ab, cb, 0, rfl, rfl, HRa.out, HRb.out, HST.out, Nat.le_refl _, Nat.le_refl _, rfl⟩
  case round =>
    obtain ⟨a, b, A, c, A', c', q, rfl, rfl, hRA, hRB, hst, hla, htb, rfl⟩ := hrel
    have HS := Lib.hid hst
    clear hst
    have H4 : (¬ 0 < a.length) ∨ (0 < a.length ∧ ¬ 0 < b.length) ∨ (0 < a.length ∧ 0 < b.length) := by omega
    rcases H4 with ha | ⟨ha, hb⟩ | ⟨ha, hb⟩
    case' inl =>
      have HX : Hid (ST = (bls a, bls b)) := by
        have : a = [] := List.eq_nil_of_length_eq_zero (by omega)
        rw [← HS.out, this]; exact strip_nil _
      have hy1 : decide ((0 : Int) < (a.length : Int)) = false := decide_eq_false (by omega)
      clear HS
      go_wp2_with fail
      go_quiet (fail)
      clear hy1 ha
    case' inr.inl =>
      obtain ⟨o1, f1, rfl, _, hc1⟩ := hRA.pos ha
      have HX : Hid (ST = (bls a, bls b)) := by
        have : b = [] := List.eq_nil_of_length_eq_zero (by omega)
        rw [← HS.out, this]; exact strip_nil2 _
      have hy1 : decide ((0 : Int) < (a.length : Int)) = true := decide_eq_true (by omega)
      have hy2 : decide ((0 : Int) < (b.length : Int)) = false := decide_eq_false (by omega)
      clear HS hc1
      go_wp2_with fail
      go_quiet (fail)
      clear hy1 hy2 ha hb
    case' inr.inr =>
      obtain ⟨o1, f1, rfl, _, hc1⟩ := hRA.pos ha
      obtain ⟨o2, f2, rfl, _, hc2⟩ := hRB.pos hb
      have hy1 : decide ((0 : Int) < (a.length : Int)) = true := decide_eq_true (by omega)
      have hy2 : decide ((0 : Int) < (b.length : Int)) = true := decide_eq_true (by omega)
      have hcx : w2.cell? ⟨o1, f1, none⟩ = some (.string a[0]) := hc1 0 _ (List.getElem?_eq_getElem ha)
      have hcy : w2.cell? ⟨o2, f2, none⟩ = some (.string b[0]) := hc2 0 _ (List.getElem?_eq_getElem hb)
      have HA : Hid (a = a[0] :: a.drop 1) := by rw [← List.drop_eq_getElem_cons ha]; rfl
      have HBB : Hid (b = b[0] :: b.drop 1) := by rw [← List.drop_eq_getElem_cons hb]; rfl
      clear hc1 hc2
      generalize a[0] = x at hcx HA
      generalize b[0] = y at hcy HBB
      cases e1 : (x.toList == y.toList)
      case' true =>
        go_wp2_with fail
        go_quiet (fail)
        go_wp2_with fail
        go_quiet (fail)
        go_wp2_with fail
        have HXY : Hid (bl x = bl y) := by
          rw [ByteArray.toList_eq, ByteArray.toList_eq] at e1
          exact beq_iff_eq.1 e1
        refine ⟨⟨a.drop 1, b.drop 1, if c = 1 then some ⟨o1, f1, none⟩ else some ⟨o1, f1 + 1, none⟩, c - 1, if c' = 1 then some ⟨o2, f2, none⟩ else some ⟨o2, f2 + 1, none⟩, c' - 1, _, by rw [List.length_drop], by rw [List.length_drop], hRA.cut (k := 1) ha, hRB.cut (k := 1) hb, ?_, ?_, ?_, by rw [World.drewN_drewN, World.drewN_drewN]⟩, ?_⟩
        · have e := HS.out
          rw [HA.out, HBB.out] at e
          have e2 : strip (bl x :: bls (a.drop 1)) (bl y :: bls (b.drop 1)) = ST := e
          rw [HXY.out, strip_same] at e2
          exact e2
        · rw [List.length_drop]; omega
        · have e := congrArg (fun l => tot (bls l)) HBB.out
          have e2 : tot (bls b) = tot (bl y :: bls (b.drop 1)) := e
          rw [tot_cons] at e2; omega
        · simp only [lenOf]; omega
      case' false =>
        have HX : Hid (ST = (bls a, bls b)) := by
          have hxy : bl x ≠ bl y := fun e => by
            rw [ByteArray.toList_eq, ByteArray.toList_eq] at e1
            exact absurd e (by simpa using e1)
          have e := HS.out
          rw [HA.out, HBB.out] at e
          have e2 : strip (bl x :: bls (a.drop 1)) (bl y :: bls (b.drop 1)) = ST := e
          rw [strip_other _ _ hxy] at e2
          have e3 : bls a = bl x :: bls (a.drop 1) := congrArg bls HA.out
          have e4 : bls b = bl y :: bls (b.drop 1) := congrArg bls HBB.out
          show ST = _
          rw [e3, e4]; exact e2.symm
        clear HS
        go_wp2_with fail
        go_quiet (fail)
        clear hy1 hy2 ha hb hcx hcy HA HBB e1
    all_goals
      go_wp2_with fail
      have hlb : b.length ≤ 100001 := by have := length_le_tot (bls b); rw [bls_length] at this; omega
      go_loopw [35, 7] (fun i out wr => ∃ k : Nat, i = .int .i64 k ∧ k ≤ a.length ∧ wr.ownsRow w2.heap.size 9 1 out k (List.replicate k (Value.string dd)) ∧ Below w2.heap.size w2 wr) (fun i _ _ => a.length - (RowKit.intOf i).toNat)
      case' atStart => exact ⟨0, rfl, Nat.zero_le _, World.ownsRow_nil _ _ _ _, below_drewN (Below.refl _ _) _⟩
      case' round =>
        obtain ⟨k, rfl, hk, hown, hbr⟩ := hrel
        by_cases hlt : k < a.length
        · go_wp2_with (at_builtin; refine wpList_append_own _ rfl _ _ 22 rfl w2.heap.size 9 i0 (.string ByteArray.empty) 1 16 Tryd.underlying22 hi0 hz0 hz1 hz2 rfl (by decide) _ _ _ rfl (hown.alloc _) ⟨wr.heap.size, 0, none⟩ 1 1 [.string ⟨#[46, 46]⟩] rfl rfl (news_one _ _ _) (one_str _) (by simp only [maxLen]; omega) (by omega) (base_alloc hbr.size _) ?_)
          intro v' w3 hown' hg _
          have hb3 : Below w2.heap.size w2 w3 := below_grown (hbr.alloc hbr.size _) hg (hown.alloc _) (Nat.le_refl _) (base_alloc hbr.size _)
          have hown2 : w3.ownsRow w2.heap.size 9 1 v' (k + 1) (List.replicate (k + 1) (Value.string dd)) := by rw [← rep_snoc]; exact hown'
          clear hown' hg
          go_wp2_with fail
          refine ⟨⟨k + 1, by go_num, by omega, hown2, hb3⟩, by simp [RowKit.intOf]; omega⟩
        · obtain rfl : k = a.length := by omega
          go_wp2_with (at_builtin; refine wpList_append_rd rfl _ _ 22 rfl w2.heap.size 9 i0 (.string ByteArray.empty) 16 Tryd.underlying22 hi0 hz0 hz1 hz2 rfl _ _ _ rfl hown _ _ b rfl (hRB.below hbr) (by simp only [maxLen]; omega) (by omega) hbr.size ?_)
          intro v' w3 hown' hg
          have hb3 : Below w2.heap.size w2 w3 := below_grown hbr hg hown (Nat.le_refl _) hbr.size
          rw [rep_map, rep_len] at hown'
          have HT : Hid (tot (bls (List.replicate a.length dd ++ b)) ≤ 500000) := by
            show _ ≤ _
            rw [tot_rep]; omega
          have HX2 : Hid (relativeP (bl d) (bl t) = if bls (List.replicate a.length dd ++ b) = [] then [46] else join (bls (List.replicate a.length dd ++ b))) := by
            have e := HST.out
            rw [HX.out, HA0.out, HB0.out] at e
            have e2 := outOf_bls e
            have e3 := HF.out
            rw [e2] at e3
            exact e3
          clear hown hg HX HF hbr
          generalize List.replicate a.length dd ++ b = LL at hown' HT HX2
          obtain ⟨A5, c5, rfl, hR5⟩ := own_rd hown'
          clear hown'
          by_cases hll : LL.length = 0
          · have hg1 : ((LL.length : Int) == 0) = true := by simp [hll]
            have HLL : Hid (LL = []) := List.eq_nil_of_length_eq_zero hll
            clear hll
            go_wp2_with fail
            go_ret
            refine ⟨⟨#[46]⟩, rfl, ?_, HB.out.trans (hb3.mono HB.out.size)⟩
            rw [HX2.out, HLL.out]; rfl
          · have hg1 : ((LL.length : Int) == 0) = false := by simp; exact fun e => hll (by rw [e]; rfl)
            have HLL : Hid (LL ≠ []) := fun e => hll (by rw [e]; rfl)
            clear hll
            go_wp2_with (go_at_call 15; refine (join_any A5 c5 LL _ hR5 (by have := HT.out; omega)).mono ?_; rintro e w5 ⟨r, rfl, hr, hb5⟩)
            go_ret
            refine ⟨r, rfl, ?_, (HB.out.trans (hb3.mono HB.out.size)).trans (hb5.mono (HB.out.trans (hb3.mono HB.out.size)).size)⟩
            rw [HX2.out, hr, if_neg (mt bls_nil.1 HLL.out)]

end Go.Proofs.YtmdcplpaejenbaaDoor

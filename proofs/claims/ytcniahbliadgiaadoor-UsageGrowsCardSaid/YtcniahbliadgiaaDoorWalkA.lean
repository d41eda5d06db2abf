/-
  Walks of package path: Sound, Clean, Join, Parts.
-/
import Derived.Test.YtcniahbliadgiaaDoorShelf
import Derived.Test.YtcniahbliadgiaaDoorPathB
import Derived.Test.YtcniahbliadgiaaDoorText
import Derived.Deep.LoopGhost
import Derived.Deep.DeepFit
import Derived.Lib.OthersKept
namespace Go.Proofs.YtcniahbliadgiaaDoor
open Go.RowKit Go.Lib
open Go.Proofs.PnKit Go.Proofs.PnPath

/-- what stands in the world of every call: the tables of UTF-8, a number of the library's -/
structure Env (w : World) : Prop where
  tabs : Lib.Utf8Tabs 0 1 w
  max : ∃ m, w.cell? ⟨2, 0, none⟩ = some (.int .i64 m)
theorem Env.below {w w' : World} (h : Env w) (hb : Below w.heap.size w w') : Env w' :=
  ⟨Utf8Tabs_below h.tabs hb, by
    obtain ⟨m, hm⟩ := h.max
    exact ⟨m, by rw [hb.cell (World.block_lt_of_cell? _ _ hm)]; exact hm⟩⟩

theorem ret_int {k : IntKind} {a b : Int} (h : a = b) : Ending.returned (.int k a) = .returned (.int k b) := by rw [h]

theorem sound_empty {s : ByteArray} (h : s.toList.isEmpty = true) : sound (bl s) = 100 := by
  rw [ByteArray.toList_eq] at h
  have : bl s = [] := by simpa using h
  rw [sound, if_pos this]
theorem size_pos {s : ByteArray} (h : s.toList.isEmpty = false) : 0 < s.size := by
  rw [ByteArray.toList_eq] at h
  have : bl s ≠ [] := by simpa using h
  have := List.length_pos_iff.2 this
  rwa [bl_size] at this
theorem sound_long {s : ByteArray} (h : s.toList.isEmpty = false) (h2 : (4000 : Int) < s.size) : sound (bl s) = 2 := by
  rw [ByteArray.toList_eq] at h
  have : bl s ≠ [] := by simpa using h
  rw [sound, if_neg this, if_pos (by rw [bl_size]; omega)]
theorem sound_nul {s : ByteArray} (h : s.toList.isEmpty = false) (h2 : (s.size : Int) ≤ 4000) {pos : Nat} (hp : pos < s.size) (h3 : (((Utf8.decode s pos).1 : Int) == 0) = true) : sound (bl s) = 101 := by
  rw [ByteArray.toList_eq] at h
  have : bl s ≠ [] := by simpa using h
  have h4 : (Utf8.decode s pos).1 = 0 := by have := beq_iff_eq.1 h3; omega
  rw [sound, if_neg this, if_neg (by rw [bl_size]; omega), if_pos ((zero_mem s).2 ⟨pos, hp, (dec_zero s pos).1 h4⟩)]
theorem sound_text {s : ByteArray} (h : s.toList.isEmpty = false) (h2 : (s.size : Int) ≤ 4000) (h3 : ∀ i, i < s.size → (s.get! i).toNat ≠ 0) (h4 : Lib.validD s.data.toList = false) : sound (bl s) = 102 := by
  rw [ByteArray.toList_eq] at h
  have : bl s ≠ [] := by simpa using h
  rw [sound, if_neg this, if_neg (by rw [bl_size]; omega), if_neg (no_zero h3), if_pos (by rw [V_eq]; exact h4)]
theorem sound_last {s : ByteArray} (h : s.toList.isEmpty = false) (h2 : (s.size : Int) ≤ 4000) (h3 : ∀ i, i < s.size → (s.get! i).toNat ≠ 0) (h4 : Lib.validD s.data.toList = true) (h0 : 0 < s.size) (b : Bool) (h5 : (((s[0]'h0).toNat : Int) == 47) = b) :
    sound (bl s) = if b then 103 else 0 := by
  rw [ByteArray.toList_eq] at h
  have hne : bl s ≠ [] := by simpa using h
  rw [sound, if_neg hne, if_neg (by rw [bl_size]; omega), if_neg (no_zero h3), if_neg (by rw [V_eq, h4]; decide)]
  have e : (bl s).head? = some (s[0]'h0) := by
    have e1 := get!_bl s 0 h0
    rw [← List.head?_eq_getElem?] at e1
    rw [e1]
    congr 1
    exact Utf8W.get!_of_lt s 0 h0
  rw [e]
  subst h5
  by_cases hc : s[0]'h0 = 47
  · rw [if_pos (by rw [hc]), hc]; rfl
  · rw [if_neg (fun x => hc (Option.some.inj x)), if_neg]
    intro x
    exact hc (UInt8.toNat_inj.1 (by have := beq_iff_eq.1 x; show _ = 47; omega))

set_option maxHeartbeats 400000 in
theorem sound_any (s : ByteArray) (w : World) (hE : Env w) :
    Calls Tryd.prog 40 #[.string s] w fun e w' => e = .returned (.int .i64 (sound (bl s))) ∧ Below w.heap.size w w' := by
  have cV : ∀ (pos : Nat) (_ : s.size ≤ 9223372036854775807), Calls Tryd.prog 55 #[.string s] (w.iter s pos) fun e w' => e = .returned (.bool (Lib.validD s.data.toList)) ∧ Below (w.iter s pos).heap.size (w.iter s pos) w' :=
    fun pos h => Any.utf8_ValidString Tryd.laysValid s _ h (hE.below ((Below.refl _ _).alloc (Nat.le_refl _) _)).tabs
  have hnx := fun (pos : Nat) (h : pos < s.size) => run_next_any (P := Tryd.prog) w s pos 0 h
  have hne := fun (pos : Nat) (h : ¬ pos < s.size) => run_next_end (P := Tryd.prog) w s pos 0 h
  have hbi : ∀ pos, Below w.heap.size w (w.iter s pos) := fun pos => (Below.refl _ _).alloc (Nat.le_refl _) _
  have CV := Lib.hid cV
  have HNX := Lib.hid hnx
  have HNE := Lib.hid hne
  have HBI := Lib.hid hbi
  clear cV hnx hne hbi
  go_enter Tryd.func40, Tryd.ntmps40
  go_wp2_with fail
  · go_ret
    exact ⟨ret_int (sound_empty (by assumption)).symm, Below.refl _ _⟩
  · go_ret
    exact ⟨ret_int (sound_long (by assumption) (by assumption)).symm, Below.refl _ _⟩
  go_loopw [4] (fun _ wr => ∃ pos, wr = w.iter s pos ∧ pos ≤ s.size ∧ ∀ i, i < pos → (s.get! i).toNat ≠ 0) (fun _ wr => s.size - wr.iterPos w.heap.size)
  case atStart => exact ⟨0, rfl, Nat.zero_le _, fun i hi => by omega⟩
  case round =>
    obtain ⟨pos, rfl, hpos, hz⟩ := hrel
    have HZ := Lib.hid hz
    clear hz
    by_cases hp : pos < s.size
    · have hn := HNX.out pos hp
      go_wp2_with fail
      · go_ret
        exact ⟨ret_int (sound_nul (by assumption) (by assumption) hp (by assumption)).symm, HBI.out _⟩
      · have h0 : (((Utf8.decode s pos).1 : Int) == 0) = false := by assumption
        have h0' : (Utf8.decode s pos).1 ≠ 0 := fun e => by rw [e] at h0; revert h0; decide
        have hs := dec_skip s pos hp
        exact ⟨⟨_, rfl, hs.2.1, nozero_step hp HZ.out h0'⟩, by simp; omega⟩
    · have hn := HNE.out pos hp
      obtain rfl : pos = s.size := by omega
      go_wp2_with fail
      refine (CV.out _ (by omega)).mono ?_
      rintro e w' ⟨rfl, hb⟩
      have hb1 : Below w.heap.size w w' := (HBI.out _).trans (hb.mono (HBI.out _).size)
      by_cases hv : Lib.validD s.data.toList = true
      · have HV := Lib.hid hv
        rw [hv]
        clear hv
        have hs0 : 0 < s.size := size_pos (by assumption)
        go_wp2_with fail
        · go_ret
          exact ⟨ret_int (sound_last (by assumption) (by assumption) HZ.out HV.out hs0 true (by assumption)).symm, hb1⟩
        · go_ret
          exact ⟨ret_int (sound_last (by assumption) (by assumption) HZ.out HV.out hs0 false (by assumption)).symm, hb1⟩
      · have hv' : Lib.validD s.data.toList = false := by simpa using hv
        have HV := Lib.hid hv'
        rw [hv']
        clear hv hv'
        go_wp2_with fail
        go_ret
        exact ⟨ret_int (sound_text (by assumption) (by assumption) HZ.out HV.out).symm, hb1⟩

theorem split_any (s : ByteArray) (w : World) (hE : Env w) (hs : s.size < 4294967281) :
    Calls Tryd.prog 41 #[.string s, .string ⟨#[47]⟩] w fun e w' => ∃ L, e = .returned (.slice (some ⟨w.heap.size, 0, none⟩) L.length L.length) ∧ bls L = msplit (bl s) ∧
      Rd w' (some ⟨w.heap.size, 0, none⟩) L.length L ∧ Below w.heap.size w w' := by
  obtain ⟨m, hm⟩ := hE.max
  refine (Tryd.strings_Split s ⟨#[47]⟩ m w hs hm (by decide)).mono ?_
  rintro e w' ⟨rfl, rfl⟩
  have hl : (Lib.splitB ⟨#[47]⟩ 0 (Lib.countB s ⟨#[47]⟩) s).length = Lib.countB s ⟨#[47]⟩ + 1 := Lib.splitB_all ⟨#[47]⟩ (by decide) 0 _ s rfl
  refine ⟨Lib.splitB ⟨#[47]⟩ 0 (Lib.countB s ⟨#[47]⟩) s, by rw [hl], split_slash s, ⟨Nat.le_refl _, (fun e => by cases e), fun j x hx => ⟨_, 0, rfl, by simp, ?_⟩⟩, (Below.refl _ _).alloc (Nat.le_refl _) _⟩
  have : (w.alloc (.cells ((Lib.splitB ⟨#[47]⟩ 0 (Lib.countB s ⟨#[47]⟩) s).map Value.string).toArray 9)).cell? ⟨w.heap.size, j, none⟩ = ((Lib.splitB ⟨#[47]⟩ 0 (Lib.countB s ⟨#[47]⟩) s).map Value.string).toArray[j]? :=
    cell_of_row _ _ _ _ _ _ (heap_alloc_new w _)
  rw [Nat.zero_add, this]
  simp [hx]

theorem info_str : (Tryd.prog.info? 9).map (fun i => (i.zero, i.size, i.bytes)) = some (some (.string ByteArray.empty), 1, 16) := by kernel_rfl

theorem cl_skip {acc r : List (List UInt8)} {p : List UInt8} (h : p = [] ∨ p = [46]) : cl acc (p :: r) = cl acc r := by rw [cl, if_pos h]
theorem cl_dots {acc r : List (List UInt8)} : cl acc ([46, 46] :: r) = ([], 104) := by rw [cl, if_neg (by decide), if_pos rfl]
theorem cl_long {acc r : List (List UInt8)} {p : List UInt8} (h1 : ¬ (p = [] ∨ p = [46])) (h2 : p ≠ [46, 46]) (h : 255 < p.length) : cl acc (p :: r) = ([], 2) := by rw [cl, if_neg h1, if_neg h2, if_pos h]
theorem cl_take {acc r : List (List UInt8)} {p : List UInt8} (h1 : ¬ (p = [] ∨ p = [46])) (h2 : p ≠ [46, 46]) (h : ¬ 255 < p.length) : cl acc (p :: r) = cl (acc ++ [p]) r := by rw [cl, if_neg h1, if_neg h2, if_neg h]
theorem bls_drop {L : List ByteArray} {k : Nat} (h : k < L.length) : bls (L.drop k) = bl (L.getD k ByteArray.empty) :: bls (L.drop (k + 1)) := by
  rw [List.drop_eq_getElem_cons h, List.getD_eq_getElem?_getD, List.getElem?_eq_getElem h]
  rfl
theorem str_eq {x : ByteArray} {l : List UInt8} {b : Bool} (h : (x.toList == l) = b) : (bl x = l) ↔ b = true := by
  rw [ByteArray.toList_eq] at h
  subst h
  exact beq_iff_eq.symm
theorem str_emp {x : ByteArray} {b : Bool} (h : x.toList.isEmpty = b) : (bl x = []) ↔ b = true := by
  rw [ByteArray.toList_eq] at h
  subst h
  simp

set_option maxHeartbeats 1000000 in
theorem clean_any (s : ByteArray) (w : World) (hE : Env w) :
    Calls Tryd.prog 21 #[.string s] w fun e w' => ∃ A c L code, e = .returned (.tuple #[.slice A (List.length L) c, .int .i64 code]) ∧ Rd w' A c L ∧ clean (bl s) = (bls L, code) ∧ Below w.heap.size w w' := by
  have hs0 := sound_any s w hE
  by_cases h0 : sound (bl s) = 0
  case neg =>
    have h1 : (sound (bl s) != 0) = true := by simp [h0]
    have hfin : clean (bl s) = ([], sound (bl s)) := by rw [clean, if_pos h0]
    have HF := Lib.hid hfin
    clear h0 hfin
    go_enter Tryd.func21, Tryd.ntmps21
    go_wp2_with (go_at_call 40; refine hs0.mono ?_; rintro e w1 ⟨rfl, hb⟩)
    go_ret2
    exact ⟨none, 0, [], _, rfl, Rd.nil _, HF.out, hb⟩
  case pos =>
    have hlen := (sound_ok h0).2.1
    rw [bl_size] at hlen
    have hfin : clean (bl s) = cl [] (msplit (bl s)) := by rw [clean, if_neg (by simp [h0])]
    have h1 : (sound (bl s) != 0) = false := by simp [h0]
    have htot : (msplit (bl s)).length ≤ 4001 := by have := length_le_tot (msplit (bl s)); rw [tot_msplit, bl_size] at this; omega
    rw [h0] at hs0
    have HF := Lib.hid hfin
    have HL := Lib.hid htot
    clear h0 h1 hfin htot
    obtain ⟨i0, hi0, hz0, hz1, hz2⟩ := info_parts info_str
    go_enter Tryd.func21, Tryd.ntmps21
    go_wp2_with (first
      | (go_at_call 40; refine hs0.mono ?_; rintro e w1 ⟨rfl, hb1⟩)
      | (go_at_call 41; refine (split_any s _ (hE.below hb1) (by omega)).mono ?_; rintro e w2 ⟨L, rfl, hL, hR, hb2⟩))
    have HB : Hid (Below w.heap.size w w2) := hb1.trans (hb2.mono hb1.size)
    have hLl : L.length ≤ 4001 := by have := congrArg List.length hL; rw [List.length_map] at this; rw [this]; exact HL.out
    rw [← hL] at HF
    have HR := Lib.hid hR
    clear hL hR hb1 hb2 HL
    obtain ⟨RES, hRES⟩ : ∃ RES, clean (bl s) = RES := ⟨_, rfl⟩
    go_loopw [16, 5] (fun i out wr => ∃ (k : Nat) (acc : List ByteArray), i = .int .i64 k ∧ k ≤ L.length ∧ acc.length ≤ k ∧ wr.ownsRow w2.heap.size 9 1 out acc.length (acc.map Value.string) ∧
        cl (bls acc) (bls (L.drop k)) = RES ∧ Below w2.heap.size w2 wr) (fun i _ _ => L.length - (RowKit.intOf i).toNat)
    case atStart => exact ⟨0, [], rfl, Nat.zero_le _, Nat.le_refl _, World.ownsRow_nil _ _ _ _, by rw [← hRES, HF.out]; rfl, Below.refl _ _⟩
    case round =>
      obtain ⟨k, acc, rfl, hk, hacc, hown, hcl, hbr⟩ := hrel
      have HRES := Lib.hid hRES
      have HCL := Lib.hid hcl
      clear hRES hcl
      by_cases hlt : k < L.length
      · have hcell : wr.cell? ⟨w1.heap.size, k, none⟩ = some (.string (L.getD k ByteArray.empty)) := (HR.out.below hbr).row0 hlt
        have hd := bls_drop hlt
        rw [hd] at HCL
        clear hd
        generalize L.getD k ByteArray.empty = x at hcell HCL
        cases e1 : x.toList.isEmpty with
        | true =>
          have E1 := Lib.hid ((str_emp e1).2 rfl)
          go_wp2_with fail
          go_roundw
          case rel => exact ⟨k + 1, acc, by go_num, by omega, by omega, hown, by rw [← cl_skip (.inl E1.out)]; exact HCL.out, hbr⟩
          case measure => simp [RowKit.intOf]; omega
        | false =>
        have E1 := Lib.hid (mt (str_emp e1).1 (by decide))
        cases e2 : (x.toList == [46]) with
        | true =>
          have E2 := Lib.hid ((str_eq e2).2 rfl)
          go_wp2_with fail
          go_roundw
          case rel => exact ⟨k + 1, acc, by go_num, by omega, by omega, hown, by rw [← cl_skip (.inr E2.out)]; exact HCL.out, hbr⟩
          case measure => simp [RowKit.intOf]; omega
        | false =>
        have E2 := Lib.hid (mt (str_eq e2).1 (by decide))
        cases e3 : (x.toList == [46, 46]) with
        | true =>
          have E3 := Lib.hid ((str_eq e3).2 rfl)
          go_wp2_with fail
          go_ret2
          refine ⟨none, 0, [], _, rfl, Rd.nil _, ?_, HB.out.trans (hbr.mono HB.out.size)⟩
          rw [HRES.out, ← HCL.out, E3.out, cl_dots]; rfl
        | false =>
        have E3 := Lib.hid (mt (str_eq e3).1 (by decide))
        have hno : Hid (¬ (bl x = [] ∨ bl x = [46])) := fun h => h.elim E1.out E2.out
        by_cases h4 : (255 : Int) < x.size
        · go_wp2_with fail
          go_ret2
          refine ⟨none, 0, [], _, rfl, Rd.nil _, ?_, HB.out.trans (hbr.mono HB.out.size)⟩
          rw [HRES.out, ← HCL.out, cl_long hno.out E3.out (by rw [bl_size]; omega)]; rfl
        · go_wp2_with (at_builtin; refine wpList_append_own _ rfl _ _ 45 rfl w2.heap.size 9 i0 (.string ByteArray.empty) 1 16 Tryd.underlying45 hi0 hz0 hz1 hz2 rfl (by decide) _ _ _ rfl (hown.alloc _) ⟨wr.heap.size, 0, none⟩ 1 1 [.string x] rfl rfl ?c1 ?c2 ?c3 ?c4 ?c5 ?_)
          case c2 => simp [Value.oneCell']
          case c3 => simp only [maxLen]; omega
          case c4 => omega
          case c5 => have := hbr.size; omega
          intro v' w3 hown' hg _
          have hb3 : Below w2.heap.size w2 w3 := below_grown (hbr.alloc hbr.size _) hg (hown.alloc _) (Nat.le_refl _) (by have := hbr.size; simp; omega)
          go_wp2_with fail
          go_roundw
          case rel => exact ⟨k + 1, acc ++ [x], by go_num, by omega, by simp; omega, by simpa using hown', by rw [← HCL.out, cl_take hno.out E3.out (by rw [bl_size]; omega)]; simp, hb3⟩
          case measure => simp [RowKit.intOf]; omega
      · obtain rfl : k = L.length := by omega
        have HO := Lib.hid (own_rd hown)
        clear hown
        go_wp2_with fail
        go_ret2
        obtain ⟨A, c, rfl, hR⟩ := HO.out
        refine ⟨A, c, acc, 0, rfl, hR, ?_, HB.out.trans (hbr.mono HB.out.size)⟩
        rw [HRES.out, ← HCL.out, List.drop_length]; rfl

end Go.Proofs.YtcniahbliadgiaaDoor

/-
  Walks of the helpers of layer 11's statements: points, clean.
-/
import Derived.Test.YtmdcplpaejenbaaDoorWalkD
namespace Go.Proofs.YtmdcplpaejenbaaDoor
open Go.RowKit
open Go.Proofs.PnKit Go.Proofs.PnPath

theorem str_of {r : ByteArray} {l : List UInt8} (h : bl r = l) : r = ⟨l.toArray⟩ := bl_inj (by rw [h])

theorem resolve_at (d t : ByteArray) (w : World) (hE : Env w) (hd : d.size ≤ 100000) (r : List UInt8) (code : Int) (h : resolveP (bl d) (bl t) = (r, code)) :
    Calls Tryd.prog 13 #[.string d, .string t] w fun e w' => e = .returned (.tuple #[.string ⟨r.toArray⟩, .int .i64 code]) ∧ Below w.heap.size w w' := by
  refine (resolve_any d t w hE hd).mono ?_
  rintro e w' ⟨r', c', rfl, h', hb⟩
  rw [h] at h'
  simp only [Prod.mk.injEq] at h'
  obtain ⟨h1, rfl⟩ := h'
  exact ⟨by rw [str_of h1.symm], hb⟩
theorem relative_at (d t : ByteArray) (w : World) (hE : Env w) (hd : d.size ≤ 100000) (ht : t.size ≤ 100000) (r : List UInt8) (h : relativeP (bl d) (bl t) = r) :
    Calls Tryd.prog 16 #[.string d, .string t] w fun e w' => e = .returned (.string ⟨r.toArray⟩) ∧ Below w.heap.size w w' := by
  refine (relative_any d t w hE hd ht).mono ?_
  rintro e w' ⟨r', rfl, h', hb⟩
  exact ⟨by rw [str_of (h'.trans h)], hb⟩

theorem points_any (w : World) (hE : Env w) : Calls Tryd.prog 25 #[] w fun e w' => e = .returned (.bool true) ∧ Below w.heap.size w w' := by
  have c1 := fun (w : World) (hE : Env w) => resolve_at ⟨#[97, 47, 98]⟩ ⟨#[46, 46, 47, 99]⟩ w hE (by decide) [97, 47, 99] 0 (by decide +kernel)
  have c2 := fun (w : World) (hE : Env w) => resolve_at ⟨#[97]⟩ ⟨#[46, 46, 47, 46, 46, 47, 99]⟩ w hE (by decide) [] 110 (by decide +kernel)
  have c3 := fun (w : World) (hE : Env w) => relative_at ⟨#[97, 47, 98]⟩ ⟨#[97, 47, 99]⟩ w hE (by decide) (by decide) [46, 46, 47, 99] (by decide +kernel)
  have C1 := Lib.hid c1
  have C2 := Lib.hid c2
  have C3 := Lib.hid c3
  clear c1 c2 c3
  go_enter Tryd.func25, Tryd.ntmps25
  go_wp2_with fail
  refine (C1.out _ hE).mono ?_
  rintro e w1 ⟨rfl, hb1⟩
  go_wp2_with fail
  refine (C2.out _ (hE.below hb1)).mono ?_
  rintro e w2 ⟨rfl, hb2⟩
  go_wp2_with fail
  refine (C3.out _ ((hE.below hb1).below hb2)).mono ?_
  rintro e w3 ⟨rfl, hb3⟩
  go_wp2_with fail
  go_ret
  have h12 := hb1.trans (hb2.mono hb1.size)
  exact ⟨rfl, h12.trans (hb3.mono h12.size)⟩

/-- what 'clean' of a statement answers: the path of the parts, and whether they are some -/
def okc (s : ByteArray) : Bool := decide ((clean (bl s)).2 = 0) && decide (s.size ≤ 1000)

theorem clean_size {s : ByteArray} {L : List ByteArray} {code : Int} (h : clean (bl s) = (bls L, code)) : tot (bls L) ≤ 5000 := by
  by_cases h0 : code = 0
  · subst h0
    have h1 := (clean_good h).2
    have h2 : sound (bl s) = 0 := by
      unfold clean at h
      split at h
      · rename_i hh
        simp only [Prod.mk.injEq] at h
        exact absurd h.2 hh
      · rename_i hh; exact Decidable.not_not.1 hh
    have h3 := (sound_ok h2).2.1
    omega
  · have := clean_err (l := bl s) (by rw [h]; exact h0)
    rw [h] at this
    have h2 : bls L = [] := this
    rw [h2]; decide

theorem lclean_any (s : ByteArray) (w : World) (hE : Env w) : Calls Tryd.prog 26 #[.string s] w fun e w' =>
    ∃ r, e = .returned (.tuple #[.string r, .bool (okc s)]) ∧ bl r = join (clean (bl s)).1 ∧ Below w.heap.size w w' := by
  have HC := Lib.hid (clean_any s w hE)
  go_enter Tryd.func26, Tryd.ntmps26
  go_wp2_with fail
  refine HC.out.mono ?_
  rintro e w1 ⟨A, c, L, code, rfl, hR, hcl, hb1⟩
  have HT := Lib.hid (clean_size hcl)
  have HCL := Lib.hid hcl
  have HJ := Lib.hid (join_any A c L _ hR (by have := HT.out; omega))
  clear hcl
  go_wp2_with fail
  refine HJ.out.mono ?_
  rintro e w2 ⟨r, rfl, hr, hb2⟩
  have HR := Lib.hid hr
  clear hr
  have hb := hb1.trans (hb2.mono hb1.size)
  by_cases h0 : code = 0
  · have h1 : (code == 0) = true := by simp [h0]
    have HO : Hid (okc s = decide (s.size ≤ 1000)) := by
      show okc s = _
      rw [okc, HCL.out, decide_eq_true h0, Bool.true_and]
    clear h0
    by_cases h2 : s.size ≤ 1000
    · have h3 : decide ((s.size : Int) ≤ 1000) = true := decide_eq_true (by omega)
      go_wp2_with fail
      go_ret2
      exact ⟨r, by rw [HO.out, decide_eq_true h2]; rfl, by rw [HCL.out]; exact HR.out, hb⟩
    · have h3 : decide ((s.size : Int) ≤ 1000) = false := decide_eq_false (by omega)
      go_wp2_with fail
      go_ret2
      exact ⟨r, by rw [HO.out, decide_eq_false h2]; rfl, by rw [HCL.out]; exact HR.out, hb⟩
  · have h1 : (code == 0) = false := by simp [h0]
    have HO : Hid (okc s = false) := by
      show okc s = _
      rw [okc, HCL.out, decide_eq_false h0, Bool.false_and]
    clear h0
    go_wp2_with fail
    go_ret2
    exact ⟨r, by rw [HO.out]; rfl, by rw [HCL.out]; exact HR.out, hb⟩

theorem lclean_bad (s : ByteArray) (w : World) (hE : Env w) (h : okc s = false) : Calls Tryd.prog 26 #[.string s] w fun e w' =>
    ∃ r, e = .returned (.tuple #[.string r, .bool false]) ∧ Below w.heap.size w w' := by
  refine (lclean_any s w hE).mono ?_
  rintro e w' ⟨r, rfl, _, hb⟩
  exact ⟨r, by rw [h], hb⟩
/-- a text that is taken: its path, of clean parts -/
theorem lclean_ok (s : ByteArray) (w : World) (hE : Env w) (h : okc s = true) : Calls Tryd.prog 26 #[.string s] w fun e w' =>
    ∃ r L, e = .returned (.tuple #[.string r, .bool true]) ∧ bl r = join L ∧ G L ∧ tot L ≤ 1001 ∧ Below w.heap.size w w' := by
  refine (lclean_any s w hE).mono ?_
  rintro e w' ⟨r, rfl, hr, hb⟩
  rw [h]
  unfold okc at h
  simp only [Bool.and_eq_true, decide_eq_true_eq] at h
  obtain ⟨h1, h2⟩ := h
  have hg := clean_good (l := bl s) (L := (clean (bl s)).1) (by rw [← h1])
  rw [bl_size] at hg
  exact ⟨r, _, rfl, hr, hg.1, by have := hg.2; omega, hb⟩
theorem size_of_join {r : ByteArray} {L : List (List UInt8)} (h : bl r = join L) : r.size ≤ tot L := by
  rw [← bl_size, h]; exact join_length_le L
theorem G_two {L : List (List UInt8)} (h : G L) : 2 * L.length ≤ tot L := by
  induction L with
  | nil => simp
  | cons p L ih =>
    have := ih (fun q hq => h q (by simp [hq]))
    have hp := List.length_pos_iff.2 (h p (by simp)).ne
    rw [tot_cons, List.length_cons]; omega
theorem bch {a b c : World} (h : Below a.heap.size a b) (k : Below b.heap.size b c) : Below a.heap.size a c := h.trans (k.mono h.size)
theorem bl_append (a b : ByteArray) : bl (a ++ b) = bl a ++ bl b := by
  show (a ++ b).data.toList = _
  rw [ByteArray.data_append, Array.toList_append]
theorem beq_bl {r s : ByteArray} (h : bl r = bl s) : (r.toList == s.toList) = true := by rw [bl_inj h]; simp
theorem beq_str {r s : ByteArray} (h : r = s) : (r.toList == s.toList) = true := by rw [h]; simp

end Go.Proofs.YtmdcplpaejenbaaDoor

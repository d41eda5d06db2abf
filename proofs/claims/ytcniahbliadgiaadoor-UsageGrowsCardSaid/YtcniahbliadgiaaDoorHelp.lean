/-
  What every walk of a tree's seat shares: small laws over texts and paths, taken out of the seat of layers 10 and 11.
-/
import Derived.Test.YtcniahbliadgiaaDoorWalkB
namespace Go.Proofs.YtcniahbliadgiaaDoor
open Go.RowKit
open Go.Proofs.PnKit Go.Proofs.PnPath

theorem bls_nil {L : List ByteArray} : bls L = [] ↔ L = [] := by simp
theorem bls_length (L : List ByteArray) : (bls L).length = L.length := by simp
theorem tot_dropLast_le (L : List (List UInt8)) : tot L.dropLast ≤ tot L := by
  rcases L.eq_nil_or_concat with rfl | ⟨M, p, rfl⟩
  · simp
  · rw [List.concat_eq_append, List.dropLast_concat, tot_append]; omega
theorem bls_dropLast (L : List ByteArray) : bls L.dropLast = (bls L).dropLast := by simp [List.map_dropLast]
theorem bls_snoc (L : List ByteArray) (x : ByteArray) : bls (L ++ [x]) = bls L ++ [bl x] := by simp
theorem tot_parts (l : List UInt8) : tot (parts l) ≤ l.length + 1 := by
  unfold parts
  split
  · simp [tot]
  · rw [tot_msplit]; exact Nat.le_refl _
theorem parts_bound {L : List ByteArray} {s : ByteArray} (h : bls L = parts (bl s)) : tot (bls L) ≤ s.size + 1 ∧ L.length ≤ s.size + 1 := by
  have h1 := length_le_tot (bls L)
  rw [bls_length] at h1
  have h2 := tot_parts (bl s)
  rw [bl_size, ← h] at h2
  omega
theorem str_of {r : ByteArray} {l : List UInt8} (h : bl r = l) : r = ⟨l.toArray⟩ := bl_inj (by rw [h])
theorem clean_size {s : ByteArray} {L : List ByteArray} {code : Int} (h : clean (bl s) = (bls L, code)) : tot (bls L) ≤ 5000 := by
  by_cases h0 : code = 0
  · subst h0
    have h1 := (clean_good h).2
    have h2 : sound (bl s) = 0 := by
      unfold clean at h
      split at h
      · rename_i hh
        simp only [Prod.mk.injEq] at h
        exact absurd h.2 hh
      · rename_i hh; exact Decidable.not_not.1 hh
    have h3 := (sound_ok h2).2.1
    omega
  · have := clean_err (l := bl s) (by rw [h]; exact h0)
    rw [h] at this
    have h2 : bls L = [] := this
    rw [h2]; decide
theorem size_of_join {r : ByteArray} {L : List (List UInt8)} (h : bl r = join L) : r.size ≤ tot L := by
  rw [← bl_size, h]; exact join_length_le L
theorem G_two {L : List (List UInt8)} (h : G L) : 2 * L.length ≤ tot L := by
  induction L with
  | nil => simp
  | cons p L ih =>
    have := ih (fun q hq => h q (by simp [hq]))
    have hp := List.length_pos_iff.2 (h p (by simp)).ne
    rw [tot_cons, List.length_cons]; omega
theorem bch {a b c : World} (h : Below a.heap.size a b) (k : Below b.heap.size b c) : Below a.heap.size a c := h.trans (k.mono h.size)
theorem bl_append (a b : ByteArray) : bl (a ++ b) = bl a ++ bl b := by
  show (a ++ b).data.toList = _
  rw [ByteArray.data_append, Array.toList_append]
theorem beq_bl {r s : ByteArray} (h : bl r = bl s) : (r.toList == s.toList) = true := by rw [bl_inj h]; simp
theorem beq_str {r s : ByteArray} (h : r = s) : (r.toList == s.toList) = true := by rw [h]; simp

end Go.Proofs.YtcniahbliadgiaaDoor

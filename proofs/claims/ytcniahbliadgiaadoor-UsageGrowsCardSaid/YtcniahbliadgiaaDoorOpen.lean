/-
  Opening a slice of strings into Rd.
-/
import Derived.Test.YtcniahbliadgiaaDoorRowKit
import Derived.SliceStrings
import Derived.Carry
namespace Go.Proofs.YtcniahbliadgiaaDoor
open Go.ChangeShapes Go.WideShapes Go.ChangeAt Go.RowKit
open Go.Proofs.PnKit Go.Proofs.PnPath

theorem laidOut : laidOutB Tryd.prog = true := by kernel_rfl

theorem open_rd {H : Type} {enc : TypeId × Value → H} {P : Program} {W : World} {t e : TypeId} {v : Value} {d : DataW H} {p : List MemPlace} {r : Reach} {b0 : Nat} (ht : P.underlying t = some (.slice e)) (he : P.underlying e = some .string) (hc : P.cellsOf e = 1)
    (hv : Value.okWide P W r b0 t v) (h : DataW.Trod enc P W 0 (fun _ => true) true t v d p) : ∃ A c L, v = .slice A (List.length L) c ∧ Rd W A c L := by
  obtain ⟨A, len, cap, rfl⟩ := okWide_slice ht hv
  obtain ⟨fuel, hf⟩ := h
  rcases open_strings ht he hc hf with ⟨hcs, hx⟩ | ⟨a, len', cap', ss, hcs, _, hl, hm, hz, hx, hcell, hsz⟩
  · simp [Value.cells] at hcs
    obtain ⟨rfl, rfl, rfl⟩ := hcs
    exact ⟨none, 0, [], rfl, Rd.nil W⟩
  · simp [Value.cells] at hcs
    obtain ⟨rfl, rfl, rfl⟩ := hcs
    simp only [if_true] at hz
    refine ⟨some a, cap, ss.take len, by rw [List.length_take, Nat.min_eq_left (by omega)], ⟨by rw [List.length_take]; omega, (fun h => by cases h), ?_⟩⟩
    intro j x hj
    have hj2 : j < len := by
      have := (List.getElem?_eq_some_iff.1 hj).1
      rw [List.length_take] at this; omega
    obtain ⟨b, o, sp⟩ := a
    have h0 := hcell 0 (by omega)
    have hspot : sp = none := by simpa [Addr.add] using World.cell?_spot h0
    subst hspot
    have hjc := hcell j (by omega)
    rw [add_at] at hjc
    refine ⟨b, o, rfl, World.block_lt_of_cell? _ _ hjc, ?_⟩
    rw [hjc]
    rw [List.getElem?_take_of_lt hj2] at hj
    rw [List.getD_eq_getElem?_getD, hj]; rfl

end Go.Proofs.YtcniahbliadgiaaDoor

/-
  usage.again: a set of numbers, kept in a map of Booleans.
-/
import Derived.Test.YtcniahbliadgiaaDoorTreeG
import Derived.Maps.Own
import Derived.Maps.Views
namespace Go.Proofs.YtcniahbliadgiaaDoor
open Go.RowKit
open Go.Proofs.PnKit Go.Proofs.PnPath

/-- the map's block holds these numbers, each with 'true' -/
def Seen (w : World) (g n : Nat) (ids : List Int) : Prop :=
  ∃ D : DataW Unit, w.ownsMap Tryd.prog 3 (plainElem Tryd.prog 4) g n D ∧ Maps.IsMap D ∧ ∀ j : Int, D.atKey (.int .i64 j) (.lit (.bool false)) = .lit (.bool (decide (j ∈ ids)))

theorem seen_made (w : World) : Seen (w.alloc (.map #[] 0)) w.heap.size 0 [] := ⟨.map [], World.ownsMap_made w _ _ _, ⟨[], rfl⟩, fun _ => rfl⟩

theorem Seen.block {w w' : World} {g n : Nat} {ids : List Int} (h : Seen w g n ids) (e : w'.heap[g]? = w.heap[g]?) : Seen w' g n ids := by
  obtain ⟨D, ⟨es, clock, h1, h2⟩, h3⟩ := h
  exact ⟨D, ⟨es, clock, e.trans h1, h2⟩, h3⟩
theorem Seen.lt {w : World} {g n : Nat} {ids : List Int} (h : Seen w g n ids) : g < w.heap.size := by
  obtain ⟨D, ⟨es, clock, h1, _⟩, _⟩ := h
  exact (Array.getElem?_eq_some_iff.1 h1).1
theorem intKeyed : Maps.Keyed Tryd.prog 3 := Maps.int_keyed Tryd.underlying3

set_option maxRecDepth 100000 in
set_option maxHeartbeats 400000 in
theorem again_any (g n : Nat) (ids : List Int) (k : Int) (hk : (Lit.int .i64 k).wf = true) (w : World) (hS : Seen w g n ids) (hn : n < maxLen) :
    Calls Tryd.prog 39 #[.map (some g), .int .i64 k] w fun e w' => e = .returned (.bool (decide (k ∈ ids))) ∧ Seen w' g (n + 1) (k :: ids) ∧ w.grownBy w' (some g) := by
  obtain ⟨D, hown, hmap, hat⟩ := hS
  have hkey : keyOf Tryd.prog 3 (.int .i64 k) = some (.int .i64 k) := Maps.keyOf_int_mk Tryd.underlying3 hk
  have hz : (zeroValue 4).run Tryd.prog w = .ok (.bool false) w := by kernel_rfl
  obtain ⟨v, ps, hrun, hv⟩ := hown.lookup intKeyed Tryd.underlying84 hz (plainElem_bool Tryd.underlying4 false) hkey
  rw [hat k] at hv
  obtain rfl : v = .bool (decide (k ∈ ids)) := by
    unfold plainElem at hv
    rw [Tryd.underlying4] at hv
    cases v <;> simp at hv
    rw [hv.1]
  have HO := Lib.hid hown
  have HM := Lib.hid hmap
  have HA := Lib.hid hat
  have HK := Lib.hid hkey
  clear hown hmap hat hkey hv hz
  go_enter Tryd.func39, Tryd.ntmps39
  go_wp2_with (at_mapUpdate; refine wpList_mapUpdate_own _ rfl _ _ _ 84 rfl 3 4 intKeyed Tryd.underlying84 (plainElem Tryd.prog 4) g n D rfl HO.out hn _ _ (.int .i64 k) rfl rfl HK.out (.lit (.bool true)) [] (plainElem_bool Tryd.underlying4 true) ?_)
  intro w1 hown1 hgrow1
  go_wp2
  go_ret
  refine ⟨rfl, ⟨_, hown1, ?_, ?_⟩, hgrow1⟩
  · obtain ⟨es, rfl⟩ := HM.out
    exact ⟨_, rfl⟩
  · intro j
    by_cases hj : j = k
    · subst hj
      rw [Maps.atKey_put_same HM.out (intKeyed.key HK.out)]
      simp
    · rw [Maps.atKey_put_other (by intro h; injection h with _ h; exact hj h), HA.out j]
      simp [hj]

end Go.Proofs.YtcniahbliadgiaaDoor

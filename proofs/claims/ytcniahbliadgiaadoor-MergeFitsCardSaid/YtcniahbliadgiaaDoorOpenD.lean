/-
  Opening slices of things as they come in (layer 17).
-/
import Derived.Test.YtcniahbliadgiaaDoorOpenB
import Derived.Test.YtcniahbliadgiaaDoorPlantM
namespace Go.Proofs.YtcniahbliadgiaaDoor
open Go.ChangeShapes Go.WideShapes Go.ChangeAt Go.RowKit Go.Deep
open Go.Proofs.PnKit Go.Proofs.PnPath

section
variable {H : Type} {enc : TypeId × Value → H} {W : World}
def oqKinds : List Kd := [.num, .num, .str, .str]
theorem oq_fields : ∃ f0 f1 f2 f3 : Field, Tryd.prog.underlying 95 = some (.struct #[f0, f1, f2, f3]) ∧ oneCellFields Tryd.prog #[f0, f1, f2, f3] = true ∧ f0.type = 3 ∧ f1.type = 3 ∧ f2.type = 9 ∧ f3.type = 9 :=
  ⟨_, _, _, _, Tryd.underlying95, by kernel_rfl, rfl, rfl, rfl, rfl⟩
theorem oq_ok {f0 f1 f2 f3 : Field} (h0 : f0.type = 3) (h1 : f1.type = 3) (h2 : f2.type = 9) (h3 : f3.type = 9) : ∀ (j : Nat) (f : Field) (k : Kd), #[f0, f1, f2, f3][j]? = some f → oqKinds[j]? = some k → k.ok Tryd.prog f.type
  | 0, f, k, hf, hk => by simp [oqKinds] at hf hk; subst hf hk; show Tryd.prog.underlying _ = _; rw [h0]; exact Tryd.underlying3
  | 1, f, k, hf, hk => by simp [oqKinds] at hf hk; subst hf hk; show Tryd.prog.underlying _ = _; rw [h1]; exact Tryd.underlying3
  | 2, f, k, hf, hk => by simp [oqKinds] at hf hk; subst hf hk; show Tryd.prog.underlying _ = _; rw [h2]; exact Tryd.underlying9
  | 3, f, k, hf, hk => by simp [oqKinds] at hf hk; subst hf hk; show Tryd.prog.underlying _ = _; rw [h3]; exact Tryd.underlying9
  | j + 4, f, k, hf, _ => by simp at hf
set_option maxRecDepth 100000 in
theorem open_ops {v : Value} {d : DataW H} {p : List MemPlace} {r : Reach} {b0 : Nat} (hv : Value.okWide Tryd.prog W r b0 61 v) (h : DataW.Trod enc Tryd.prog W 0 (fun _ => true) true 61 v d p) :
    ∃ A c L, v = .slice A (List.length L) c ∧ RQ W A c L := by
  obtain ⟨f0, f1, f2, f3, hs, hone, h0, h1, h2, h3⟩ := oq_fields
  obtain ⟨A, len, cap, rfl, hl, hnil, hi⟩ := open_structs Tryd.underlying61 hs hone (by kernel_rfl) (ks := oqKinds) rfl (oq_ok h0 h1 h2 h3) (by decide) hv h
  have each : ∀ i, i < len → ∃ x : Oq, ∃ b o, A = some ⟨b, o, none⟩ ∧ b < W.heap.size ∧ W.cell? ⟨b, o + i * 4, none⟩ = some (.int .i64 x.thing) ∧ W.cell? ⟨b, o + i * 4 + 1, none⟩ = some (.int .i64 x.mark) ∧ W.cell? ⟨b, o + i * 4 + 2, none⟩ = some (.string x.path) ∧ W.cell? ⟨b, o + i * 4 + 3, none⟩ = some (.string x.dest) := fun i him => by
    obtain ⟨b, o, e, hb, hc⟩ := hi i him
    obtain ⟨_, c0, s0, rfl, _⟩ := hc 0 .num rfl
    obtain ⟨_, c1, s1, rfl, _⟩ := hc 1 .num rfl
    obtain ⟨_, c2, n2, rfl⟩ := hc 2 .str rfl
    obtain ⟨_, c3, n3, rfl⟩ := hc 3 .str rfl
    exact ⟨⟨s0, s1, n2, n3⟩, b, o, e, hb, c0, c1, c2, c3⟩
  have hL : ∃ L : List Oq, L.length = len ∧ ∀ (i : Nat) (x : Oq), L[i]? = some x → ∃ b o, A = some ⟨b, o, none⟩ ∧ b < W.heap.size ∧ W.cell? ⟨b, o + i * 4, none⟩ = some (.int .i64 x.thing) ∧ W.cell? ⟨b, o + i * 4 + 1, none⟩ = some (.int .i64 x.mark) ∧ W.cell? ⟨b, o + i * 4 + 2, none⟩ = some (.string x.path) ∧ W.cell? ⟨b, o + i * 4 + 3, none⟩ = some (.string x.dest) := by
    have step : ∀ n, n ≤ len → ∃ L : List Oq, L.length = n ∧ ∀ (i : Nat) (x : Oq), L[i]? = some x → ∃ b o, A = some ⟨b, o, none⟩ ∧ b < W.heap.size ∧ W.cell? ⟨b, o + i * 4, none⟩ = some (.int .i64 x.thing) ∧ W.cell? ⟨b, o + i * 4 + 1, none⟩ = some (.int .i64 x.mark) ∧ W.cell? ⟨b, o + i * 4 + 2, none⟩ = some (.string x.path) ∧ W.cell? ⟨b, o + i * 4 + 3, none⟩ = some (.string x.dest) := by
      intro n
      induction n with
      | zero => exact fun _ => ⟨[], rfl, fun i x hx => by simp at hx⟩
      | succ n ih =>
        intro hn
        obtain ⟨L, hl, hc⟩ := ih (by omega)
        obtain ⟨x, hx⟩ := each n (by omega)
        refine ⟨L ++ [x], by simp [hl], fun i y hy => ?_⟩
        rcases Nat.lt_or_ge i n with h | h
        · rw [List.getElem?_append_left (by omega)] at hy; exact hc i y hy
        · have hin : i < (L ++ [x]).length := (List.getElem?_eq_some_iff.1 hy).1
          simp [hl] at hin
          obtain rfl : i = n := by omega
          rw [List.getElem?_append_right (by omega), hl, Nat.sub_self] at hy
          simp at hy; subst hy; exact hx
    exact step len (Nat.le_refl _)
  obtain ⟨L, hl2, hc⟩ := hL
  exact ⟨A, cap, L, by rw [hl2], ⟨by omega, hnil, hc⟩⟩
end
end Go.Proofs.YtcniahbliadgiaaDoor

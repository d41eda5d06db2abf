/-
  Opening things, and slices of things, as they come in (layer 14).
-/
import Derived.Test.YtcniahbliadgiaaDoorOpenB
import Derived.Test.YtcniahbliadgiaaDoorPlant
namespace Go.Proofs.YtcniahbliadgiaaDoor
open Go.ChangeShapes Go.WideShapes Go.ChangeAt Go.RowKit Go.Deep
open Go.Proofs.PnKit Go.Proofs.PnPath

section
variable {H : Type} {enc : TypeId × Value → H} {W : World}
def tgKinds : List Kd := [.str, .str, .num, .num]
theorem tg_fields : ∃ f0 f1 f2 f3 : Field, Tryd.prog.underlying 49 = some (.struct #[f0, f1, f2, f3]) ∧ oneCellFields Tryd.prog #[f0, f1, f2, f3] = true ∧ f0.type = 9 ∧ f1.type = 9 ∧ f2.type = 3 ∧ f3.type = 3 :=
  ⟨_, _, _, _, Tryd.underlying49, by kernel_rfl, rfl, rfl, rfl, rfl⟩
theorem tg_ok {f0 f1 f2 f3 : Field} (h0 : f0.type = 9) (h1 : f1.type = 9) (h2 : f2.type = 3) (h3 : f3.type = 3) : ∀ (j : Nat) (f : Field) (k : Kd), #[f0, f1, f2, f3][j]? = some f → tgKinds[j]? = some k → k.ok Tryd.prog f.type
  | 0, f, k, hf, hk => by simp [tgKinds] at hf hk; subst hf hk; show Tryd.prog.underlying _ = _; rw [h0]; exact Tryd.underlying9
  | 1, f, k, hf, hk => by simp [tgKinds] at hf hk; subst hf hk; show Tryd.prog.underlying _ = _; rw [h1]; exact Tryd.underlying9
  | 2, f, k, hf, hk => by simp [tgKinds] at hf hk; subst hf hk; show Tryd.prog.underlying _ = _; rw [h2]; exact Tryd.underlying3
  | 3, f, k, hf, hk => by simp [tgKinds] at hf hk; subst hf hk; show Tryd.prog.underlying _ = _; rw [h3]; exact Tryd.underlying3
  | j + 4, f, k, hf, _ => by simp at hf
set_option maxRecDepth 100000 in
theorem open_tgs {v : Value} {d : DataW H} {p : List MemPlace} {r : Reach} {b0 : Nat} (hv : Value.okWide Tryd.prog W r b0 32 v) (h : DataW.Trod enc Tryd.prog W 0 (fun _ => true) true 32 v d p) :
    ∃ A c L, v = .slice A (List.length L) c ∧ Rg W A c L := by
  obtain ⟨f0, f1, f2, f3, hs, hone, h0, h1, h2, h3⟩ := tg_fields
  obtain ⟨A, len, cap, rfl, hl, hnil, hi⟩ := open_structs Tryd.underlying32 hs hone (by kernel_rfl) (ks := tgKinds) rfl (tg_ok h0 h1 h2 h3) (by decide) hv h
  have each : ∀ i, i < len → ∃ x : Tg, ∃ b o, A = some ⟨b, o, none⟩ ∧ b < W.heap.size ∧ W.cell? ⟨b, o + i * 4, none⟩ = some (.string x.path) ∧ W.cell? ⟨b, o + i * 4 + 1, none⟩ = some (.string x.dest) ∧ W.cell? ⟨b, o + i * 4 + 2, none⟩ = some (.int .i64 x.kind) ∧ W.cell? ⟨b, o + i * 4 + 3, none⟩ = some (.int .i64 x.size) := fun i him => by
    obtain ⟨b, o, e, hb, hc⟩ := hi i him
    obtain ⟨_, c0, s0, rfl⟩ := hc 0 .str rfl
    obtain ⟨_, c1, s1, rfl⟩ := hc 1 .str rfl
    obtain ⟨_, c2, n2, rfl, _⟩ := hc 2 .num rfl
    obtain ⟨_, c3, n3, rfl, _⟩ := hc 3 .num rfl
    exact ⟨⟨s0, s1, n2, n3⟩, b, o, e, hb, c0, c1, c2, c3⟩
  have hL : ∃ L : List Tg, L.length = len ∧ ∀ (i : Nat) (x : Tg), L[i]? = some x → ∃ b o, A = some ⟨b, o, none⟩ ∧ b < W.heap.size ∧ W.cell? ⟨b, o + i * 4, none⟩ = some (.string x.path) ∧ W.cell? ⟨b, o + i * 4 + 1, none⟩ = some (.string x.dest) ∧ W.cell? ⟨b, o + i * 4 + 2, none⟩ = some (.int .i64 x.kind) ∧ W.cell? ⟨b, o + i * 4 + 3, none⟩ = some (.int .i64 x.size) := by
    have step : ∀ n, n ≤ len → ∃ L : List Tg, L.length = n ∧ ∀ (i : Nat) (x : Tg), L[i]? = some x → ∃ b o, A = some ⟨b, o, none⟩ ∧ b < W.heap.size ∧ W.cell? ⟨b, o + i * 4, none⟩ = some (.string x.path) ∧ W.cell? ⟨b, o + i * 4 + 1, none⟩ = some (.string x.dest) ∧ W.cell? ⟨b, o + i * 4 + 2, none⟩ = some (.int .i64 x.kind) ∧ W.cell? ⟨b, o + i * 4 + 3, none⟩ = some (.int .i64 x.size) := by
      intro n
      induction n with
      | zero => exact fun _ => ⟨[], rfl, fun i x hx => by simp at hx⟩
      | succ n ih =>
        intro hn
        obtain ⟨L, hl, hc⟩ := ih (by omega)
        obtain ⟨x, hx⟩ := each n (by omega)
        refine ⟨L ++ [x], by simp [hl], fun i y hy => ?_⟩
        rcases Nat.lt_or_ge i n with h | h
        · rw [List.getElem?_append_left (by omega)] at hy; exact hc i y hy
        · have hin : i < (L ++ [x]).length := (List.getElem?_eq_some_iff.1 hy).1
          simp [hl] at hin
          obtain rfl : i = n := by omega
          rw [List.getElem?_append_right (by omega), hl, Nat.sub_self] at hy
          simp at hy; subst hy; exact hx
    exact step len (Nat.le_refl _)
  obtain ⟨L, hl2, hc⟩ := hL
  exact ⟨A, cap, L, by rw [hl2], ⟨by omega, hnil, hc⟩⟩
set_option maxRecDepth 100000 in
theorem open_tg {v : Value} {d : DataW H} {p : List MemPlace} {r : Reach} {b0 : Nat} (hv : Value.okWide Tryd.prog W r b0 49 v) (h : DataW.Trod enc Tryd.prog W 0 (fun _ => true) true 49 v d p) :
    ∃ x : Tg, v = .agg (tgC x).toArray ∧ -9223372036854775808 ≤ x.size ∧ x.size ≤ 9223372036854775807 := by
  obtain ⟨f0, f1, f2, f3, hs, hone, h0, h1, h2, h3⟩ := tg_fields
  obtain ⟨v0, v1, v2, v3, y0, y1, y2, y3, n, rfl, _, _, g0, g1, g2, g3⟩ := Go.Joins.open_agg4 hs hone (by kernel_rfl) hv h
  obtain ⟨s0, rfl⟩ := Kd.read (k := .str) (by show Tryd.prog.underlying _ = _; rw [h0]; exact Tryd.underlying9) g0
  obtain ⟨s1, rfl⟩ := Kd.read (k := .str) (by show Tryd.prog.underlying _ = _; rw [h1]; exact Tryd.underlying9) g1
  obtain ⟨n2, rfl, _⟩ := Kd.read (k := .num) (by show Tryd.prog.underlying _ = _; rw [h2]; exact Tryd.underlying3) g2
  obtain ⟨n3, rfl, hb⟩ := Kd.read (k := .num) (by show Tryd.prog.underlying _ = _; rw [h3]; exact Tryd.underlying3) g3
  exact ⟨⟨s0, s1, n2, n3⟩, rfl, hb⟩
end
end Go.Proofs.YtcniahbliadgiaaDoor

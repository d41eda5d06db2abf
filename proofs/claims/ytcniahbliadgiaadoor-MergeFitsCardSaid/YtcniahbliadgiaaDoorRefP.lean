/-
  The document's own package of layer 13: things as they came; Find. Of layer 10: Join.
  The document's own package of layer 13: with.
  The document's own package of layer 13: parents.
  The document's own package of layer 13: Add.
  The document's own package of layer 13: Link.
-/
import Derived.Test.YtcniahbliadgiaaDoorSplit
import Derived.Test.YtcniahbliadgiaaDoorOverP
import Derived.Deep.LoopGhost
import Derived.WalkSpells
import Derived.OwnWalk
import Derived.Laws.AppendOwnNone
namespace Go.Proofs.YtcniahbliadgiaaDoor
open Go.RowKit
open Go.Proofs.PnKit Go.Proofs.PnPath

/-- a thing as the document's package has it -/
structure Th where
  path : ByteArray
  kind : Int
  mark : Int
  made : Bool
  which : Int
def Th.cells (x : Th) : List Value := [.string x.path, .int .i64 x.kind, .int .i64 x.mark, .bool x.made, .int .i64 x.which]
theorem Th.len (x : Th) : x.cells.length = 5 := rfl

/-- the slice '.slice A n c' reads as these things -/
structure RH (w : World) (A : Option Addr) (c : Nat) (T : List Th) : Prop where
  cap : T.length ≤ c
  nil0 : A = none → c = 0
  cell : ∀ (j : Nat) (x : Th), T[j]? = some x → ∃ b o, A = some ⟨b, o, none⟩ ∧ b < w.heap.size ∧ ∀ (i : Nat) (v : Value), x.cells[i]? = some v → w.cell? ⟨b, o + j * 5 + i, none⟩ = some v
theorem RH.nil (w : World) : RH w none 0 [] := ⟨Nat.zero_le _, fun _ => rfl, fun j x h => by simp at h⟩
theorem RH.below {w w' : World} {A : Option Addr} {c : Nat} {T : List Th} (h : RH w A c T) (hb : Below w.heap.size w w') : RH w' A c T :=
  ⟨h.cap, h.nil0, fun j x hx => by
    obtain ⟨b, o, e, hlt, hc⟩ := h.cell j x hx
    have := hb.size
    exact ⟨b, o, e, by omega, fun i v hi => (hb.cell (p := ⟨b, _, none⟩) hlt).trans (hc i v hi)⟩⟩
theorem RH.alloc {w : World} {A : Option Addr} {c : Nat} {T : List Th} (h : RH w A c T) (o : Obj) : RH (w.alloc o) A c T := h.below ((Below.refl _ _).alloc (Nat.le_refl _) o)
theorem RH.pos {w : World} {A : Option Addr} {c : Nat} {T : List Th} (h : RH w A c T) (hl : 0 < T.length) : ∃ b o, A = some ⟨b, o, none⟩ ∧ b < w.heap.size := by
  obtain ⟨b, o, e, hb, _⟩ := h.cell 0 (T[0]'hl) (List.getElem?_eq_getElem hl)
  exact ⟨b, o, e, hb⟩
theorem RH.row {w : World} {b o c : Nat} {T : List Th} (h : RH w (some ⟨b, o, none⟩) c T) {j : Nat} {x : Th} (hj : T[j]? = some x) {i : Nat} {v : Value} (hi : x.cells[i]? = some v) : w.cell? ⟨b, o + j * 5 + i, none⟩ = some v := by
  obtain ⟨b', o', e, _, hc⟩ := h.cell j x hj
  simp only [Option.some.injEq, Addr.mk.injEq, and_true] at e
  obtain ⟨rfl, rfl⟩ := e
  exact hc i v hi
theorem RH.cells {w : World} {b o c : Nat} {T : List Th} (h : RH w (some ⟨b, o, none⟩) c T) {j : Nat} {path : ByteArray} {kind mark which : Int} {made : Bool} (hj : T[j]? = some ⟨path, kind, mark, made, which⟩) :
    w.cell? ⟨b, o + j * 5, none⟩ = some (.string path) ∧ w.cell? ⟨b, o + j * 5 + 1, none⟩ = some (.int .i64 kind) ∧ w.cell? ⟨b, o + j * 5 + 2, none⟩ = some (.int .i64 mark) ∧ w.cell? ⟨b, o + j * 5 + 3, none⟩ = some (.bool made) ∧ w.cell? ⟨b, o + j * 5 + 4, none⟩ = some (.int .i64 which) :=
  ⟨h.row hj (i := 0) rfl, h.row hj (i := 1) rfl, h.row hj (i := 2) rfl, h.row hj (i := 3) rfl, h.row hj (i := 4) rfl⟩
/-- things don't lie in a block that holds no text -/
theorem RH.setOther {w : World} {A : Option Addr} {c : Nat} {T : List Th} (h : RH w A c T) {g : Nat} {cs0 : Array Value} {t : TypeId} (hg : w.heap[g]? = some (.cells cs0 t (0, 0))) (hno : ∀ (j : Nat) (s : ByteArray), cs0[j]? ≠ some (.string s)) (cs : Array Value) : RH (w.setRow g cs) A c T := by
  refine ⟨h.cap, h.nil0, fun j x hx => ?_⟩
  obtain ⟨b, o, e, hb, hc⟩ := h.cell j x hx
  have hbg : b ≠ g := by
    rintro rfl
    have h1 := hc 0 (.string x.path) rfl
    have h2 : w.cell? ⟨b, o + j * 5 + 0, none⟩ = cs0[o + j * 5 + 0]? := cell_of_row _ _ _ _ _ _ hg
    rw [h2] at h1
    exact hno _ _ h1
  exact ⟨b, o, e, by rw [setRow_size]; exact hb, fun i v hi => (World.cell?_of_block (heap_setRow_ne w g b cs hbg)).trans (hc i v hi)⟩

/-- the place of a path's thing -/
def fnd : List Th → ByteArray → Option Nat
  | [], _ => none
  | x :: T, s => if x.path = s then some 0 else (fnd T s).map (· + 1)
def fndV (T : List Th) (s : ByteArray) : Int := match fnd T s with | some k => k | none => -1
theorem fnd_at {s : ByteArray} : ∀ {T : List Th} {k : Nat} {x : Th}, T[k]? = some x → x.path = s → (∀ j y, j < k → T[j]? = some y → y.path ≠ s) → fnd T s = some k
  | [], k, x, h, _, _ => by simp at h
  | y :: T, 0, x, h, hx, _ => by
    simp at h; subst h
    rw [fnd, if_pos hx]
  | y :: T, k + 1, x, h, hx, hno => by
    rw [fnd, if_neg (hno 0 y (by omega) rfl), fnd_at (k := k) (by simpa using h) hx (fun j z hj hz => hno (j + 1) z (by omega) (by simpa using hz))]; rfl
theorem fnd_no {s : ByteArray} : ∀ {T : List Th}, fnd T s = none ↔ ∀ x ∈ T, x.path ≠ s
  | [] => by simp [fnd]
  | y :: T => by
    rw [fnd]
    by_cases h : y.path = s
    · rw [if_pos h]; simp [h]
    · rw [if_neg h, Option.map_eq_none_iff, fnd_no]; simp [h]
theorem fnd_some {s : ByteArray} : ∀ {T : List Th} {k : Nat}, fnd T s = some k → ∃ x, T[k]? = some x ∧ x.path = s
  | [], k, h => by simp [fnd] at h
  | y :: T, k, h => by
    rw [fnd] at h
    by_cases hy : y.path = s
    · rw [if_pos hy] at h
      simp at h; subst h
      exact ⟨y, rfl, hy⟩
    · rw [if_neg hy] at h
      obtain ⟨j, hj, rfl⟩ := Option.map_eq_some_iff.1 h
      obtain ⟨x, hx, hp⟩ := fnd_some hj
      exact ⟨x, by simpa using hx, hp⟩
theorem str_beq {x s : ByteArray} : (x.toList == s.toList) = decide (x = s) := by
  by_cases h : x = s
  · subst h; simp
  · rw [decide_eq_false h]
    have : ¬ x.toList = s.toList := fun e => h (by
      rw [ByteArray.toList_eq, ByteArray.toList_eq] at e
      exact bl_inj e)
    simpa using this

set_option maxRecDepth 100000 in
set_option maxHeartbeats 1000000 in
theorem find_any (A : Option Addr) (c : Nat) (T : List Th) (n : Int) (s : ByteArray) (w : World) (hR : RH w A c T) (hl : T.length ≤ 100000) :
    Calls Tryd.prog 30 #[.agg #[.slice A (List.length T) c, .int .i64 n], .string s] w fun e w' => e = .returned (.int .i64 (fndV T s)) ∧ Below w.heap.size w w' := by
  have HR := Lib.hid hR
  clear hR
  go_enter Tryd.func30, Tryd.ntmps30
  go_wp2_with fail
  go_loopg [5] T.length (fun g i wr => ∃ k : Nat, g = T.length - k ∧ i = .int .i64 k ∧ k ≤ T.length ∧ Hid (∀ j y, j < k → T[j]? = some y → y.path ≠ s) ∧ wr = w.alloc (.cells #[.slice A (List.length T) c, .int .i64 n] 64))
  case atStart => exact ⟨0, rfl, rfl, Nat.zero_le _, Lib.hid (fun j y hj => by omega), rfl⟩
  case round =>
    obtain ⟨k, rfl, rfl, hk, HNO, rfl⟩ := hrel
    by_cases hlt : k < T.length
    case neg =>
      have HV : Hid (fndV T s = -1) := Lib.hid (by
        unfold fndV
        rw [fnd_no.2 fun x hx => ?_]
        obtain ⟨j, hj⟩ := List.mem_iff_getElem?.1 hx
        exact HNO.out j x (by have := (List.getElem?_eq_some_iff.1 hj).1; omega) hj)
      go_wp2_with fail
      go_ret
      exact ⟨by rw [HV.out]; rfl, (Below.refl _ _).alloc (Nat.le_refl _) _⟩
    have hx : T[k]? = some T[k] := List.getElem?_eq_getElem hlt
    generalize T[k] = x at hx
    obtain ⟨path, kind, mark, made, which⟩ := x
    obtain ⟨b, o, rfl, hbw⟩ := HR.out.pos (by omega)
    obtain ⟨q0, q1, q2, q3, q4⟩ := (HR.out.alloc (.cells #[.slice (some ⟨b, o, none⟩) (List.length T) c, .int .i64 n] 64)).cells hx
    have HX := Lib.hid hx
    clear hx q1 q2 q3 q4
    by_cases he : path = s
    · have hb : (path.toList == s.toList) = true := by rw [str_beq, decide_eq_true he]
      have HV : Hid (fndV T s = k) := Lib.hid (by unfold fndV; rw [fnd_at HX.out he HNO.out])
      clear he
      go_wp2_with fail
      go_ret
      exact ⟨by rw [HV.out]; rfl, (Below.refl _ _).alloc (Nat.le_refl _) _⟩
    · have hb : (path.toList == s.toList) = false := by rw [str_beq, decide_eq_false he]
      have HN2 : Hid (∀ j y, j < k + 1 → T[j]? = some y → y.path ≠ s) := Lib.hid (fun j y hj hy => by
        rcases Nat.lt_or_ge j k with h | h
        · exact HNO.out j y h hy
        · obtain rfl : j = k := by omega
          rw [HX.out] at hy
          obtain rfl := Option.some.inj hy
          exact he)
      clear he
      go_wp2_with fail
      go_roundg (T.length - (k + 1))
      case measure => omega
      case rel => exact ⟨k + 1, rfl, by go_num, by omega, HN2, rfl⟩

theorem join_snoc (L : List (List UInt8)) (p : List UInt8) : join (L ++ [p]) = (if L = [] then [] else join L ++ [47]) ++ p := by
  by_cases h : L = []
  · subst h; rfl
  · rw [if_neg h, join_append L [p] h (by simp)]; simp [join_one]
theorem bls_take (L : List ByteArray) (k : Nat) : bls (L.take k) = (bls L).take k := by show (L.take k).map bl = (L.map bl).take k; rw [List.map_take]

set_option maxRecDepth 100000 in
set_option maxHeartbeats 1000000 in
theorem rjoin_any (A : Option Addr) (c : Nat) (L : List ByteArray) (w : World) (hR : Rd w A c L) (hl : tot (bls L) ≤ 1000000) :
    Calls Tryd.prog 76 #[.slice A (List.length L) c] w fun e w' => e = .returned (.string (pathOf (bls L))) ∧ w = w' := by
  have HR := Lib.hid hR
  have hll := length_le_tot (bls L)
  rw [bls_length] at hll
  have HT := Lib.hid hl
  clear hR
  go_enter Tryd.func76, Tryd.ntmps76
  go_wp2_with fail
  go_loopg [3, 4] L.length (fun g s i wr => ∃ (k : Nat) (acc : ByteArray), g = L.length - k ∧ s = .string acc ∧ i = .int .i64 k ∧ k ≤ L.length ∧ acc.size ≤ 1000000 ∧ Hid (bl acc = join (bls (L.take k))) ∧ w = wr)
  case atStart => exact ⟨0, ⟨#[]⟩, rfl, rfl, rfl, Nat.zero_le _, Nat.zero_le _, Lib.hid rfl, rfl⟩
  case round =>
    obtain ⟨k, acc, rfl, rfl, rfl, hk, hacc, HACC, rfl⟩ := hrel
    by_cases hlt : k < L.length
    case neg =>
      have HL : Hid (acc = pathOf (bls L)) := Lib.hid (bl_inj (by rw [HACC.out, List.take_of_length_le (by omega)]; rfl))
      go_wp2_with fail
      go_ret
      refine ⟨?_, rfl⟩
      rw [← HL.out]; rfl
    have hx : L[k]? = some L[k] := List.getElem?_eq_getElem hlt
    have htk : L.take (k + 1) = L.take k ++ [L[k]] := List.take_succ_eq_append_getElem hlt
    generalize L[k] = x at hx htk
    obtain ⟨b, o, rfl, hbw, hc⟩ := HR.out.pos (by omega)
    have q0 := hc k x hx
    have hjl : (join (bls (L.take (k + 1)))).length ≤ 1000000 := by
      have h1 := join_length_le (bls (L.take (k + 1)))
      have h2 := HT.out
      have h3 : tot (bls (L.take (k + 1))) ≤ tot (bls L) := by
        have h4 := tot_append (bls (L.take (k + 1))) (bls (L.drop (k + 1)))
        have h5 : bls (L.take (k + 1)) ++ bls (L.drop (k + 1)) = bls L := by show (L.take (k + 1)).map bl ++ (L.drop (k + 1)).map bl = L.map bl; rw [← List.map_append, List.take_append_drop]
        rw [h5] at h4; omega
      omega
    have hsn : bls (L.take (k + 1)) = bls (L.take k) ++ [bl x] := by rw [htk]; show (L.take k ++ [x]).map bl = _; simp [bls]
    rw [hsn, join_snoc] at hjl
    have HSN := Lib.hid hsn
    clear hx htk hc hsn
    by_cases h0 : k = 0
    · subst h0
      have hz : acc = ⟨#[]⟩ := bl_inj (by rw [HACC.out]; rfl)
      subst hz
      have HE : Hid (bl x = join (bls (L.take (0 + 1)))) := Lib.hid (by rw [HSN.out, join_snoc]; rfl)
      have hxs : x.size ≤ 1000000 := by
        rw [← bl_size]
        rw [if_pos (show bls (L.take 0) = [] from rfl), List.nil_append] at hjl
        exact hjl
      have q1 : w.cell? ⟨b, o, none⟩ = some (.string x) := q0
      have hpos : 0 < L.length := hlt
      clear hjl q0 HACC hlt
      go_wp2_with fail
      go_roundg (L.length - (0 + 1))
      case measure => omega
      case rel => exact ⟨0 + 1, x, rfl, by first | rfl | (congr 1; exact bl_inj (by rw [bl_append]; rfl)), by go_num, by omega, hxs, HE, rfl⟩
    · have hne : ¬ bls (L.take k) = [] := fun h => by
        have := congrArg List.length h
        rw [bls_length, List.length_take, List.length_nil] at this
        omega
      rw [if_neg hne, ← HACC.out, List.length_append, List.length_append, bl_size, bl_size] at hjl
      have hxs : acc.size + 1 + x.size ≤ 1000000 := hjl
      have HE : Hid (bl (acc ++ ⟨#[47]⟩ ++ x) = join (bls (L.take (k + 1)))) := Lib.hid (by rw [bl_append, bl_append, HSN.out, join_snoc, if_neg hne, HACC.out])
      have hz : (acc ++ ⟨#[47]⟩ ++ x).size ≤ 1000000 := by rw [← bl_size, bl_append, bl_append, List.length_append, List.length_append, bl_size, bl_size]; exact hxs
      have HZ := Lib.hid hz
      have hk0 : 0 < k := by omega
      have hs1 : (acc ++ ⟨#[47]⟩).size = acc.size + 1 := by rw [← bl_size, bl_append, List.length_append, bl_size]; rfl
      clear hne h0 hjl hz
      go_wp2_with fail
      go_roundg (L.length - (k + 1))
      case measure => omega
      case rel => exact ⟨k + 1, _, rfl, rfl, by go_num, by omega, HZ.out, HE, rfl⟩

end Go.Proofs.YtcniahbliadgiaaDoor

namespace Go.Proofs.YtcniahbliadgiaaDoor
open Go.RowKit
open Go.Proofs.PnKit Go.Proofs.PnPath

/-- things as their cells -/
def flatH (T : List Th) : List Value := T.flatMap Th.cells
theorem flatH_cons (x : Th) (T : List Th) : flatH (x :: T) = x.cells ++ flatH T := rfl
theorem flatH_append (T U : List Th) : flatH (T ++ U) = flatH T ++ flatH U := List.flatMap_append
theorem flatH_snoc (T : List Th) (x : Th) : flatH (T ++ [x]) = flatH T ++ x.cells := by rw [flatH_append]; simp [flatH]
theorem flatH_length : ∀ (T : List Th), (flatH T).length = T.length * 5
  | [] => rfl
  | x :: T => by rw [flatH_cons, List.length_append, flatH_length T, x.len, List.length_cons]; omega
theorem flatH_take : ∀ (T : List Th) (i : Nat), flatH (T.take i) = (flatH T).take (i * 5)
  | [], i => by simp [flatH]
  | x :: T, 0 => by simp [flatH]
  | x :: T, i + 1 => by
    rw [List.take_succ_cons, flatH_cons, flatH_cons, flatH_take T i, List.take_append, x.len, List.take_of_length_le (l := x.cells) (by rw [x.len]; omega), show (i + 1) * 5 - 5 = i * 5 by omega]
theorem flatH_drop : ∀ (T : List Th) (i : Nat), flatH (T.drop i) = (flatH T).drop (i * 5)
  | [], i => by simp [flatH]
  | x :: T, 0 => by simp [flatH]
  | x :: T, i + 1 => by
    have h : x.cells.drop ((i + 1) * 5) = [] := List.drop_eq_nil_of_le (by rw [x.len]; omega)
    rw [List.drop_succ_cons, flatH_cons, flatH_drop T i, List.drop_append, x.len, h, List.nil_append, show (i + 1) * 5 - 5 = i * 5 by omega]
theorem flatH_get (T : List Th) {j i : Nat} {x : Th} (hj : T[j]? = some x) (hi : i < 5) : (flatH T)[j * 5 + i]? = x.cells[i]? := by
  have h2 : flatH (T.drop j) = (flatH T).drop (j * 5) := flatH_drop T j
  have hlt := (List.getElem?_eq_some_iff.1 hj).1
  rw [List.drop_eq_getElem_cons hlt, flatH_cons] at h2
  have h3 : (flatH T)[j * 5 + i]? = ((flatH T).drop (j * 5))[i]? := by rw [List.getElem?_drop]
  rw [h3, ← h2, List.getElem?_append_left (by rw [Th.len]; omega)]
  have : T[j] = x := by rw [List.getElem?_eq_getElem hlt] at hj; exact Option.some.inj hj
  rw [this]
theorem th_one (x : Th) : ∀ u ∈ x.cells, u.oneCell' = true := by
  intro u hu
  simp only [Th.cells, List.mem_cons, List.not_mem_nil, or_false] at hu
  rcases hu with rfl | rfl | rfl | rfl | rfl <;> rfl
theorem flatH_one (T : List Th) : ∀ u ∈ flatH T, u.oneCell' = true := by
  intro u hu
  obtain ⟨r, _, h⟩ := List.mem_flatMap.1 hu
  exact th_one r u h
theorem RH.of_own {w : World} {base : Nat} {e : TypeId} {v : Value} {T : List Th} (h : w.ownsRow base e 5 v T.length (flatH T)) : ∃ A c, v = .slice A T.length c ∧ RH w A c T := by
  rcases h.2 with ⟨rfl, h0⟩ | ⟨g, cap, cur, rfl, hb, hg, hc, hm, hs, ht⟩
  · obtain rfl : T = [] := List.eq_nil_of_length_eq_zero h0
    exact ⟨none, 0, rfl, RH.nil w⟩
  · have hlt : g < w.heap.size := (Array.getElem?_eq_some_iff.1 hg).1
    refine ⟨_, cap, rfl, hc, (fun h => by cases h), fun j x hj => ⟨g, 0, rfl, hlt, fun i v hi => ?_⟩⟩
    have hi5 : i < 5 := by have := (List.getElem?_eq_some_iff.1 hi).1; rwa [x.len] at this
    have h1 := flatH_get T hj hi5
    rw [hi, ← ht, List.getElem?_take] at h1
    split at h1
    · rw [Nat.zero_add]
      have e : w.cell? ⟨g, j * 5 + i, none⟩ = cur[j * 5 + i]? := cell_of_row _ _ _ _ _ _ hg
      rw [e, ← Array.getElem?_toList]; exact h1
    · cases h1
/-- each cell of a slice of things, by its place -/
theorem RH.olds {w : World} {A : Option Addr} {c : Nat} {T : List Th} (h : RH w A c T) : ∀ b, A = some b → ∀ (j : Nat) (u : Value), (flatH T)[j]? = some u → w.cell? (b.add j) = some u := by
  intro b e j u hj
  have hjl : j < T.length * 5 := by have := (List.getElem?_eq_some_iff.1 hj).1; rwa [flatH_length] at this
  have hm : j / 5 < T.length := by omega
  have hx : T[j / 5]? = some T[j / 5] := List.getElem?_eq_getElem hm
  have hi : j % 5 < 5 := Nat.mod_lt _ (by decide)
  have h1 := flatH_get T hx hi
  rw [show j / 5 * 5 + j % 5 = j by omega, hj] at h1
  obtain ⟨b', o', e', _, hc⟩ := h.cell _ _ hx
  rw [e] at e'
  injection e' with e'
  subst e'
  have := hc (j % 5) u h1.symm
  rw [add_at]
  rwa [show o' + j / 5 * 5 + j % 5 = o' + j by omega] at this
theorem own_setH {cur : Array Value} {cap n k : Nat} {T : List Th} {x : Th} (hn : T.length = n) (ht : cur.toList.take (n * 5) = flatH T) (hs : cur.size = cap * 5) (hc : n ≤ cap) (hk : k < n) :
    (cur.toList.take (k * 5) ++ x.cells ++ cur.toList.drop (k * 5 + x.cells.length)).toArray.size = cap * 5 ∧ (cur.toList.take (k * 5) ++ x.cells ++ cur.toList.drop (k * 5 + x.cells.length)).toArray.toList.take (n * 5) = flatH (T.set k x) := by
  have hl : cur.toList.length = cap * 5 := by rw [Array.length_toList, hs]
  constructor
  · rw [List.size_toArray]
    simp only [List.length_append, List.length_take, List.length_drop, hl, x.len]; omega
  · show (cur.toList.take (k * 5) ++ x.cells ++ cur.toList.drop (k * 5 + x.cells.length)).take (n * 5) = _
    have h1 : T.set k x = T.take k ++ x :: T.drop (k + 1) := by
      rw [List.set_eq_take_append_cons_drop, if_pos (by omega)]
    rw [h1, flatH_append, flatH_cons, flatH_take, flatH_drop, ← ht, x.len, List.take_take, List.append_assoc, List.take_append, List.length_take, List.take_append, x.len,
      List.take_of_length_le (l := cur.toList.take (k * 5)) (by rw [List.length_take]; omega), List.take_of_length_le (l := x.cells) (by rw [x.len]; omega)]
    rw [show min (k * 5) (n * 5) = k * 5 by omega]
    congr 2
    rw [List.drop_take, show (k + 1) * 5 = k * 5 + 5 by omega]
    congr 1; omega

theorem info_th : (Tryd.prog.info? 73).map (fun i => (i.zero, i.size, i.bytes)) = some (some (.agg #[.string ⟨#[]⟩, .int .i64 0, .int .i64 0, .bool false, .int .i64 0]), 5, 48) := by kernel_rfl

/-- 'append(out, xs...)' onto a row of the call's own: xs reads as things, nil or not -/
theorem wpList_append_rh {w : World} {ops : Array Oper} {rest : List Oper} {o : Oper} {a : Act} {Q : Exit → Act → World → Prop} (hgd : o.guard = none) (s x : Operand)
    (ho : o.op = .call { callee := .builtin .append, args := #[s, x], argTypes := #[62, 62] })
    (base : Nat) (v : Value) (n : Nat) (xs : List Value) (hs : a.eval s = v) (hown : w.ownsRow base 73 5 v n xs)
    (A : Option Addr) (c : Nat) (T : List Th) (hx : a.eval x = .slice A T.length c) (hR : RH w A c T)
    (hlen : n + T.length ≤ 1000000) (hbase : base ≤ w.heap.size)
    (h : ∀ v' w', w'.ownsRow base 73 5 v' (n + T.length) (xs ++ flatH T) → w.grownBy w' v.ownBlock → wpList Tryd.prog ops Q rest (a.put o.dst v') w') : wpList Tryd.prog ops Q (o :: rest) a w := by
  obtain ⟨i0, hi0, hz0, hz1, hz2⟩ := info_parts info_th
  cases A with
  | none =>
    have h0 : T = [] := by
      rcases Nat.eq_zero_or_pos T.length with h0 | h0
      · exact List.eq_nil_of_length_eq_zero h0
      · obtain ⟨b, o, e', _⟩ := hR.pos h0
        cases e'
    subst h0
    have hc := hR.nil0 rfl
    subst hc
    exact wpList_append_own_none hgd s x 62 ho base 73 i0 5 Tryd.underlying62 hi0 v n xs hs hown hx (h v w (by simpa [flatH] using hown) (World.grownBy.refl w _))
  | some ad =>
    refine wpList_append_own w hgd s x 62 ho base 73 i0 _ 5 48 Tryd.underlying62 hi0 hz0 hz1 hz2 rfl (by decide) v n xs hs hown ad T.length c (flatH T) hx (flatH_length T) (hR.olds ad rfl) (flatH_one T) (by simp only [maxLen]; omega) (by omega) hbase (fun v' w' h1 h2 _ => h v' w' h1 h2)

/-- the things with one more, or one in the place of the one of its path -/
def withV (T : List Th) (x : Th) : List Th := match fnd T x.path with | some k => T.set k x | none => T ++ [x]

theorem th_cells {w : World} {g : Nat} {t : TypeId} {path : ByteArray} {kind mark which : Int} {made : Bool} (h : w.heap[g]? = some (.cells (Th.cells ⟨path, kind, mark, made, which⟩).toArray t (0, 0))) :
    w.cell? ⟨g, 0, none⟩ = some (.string path) ∧ w.cell? ⟨g, 1, none⟩ = some (.int .i64 kind) ∧ w.cell? ⟨g, 2, none⟩ = some (.int .i64 mark) ∧ w.cell? ⟨g, 3, none⟩ = some (.bool made) ∧ w.cell? ⟨g, 4, none⟩ = some (.int .i64 which) :=
  ⟨blk_cell h (j := 0) rfl, blk_cell h (j := 1) rfl, blk_cell h (j := 2) rfl, blk_cell h (j := 3) rfl, blk_cell h (j := 4) rfl⟩
theorem htree_no {A : Option Addr} {n c : Nat} {next : Int} : ∀ (j : Nat) (s : ByteArray), ([.slice A n c, .int .i64 next].toArray : Array Value)[j]? ≠ some (.string s) := tree_no

set_option maxRecDepth 100000 in
set_option maxHeartbeats 2000000 in
theorem with_any (A : Option Addr) (c : Nat) (T : List Th) (n : Int) (path : ByteArray) (kind mark which : Int) (made : Bool) (w : World) (hR : RH w A c T) (hl : T.length ≤ 50000) :
    Calls Tryd.prog 63 #[.agg #[.slice A (List.length T) c, .int .i64 n], .agg #[.string path, .int .i64 kind, .int .i64 mark, .bool made, .int .i64 which]] w fun e w' =>
      ∃ A' c', e = .returned (.agg #[.slice A' (withV T ⟨path, kind, mark, made, which⟩).length c', .int .i64 n]) ∧ RH w' A' c' (withV T ⟨path, kind, mark, made, which⟩) ∧ (∀ a, A' = some a → w.heap.size ≤ a.block) ∧ Below w.heap.size w w' := by
  have HR := Lib.hid hR
  obtain ⟨i0, hi0, hz0, hz1, hz2⟩ := info_parts info_th
  obtain ⟨RES, hRES⟩ : ∃ RES, withV T ⟨path, kind, mark, made, which⟩ = RES := ⟨_, rfl⟩
  rw [hRES]
  have HRES := Lib.hid hRES
  have hal := fun o p q : Obj => (((Below.refl w.heap.size w).alloc (Nat.le_refl _) o).alloc (by simp) p).alloc (by simp; omega) q
  have hal4 := fun o p q r : Obj => (hal o p q).alloc (by simp; omega) r
  have HAL := Lib.hid hal4
  have hown0 : (((((w.alloc (.cells #[.slice A (List.length T) c, .int .i64 n] 64)).alloc (.cells #[.string path, .int .i64 kind, .int .i64 mark, .bool made, .int .i64 which] 73)).alloc (.cells #[.slice none 0 0, .int .i64 0] 64)).alloc (.cells #[] 73))).ownsRow (w.heap.size + 1 + 1 + 1) 73 5 (.slice (some ⟨w.heap.size + 1 + 1 + 1, 0, none⟩) 0 0) 0 [] := by
    refine ⟨rfl, .inr ⟨w.heap.size + 1 + 1 + 1, 0, #[], rfl, Nat.le_refl _, ?_, Nat.le_refl _, Nat.zero_le _, rfl, rfl⟩⟩
    have h := heap_alloc_new (((w.alloc (.cells #[.slice A (List.length T) c, .int .i64 n] 64)).alloc (.cells #[.string path, .int .i64 kind, .int .i64 mark, .bool made, .int .i64 which] 73)).alloc (.cells #[.slice none 0 0, .int .i64 0] 64)) (.cells #[] 73)
    have e : (((w.alloc (.cells #[.slice A (List.length T) c, .int .i64 n] 64)).alloc (.cells #[.string path, .int .i64 kind, .int .i64 mark, .bool made, .int .i64 which] 73)).alloc (.cells #[.slice none 0 0, .int .i64 0] 64)).heap.size = w.heap.size + 1 + 1 + 1 := by simp
    rw [e] at h; exact h
  have HOW := Lib.hid hown0
  clear hR hRES hal hal4 hown0
  go_enter Tryd.func63, Tryd.ntmps63
  go_wp2_with (at_builtin; refine wpList_append_rh rfl _ _ rfl (w.heap.size + 1 + 1 + 1) _ 0 [] rfl HOW.out A c T rfl (HR.out.below (HAL.out _ _ _ _)) (by omega) (by first | (simp; done) | (simp; omega)) ?_)
  intro v1 w1 hown1 hgr1
  have b0 : w1.heap[w.heap.size]? = some (.cells [.slice A (List.length T) c, .int .i64 n].toArray 64 (0, 0)) := by
    rw [hgr1.block _ (by first | (simp; done) | (simp; omega)) (by first | (simp [Value.ownBlock]; done) | (simp [Value.ownBlock]; omega)), Below.heap_alloc _ _ _ (by first | (simp; done) | (simp; omega)), Below.heap_alloc _ _ _ (by first | (simp; done) | (simp; omega)), Below.heap_alloc _ _ _ (by first | (simp; done) | (simp; omega))]
    exact heap_alloc_new w _
  have b1 : w1.heap[w.heap.size + 1]? = some (.cells (Th.cells ⟨path, kind, mark, made, which⟩).toArray 73 (0, 0)) := by
    rw [hgr1.block _ (by first | (simp; done) | (simp; omega)) (by first | (simp [Value.ownBlock]; done) | (simp [Value.ownBlock]; omega)), Below.heap_alloc _ _ _ (by first | (simp; done) | (simp; omega)), Below.heap_alloc _ _ _ (by first | (simp; done) | (simp; omega))]
    exact heap_alloc2_new w _ _
  have b2 : w1.heap[w.heap.size + 1 + 1]? = some (.cells [.slice none 0 0, .int .i64 0].toArray 64 (0, 0)) := by
    rw [hgr1.block _ (by first | (simp; done) | (simp; omega)) (by first | (simp [Value.ownBlock]; done) | (simp [Value.ownBlock]; omega)), Below.heap_alloc _ _ _ (by first | (simp; done) | (simp; omega))]
    have h := heap_alloc_new ((w.alloc (.cells #[.slice A (List.length T) c, .int .i64 n] 64)).alloc (.cells #[.string path, .int .i64 kind, .int .i64 mark, .bool made, .int .i64 which] 73)) (.cells #[.slice none 0 0, .int .i64 0] 64)
    have e : ((w.alloc (.cells #[.slice A (List.length T) c, .int .i64 n] 64)).alloc (.cells #[.string path, .int .i64 kind, .int .i64 mark, .bool made, .int .i64 which] 73)).heap.size = w.heap.size + 1 + 1 := by simp
    rw [e] at h; exact h
  have hB1 : Below w.heap.size w w1 := (HAL.out _ _ _ _).grown hgr1 (by first | (simp; done) | (simp; omega)) (fun j hj => by injection hj with hj; have h3 : w.heap.size + 1 + 1 + 1 = j := hj; omega)
  have c0 := blk_cell b0 (j := 0) rfl
  have c1 := blk_cell b0 (j := 1) rfl
  obtain ⟨z0, z1, z2, z3, z4⟩ := th_cells b1
  have hn2 : w.heap.size + 1 + 1 < w1.heap.size := blk_lt b2
  have B0 := Lib.hid b0
  have B1 := Lib.hid b1
  have B2 := Lib.hid b2
  have HB1 := Lib.hid hB1
  have HO1 := Lib.hid hown1
  clear hgr1 b0 b1 b2 hB1 hown1 HOW HAL
  go_wp2_with fail
  refine (find_any A c T n path _ (HR.out.below HB1.out) (by omega)).mono ?_
  rintro e w2 ⟨rfl, hb2⟩
  have b0 := (hb2.block _ (blk_lt B0.out)).trans B0.out
  have b1 := (hb2.block _ (blk_lt B1.out)).trans B1.out
  have b2 := (hb2.block _ (blk_lt B2.out)).trans B2.out
  have HB2 := Lib.hid (bch HB1.out hb2)
  have hown2 : w2.ownsRow (w.heap.size + 1 + 1 + 1) 73 5 v1 T.length (flatH T) := HO1.out.kept (row := none) ⟨hb2.os, hb2.tape, hb2.output, hb2.size, fun j hj _ => hb2.block j hj⟩ (by rcases h : v1.ownBlock with _ | _ <;> simp)
  have HO2 := Lib.hid hown2
  have hn22 : w.heap.size + 1 + 1 < w2.heap.size := blk_lt b2
  have hn20 : w.heap.size < w2.heap.size := by omega
  have hn21 : w.heap.size + 1 < w2.heap.size := by omega
  clear c0 c1 z0 z1 z2 z3 z4 hb2 hown2 HO1 B0 B1 B2 HB1
  have c0 := blk_cell b0 (j := 0) rfl
  have c1 := blk_cell b0 (j := 1) rfl
  have f0 := blk_frozen b0
  obtain ⟨z0, z1, z2, z3, z4⟩ := th_cells b1
  have d0 := blk_cell b2 (j := 0) rfl
  have d1 := blk_cell b2 (j := 1) rfl
  have f2 := blk_frozen b2
  have B0 := Lib.hid b0
  have B1 := Lib.hid b1
  have B2 := Lib.hid b2
  clear b0 b1 b2
  rcases hf : fnd T path with _ | k
  · have hv : fndV T path = -1 := by unfold fndV; rw [hf]
    have hres : RES = T ++ [⟨path, kind, mark, made, which⟩] := by rw [← HRES.out]; unfold withV; rw [hf]
    have HRE := Lib.hid hres
    obtain ⟨A1, c1', rfl, hcc⟩ := own_form HO2.out
    rw [hv]
    clear hv hf hres
    go_wp2_with (at_builtin; refine wpList_append_own _ rfl _ _ 62 rfl (w.heap.size + 1 + 1 + 1) 73 i0 _ 5 48 Tryd.underlying62 hi0 hz0 hz1 hz2 rfl (by decide) _ T.length (flatH T) rfl (HO2.out.alloc _) ⟨w2.heap.size, 0, none⟩ 1 1 (Th.cells ⟨path, kind, mark, made, which⟩) rfl rfl (World.news_of_block (heap_alloc_new w2 (.cells #[.string path, .int .i64 kind, .int .i64 mark, .bool made, .int .i64 which] 73))) (th_one _) (by simp only [maxLen]; omega) (by omega) (by first | (simp; done) | (simp; omega)) ?_)
    intro v3 w3 hown3 hgr3 _
    have hne : ∀ j, j < w.heap.size + 1 + 1 + 1 → some j ≠ (Value.slice A1 T.length c1').ownBlock := fun j hj e => by
      have := HO2.out.lt j e.symm; omega
    have b0 : w3.heap[w.heap.size]? = _ := (hgr3.block _ (by first | (simp; done) | (simp; omega)) (hne _ (by omega))).trans ((Below.heap_alloc _ _ _ (by omega)).trans B0.out)
    have b2 : w3.heap[w.heap.size + 1 + 1]? = _ := (hgr3.block _ (by first | (simp; done) | (simp; omega)) (hne _ (by omega))).trans ((Below.heap_alloc _ _ _ (by omega)).trans B2.out)
    have HB3 := Lib.hid ((HB2.out.alloc HB2.out.size _).grown hgr3 (by first | (simp; done) | (simp; omega)) (fun j hj => by have := HO2.out.lt j hj; omega))
    rw [← flatH_snoc, show T.length + 1 = (T ++ [(⟨path, kind, mark, made, which⟩ : Th)]).length by simp, ← HRE.out] at hown3
    have HO3 := Lib.hid hown3
    clear c0 c1 z0 z1 z2 z3 z4 d0 d1 f0 f2 hgr3 hown3 hne B0 B1 B2
    have c0 := blk_cell b0 (j := 0) rfl
    have c1 := blk_cell b0 (j := 1) rfl
    have f0 := blk_frozen b0
    have d0 := blk_cell b2 (j := 0) rfl
    have d1 := blk_cell b2 (j := 1) rfl
    have f2 := blk_frozen b2
    have B0 := Lib.hid b0
    have B2 := Lib.hid b2
    clear b0 b2
    obtain ⟨A3, c3, rfl, hc3⟩ := own_form HO3.out
    go_wp2_with fail
    have hX : (w3.setCell ⟨w.heap.size, 0, none⟩ (.slice A3 RES.length c3)).heap[w.heap.size + 1 + 1]? = some (.cells [.slice none 0 0, .int .i64 0].toArray 64 (0, 0)) := (heap_setCell_ne _ (by omega)).trans B2.out
    rw [set2 hX]
    refine bodyPost_ret (results_cell_row rfl _ _ (w.heap.size + 1 + 1) _ #[.slice A3 RES.length c3, .int .i64 n] _ _ rfl (setRow_heap _ _ _ _ _ _ hX) Tryd.underlying64 rfl (by kernel_rfl)) rfl ?_
    have h0 : (w3.setCell ⟨w.heap.size, 0, none⟩ (.slice A3 RES.length c3)).ownsRow (w.heap.size + 1 + 1 + 1) 73 5 (.slice A3 RES.length c3) RES.length (flatH RES) := ownsRow_setCell_below HO3.out (by show w.heap.size < w.heap.size + 1 + 1 + 1; omega) _
    have h1 := ownsRow_setRow_below h0 (k := w.heap.size + 1 + 1) (by omega) #[.slice A3 RES.length c3, .int .i64 n]
    obtain ⟨A', c', e', hRH⟩ := RH.of_own h1
    injection e' with e3 _ e4
    subst e3 e4
    exact ⟨_, _, rfl, hRH, (fun a ha => by have := (HO3.out.lt a.block (by rw [ha]; rfl)).1; omega), below_setRow (HB3.out.setCell (p := ⟨w.heap.size, 0, none⟩) (Nat.le_refl _) _) (by omega) _⟩
  · have hv : fndV T path = k := by unfold fndV; rw [hf]
    have hres : RES = T.set k ⟨path, kind, mark, made, which⟩ := by rw [← HRES.out]; unfold withV; rw [hf]
    obtain ⟨x, hx, hxp⟩ := fnd_some hf
    have hk : k < T.length := (List.getElem?_eq_some_iff.1 hx).1
    have HRE := Lib.hid hres
    rw [hv]
    rcases HO2.out.2 with ⟨_, h0⟩ | ⟨g, cap, cur, rfl, hbg, hg, hc, hm, hs, htk⟩
    · omega
    obtain ⟨A', c', e', hRH⟩ := RH.of_own HO2.out
    injection e' with e1 _ e2
    subst e1 e2
    obtain ⟨px, kx, mx, dx, wx⟩ := x
    obtain ⟨q0, q1, q2, q3, q4⟩ := hRH.cells hx
    simp only [Nat.zero_add] at q0 q1 q2 q3 q4
    have fg := blk_frozen hg
    have HG := Lib.hid hg
    have HTK := Lib.hid htk
    have hgw : g < w2.heap.size := blk_lt hg
    clear hv hf hres hx hxp hRH hg htk
    go_wp2_with fail
    have hne0 : g ≠ w.heap.size := by omega
    have hne2 : g ≠ w.heap.size + 1 + 1 := by omega
    have e1 := setCells_row g _ (Th.cells ⟨path, kind, mark, made, which⟩) (k * 5) cur w2 HG.out (by rw [Th.len, hs]; omega)
    obtain ⟨C2, hC2⟩ : ∃ C2, C2 = (cur.toList.take (k * 5) ++ Th.cells ⟨path, kind, mark, made, which⟩ ++ cur.toList.drop (k * 5 + (Th.cells ⟨path, kind, mark, made, which⟩).length)).toArray := ⟨_, rfl⟩
    have hown3 := own_setH (x := ⟨path, kind, mark, made, which⟩) rfl HTK.out hs hc hk
    rw [← hC2] at e1 hown3
    have hY : (w2.setRow g C2).heap[g]? = some (.cells C2 73 (0, 0)) := setRow_heap _ _ _ _ _ _ HG.out
    have hX : ((w2.setRow g C2).setCell ⟨w.heap.size, 0, none⟩ (.slice (some ⟨g, 0, none⟩) T.length cap)).heap[w.heap.size + 1 + 1]? = some (.cells [.slice none 0 0, .int .i64 0].toArray 64 (0, 0)) := (heap_setCell_ne _ (by omega)).trans ((heap_setRow_ne _ _ _ _ (by omega)).trans B2.out)
    have e2 := set2 hX (.slice (some ⟨g, 0, none⟩) T.length cap) (.int .i64 n)
    show bodyPost _ _ _ _ _ ((((w2.setCells g (k * 5) (Th.cells ⟨path, kind, mark, made, which⟩)).setCell ⟨w.heap.size, 0, none⟩ (.slice (some ⟨g, 0, none⟩) T.length cap)).setCell ⟨w.heap.size + 1 + 1, 0, none⟩ (.slice (some ⟨g, 0, none⟩) T.length cap)).setCell ⟨w.heap.size + 1 + 1, 1, none⟩ (.int .i64 n))
    rw [e1, e2]
    refine bodyPost_ret (results_cell_row rfl _ _ (w.heap.size + 1 + 1) _ #[.slice (some ⟨g, 0, none⟩) T.length cap, .int .i64 n] _ _ rfl (setRow_heap _ _ _ _ _ _ hX) Tryd.underlying64 rfl (by kernel_rfl)) rfl ?_
    have hll : (T.set k ⟨path, kind, mark, made, which⟩).length = T.length := by simp
    have hfin : (((w2.setRow g C2).setCell ⟨w.heap.size, 0, none⟩ (.slice (some ⟨g, 0, none⟩) T.length cap)).setRow (w.heap.size + 1 + 1) #[.slice (some ⟨g, 0, none⟩) T.length cap, .int .i64 n]).ownsRow (w.heap.size + 1 + 1 + 1) 73 5 (.slice (some ⟨g, 0, none⟩) T.length cap) T.length (flatH (T.set k ⟨path, kind, mark, made, which⟩)) :=
      ⟨by rw [flatH_length, List.length_set], .inr ⟨g, cap, C2, rfl, hbg, (heap_setRow_ne _ _ _ _ (by omega)).trans ((heap_setCell_ne _ (by omega)).trans hY), hc, hm, hown3.1, hown3.2⟩⟩
    rw [HRE.out]
    rw [← hll] at hfin
    obtain ⟨A', c', e', hRH⟩ := RH.of_own hfin
    injection e' with e3 _ e4
    subst e3 e4
    rw [hll] at hRH ⊢
    exact ⟨_, _, rfl, hRH, (fun a ha => by cases ha; show w.heap.size ≤ g; omega), below_setRow ((below_setRow HB2.out (by omega) _).setCell (p := ⟨w.heap.size, 0, none⟩) (Nat.le_refl _) _) (by omega) _⟩

end Go.Proofs.YtcniahbliadgiaaDoor

namespace Go.Proofs.YtcniahbliadgiaaDoor
open Go.RowKit
open Go.Proofs.PnKit Go.Proofs.PnPath

/-- the thing of a path -/
def thAt (T : List Th) (s : ByteArray) : Option Th := match fnd T s with | some k => T[k]? | none => none
theorem thAt_none {T : List Th} {s : ByteArray} : thAt T s = none ↔ fnd T s = none := by
  unfold thAt
  rcases h : fnd T s with _ | k
  · simp
  · obtain ⟨x, hx, _⟩ := fnd_some h
    simp [hx]
/-- the directories of these paths, made where they lack -/
def parT : List (List (List UInt8)) → List Th × Int → List Th × Int × Int
  | [], t => (t.1, t.2, 0)
  | P :: Ps, t => match thAt t.1 (pathOf P) with
    | some y => if y.kind = 4 then parT Ps t else (t.1, t.2, 130)
    | none => parT Ps (withV t.1 ⟨pathOf P, 4, 0, true, t.2⟩, t.2 + 1)
/-- the heads of a path, from k parts on -/
def heads (P : List (List UInt8)) (k : Nat) : List (List (List UInt8)) := (List.range (P.length - k)).map fun i => P.take (k + i)
theorem heads_cons {P : List (List UInt8)} {k : Nat} (h : k < P.length) : heads P k = P.take k :: heads P (k + 1) := by
  unfold heads
  rw [show P.length - k = (P.length - (k + 1)) + 1 by omega, List.range_succ_eq_map, List.map_cons, List.map_map]
  congr 1
  refine List.map_congr_left fun i _ => ?_
  show P.take (k + (i + 1)) = P.take (k + 1 + i)
  rw [show k + (i + 1) = k + 1 + i by omega]
theorem heads_nil {P : List (List UInt8)} {k : Nat} (h : P.length ≤ k) : heads P k = [] := by
  unfold heads
  rw [show P.length - k = 0 by omega]; rfl
theorem withV_len (T : List Th) (x : Th) : (withV T x).length ≤ T.length + 1 := by
  unfold withV
  split <;> simp

/-- where the loop stands -/
structure PtAt (w wr : World) (A0 : Option Addr) (t : List Th × Int) : Prop where
  b0 : ∃ A c, wr.heap[w.heap.size]? = some (.cells [.slice A t.1.length c, .int .i64 t.2].toArray 64 (0, 0)) ∧ RH wr A c t.1 ∧ (A = A0 ∨ ∀ a, A = some a → w.heap.size ≤ a.block)
  b1 : wr.heap[w.heap.size + 1]? = some (.cells [.slice none 0 0, .int .i64 0].toArray 64 (0, 0))
  below : Below w.heap.size w wr
theorem PtAt.next {w wr w' : World} {A0 : Option Addr} {t : List Th × Int} (h : PtAt w wr A0 t) (hb : Below wr.heap.size wr w') : PtAt w w' A0 t := by
  obtain ⟨A, c, h1, h2, h3⟩ := h.b0
  exact ⟨⟨A, c, (hb.block _ (blk_lt h1)).trans h1, h2.below hb, h3⟩, (hb.block _ (blk_lt h.b1)).trans h.b1, h.below.trans (hb.mono h.below.size)⟩
theorem PtAt.put {w wr : World} {A0 : Option Addr} {t t' : List Th × Int} (h : PtAt w wr A0 t) {A : Option Addr} {c : Nat} (hR : RH wr A c t'.1) (hA : ∀ a, A = some a → w.heap.size ≤ a.block) : PtAt w (wr.setRow w.heap.size #[.slice A t'.1.length c, .int .i64 t'.2]) A0 t' := by
  obtain ⟨A1, c0, h1, _⟩ := h.b0
  refine ⟨⟨A, c, setRow_heap _ _ _ _ _ _ h1, hR.setOther h1 tree_no _, .inr hA⟩, ?_, below_setRow h.below (Nat.le_refl _) _⟩
  rw [heap_setRow_ne _ _ _ _ (by omega)]; exact h.b1
theorem rd_take {w : World} {A : Option Addr} {c : Nat} {L : List ByteArray} (h : Rd w A c L) (k : Nat) : Rd w A c (L.take k) :=
  ⟨by have := h.cap; rw [List.length_take]; omega, h.nil0, fun j x hj => by
    rw [List.getElem?_take] at hj
    split at hj
    · exact h.cell j x hj
    · cases hj⟩

/-- texts don't lie in a block that holds none -/
theorem rd_setOther {w : World} {A : Option Addr} {c : Nat} {L : List ByteArray} (h : Rd w A c L) {g : Nat} {cs0 : Array Value} {t : TypeId} (hg : w.heap[g]? = some (.cells cs0 t (0, 0))) (hno : ∀ (j : Nat) (s : ByteArray), cs0[j]? ≠ some (.string s)) (cs : Array Value) : Rd (w.setRow g cs) A c L := by
  refine ⟨h.cap, h.nil0, fun j x hx => ?_⟩
  obtain ⟨b, o, e, hb, hc⟩ := h.cell j x hx
  have hbg : b ≠ g := by
    rintro rfl
    have h2 : w.cell? ⟨b, o + j, none⟩ = cs0[o + j]? := cell_of_row _ _ _ _ _ _ hg
    rw [h2] at hc
    exact hno _ _ hc
  exact ⟨b, o, e, by rw [setRow_size]; exact hb, (World.cell?_of_block (heap_setRow_ne w g b cs hbg)).trans hc⟩
theorem rsp_join {P : List (List UInt8)} (hG : G P) (hP : P ≠ []) : sp (join P) = P := by
  unfold sp
  rw [msplit_join P hP (fun p hp => (hG p hp).slash)]
  refine List.filter_eq_self.2 fun p hp => ?_
  have := hG p hp
  simp [this.ne, this.dot]
theorem tot_take (P : List (List UInt8)) (k : Nat) : tot (P.take k) ≤ tot P := by
  have h := tot_append (P.take k) (P.drop k)
  rw [List.take_append_drop] at h; omega

set_option maxRecDepth 100000 in
set_option maxHeartbeats 2000000 in
theorem rparents_any (A : Option Addr) (c : Nat) (T : List Th) (n : Int) (P : List (List UInt8)) (w : World) (hR : RH w A c T) (hG : G P) (hP : P ≠ []) (hs : (join P).length ≤ 1000) (hl : T.length ≤ 40000) (hn : 0 ≤ n ∧ n ≤ 1000000) :
    Calls Tryd.prog 62 #[.agg #[.slice A (List.length T) c, .int .i64 n], .string (pathOf P)] w fun e w' =>
      ∃ A' c', e = .returned (.tuple #[.agg #[.slice A' (parT (heads P 1) (T, n)).1.length c', .int .i64 (parT (heads P 1) (T, n)).2.1], .int .i64 (parT (heads P 1) (T, n)).2.2]) ∧ RH w' A' c' (parT (heads P 1) (T, n)).1 ∧ (A' = A ∨ ∀ a, A' = some a → w.heap.size ≤ a.block) ∧ Below w.heap.size w w' := by
  have HR := Lib.hid hR
  obtain ⟨RES, hRES⟩ : ∃ RES, parT (heads P 1) (T, n) = RES := ⟨_, rfl⟩
  rw [hRES]
  have HRES := Lib.hid hRES
  have hal := fun o p : Obj => ((Below.refl w.heap.size w).alloc (Nat.le_refl _) o).alloc (by simp) p
  have HAL := Lib.hid hal
  have hlenP : P.length ≤ 500 := G_len hG (by omega)
  have htP : tot P ≤ 1001 := by have := join_length P hP; omega
  have HTP := Lib.hid htP
  have hsz : (pathOf P).size ≤ 1000 := by rw [← bl_size]; exact hs
  have HSZ := Lib.hid hsz
  have hsp : sp (bl (pathOf P)) = P := by rw [bl_pathOf]; exact rsp_join hG hP
  have HSP := Lib.hid hsp
  clear hR hRES hal htP hsz hsp hs
  go_enter Tryd.func62, Tryd.ntmps62
  go_wp2_with fail
  refine (rsplit_any (pathOf P) _ (by have := HSZ.out; omega)).mono ?_
  rintro e w1 ⟨As, cs, L, rfl, hRd, hLs, hb1⟩
  have hPT : PtAt w w1 A (T, n) := by
    refine ⟨⟨A, c, ?_, HR.out.below (bch (HAL.out _ _) hb1), .inl rfl⟩, ?_, bch (HAL.out _ _) hb1⟩
    · rw [hb1.block _ (by simp; omega), Below.heap_alloc _ _ _ (by simp)]; exact heap_alloc_new w _
    · rw [hb1.block _ (by simp)]; exact heap_alloc2_new w _ _
  rw [HSP.out] at hLs
  have hLl : L.length = P.length := by rw [← hLs, bls_length]
  have HPT := Lib.hid hPT
  have HRD := Lib.hid hRd
  have HLS := Lib.hid hLs
  have HLL := Lib.hid hLl
  have hL5 : L.length ≤ 500 := by omega
  clear hb1 hPT hRd hLs hLl
  go_wp2_with fail
  go_loopg [7] L.length (fun g i wr => ∃ (k : Nat) (t : List Th × Int), g = L.length + 1 - k ∧ i = .int .i64 k ∧ 1 ≤ k ∧ k ≤ L.length + 1 ∧ t.1.length ≤ T.length + k ∧ 0 ≤ t.2 ∧ t.2 ≤ n + k ∧ Hid (parT (heads P k) t = RES) ∧ Hid (PtAt w wr A t) ∧ Hid (Rd wr As cs L))
  case atStart => exact ⟨1, (T, n), rfl, rfl, Nat.le_refl _, by omega, Nat.le_succ _, hn.1, by show n ≤ n + 1; omega, HRES, HPT, HRD⟩
  case round =>
    obtain ⟨k, ⟨U, m⟩, rfl, rfl, hk1, hkl, htl, ht0, ht1, HP, HT, HRL⟩ := hrel
    simp only at htl ht0 ht1
    obtain ⟨A1, c1, hb0, hR1, hA1⟩ := HT.out.b0
    have HA1 := Lib.hid hA1
    clear hA1
    have HB0 := Lib.hid hb0
    have HR1 := Lib.hid hR1
    have t0 := blk_cell hb0 (j := 0) rfl
    have t1 := blk_cell hb0 (j := 1) rfl
    have tf := blk_frozen hb0
    have y0 := blk_cell HT.out.b1 (j := 0) rfl
    have y1 := blk_cell HT.out.b1 (j := 1) rfl
    have yf := blk_frozen HT.out.b1
    have hn1 : w.heap.size + 1 < wr.heap.size := blk_lt HT.out.b1
    have hn0 : w.heap.size < wr.heap.size := by omega
    clear hb0 hR1
    by_cases hlt : k < L.length
    case neg =>
      have hres : RES = (U, m, 0) := by rw [← HP.out, heads_nil (by have := HLL.out; omega)]; rfl
      have HRE := Lib.hid hres
      clear hres
      go_wp2_with fail
      rw [set2 HT.out.b1]
      refine bodyPost_ret (results_row_tmp rfl _ _ (w.heap.size + 1) _ _ _ _ rfl (setRow_heap _ _ _ _ _ _ HT.out.b1) Tryd.underlying64 rfl (by kernel_rfl)) rfl ?_
      rw [HRE.out]
      exact ⟨A1, c1, rfl, HR1.out.setOther HT.out.b1 tree_no _, HA1.out, below_setRow HT.out.below (Nat.le_succ _) _⟩
    have hheads : heads P k = P.take k :: heads P (k + 1) := heads_cons (by have := HLL.out; omega)
    have hp2 := HP.out
    rw [hheads, parT] at hp2
    have HP2 := Lib.hid hp2
    obtain ⟨b, o, rfl, hbw, -⟩ := HRL.out.pos (by omega)
    have hkc : (k : Int) ≤ cs := by have := HRL.out.cap; omega
    have hkn : (0 : Int) ≤ k := by omega
    have hJ : ∀ w : World, Rd w (some ⟨b, o, none⟩) cs L → Calls Tryd.prog 76 #[.slice (some ⟨b, o, none⟩) k cs] w fun e w' => e = .returned (.string (pathOf (P.take k))) ∧ w = w' := fun w hR => by
      have h := rjoin_any (some ⟨b, o, none⟩) cs (L.take k) w (rd_take hR k) (by rw [bls_take, HLS.out]; have := tot_take P k; have := HTP.out; omega)
      rw [bls_take, HLS.out, show (L.take k).length = k by rw [List.length_take]; omega] at h
      exact h
    have J := Lib.hid hJ
    have hnx : ∀ w', Below wr.heap.size wr w' → PtAt w w' A (U, m) := fun w' h => HT.out.next h
    have HNX := Lib.hid hnx
    clear hheads hp2 hJ hnx HP
    go_wp2_with fail
    refine (J.out _ HRL.out).mono ?_
    rintro e wj ⟨rfl, rfl⟩
    go_wp2_with fail
    refine (find_any A1 c1 U m (pathOf (P.take k)) _ HR1.out (by omega)).mono ?_
    rintro e w2 ⟨rfl, hb2⟩
    have HT2 := Lib.hid (HNX.out _ hb2)
    have HRL2 := Lib.hid (HRL.out.below hb2)
    clear t0 t1 tf y0 y1 yf hb2 HNX HRL HT HB0 HR1
    obtain ⟨A2, c2, hb0, hR2, hA2⟩ := HT2.out.b0
    have HA2 := Lib.hid hA2
    clear hA2
    have HB0 := Lib.hid hb0
    have HR2 := Lib.hid hR2
    have t0 := blk_cell hb0 (j := 0) rfl
    have t1 := blk_cell hb0 (j := 1) rfl
    have tf := blk_frozen hb0
    have y0 := blk_cell HT2.out.b1 (j := 0) rfl
    have y1 := blk_cell HT2.out.b1 (j := 1) rfl
    have yf := blk_frozen HT2.out.b1
    have hn21 : w.heap.size + 1 < w2.heap.size := blk_lt HT2.out.b1
    have hn20 : w.heap.size < w2.heap.size := by omega
    clear hb0 hR2
    rcases hf : fnd U (pathOf (P.take k)) with _ | i
    · have hv : fndV U (pathOf (P.take k)) = -1 := by unfold fndV; rw [hf]
      have HP3 : Hid (parT (heads P (k + 1)) (withV U ⟨pathOf (P.take k), 4, 0, true, m⟩, m + 1) = RES) := Lib.hid (by
        have h := HP2.out
        rw [thAt_none.2 hf] at h; exact h)
      have W := Lib.hid (fun (w : World) (hR : RH w A2 c2 U) => with_any A2 c2 U m (pathOf (P.take k)) 4 0 m true w hR (by omega))
      have hwl := withV_len U ⟨pathOf (P.take k), 4, 0, true, m⟩
      rw [hv]
      generalize withV U ⟨pathOf (P.take k), 4, 0, true, m⟩ = V at W hwl HP3
      clear hv hf HP2
      go_wp2_with fail
      refine (W.out _ HR2.out).mono ?_
      rintro e w3 ⟨A3, c3, rfl, hR3, hA3, hb3⟩
      have HA3 : Hid (∀ a, A3 = some a → w.heap.size ≤ a.block) := Lib.hid (fun a ha => by have := hA3 a ha; omega)
      clear hA3
      have HT3 := Lib.hid (HT2.out.next hb3)
      have HRL3 := Lib.hid (HRL2.out.below hb3)
      have HR3 := Lib.hid hR3
      clear t0 t1 tf y0 y1 yf hb3 hR3
      obtain ⟨A4, c4, hb0, -⟩ := HT3.out.b0
      have t0 := blk_cell hb0 (j := 0) rfl
      have t1 := blk_cell hb0 (j := 1) rfl
      have tf := blk_frozen hb0
      have hag := cell_again hb0
      have HB3 := Lib.hid hb0
      clear hb0
      go_wp2_with fail
      rw [set2_again HB3.out]
      go_roundg (L.length + 1 - (k + 1))
      case measure => omega
      case rel =>
        refine ⟨k + 1, (V, m + 1), rfl, by go_num, by omega, by omega, by show V.length ≤ _; omega, by show 0 ≤ m + 1; omega, by show m + 1 ≤ _; push_cast; omega, HP3, Lib.hid (HT3.out.put (t' := (V, m + 1)) HR3.out HA3.out), Lib.hid (rd_setOther HRL3.out HB3.out tree_no _)⟩
    · have hv : fndV U (pathOf (P.take k)) = i := by unfold fndV; rw [hf]
      obtain ⟨x, hx, hxp⟩ := fnd_some hf
      have hth : thAt U (pathOf (P.take k)) = some x := by unfold thAt; rw [hf]; exact hx
      have hp3 := HP2.out
      rw [hth] at hp3
      simp only at hp3
      have HP3 := Lib.hid hp3
      have hil : i < U.length := (List.getElem?_eq_some_iff.1 hx).1
      rw [hv]
      obtain ⟨px, kx, mx, dx, wx⟩ := x
      simp only at hp3 HP3
      obtain ⟨b2, o2, rfl, hbw2⟩ := HR2.out.pos (show 0 < U.length by omega)
      obtain ⟨q0, q1, q2, q3, q4⟩ := HR2.out.cells hx
      clear hv hf hx hxp hth hp3 HP2
      by_cases hk4 : kx = 4
      · subst hk4
        have HP4 : Hid (parT (heads P (k + 1)) (U, m) = RES) := Lib.hid (by have h := HP3.out; rw [if_pos rfl] at h; exact h)
        clear HP3
        go_wp2_with fail
        go_roundg (L.length + 1 - (k + 1))
        case measure => omega
        case rel =>
          exact ⟨k + 1, (U, m), rfl, by go_num, by omega, by omega, by show U.length ≤ _; omega, ht0, by show m ≤ _; push_cast; omega, HP4, HT2, HRL2⟩
      · have hkb : (kx != 4) = true := by simp [hk4]
        have HP4 : Hid (RES = (U, m, 130)) := Lib.hid (by have h := HP3.out; rw [if_neg hk4] at h; exact h.symm)
        clear HP3 hk4
        go_wp2_with fail
        rw [set2 HT2.out.b1]
        refine bodyPost_ret (results_row_tmp rfl _ _ (w.heap.size + 1) _ _ _ _ rfl (setRow_heap _ _ _ _ _ _ HT2.out.b1) Tryd.underlying64 rfl (by kernel_rfl)) rfl ?_
        rw [HP4.out]
        exact ⟨_, c2, rfl, HR2.out.setOther HT2.out.b1 tree_no _, HA2.out, below_setRow HT2.out.below (Nat.le_succ _) _⟩

end Go.Proofs.YtcniahbliadgiaaDoor

namespace Go.Proofs.YtcniahbliadgiaaDoor
open Go.RowKit
open Go.Proofs.PnKit Go.Proofs.PnPath

/-- the document's tree with a thing more -/
def raddV (T : List Th) (n : Int) (P : List (List UInt8)) (kind mark : Int) : List Th × Int × Int :=
  if P = [] then (T, n, 100) else
  match thAt T (pathOf P) with
  | some y => if ((y.kind == 4) == (kind == 4)) = false then (T, n, 130) else
    if (parT (heads P 1) (T, n)).2.2 ≠ 0 then (T, n, (parT (heads P 1) (T, n)).2.2) else
    if kind = 4 then (withV (parT (heads P 1) (T, n)).1 ⟨pathOf P, kind, mark, false, y.which⟩, (parT (heads P 1) (T, n)).2.1, 0)
    else (withV (parT (heads P 1) (T, n)).1 ⟨pathOf P, kind, mark, false, (parT (heads P 1) (T, n)).2.1⟩, (parT (heads P 1) (T, n)).2.1 + 1, 0)
  | none =>
    if (parT (heads P 1) (T, n)).2.2 ≠ 0 then (T, n, (parT (heads P 1) (T, n)).2.2) else
    (withV (parT (heads P 1) (T, n)).1 ⟨pathOf P, kind, mark, false, (parT (heads P 1) (T, n)).2.1⟩, (parT (heads P 1) (T, n)).2.1 + 1, 0)
theorem parT_bounds : ∀ (Ps : List (List (List UInt8))) (T : List Th) (n : Int), (parT Ps (T, n)).1.length ≤ T.length + Ps.length ∧ n ≤ (parT Ps (T, n)).2.1 ∧ (parT Ps (T, n)).2.1 ≤ n + Ps.length
  | [], T, n => by simp [parT]
  | P :: Ps, T, n => by
    rw [parT]
    simp only [List.length_cons]
    rcases thAt T (pathOf P) with _ | y
    · simp only
      have ih := parT_bounds Ps (withV T ⟨pathOf P, 4, 0, true, n⟩) (n + 1)
      have h := withV_len T ⟨pathOf P, 4, 0, true, n⟩
      refine ⟨by omega, by omega, by push_cast; omega⟩
    · simp only
      split
      · have ih := parT_bounds Ps T n
        refine ⟨by omega, by omega, by push_cast; omega⟩
      · exact ⟨Nat.le_add_right _ _, Int.le_refl _, by show n ≤ _; push_cast; omega⟩
theorem heads_len (P : List (List UInt8)) (k : Nat) : (heads P k).length = P.length - k := by simp [heads]
theorem two_blk {w w3 : World} {a b : List Value} {ta tb : TypeId} (h : Below ((w.alloc (.cells a.toArray ta)).alloc (.cells b.toArray tb)).heap.size ((w.alloc (.cells a.toArray ta)).alloc (.cells b.toArray tb)) w3) :
    w3.heap[w.heap.size]? = some (.cells a.toArray ta (0, 0)) ∧ w3.heap[w.heap.size + 1]? = some (.cells b.toArray tb (0, 0)) := by
  have h2 := two_blocks h
  exact ⟨h2.1, h2.2.1⟩

set_option maxRecDepth 100000 in
set_option maxHeartbeats 2000000 in
theorem radd_any (A : Option Addr) (c : Nat) (T : List Th) (n : Int) (P : List (List UInt8)) (kind mark : Int) (w : World) (hR : RH w A c T) (hG : G P) (hs : (join P).length ≤ 1000) (hl : T.length ≤ 30000) (hn : 0 ≤ n ∧ n ≤ 500000) :
    Calls Tryd.prog 49 #[.agg #[.slice A (List.length T) c, .int .i64 n], .string (pathOf P), .int .i64 kind, .int .i64 mark] w fun e w' =>
      ∃ A' c', e = .returned (.tuple #[.agg #[.slice A' (raddV T n P kind mark).1.length c', .int .i64 (raddV T n P kind mark).2.1], .int .i64 (raddV T n P kind mark).2.2]) ∧ RH w' A' c' (raddV T n P kind mark).1 ∧ Below w.heap.size w w' := by
  have HR := Lib.hid hR
  obtain ⟨RES, hRES⟩ : ∃ RES, raddV T n P kind mark = RES := ⟨_, rfl⟩
  rw [hRES]
  have HRES := Lib.hid hRES
  have hal := fun o p : Obj => ((Below.refl w.heap.size w).alloc (Nat.le_refl _) o).alloc (by simp) p
  have HAL := Lib.hid hal
  have hlenP : P.length ≤ 500 := G_len hG (by omega)
  have hpb := parT_bounds (heads P 1) T n
  rw [heads_len] at hpb
  have PA0 := Lib.hid (fun (hP : P ≠ []) (w : World) (hR : RH w A c T) => rparents_any A c T n P w hR hG hP hs (by omega) (by omega))
  have hz : (pathOf P).toList.isEmpty = decide (P = []) := by
    by_cases h : P = []
    · subst h; rw [ByteArray.toList_eq]; rfl
    · rw [decide_eq_false h]
      have : ¬ (pathOf P).toList = [] := fun e => by
        rw [ByteArray.toList_eq] at e
        have h2 : join P = [] := e
        exact join_ne P h (fun p hp => (hG p hp).ne) h2
      simpa using this
  have HZ := Lib.hid hz
  obtain ⟨st, hst⟩ : ∃ st, pathOf P = st := ⟨_, rfl⟩
  rw [hst] at HZ PA0 ⊢
  have HST := Lib.hid hst
  clear hR hRES hal hz hst hs hG
  go_enter Tryd.func49, Tryd.ntmps49
  by_cases hP : P = []
  · have h1 : st.toList.isEmpty = true := by rw [HZ.out, decide_eq_true hP]
    have h2 : st.toList = [] := by simpa using h1
    have hres : RES = (T, n, 100) := by rw [← HRES.out]; unfold raddV; rw [if_pos hP]
    have HRE := Lib.hid hres
    clear hres hP
    go_wp2_with fail
    refine bodyPost_ret (results_row_tmp rfl _ _ (w.heap.size + 1) _ #[.slice A (List.length T) c, .int .i64 n] _ _ rfl (heap_alloc2_new w _ _) Tryd.underlying64 rfl (by kernel_rfl)) rfl ?_
    rw [HRE.out]
    exact ⟨A, c, rfl, HR.out.below (HAL.out _ _), HAL.out _ _⟩
  have h1 : st.toList.isEmpty = false := by rw [HZ.out, decide_eq_false hP]
  have h2 : ¬ st.toList = [] := by simpa using h1
  have PA := Lib.hid (PA0.out hP)
  have HP := Lib.hid hP
  clear hP PA0
  go_wp2_with fail
  refine (find_any A c T n st _ (HR.out.below (HAL.out _ _)) (by omega)).mono ?_
  rintro e w1 ⟨rfl, hb1⟩
  obtain ⟨b0, b1⟩ := two_blk (a := [.slice A (List.length T) c, .int .i64 n]) (b := [.slice none 0 0, .int .i64 0]) hb1
  have c0 := blk_cell b0 (j := 0) rfl
  have c1 := blk_cell b0 (j := 1) rfl
  have d0 := blk_cell b1 (j := 0) rfl
  have d1 := blk_cell b1 (j := 1) rfl
  have df := blk_frozen b1
  have B0 := Lib.hid b0
  have B1 := Lib.hid b1
  have HB1 := Lib.hid (bch (HAL.out _ _) hb1)
  have hn1 : w.heap.size + 1 < w1.heap.size := blk_lt b1
  have hn0 : w.heap.size < w1.heap.size := by omega
  have hHR1 := HR.out.below HB1.out
  have HR1 := Lib.hid hHR1
  clear hb1 b0 b1 HAL hHR1
  obtain ⟨⟨T2, n2, e2⟩, hq⟩ : ∃ q, parT (heads P 1) (T, n) = q := ⟨_, rfl⟩
  rw [hq] at PA hpb
  simp only at PA hpb
  have hT2 : T2.length ≤ 31000 := by omega
  have hn2 : 0 ≤ n2 ∧ n2 ≤ 600000 := by omega
  have HQ := Lib.hid hq
  clear hq hpb
  have hcase : (fndV T st = -1 ∧ Hid (e2 ≠ 0 → RES = (T, n, e2)) ∧ Hid (e2 = 0 → RES = (withV T2 ⟨st, kind, mark, false, n2⟩, n2 + 1, 0))) ∨
      (∃ (k : Nat) (y : Th), fndV T st = k ∧ T[k]? = some y ∧ ((∃ b, (y.kind == 4) = b ∧ (kind == 4) = !b ∧ Hid (RES = (T, n, 130))) ∨
        ((y.kind == 4) = true ∧ (kind == 4) = true ∧ Hid (e2 ≠ 0 → RES = (T, n, e2)) ∧ Hid (e2 = 0 → RES = (withV T2 ⟨st, kind, mark, false, y.which⟩, n2, 0))) ∨
        ((y.kind == 4) = false ∧ (kind == 4) = false ∧ Hid (e2 ≠ 0 → RES = (T, n, e2)) ∧ Hid (e2 = 0 → RES = (withV T2 ⟨st, kind, mark, false, n2⟩, n2 + 1, 0))))) := by
    have hR := HRES.out
    unfold raddV at hR
    rw [if_neg HP.out, HQ.out, HST.out] at hR
    rcases hf : fnd T st with _ | k
    · left
      rw [thAt_none.2 hf] at hR
      simp only at hR
      refine ⟨by unfold fndV; rw [hf], Lib.hid (fun h => by rw [← hR, if_pos h]), Lib.hid (fun h => by rw [← hR, if_neg (fun h2 => h2 h)])⟩
    · right
      obtain ⟨y, hy, _⟩ := fnd_some hf
      have hth : thAt T st = some y := by unfold thAt; rw [hf]; exact hy
      rw [hth] at hR
      simp only at hR
      refine ⟨k, y, by unfold fndV; rw [hf], hy, ?_⟩
      cases hg4 : (y.kind == 4) <;> cases hk4 : (kind == 4) <;> rw [hg4, hk4] at hR
      · right; right
        have hkn : ¬ kind = 4 := fun h => by rw [h] at hk4; cases hk4
        rw [if_neg (by decide), if_neg hkn] at hR
        exact ⟨rfl, rfl, Lib.hid (fun h => by rw [← hR, if_pos h]), Lib.hid (fun h => by rw [← hR, if_neg (fun h2 => h2 h)])⟩
      · left
        rw [if_pos (by decide)] at hR
        exact ⟨false, rfl, rfl, Lib.hid hR.symm⟩
      · left
        rw [if_pos (by decide)] at hR
        exact ⟨true, rfl, rfl, Lib.hid hR.symm⟩
      · right; left
        have hky : kind = 4 := beq_iff_eq.1 hk4
        rw [if_neg (by decide), if_pos hky] at hR
        exact ⟨rfl, rfl, Lib.hid (fun h => by rw [← hR, if_pos h]), Lib.hid (fun h => by rw [← hR, if_neg (fun h2 => h2 h)])⟩
  have HCASE := Lib.hid hcase
  clear hcase HRES
  rcases HCASE.out with ⟨hv, HE, HW⟩ | ⟨k, ⟨py, ky, my, dy, wy⟩, hv, hx, ⟨b, hg4, hk4, HRE⟩ | ⟨hg4, hk4, HE, HW⟩ | ⟨hg4, hk4, HE, HW⟩⟩
  case' inr.inl =>
    have hkl : k < T.length := (List.getElem?_eq_some_iff.1 hx).1
    obtain ⟨b2, o2, rfl, hbw2⟩ := HR1.out.pos (by omega)
    obtain ⟨q0, q1, q2, q3, q4⟩ := HR1.out.cells hx
    simp only at hg4
    rw [hv]
    clear HCASE hx hv q0 q2 q3 q4
    cases b
    all_goals
      simp only [Bool.not_true, Bool.not_false] at hk4
      go_wp2_with fail
      rw [set2 B1.out]
      refine bodyPost_ret (results_row_tmp rfl _ _ (w.heap.size + 1) _ _ _ _ rfl (setRow_heap _ _ _ _ _ _ B1.out) Tryd.underlying64 rfl (by kernel_rfl)) rfl ?_
      rw [HRE.out]
      exact ⟨_, c, rfl, HR1.out.setOther B1.out tree_no _, below_setRow HB1.out (Nat.le_succ _) _⟩
  case' inl =>
    have W := Lib.hid (fun (A' : Option Addr) (c' : Nat) (w : World) (hR : RH w A' c' T2) => with_any A' c' T2 (n2 + 1) st kind mark n2 false w hR (by omega))
    rw [hv]
    clear hv
  case' inr.inr.inl =>
    have W := Lib.hid (fun (A' : Option Addr) (c' : Nat) (w : World) (hR : RH w A' c' T2) => with_any A' c' T2 n2 st kind mark wy false w hR (by omega))
    have hkl : k < T.length := (List.getElem?_eq_some_iff.1 hx).1
    obtain ⟨b2, o2, rfl, hbw2⟩ := HR1.out.pos (by omega)
    have HQ4 := Lib.hid (fun (w' : World) (hb : Below w1.heap.size w1 w') => (((HR1.out.below hb).cells hx).2.2.2.2))
    obtain ⟨q0, q1, q2, q3, q4⟩ := HR1.out.cells hx
    simp only at hg4 HW
    rw [hv]
    clear hx hv q0 q2 q3 q4
  case' inr.inr.inr =>
    have W := Lib.hid (fun (A' : Option Addr) (c' : Nat) (w : World) (hR : RH w A' c' T2) => with_any A' c' T2 (n2 + 1) st kind mark n2 false w hR (by omega))
    have hkl : k < T.length := (List.getElem?_eq_some_iff.1 hx).1
    obtain ⟨b2, o2, rfl, hbw2⟩ := HR1.out.pos (by omega)
    obtain ⟨q0, q1, q2, q3, q4⟩ := HR1.out.cells hx
    simp only at hg4
    rw [hv]
    clear hx hv q0 q2 q3 q4
  all_goals
    clear HCASE
    go_wp2_with fail
    refine (PA.out _ HR1.out).mono ?_
    rintro e w3 ⟨A3, c3, rfl, hR3, -, hb3⟩
    have b0 := (hb3.block _ (blk_lt B0.out)).trans B0.out
    have b1 := (hb3.block _ (blk_lt B1.out)).trans B1.out
    have HB3 := Lib.hid (bch HB1.out hb3)
    have HRA := Lib.hid (HR1.out.below hb3)
    have HR3 := Lib.hid hR3
    have hn31 : w.heap.size + 1 < w3.heap.size := blk_lt b1
    have hn30 : w.heap.size < w3.heap.size := by omega
    try have q4 := HQ4.out _ hb3
    try have hb23 := Nat.lt_of_lt_of_le hbw2 hb3.size
    try clear q1
    clear c0 c1 d0 d1 df hb3 hR3 B0 B1
    have c0 := blk_cell b0 (j := 0) rfl
    have c1 := blk_cell b0 (j := 1) rfl
    have d0 := blk_cell b1 (j := 0) rfl
    have d1 := blk_cell b1 (j := 1) rfl
    have df := blk_frozen b1
    have B1 := Lib.hid b1
    clear b0 b1
    by_cases he : e2 = 0
    case neg =>
      have heb : (e2 != 0) = true := by simp [he]
      have HRE := Lib.hid (HE.out he)
      clear he
      go_wp2_with fail
      rw [set2 B1.out]
      refine bodyPost_ret (results_row_tmp rfl _ _ (w.heap.size + 1) _ _ _ _ rfl (set_alloc B1.out _ _) Tryd.underlying64 rfl (by kernel_rfl)) rfl ?_
      rw [HRE.out]
      exact ⟨_, c, rfl, (HRA.out.setOther B1.out tree_no _).alloc _, (below_setRow HB3.out (Nat.le_succ _) _).alloc (by rw [setRow_size]; exact HB3.out.size) _⟩
    have HRE := Lib.hid (HW.out he)
    subst he
    go_wp2_with fail
    refine (W.out A3 c3 _ (HR3.out.alloc _)).mono ?_
    rintro e w5 ⟨A5, c5, rfl, hR5, -, hb5⟩
    have hal1 := fun o : Obj => HB3.out.alloc HB3.out.size o
    have b1 := (hb5.block (w.heap.size + 1) (by simp; omega)).trans ((Below.heap_alloc _ _ _ hn31).trans B1.out)
    have HB5 := Lib.hid (bch (hal1 _) hb5)
    have HR5 := Lib.hid hR5
    clear c0 c1 d0 d1 df hb5 hR5 B1 hal1
    try clear q4
    have d0 := blk_cell b1 (j := 0) rfl
    have d1 := blk_cell b1 (j := 1) rfl
    have df := blk_frozen b1
    have B1 := Lib.hid b1
    clear b1
    go_wp2_with fail
    rw [set2 B1.out]
    refine bodyPost_ret (results_row_tmp rfl _ _ (w.heap.size + 1) _ _ _ _ rfl (setRow_heap _ _ _ _ _ _ B1.out) Tryd.underlying64 rfl (by kernel_rfl)) rfl ?_
    rw [HRE.out]
    exact ⟨A5, c5, rfl, HR5.out.setOther B1.out tree_no _, below_setRow HB5.out (Nat.le_succ _) _⟩

end Go.Proofs.YtcniahbliadgiaaDoor

namespace Go.Proofs.YtcniahbliadgiaaDoor
open Go.RowKit
open Go.Proofs.PnKit Go.Proofs.PnPath

theorem RH.setCellNe {w : World} {A : Option Addr} {c : Nat} {T : List Th} (h : RH w A c T) {g j : Nat} (hne : ∀ a, A = some a → a.block ≠ g) (v : Value) : RH (w.setCell ⟨g, j, none⟩ v) A c T :=
  ⟨h.cap, h.nil0, fun i x hx => by
    obtain ⟨b, o, e, hb, hc⟩ := h.cell i x hx
    have hbg : b ≠ g := hne _ e
    exact ⟨b, o, e, by simpa using hb, fun k u hk => (World.cell?_of_block (heap_setCell_ne v hbg)).trans (hc k u hk)⟩⟩
/-- the document's tree with a name more -/
def rlinkV (T : List Th) (n : Int) (P Q : List (List UInt8)) : List Th × Int × Int :=
  if P = [] then (T, n, 100) else
  match thAt T (pathOf Q) with
  | none => (T, n, 4)
  | some x => if x.kind ≠ 1 ∨ (∃ o, thAt T (pathOf P) = some o ∧ o.kind = 4) then (T, n, 130) else
    if (parT (heads P 1) (T, n)).2.2 ≠ 0 then (T, n, (parT (heads P 1) (T, n)).2.2) else
    (withV (parT (heads P 1) (T, n)).1 ⟨pathOf P, x.kind, x.mark, x.made, x.which⟩, (parT (heads P 1) (T, n)).2.1, 0)

set_option maxRecDepth 100000 in
set_option maxHeartbeats 2000000 in
theorem rlink_any (A : Option Addr) (c : Nat) (T : List Th) (n : Int) (P Q : List (List UInt8)) (w : World) (hR : RH w A c T) (hG : G P) (hs : (join P).length ≤ 1000) (hl : T.length ≤ 30000) (hn : 0 ≤ n ∧ n ≤ 500000) :
    Calls Tryd.prog 48 #[.agg #[.slice A (List.length T) c, .int .i64 n], .string (pathOf P), .string (pathOf Q)] w fun e w' =>
      ∃ A' c', e = .returned (.tuple #[.agg #[.slice A' (rlinkV T n P Q).1.length c', .int .i64 (rlinkV T n P Q).2.1], .int .i64 (rlinkV T n P Q).2.2]) ∧ RH w' A' c' (rlinkV T n P Q).1 ∧ Below w.heap.size w w' := by
  have HR := Lib.hid hR
  obtain ⟨RES, hRES⟩ : ∃ RES, rlinkV T n P Q = RES := ⟨_, rfl⟩
  rw [hRES]
  have HRES := Lib.hid hRES
  have hal := fun o p : Obj => ((Below.refl w.heap.size w).alloc (Nat.le_refl _) o).alloc (by simp) p
  have HAL := Lib.hid hal
  have hlenP : P.length ≤ 500 := G_len hG (by omega)
  have hpb := parT_bounds (heads P 1) T n
  rw [heads_len] at hpb
  have PA0 := Lib.hid (fun (hP : P ≠ []) (w : World) (hR : RH w A c T) => rparents_any A c T n P w hR hG hP hs (by omega) (by omega))
  have hz : (pathOf P).toList.isEmpty = decide (P = []) := by
    by_cases h : P = []
    · subst h; rw [ByteArray.toList_eq]; rfl
    · rw [decide_eq_false h]
      have : ¬ (pathOf P).toList = [] := fun e => by
        rw [ByteArray.toList_eq] at e
        have h2 : join P = [] := e
        exact join_ne P h (fun p hp => (hG p hp).ne) h2
      simpa using this
  have HZ := Lib.hid hz
  have hRV := hRES
  unfold rlinkV at hRV
  obtain ⟨st, hst⟩ : ∃ st, pathOf P = st := ⟨_, rfl⟩
  obtain ⟨sq, hsq⟩ : ∃ sq, pathOf Q = sq := ⟨_, rfl⟩
  rw [hst] at HZ PA0 ⊢
  rw [hst, hsq] at hRV
  rw [hsq]
  have HRV := Lib.hid hRV
  clear hR hRES hal hz hst hsq hs hG hRV HRES
  go_enter Tryd.func48, Tryd.ntmps48
  by_cases hP : P = []
  · have h1 : st.toList.isEmpty = true := by rw [HZ.out, decide_eq_true hP]
    have h2 : st.toList = [] := by simpa using h1
    have hres : RES = (T, n, 100) := by rw [← HRV.out, if_pos hP]
    have HRE := Lib.hid hres
    clear hres hP
    go_wp2_with fail
    refine bodyPost_ret (results_row_tmp rfl _ _ (w.heap.size + 1) _ #[.slice A (List.length T) c, .int .i64 n] _ _ rfl (heap_alloc2_new w _ _) Tryd.underlying64 rfl (by kernel_rfl)) rfl ?_
    rw [HRE.out]
    exact ⟨A, c, rfl, HR.out.below (HAL.out _ _), HAL.out _ _⟩
  have h1 : st.toList.isEmpty = false := by rw [HZ.out, decide_eq_false hP]
  have h2 : ¬ st.toList = [] := by simpa using h1
  have PA := Lib.hid (PA0.out hP)
  have hRV := HRV.out
  rw [if_neg hP] at hRV
  have HRV2 := Lib.hid hRV
  clear hP PA0 hRV HRV
  go_wp2_with fail
  refine (find_any A c T n sq _ (HR.out.below (HAL.out _ _)) (by omega)).mono ?_
  rintro e w1 ⟨rfl, hb1⟩
  obtain ⟨b0, b1⟩ := two_blk (a := [.slice A (List.length T) c, .int .i64 n]) (b := [.slice none 0 0, .int .i64 0]) hb1
  have c0 := blk_cell b0 (j := 0) rfl
  have c1 := blk_cell b0 (j := 1) rfl
  have d0 := blk_cell b1 (j := 0) rfl
  have d1 := blk_cell b1 (j := 1) rfl
  have df := blk_frozen b1
  have B0 := Lib.hid b0
  have B1 := Lib.hid b1
  have HB1 := Lib.hid (bch (HAL.out _ _) hb1)
  have hn1 : w.heap.size + 1 < w1.heap.size := blk_lt b1
  have hn0 : w.heap.size < w1.heap.size := by omega
  have hHR1 := HR.out.below HB1.out
  have HR1 := Lib.hid hHR1
  clear hb1 b0 b1 HAL hHR1
  rcases hf : fnd T sq with _ | k
  · have hv : fndV T sq = -1 := by unfold fndV; rw [hf]
    have hres : RES = (T, n, 4) := by
      have h := HRV2.out
      rw [thAt_none.2 hf] at h; exact h.symm
    have HRE := Lib.hid hres
    rw [hv]
    clear hv hf hres
    go_wp2_with fail
    rw [set2 B1.out]
    refine bodyPost_ret (results_row_tmp rfl _ _ (w.heap.size + 1) _ _ _ _ rfl (setRow_heap _ _ _ _ _ _ B1.out) Tryd.underlying64 rfl (by kernel_rfl)) rfl ?_
    rw [HRE.out]
    exact ⟨_, c, rfl, HR1.out.setOther B1.out tree_no _, below_setRow HB1.out (Nat.le_succ _) _⟩
  have hv : fndV T sq = k := by unfold fndV; rw [hf]
  obtain ⟨x, hx, hxp⟩ := fnd_some hf
  have hth : thAt T sq = some x := by unfold thAt; rw [hf]; exact hx
  have hRV := HRV2.out
  rw [hth] at hRV
  simp only at hRV
  have HRV3 := Lib.hid hRV
  have hkl : k < T.length := (List.getElem?_eq_some_iff.1 hx).1
  have HX := Lib.hid hx
  rw [hv]
  clear hv hf hx hxp hth hRV HRV2
  go_wp2_with fail
  refine (find_any A c T n st _ HR1.out (by omega)).mono ?_
  rintro e w2 ⟨rfl, hb2⟩
  have b0 := (hb2.block _ (blk_lt B0.out)).trans B0.out
  have b1 := (hb2.block _ (blk_lt B1.out)).trans B1.out
  have HB2 := Lib.hid (bch HB1.out hb2)
  have HR2 := Lib.hid (HR1.out.below hb2)
  have hn21 : w.heap.size + 1 < w2.heap.size := blk_lt b1
  have hn20 : w.heap.size < w2.heap.size := by omega
  clear c0 c1 d0 d1 df hb2 B0 B1 hn1 hn0 HR1 HB1
  have c0 := blk_cell b0 (j := 0) rfl
  have c1 := blk_cell b0 (j := 1) rfl
  have d0 := blk_cell b1 (j := 0) rfl
  have d1 := blk_cell b1 (j := 1) rfl
  have df := blk_frozen b1
  have B0 := Lib.hid b0
  have B1 := Lib.hid b1
  clear b0 b1
  obtain ⟨b2, o2, rfl, hbw2⟩ := HR2.out.pos (by omega)
  obtain ⟨px, kx, mx, dx, wx⟩ := x
  obtain ⟨q0, q1, q2, q3, q4⟩ := HR2.out.cells HX.out
  simp only at HRV3
  have hcase : ((kx != 1) = true ∧ Hid (RES = (T, n, 130))) ∨ (kx = 1 ∧ ((fndV T st = -1 ∧ Hid (RES = if (parT (heads P 1) (T, n)).2.2 ≠ 0 then (T, n, (parT (heads P 1) (T, n)).2.2) else (withV (parT (heads P 1) (T, n)).1 ⟨st, 1, mx, dx, wx⟩, (parT (heads P 1) (T, n)).2.1, 0))) ∨
      (∃ (j : Nat) (y : Th), fndV T st = j ∧ T[j]? = some y ∧ ((y.kind = 4 ∧ Hid (RES = (T, n, 130))) ∨ ((y.kind == 4) = false ∧ Hid (RES = if (parT (heads P 1) (T, n)).2.2 ≠ 0 then (T, n, (parT (heads P 1) (T, n)).2.2) else (withV (parT (heads P 1) (T, n)).1 ⟨st, 1, mx, dx, wx⟩, (parT (heads P 1) (T, n)).2.1, 0))))))) := by
    have hR := HRV3.out
    by_cases hk1 : kx = 1
    case neg =>
      left
      rw [if_pos (Or.inl hk1)] at hR
      exact ⟨by simp [hk1], Lib.hid hR.symm⟩
    right
    subst hk1
    refine ⟨rfl, ?_⟩
    rcases hf : fnd T st with _ | j
    · left
      rw [if_neg (by rintro (h | ⟨o, ho, _⟩); exact h rfl; rw [thAt_none.2 hf] at ho; cases ho)] at hR
      exact ⟨by unfold fndV; rw [hf], Lib.hid hR.symm⟩
    · right
      obtain ⟨y, hy, _⟩ := fnd_some hf
      have hth : thAt T st = some y := by unfold thAt; rw [hf]; exact hy
      refine ⟨j, y, by unfold fndV; rw [hf], hy, ?_⟩
      by_cases h4 : y.kind = 4
      · left
        rw [if_pos (Or.inr ⟨y, hth, h4⟩)] at hR
        exact ⟨h4, Lib.hid hR.symm⟩
      · right
        rw [if_neg (by rintro (h | ⟨o, ho, h5⟩); exact h rfl; rw [hth] at ho; obtain rfl := Option.some.inj ho; exact h4 h5)] at hR
        exact ⟨by simp [h4], Lib.hid hR.symm⟩
  have HCASE := Lib.hid hcase
  obtain ⟨⟨T2, n2, e2⟩, hq⟩ : ∃ q, parT (heads P 1) (T, n) = q := ⟨_, rfl⟩
  rw [hq] at PA hpb HCASE
  simp only at PA hpb HCASE
  have hT2 : T2.length ≤ 31000 := by omega
  have hn2 : 0 ≤ n2 ∧ n2 ≤ 600000 := by omega
  clear hcase hq hpb HRV3
  rcases HCASE.out with ⟨hk1, HRE⟩ | ⟨rfl, ⟨hv, HRE⟩ | ⟨j, ⟨py, ky, my, dy, wy⟩, hv, hy, ⟨hy4, HRE⟩ | ⟨hy4, HRE⟩⟩⟩
  case' inl =>
    clear HCASE q0 q2 q3 q4
    go_wp2_with fail
  case' inr.inr.inl =>
    have hjl : j < T.length := (List.getElem?_eq_some_iff.1 hy).1
    obtain ⟨r0, r1, r2, r3, r4⟩ := HR2.out.cells hy
    simp only at hy4
    subst hy4
    rw [hv]
    clear HCASE hv hy q0 q2 q3 q4 r0 r2 r3 r4
    go_wp2_with fail
  any_goals
    rw [set2 B1.out]
    refine bodyPost_ret (results_row_tmp rfl _ _ (w.heap.size + 1) _ _ _ _ rfl (setRow_heap _ _ _ _ _ _ B1.out) Tryd.underlying64 rfl (by kernel_rfl)) rfl ?_
    rw [HRE.out]
    exact ⟨_, c, rfl, HR2.out.setOther B1.out tree_no _, below_setRow HB2.out (Nat.le_succ _) _⟩
  case' inr.inl =>
    rw [hv]
    clear hv
  case' inr.inr.inr =>
    have hjl : j < T.length := (List.getElem?_eq_some_iff.1 hy).1
    obtain ⟨r0, r1, r2, r3, r4⟩ := HR2.out.cells hy
    simp only at hy4
    rw [hv]
    clear hv hy r0 r2 r3 r4
  all_goals
    clear HCASE
    have W := Lib.hid (fun (A' : Option Addr) (c' : Nat) (w : World) (hR : RH w A' c' T2) => with_any A' c' T2 n2 st 1 mx wx dx w hR (by omega))
    go_wp2_with fail
    try clear r1
    clear q0 q1 q2 q3 q4
    generalize hw3 : w2.alloc (.cells #[.string px, .int .i64 1, .int .i64 mx, .bool dx, .int .i64 wx] 73) = w3
    have hx3 : w3.heap[w2.heap.size]? = some (.cells (Th.cells ⟨px, 1, mx, dx, wx⟩).toArray 73 (0, 0)) := by rw [← hw3]; exact heap_alloc_new w2 _
    have hbl : Below w2.heap.size w2 w3 := by rw [← hw3]; exact (Below.refl _ _).alloc (Nat.le_refl _) _
    clear hw3
    have HB3 := Lib.hid (bch HB2.out hbl)
    have HR3 := Lib.hid (HR2.out.below hbl)
    have b0 := (hbl.block _ (blk_lt B0.out)).trans B0.out
    have b1 := (hbl.block _ (blk_lt B1.out)).trans B1.out
    have HBL := Lib.hid hbl
    refine (PA.out _ HR3.out).mono ?_
    rintro e w4 ⟨A4, c4, rfl, hR4, hA4, hb4⟩
    have hx4 : w4.heap[w2.heap.size]? = _ := (hb4.block _ (blk_lt hx3)).trans hx3
    have b14 := (hb4.block _ (blk_lt b1)).trans b1
    have b04 := (hb4.block _ (blk_lt b0)).trans b0
    have HB4 := Lib.hid (bch HB3.out hb4)
    have HRA := Lib.hid (HR3.out.below hb4)
    have HR4 := Lib.hid hR4
    have HX3 := Lib.hid hx3
    have HNE : Hid (∀ a, A4 = some a → a.block ≠ w2.heap.size) := Lib.hid (fun a ha => by
      rcases hA4 with h | h
      · rw [h] at ha; cases ha; show b2 ≠ w2.heap.size; omega
      · have := h a ha; have := blk_lt HX3.out; omega)
    have HX4 := Lib.hid hx4
    have hn41 : w.heap.size + 1 < w4.heap.size := blk_lt b14
    have hn40 : w.heap.size < w4.heap.size := by omega
    have hn42 : w2.heap.size < w4.heap.size := blk_lt hx4
    clear c0 c1 d0 d1 df hb4 hR4 hA4 B0 B1 b0 b1 hx3 hbl
    have c0 := blk_cell b04 (j := 0) rfl
    have c1 := blk_cell b04 (j := 1) rfl
    have d0 := blk_cell b14 (j := 0) rfl
    have d1 := blk_cell b14 (j := 1) rfl
    have df := blk_frozen b14
    have B1 := Lib.hid b14
    clear b04 b14
    obtain ⟨z0, z1, z2, z3, z4⟩ := th_cells hx4
    have zf := blk_frozen hx4
    clear hx4
    by_cases he : e2 = 0
    case neg =>
      have heb : (e2 != 0) = true := by simp [he]
      have HRF : Hid (RES = (T, n, e2)) := Lib.hid (by rw [HRE.out, if_pos he])
      clear he
      go_wp2_with fail
      rw [set2 B1.out]
      refine bodyPost_ret (results_row_tmp rfl _ _ (w.heap.size + 1) _ _ _ _ rfl (set_alloc B1.out _ _) Tryd.underlying64 rfl (by kernel_rfl)) rfl ?_
      rw [HRF.out]
      exact ⟨_, c, rfl, (HRA.out.setOther B1.out tree_no _).alloc _, (below_setRow HB4.out (Nat.le_succ _) _).alloc (by rw [setRow_size]; exact HB4.out.size) _⟩
    have HRF : Hid (RES = (withV T2 ⟨st, 1, mx, dx, wx⟩, n2, 0)) := Lib.hid (by rw [HRE.out, if_neg (fun h => h he)])
    subst he
    have hB4s := HB4.out.setCell (p := ⟨w2.heap.size, 0, none⟩) HB2.out.size (.string st)
    have hbw4 := fun o : Obj => hB4s.alloc (by simp; omega) o
    have HBW4 := Lib.hid hbw4
    have hk1 := fun o : Obj => (show ((w4.setCell ⟨w2.heap.size, 0, none⟩ (.string st)).alloc o).heap[w.heap.size + 1]? = _ from ((Below.heap_alloc _ _ _ (by simp; omega)).trans (heap_setCell_ne _ (by omega))).trans B1.out)
    have HK1 := Lib.hid hk1
    have HRW := Lib.hid (HR4.out.setCellNe (j := 0) HNE.out (.string st))
    clear hB4s hbw4 hk1
    go_wp2_with fail
    refine (W.out A4 c4 _ (HRW.out.alloc _)).mono ?_
    rintro e w5 ⟨A5, c5, rfl, hR5, -, hb5⟩
    have b1 := (hb5.block (w.heap.size + 1) (by simp; omega)).trans (HK1.out _)
    have HB5 := Lib.hid (bch (HBW4.out _) hb5)
    have HR5 := Lib.hid hR5
    clear c0 c1 d0 d1 df hb5 hR5 B1 z0 z1 z2 z3 z4 zf HK1 HBW4
    have d0 := blk_cell b1 (j := 0) rfl
    have d1 := blk_cell b1 (j := 1) rfl
    have df := blk_frozen b1
    have B1 := Lib.hid b1
    clear b1
    go_wp2_with fail
    rw [set2 B1.out]
    refine bodyPost_ret (results_row_tmp rfl _ _ (w.heap.size + 1) _ _ _ _ rfl (setRow_heap _ _ _ _ _ _ B1.out) Tryd.underlying64 rfl (by kernel_rfl)) rfl ?_
    rw [HRF.out]
    exact ⟨A5, c5, rfl, HR5.out.setOther B1.out tree_no _, below_setRow HB5.out (Nat.le_succ _) _⟩

end Go.Proofs.YtcniahbliadgiaaDoor

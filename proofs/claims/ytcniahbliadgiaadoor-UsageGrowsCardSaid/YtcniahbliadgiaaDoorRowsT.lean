/-
  Rows of a tree: what a row is to us, and where a slice of rows lies.
-/
import Derived.Test.YtcniahbliadgiaaDoorWalkQ
import Derived.Shelf.SlicesQ.Load
namespace Go.Proofs.YtcniahbliadgiaaDoor
open Go.RowKit
open Go.Proofs.PnKit Go.Proofs.PnPath

/-- a row, as far as this seat's laws set it: all else is zero -/
structure Rw where
  path : ByteArray
  id : Int
  kind : Int
  mode : Int
  size : Int
  made : Bool
def nos : ByteArray := ⟨#[]⟩
/-- its node's cells, its own -/
def nodeC (kind mode size : Int) (made : Bool) : List Value :=
  [.int .i64 kind, .int .i64 mode, .int .i64 0, .int .i64 0, .int .i64 0, .string nos, .string nos, .string nos, .slice none 0 0, .int .i64 size, .bool made]
def Rw.cells (r : Rw) : List Value := .string r.path :: .int .i64 r.id :: nodeC r.kind r.mode r.size r.made
def Rw.val (r : Rw) : Value := .agg r.cells.toArray
def nodeV (kind mode size : Int) (made : Bool) : Value := .agg (nodeC kind mode size made).toArray
theorem Rw.len (r : Rw) : r.cells.length = 13 := rfl
def zrow : Rw := ⟨nos, 0, 0, 0, 0, false⟩

/-- the slice '.slice A n c' reads as these rows -/
structure RT (w : World) (A : Option Addr) (c : Nat) (L : List Rw) : Prop where
  cap : L.length ≤ c
  nil0 : A = none → c = 0
  cell : ∀ (j : Nat) (x : Rw), L[j]? = some x → ∃ b o, A = some ⟨b, o, none⟩ ∧ b < w.heap.size ∧ ∀ (i : Nat) (v : Value), x.cells[i]? = some v → w.cell? ⟨b, o + j * 13 + i, none⟩ = some v

theorem RT.nil (w : World) : RT w none 0 [] := ⟨Nat.zero_le _, fun _ => rfl, fun j x h => by simp at h⟩
theorem RT.keep {w w' : World} {A : Option Addr} {c : Nat} {L : List Rw} (h : RT w A c L) (hs : w.heap.size ≤ w'.heap.size) (hk : ∀ p : Addr, p.block < w.heap.size → w'.cell? p = w.cell? p) : RT w' A c L :=
  ⟨h.cap, h.nil0, fun j x hx => by
    obtain ⟨b, o, e, hb, hc⟩ := h.cell j x hx
    exact ⟨b, o, e, by omega, fun i v hi => (hk _ hb).trans (hc i v hi)⟩⟩
theorem RT.below {w w' : World} {A : Option Addr} {c : Nat} {L : List Rw} (h : RT w A c L) (hb : Below w.heap.size w w') : RT w' A c L :=
  h.keep hb.size fun _ hp => hb.cell hp
theorem RT.drewN {w : World} {A : Option Addr} {c : Nat} {L : List Rw} (h : RT w A c L) (n : Nat) : RT (w.drewN n) A c L := ⟨h.cap, h.nil0, h.cell⟩
theorem RT.alloc {w : World} {A : Option Addr} {c : Nat} {L : List Rw} (h : RT w A c L) (o : Obj) : RT (w.alloc o) A c L := h.below ((Below.refl _ _).alloc (Nat.le_refl _) o)
/-- where there is a row, the slice has a plain address -/
theorem RT.pos {w : World} {A : Option Addr} {c : Nat} {L : List Rw} (h : RT w A c L) (hl : 0 < L.length) :
    ∃ b o, A = some ⟨b, o, none⟩ ∧ b < w.heap.size := by
  obtain ⟨b, o, e, hb, _⟩ := h.cell 0 (L[0]'hl) (List.getElem?_eq_getElem hl)
  exact ⟨b, o, e, hb⟩
theorem RT.row {w : World} {b o c : Nat} {L : List Rw} (h : RT w (some ⟨b, o, none⟩) c L) {j : Nat} {x : Rw} (hj : L[j]? = some x) {i : Nat} {v : Value} (hi : x.cells[i]? = some v) : w.cell? ⟨b, o + j * 13 + i, none⟩ = some v := by
  obtain ⟨b', o', e, _, hc⟩ := h.cell j x hj
  simp only [Option.some.injEq, Addr.mk.injEq, and_true] at e
  obtain ⟨rfl, rfl⟩ := e
  exact hc i v hi
/-- a row is loaded whole -/
theorem RT.load {P : Program} {w : World} {b o c : Nat} {L : List Rw} (h : RT w (some ⟨b, o, none⟩) c L) {j : Nat} {x : Rw} (hj : L[j]? = some x) :
    Sem.run P (loadCellsFrom ⟨b, o + j * 13, none⟩ 0 13 #[]) w = .ok x.cells.toArray w :=
  run_loadCellsFrom_list P _ _ x.cells 13 x.len fun i v hi => by
    rw [add_at]; exact h.row hj hi
/-- the row's thirteen cells, each -/
theorem RT.cells {w : World} {b o c : Nat} {L : List Rw} (h : RT w (some ⟨b, o, none⟩) c L) {j : Nat} {path : ByteArray} {id kind mode size : Int} {made : Bool} (hj : L[j]? = some ⟨path, id, kind, mode, size, made⟩) :
    w.cell? ⟨b, o + j * 13, none⟩ = some (.string path) ∧ w.cell? ⟨b, o + j * 13 + 1, none⟩ = some (.int .i64 id) ∧ w.cell? ⟨b, o + j * 13 + 2, none⟩ = some (.int .i64 kind) ∧ w.cell? ⟨b, o + j * 13 + 3, none⟩ = some (.int .i64 mode) ∧ w.cell? ⟨b, o + j * 13 + 4, none⟩ = some (.int .i64 0) ∧ w.cell? ⟨b, o + j * 13 + 5, none⟩ = some (.int .i64 0) ∧ w.cell? ⟨b, o + j * 13 + 6, none⟩ = some (.int .i64 0) ∧ w.cell? ⟨b, o + j * 13 + 7, none⟩ = some (.string nos) ∧ w.cell? ⟨b, o + j * 13 + 8, none⟩ = some (.string nos) ∧ w.cell? ⟨b, o + j * 13 + 9, none⟩ = some (.string nos) ∧ w.cell? ⟨b, o + j * 13 + 10, none⟩ = some (.slice none 0 0) ∧ w.cell? ⟨b, o + j * 13 + 11, none⟩ = some (.int .i64 size) ∧ w.cell? ⟨b, o + j * 13 + 12, none⟩ = some (.bool made) :=
  ⟨h.row hj (i := 0) rfl, h.row hj (i := 1) rfl, h.row hj (i := 2) rfl, h.row hj (i := 3) rfl, h.row hj (i := 4) rfl, h.row hj (i := 5) rfl, h.row hj (i := 6) rfl, h.row hj (i := 7) rfl, h.row hj (i := 8) rfl, h.row hj (i := 9) rfl, h.row hj (i := 10) rfl, h.row hj (i := 11) rfl, h.row hj (i := 12) rfl⟩

theorem row_agg : ∀ w, (isAgg 44).run Tryd.prog w = .ok true w := fun w => by kernel_rfl
theorem row_size : ∀ w, (Go.sizeOf 44).run Tryd.prog w = .ok 13 w := fun w => by kernel_rfl

set_option maxHeartbeats 400000 in
theorem bypath_any (r : Rw) (s : ByteArray) (w : World) (hE : Env w) (hd : r.path.size ≤ 100000) (ht : s.size ≤ 100000) :
    Calls Tryd.prog 43 #[r.val, .string s] w fun e w' => e = .returned (.int .i64 (cmpP (parts (bl r.path)) (parts (bl s)))) ∧ Below w.heap.size w w' := by
  obtain ⟨path, id, kind, mode, size, made⟩ := r
  have P := Lib.hid (fun (w : World) (hE : Env w) => compare_any path s w hE hd ht)
  show Calls Tryd.prog 43 #[.agg #[.string path, .int .i64 id, .int .i64 kind, .int .i64 mode, .int .i64 0, .int .i64 0, .int .i64 0, .string nos, .string nos, .string nos, .slice none 0 0, .int .i64 size, .bool made], .string s] w _
  go_enter Tryd.func43, Tryd.ntmps43
  go_wp2_with fail
  refine (P.out _ (hE.below ((Below.refl _ _).alloc (Nat.le_refl _) _))).mono ?_
  rintro e w1 ⟨rfl, hb⟩
  go_wp2_with fail
  go_ret
  exact ⟨rfl, bch ((Below.refl _ _).alloc (Nat.le_refl _) _) hb⟩

end Go.Proofs.YtcniahbliadgiaaDoor

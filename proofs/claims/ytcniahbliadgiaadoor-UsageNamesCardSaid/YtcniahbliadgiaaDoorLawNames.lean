/-
  pannierlaw14.UsageNames: the walk.
-/
import Derived.Test.YtcniahbliadgiaaDoorPlant
import Derived.Test.YtcniahbliadgiaaDoorSet
import Derived.Test.YtcniahbliadgiaaDoorUseB
import Derived.Deep.RegionHeld3
import Derived.Deep.DrawnRows
namespace Go.Proofs.YtcniahbliadgiaaDoor
open Go.RowKit
open Go.Proofs.PnKit Go.Proofs.PnPath

theorem usF_bound {S : Int} : ∀ (L : List Rw) (seen : List Int) (u : Us), (∀ r ∈ L, 0 ≤ r.size ∧ r.size ≤ S) → 0 ≤ S → u.bytes ≤ (usF seen u L).bytes ∧ (usF seen u L).bytes ≤ u.bytes + S * L.length
  | [], seen, u, _, _ => by simp [usF]
  | r :: L, seen, u, h, hS => by
    have ih := usF_bound L (r.id :: seen) (usOne seen u r) (fun x hx => h x (by simp [hx])) hS
    have hr := h r (by simp)
    have h1 : u.bytes ≤ (usOne seen u r).bytes ∧ (usOne seen u r).bytes ≤ u.bytes + S := by
      unfold usOne; simp only
      split
      · omega
      · split <;> omega
    have h2 : S * ((r :: L).length : Int) = S * (L.length : Int) + S := by rw [List.length_cons]; push_cast; rw [Int.mul_add, Int.mul_one]
    rw [usF, h2]
    omega
theorem setV_key (L : List Rw) (id size : Int) : (setV L id size).map (·.path) = L.map (·.path) := by
  unfold setV
  rw [List.map_map]
  refine List.map_congr_left fun r _ => ?_
  show (if r.id = id ∧ r.kind = 1 then { r with size := size } else r).path = r.path
  split <;> rfl
theorem setV_mem {L : List Rw} {id size : Int} {x : Rw} (h : x ∈ setV L id size) : ∃ y ∈ L, x.path = y.path ∧ x.id = y.id ∧ (x.size = size ∨ x.size = y.size) := by
  obtain ⟨y, hy, rfl⟩ := List.mem_map.1 h
  refine ⟨y, hy, ?_⟩
  split
  · exact ⟨rfl, rfl, Or.inl rfl⟩
  · exact ⟨rfl, rfl, Or.inr rfl⟩
theorem setV_ok {L : List Rw} (h : OkT L) (id size : Int) : OkT (setV L id size) := by
  refine ⟨?_, fun x hx => ?_, fun x hx => ?_⟩
  · unfold Sorted setV
    rw [List.pairwise_map]
    refine List.Pairwise.imp ?_ h.sorted
    intro a b hab
    have e : ∀ r : Rw, key (if r.id = id ∧ r.kind = 1 then { r with size := size } else r) = key r := fun r => by split <;> rfl
    rw [e, e]; exact hab
  · obtain ⟨y, hy, e, _⟩ := setV_mem hx
    rw [e]; exact h.path y hy
  · obtain ⟨y, hy, e, _⟩ := setV_mem hx
    rw [e]; exact h.psize y hy

theorem below_alloc {a w : World} (h : Below a.heap.size a w) (o : Obj) : Below a.heap.size a (w.alloc o) := h.alloc h.size o
theorem cell_alloc {w : World} {a : Addr} {v : Value} (h : w.cell? a = some v) (o : Obj) : (w.alloc o).cell? a = some v := (World.cell?_of_block (w := w) (Below.heap_alloc w o a.block (World.block_lt_of_cell? w a h))).trans h

abbrev zC : Array Value := #[.string ⟨#[]⟩, .int .i64 0, .int .i64 0, .int .i64 0, .int .i64 0, .int .i64 0, .int .i64 0, .string ⟨#[]⟩, .string ⟨#[]⟩, .string ⟨#[]⟩, .slice none 0 0, .int .i64 0, .bool false]
theorem z_cells {w : World} {g : Nat} {t : TypeId} (h : w.heap[g]? = some (.cells zC t (0, 0))) : w.cell? ⟨g, 0, none⟩ = some (.string ⟨#[]⟩) ∧ w.cell? ⟨g, 1, none⟩ = some (.int .i64 0) ∧ w.cell? ⟨g, 2, none⟩ = some (.int .i64 0) ∧ w.cell? ⟨g, 3, none⟩ = some (.int .i64 0) ∧ w.cell? ⟨g, 4, none⟩ = some (.int .i64 0) ∧ w.cell? ⟨g, 5, none⟩ = some (.int .i64 0) ∧ w.cell? ⟨g, 6, none⟩ = some (.int .i64 0) ∧ w.cell? ⟨g, 7, none⟩ = some (.string ⟨#[]⟩) ∧ w.cell? ⟨g, 8, none⟩ = some (.string ⟨#[]⟩) ∧ w.cell? ⟨g, 9, none⟩ = some (.string ⟨#[]⟩) ∧ w.cell? ⟨g, 10, none⟩ = some (.slice none 0 0) ∧ w.cell? ⟨g, 11, none⟩ = some (.int .i64 0) ∧ w.cell? ⟨g, 12, none⟩ = some (.bool false) ∧ ∀ j, w.frozen? ⟨g, j, none⟩ = false := by
  have h' : w.heap[g]? = some (.cells (zC.toList).toArray t (0, 0)) := h
  exact ⟨blk_cell h' (j := 0) rfl, blk_cell h' (j := 1) rfl, blk_cell h' (j := 2) rfl, blk_cell h' (j := 3) rfl, blk_cell h' (j := 4) rfl, blk_cell h' (j := 5) rfl, blk_cell h' (j := 6) rfl, blk_cell h' (j := 7) rfl, blk_cell h' (j := 8) rfl, blk_cell h' (j := 9) rfl, blk_cell h' (j := 10) rfl, blk_cell h' (j := 11) rfl, blk_cell h' (j := 12) rfl, blk_frozen h⟩

attribute [local go_sem ↓] Go.wp_at_zero Go.wp_at_succ

set_option maxRecDepth 100000 in
set_option maxHeartbeats 16000000 in
theorem names_walk (A : Option Addr) (c : Nat) (L : List Tg) (s : ByteArray) (size : Int) (w : World) (hE : Env w) (hR : Rg w A c L) :
    Calls Tryd.prog 7 #[.slice A (List.length L) c, .string s, .int .i64 size] w fun e w' => e = .returned (.bool true) ∧ Below w.heap.size w w' := by
  have HR := Lib.hid hR
  have HE := Lib.hid hE
  clear hR hE
  go_enter Tryd.func7, Tryd.ntmps7
  go_wp2_with fail
  refine (measures_any _ HE.out).mono ?_
  rintro e w1 ⟨rfl, hb1⟩
  have HB1 := Lib.hid hb1
  clear hb1
  go_wp2_with fail
  refine (clean_any s _ (HE.out.below HB1.out)).mono ?_
  rintro e w2 ⟨Al, cl, Ll, code, rfl, hRl, hcl, hb2⟩
  have HB2 := Lib.hid (bch HB1.out hb2)
  have HRL := Lib.hid hRl
  have HCL := Lib.hid hcl
  clear hb2 hRl hcl
  by_cases hgo : L.length ≤ 40 ∧ code = 0 ∧ s.size ≤ 300 ∧ 0 ≤ size ∧ size ≤ 1048576
  case neg =>
    have hg2 : 40 < L.length ∨ (L.length ≤ 40 ∧ (code != 0) = true) ∨ (L.length ≤ 40 ∧ code = 0 ∧ 300 < (s.size : Int)) ∨ (L.length ≤ 40 ∧ code = 0 ∧ (s.size : Int) ≤ 300 ∧ size < 0) ∨ (L.length ≤ 40 ∧ code = 0 ∧ (s.size : Int) ≤ 300 ∧ 0 ≤ size ∧ 1048576 < size) := by
      by_cases h : code = 0
      · omega
      · have : (code != 0) = true := by simp [h]
        rcases Nat.lt_or_ge 40 L.length with h1 | h1
        · exact Or.inl h1
        · exact Or.inr (Or.inl ⟨h1, this⟩)
    have HGO := Lib.hid hgo
    clear hgo
    rcases hg2 with h | ⟨h, h2⟩ | ⟨h, rfl, h3⟩ | ⟨h, rfl, h3, h4⟩ | ⟨h, rfl, h3, h4, h5⟩
    all_goals
      go_wp2_with fail
      go_ret
      exact ⟨rfl, HB2.out⟩
  obtain ⟨hlen, rfl, hs, hz0, hz1⟩ := hgo
  have hcb := clean_bounds HCL.out
  have HGP : Hid (G (bls Ll)) := Lib.hid hcb.1
  have hjl : (join (bls Ll)).length ≤ 300 := by have := hcb.2; omega
  have hta : tot (bls Ll) ≤ 100000000 := by have := clean_size HCL.out; omega
  have hlenP : (bls Ll).length ≤ 150 := G_len HGP.out (by omega)
  have HG := Lib.hid (plantV_grown L)
  have hg1 : (plantV L).1.length ≤ 6100 := by have := HG.out.len; omega
  have hg2 : 0 ≤ (plantV L).2 ∧ (plantV L).2 ≤ 6100 := by have := HG.out.next; have := HG.out.nat; omega
  have PL := Lib.hid (fun (w : World) (hE : Env w) (hR : Rg w A c L) => planted_any A c L w hE hR (by omega))
  rcases hM : plantV L with ⟨M, n⟩
  rw [hM] at HG hg1 hg2 PL
  simp only at hg1 hg2
  have OF := Lib.hid (fun (A : Option Addr) (c : Nat) (w : World) (hE : Env w) (hR : RT w A c M) => of_any A c M n w hE hR HG.out.inv.ok (by omega) (fun r hr => by have := HG.out.inv.ids r hr; simp only at this; omega) (fun r hr => by have := HG.out.inv.size r hr; omega))
  have hub := usF_bound (S := 1048576) M [] ⟨0, 0, 0, 0⟩ HG.out.inv.size (by decide)
  rcases hU : us M with ⟨ub, ui, ud, ul⟩
  rw [hU] at OF
  have hub2 : 0 ≤ ub ∧ ub ≤ 100000000000 := by
    rw [show usF [] ⟨0, 0, 0, 0⟩ M = ⟨ub, ui, ud, ul⟩ from hU] at hub
    simp only at hub
    omega
  have HU := Lib.hid hU
  clear hM hcb hub hU
  go_wp2_with fail
  refine (PL.out _ (HE.out.below HB2.out) (HR.out.below HB2.out)).mono ?_
  rintro e w3 ⟨A3, c3, rfl, hR3, hb3⟩
  have HB3 := Lib.hid (bch HB2.out hb3)
  have HR3 := Lib.hid hR3
  have HRL3 := Lib.hid (HRL.out.below hb3)
  clear hb3 hR3 PL HRL
  go_wp2_with fail
  refine (OF.out _ _ _ (HE.out.below (HB3.out.alloc HB3.out.size _)) (HR3.out.alloc _)).mono ?_
  rintro e w4 ⟨rfl, hb4⟩
  have HB4 := Lib.hid (bch (HB3.out.alloc HB3.out.size _) hb4)
  have HR4 := Lib.hid ((HR3.out.alloc _).below hb4)
  have HRL4 := Lib.hid ((HRL3.out.alloc _).below hb4)
  have ht4 : w4.heap[w3.heap.size]? = some (.cells [.slice A3 M.length c3, .int .i64 n].toArray 35 (0, 0)) := by rw [hb4.block _ (by simp)]; exact heap_alloc_new w3 _
  have HT4 := Lib.hid ht4
  have hn4 : w3.heap.size < w4.heap.size := blk_lt ht4
  have t0 := blk_cell ht4 (j := 0) rfl
  clear hb4 ht4 HR3 HRL3
  go_wp2_with fail
  generalize hw5 : w4.alloc (.cells #[.int .i64 ub, .int .i64 ui, .int .i64 ud, .int .i64 ul] 23) = w5
  have hbl : Below w4.heap.size w4 w5 := by rw [← hw5]; exact (Below.refl _ _).alloc (Nat.le_refl _) _
  have hu5 : w5.heap[w4.heap.size]? = some (.cells (usC ⟨ub, ui, ud, ul⟩).toArray 23 (0, 0)) := by rw [← hw5]; exact heap_alloc_new w4 _
  have HU5 := Lib.hid hu5
  have HT5 : Hid (w5.heap[w3.heap.size]? = some (.cells [.slice A3 M.length c3, .int .i64 n].toArray 35 (0, 0))) := Lib.hid ((hbl.block _ hn4).trans HT4.out)
  have HR5 := Lib.hid (HR4.out.below hbl)
  have HRL5 := Lib.hid (HRL4.out.below hbl)
  have HB5 := Lib.hid (bch HB4.out hbl)
  have hn5 : w4.heap.size < w5.heap.size := blk_lt hu5
  clear hw5 hbl hu5 t0 HR4 HRL4 HT4
  go_loopg [53] M.length (fun g i wr => ∃ k : Nat, g = M.length - k ∧ i = .int .i64 k ∧ k ≤ M.length ∧ Hid (Below w5.heap.size w5 wr))
  case atStart => exact ⟨0, rfl, rfl, Nat.zero_le _, Lib.hid (Below.refl _ _)⟩
  case round =>
    obtain ⟨k, rfl, rfl, hk, HBR⟩ := hrel
    have HBW := Lib.hid (bch HB5.out HBR.out)
    by_cases hlt : k < M.length
    case neg =>
      go_wp2_with fail
      go_ret
      exact ⟨rfl, HBW.out⟩
    have hx : M[k]? = some M[k] := List.getElem?_eq_getElem hlt
    have hmem : M[k] ∈ M := List.getElem_mem hlt
    generalize M[k] = r at hx hmem
    have HMEM := Lib.hid hmem
    obtain ⟨Q, hGQ, hQn, hQe⟩ := HG.out.inv.ok.path _ hmem
    have hpz := HG.out.inv.ok.psize _ hmem
    have hidb := HG.out.inv.ids _ hmem
    have hszb := HG.out.inv.size _ hmem
    obtain ⟨path, id, kind, mode, sz, made⟩ := r
    obtain rfl := path_eq hQe
    obtain ⟨b, o, rfl, hbw⟩ := HR5.out.pos (by omega)
    obtain ⟨q0, q1, q2, q3, q4, q5, q6, q7, q8, q9, q10, q11, q12⟩ := (HR5.out.below HBR.out).cells hx
    simp only at hpz hidb hszb
    have hQ5 : (join Q).length ≤ 5000 := by rw [← bl_pathOf, bl_size]; omega
    have HGQ := Lib.hid hGQ
    clear hx hmem hGQ hQn hQe
    by_cases hk1 : kind = 1
    case neg =>
      have hkb : (kind != 1) = true := by simp [hk1]
      clear hk1
      go_wp2_with fail
      go_roundg (M.length - (k + 1))
      case measure => omega
      case rel => exact ⟨k + 1, rfl, by go_num, by omega, Lib.hid (HBR.out.alloc HBR.out.size _)⟩
    subst hk1
    have hn3r : w3.heap.size < wr.heap.size := by have := HBR.out.size; omega
    have hn4r : w4.heap.size < wr.heap.size := by have := HBR.out.size; omega
    have kt : wr.heap[w3.heap.size]? = _ := (HBR.out.block _ (by omega)).trans HT5.out
    have ku : wr.heap[w4.heap.size]? = _ := (HBR.out.block _ hn5).trans HU5.out
    have t0 := blk_cell kt (j := 0) rfl
    have t1 := blk_cell kt (j := 1) rfl
    have KT := Lib.hid kt
    have KU := Lib.hid ku
    obtain ⟨vb, vi, vd, vl, hV, hv1, rfl, rfl, rfl⟩ : ∃ vb vi vd vl, us (setV M id size) = ⟨vb, vi, vd, vl⟩ ∧ vb - ub = size - sz ∧ vi = ui ∧ vd = ud ∧ vl = ul := by
      have h := us_set HG.out HMEM.out rfl size
      simp only at h
      rw [HU.out] at h
      exact ⟨_, _, _, _, rfl, h⟩
    have hvt : (vb - ub != size - sz) = false := by simp [hv1]
    have SE := Lib.hid (fun (A : Option Addr) (c : Nat) (w : World) (hR : RT w A c M) => set_any A c M n id size w hR (by omega))
    have OS := Lib.hid (fun (A : Option Addr) (c : Nat) (w : World) (hE : Env w) (hR : RT w A c (setV M id size)) => of_any A c (setV M id size) n w hE hR (setV_ok HG.out.inv.ok id size) (by rw [setV_length]; omega) (fun r hr => by
      obtain ⟨y, hy, _, e, _⟩ := setV_mem hr
      have := HG.out.inv.ids y hy; simp only at this; omega) (fun r hr => by
      obtain ⟨y, hy, _, _, e⟩ := setV_mem hr
      have := HG.out.inv.size y hy; omega))
    rw [hV] at OS
    clear hV kt ku
    go_wp2_with fail
    clear q0 q1 q2 q3 q4 q5 q6 q7 q8 q9 q10 q11 q12
    generalize hw6 : wr.alloc (.cells #[.string (pathOf Q), .int .i64 id, .int .i64 1, .int .i64 mode, .int .i64 0, .int .i64 0, .int .i64 0, .string nos, .string nos, .string nos, .slice none 0 0, .int .i64 sz, .bool made] 44) = w6
    have hr6 : w6.heap[wr.heap.size]? = some (.cells (Rw.cells ⟨pathOf Q, id, 1, mode, sz, made⟩).toArray 44 (0, 0)) := by rw [← hw6]; exact heap_alloc_new wr _
    have hbl6 : Below wr.heap.size wr w6 := by rw [← hw6]; exact (Below.refl _ _).alloc (Nat.le_refl _) _
    have HR6 := Lib.hid hr6
    have HB6 := Lib.hid hbl6
    have HRT6 := Lib.hid (HR5.out.below (bch HBR.out hbl6))
    clear hw6 hr6 hbl6
    refine (SE.out _ _ _ HRT6.out).mono ?_
    rintro e w7 ⟨A7, c7, rfl, hR7, hb7⟩
    have HB7 := Lib.hid (bch HB6.out hb7)
    have HR7 := Lib.hid hR7
    have hbr7 : Hid (w7.heap[wr.heap.size]? = _) := Lib.hid ((hb7.block _ (blk_lt HR6.out)).trans HR6.out)
    clear hb7 hR7
    go_wp2_with fail
    refine (OS.out _ _ _ (HE.out.below (bch HBW.out HB7.out)) HR7.out).mono ?_
    rintro e w8 ⟨rfl, hb8⟩
    have HB8 := Lib.hid (bch HB7.out hb8)
    have hr8 : w8.heap[wr.heap.size]? = _ := (hb8.block _ (blk_lt hbr7.out)).trans hbr7.out
    have HR8 := Lib.hid hr8
    have kt8 : w8.heap[w3.heap.size]? = _ := (HB8.out.block _ hn3r).trans KT.out
    have ku8 : w8.heap[w4.heap.size]? = _ := (HB8.out.block _ hn4r).trans KU.out
    clear hb8 t0 t1
    have t0 := blk_cell kt8 (j := 0) rfl
    have t1 := blk_cell kt8 (j := 1) rfl
    have u0 := blk_cell ku8 (j := 0) rfl
    have u1 := blk_cell ku8 (j := 1) rfl
    have u2 := blk_cell ku8 (j := 2) rfl
    have u3 := blk_cell ku8 (j := 3) rfl
    obtain ⟨z0, z1, z2, z3, z4, z5, z6, z7, z8, z9, z10, z11, z12⟩ := row_cells hr8
    have KT8 := Lib.hid kt8
    have KU8 := Lib.hid ku8
    have hn3w : w3.heap.size < w8.heap.size := blk_lt kt8
    have hn4w : w4.heap.size < w8.heap.size := blk_lt ku8
    have hnrw : wr.heap.size < w8.heap.size := blk_lt hr8
    clear hr8 kt8 ku8 z1 z3 z4 z5 z6 z7 z8 z9 z10 z12 SE OS KT KU
    go_upto_region 15 with fail
    generalize hwW : w8.alloc (.cells #[.int .i64 vb, .int .i64 vi, .int .i64 vd, .int .i64 vl] 23) = W
    have hblW : Below w8.heap.size w8 W := by rw [← hwW]; exact (Below.refl _ _).alloc (Nat.le_refl _) _
    clear hwW
    have HBW8 : Hid (Below wr.heap.size wr W) := Lib.hid (bch HB8.out hblW)
    have HEW : Hid (Env W) := Lib.hid (HE.out.below (bch HBW.out HBW8.out))
    have HRW : Hid (RT W (some ⟨b, o, none⟩) c3 M) := Lib.hid (HR5.out.below (bch HBR.out HBW8.out))
    have HRLW : Hid (Rd W Al cl Ll) := Lib.hid (HRL5.out.below (bch HBR.out HBW8.out))
    have ktW : W.heap[w3.heap.size]? = _ := (hblW.block _ hn3w).trans KT8.out
    have kuW : W.heap[w4.heap.size]? = _ := (hblW.block _ hn4w).trans KU8.out
    have krW : W.heap[wr.heap.size]? = _ := (hblW.block _ hnrw).trans HR8.out
    clear t0 t1 u0 u1 u2 u3 z0 z2 z11
    have t0 := blk_cell ktW (j := 0) rfl
    have t1 := blk_cell ktW (j := 1) rfl
    have KTW := Lib.hid ktW
    have KUW := Lib.hid kuW
    have KRW := Lib.hid krW
    have hn3W : w3.heap.size < W.heap.size := blk_lt ktW
    clear hblW ktW kuW krW
    obtain ⟨gp, gi, gk, gm, gs, gd, there, hlk, hget⟩ := get_gen (some ⟨b, o, none⟩) c3 M n (pathOf (bls Ll)) HG.out.inv.ok (by rw [← bl_size, bl_pathOf]; omega) (by omega)
    have GT := Lib.hid hget
    have HLK := Lib.hid hlk
    clear hlk hget
    go_cut [15] (fun s15 wx => s15 = .bool there ∧ Below W.heap.size W wx)
    case first =>
      have HRd : Hid (Rd W.drew Al cl Ll) := Lib.hid HRLW.out.drew
      have HRdz : Hid (Rd (W.alloc (.cells zC 44)).drew Al cl Ll) := Lib.hid (HRLW.out.alloc _).drew
      have hzlt : W.heap.size < (W.alloc (.cells zC 44)).drew.heap.size := by show W.heap.size < (W.alloc (.cells zC 44)).heap.size; simp
      have JOA := Lib.hid (fun (w : World) (hR : Rd w Al cl Ll) => join_any Al cl Ll w hR hta)
      go_region_held3 (fun w' => Below W.heap.size W w' ∧ w'.cell? ⟨w3.heap.size, 0, none⟩ = some (.slice (some ⟨b, o, none⟩) M.length c3) ∧ w'.cell? ⟨w3.heap.size, 1, none⟩ = some (.int .i64 n))
        ((refine ⟨?_, ?_, ?_⟩; (first | (rw [set13 HZX.out rfl]; exact below_setRow HB10.out (by first | exact Nat.le_refl _ | exact HB9.out.size) _) | (with_reducible exact (Below.refl _ _).drew) | (with_reducible exact Below.refl _ _) | (with_reducible exact HB9.out) | (with_reducible exact HB10.out) | (with_reducible exact below_alloc (Below.refl _ _) _) | (with_reducible exact (below_alloc (Below.refl _ _) _).drew) | (with_reducible exact below_alloc HB9.out _) | (with_reducible exact below_alloc HB10.out _)); all_goals (first | (rw [set13 HZX.out rfl, World.cell?_of_block (heap_setRow_ne _ _ _ _ (by show w3.heap.size ≠ _; omega))]; assumption) | (with_reducible assumption) | (with_reducible exact cell_alloc (by assumption) _) | go_keep)))
        (first
          | (go_at_call 23; refine (JOA.out _ HRd.out).mono ?_; rintro e w9 ⟨ra, rfl, hra, hb9⟩; have HB9 : Hid (Below W.heap.size W w9) := Lib.hid (((Below.refl _ _).drew).trans hb9); obtain rfl := path_eq hra; have k9 := (HB9.out.block _ hn3W).trans KTW.out; have t0 := blk_cell k9 (j := 0) rfl; have t1 := blk_cell k9 (j := 1) rfl; have hs9 : w3.heap.size < w9.heap.size := blk_lt k9; have HE9 : Hid (Env w9) := Lib.hid (HEW.out.below HB9.out); have HR9 : Hid (RT w9 (some ⟨b, o, none⟩) c3 M) := Lib.hid (HRW.out.below HB9.out); clear k9 hra; clear hb9)
          | (go_at_call 23; refine (JOA.out _ HRdz.out).mono ?_; rintro e w9 ⟨ra, rfl, hra, hb9⟩; have HZ9 := Lib.hid ((hb9.block W.heap.size hzlt).trans (heap_alloc_new W (.cells zC 44))); have HB9 : Hid (Below W.heap.size W w9) := Lib.hid ((((Below.refl _ _).alloc (Nat.le_refl _) (.cells zC 44)).drew).trans (hb9.mono (by simp))); obtain rfl := path_eq hra; have k9 := (HB9.out.block _ hn3W).trans KTW.out; have t0 := blk_cell k9 (j := 0) rfl; have t1 := blk_cell k9 (j := 1) rfl; have hs9 : w3.heap.size < w9.heap.size := blk_lt k9; have HE9 : Hid (Env w9) := Lib.hid (HEW.out.below HB9.out); have HR9 : Hid (RT w9 (some ⟨b, o, none⟩) c3 M) := Lib.hid (HRW.out.below HB9.out); clear k9 hra; clear hb9)
          | (go_at_call 22; have HZ9' := Lib.hid HZ9.out; refine (GT.out _ HE9.out HR9.out).mono ?_; rintro e w10 ⟨rfl, hb10⟩; have HZX := Lib.hid ((hb10.block _ (blk_lt HZ9.out)).trans HZ9.out); obtain ⟨y0, y1, y2, y3, y4, y5, y6, y7, y8, y9, y10, y11, y12, yf⟩ := z_cells HZX.out; have HB10 : Hid (Below W.heap.size W w10) := Lib.hid (bch HB9.out hb10); have k10 := (HB10.out.block _ hn3W).trans KTW.out; have t0 := blk_cell k10 (j := 0) rfl; have t1 := blk_cell k10 (j := 1) rfl; clear k10 hb10)
          | (go_at_call 22; refine (GT.out _ HE9.out HR9.out).mono ?_; rintro e w10 ⟨rfl, hb10⟩; have HB10 : Hid (Below W.heap.size W w10) := Lib.hid (bch HB9.out hb10); have k10 := (HB10.out.block _ hn3W).trans KTW.out; have t0 := blk_cell k10 (j := 0) rfl; have t1 := blk_cell k10 (j := 1) rfl; clear k10 hb10)
          | (go_at_call 22; refine (GT.out _ (HE9.out.below ((Below.refl _ _).alloc (Nat.le_refl _) _)) (HR9.out.alloc _)).mono ?_; rintro e w10 ⟨rfl, hb10⟩; have HZX := Lib.hid ((hb10.block w9.heap.size (by simp)).trans (heap_alloc_new w9 (.cells zC 44))); obtain ⟨y0, y1, y2, y3, y4, y5, y6, y7, y8, y9, y10, y11, y12, yf⟩ := z_cells HZX.out; have HB10 : Hid (Below W.heap.size W w10) := Lib.hid (bch (below_alloc HB9.out _) hb10); have k10 := (HB10.out.block _ hn3W).trans KTW.out; have t0 := blk_cell k10 (j := 0) rfl; have t1 := blk_cell k10 (j := 1) rfl; clear k10 hb10))
      all_goals (go_wp2_with fail)
      all_goals go_meet
      all_goals refine ⟨rfl, ?_⟩
      all_goals first | (with_reducible exact below_alloc HB10.out _) | (rw [set13 HZX.out rfl]; exact below_setRow HB10.out (Nat.le_refl _) _) | (rw [set13 HZX.out rfl]; exact below_setRow HB10.out HB9.out.size _)
    case rest =>
      obtain ⟨wz, rfl⟩ : ∃ wz : World, wz = wc := ⟨_, rfl⟩
      obtain ⟨rfl, hbc⟩ := hcut
      have HBC := Lib.hid hbc
      have HEC : Hid (Env wz) := Lib.hid (HEW.out.below hbc)
      have HRC := Lib.hid (HRW.out.below hbc)
      have HRLC := Lib.hid (HRLW.out.below hbc)
      have ktC : wz.heap[w3.heap.size]? = _ := (hbc.block _ hn3W).trans KTW.out
      have krC : wz.heap[wr.heap.size]? = _ := (hbc.block _ (blk_lt KRW.out)).trans KRW.out
      have kuC : wz.heap[w4.heap.size]? = _ := (hbc.block _ (blk_lt KUW.out)).trans KUW.out
      have KTC := Lib.hid ktC
      have KRC := Lib.hid krC
      have KUC := Lib.hid kuC
      have hn3C : w3.heap.size < wz.heap.size := blk_lt ktC
      have hnrC : wr.heap.size < wz.heap.size := blk_lt krC
      clear t0 t1 hbc
      have t0 := blk_cell ktC (j := 0) rfl
      have t1 := blk_cell ktC (j := 1) rfl
      obtain ⟨z0, -⟩ := row_cells krC
      clear ktC krC kuC
      have LNK := Lib.hid (fun (w : World) (hE : Env w) (hR : RT w (some ⟨b, o, none⟩) c3 M) => link_any (some ⟨b, o, none⟩) c3 M n (bls Ll) Q w hE hR HG.out.inv.ok HGP.out (by omega) HGQ.out hQ5 (by omega) hg2.1 (by omega))
      rcases hLV : linkV M n (bls Ll) Q with ⟨LM, ln, le⟩
      rw [hLV] at LNK
      have HLV := Lib.hid hLV
      clear hLV
      go_upto_region 16 with fail
      go_cut [16, 17] (fun s16 s17 wx => s17 = .int .i64 le ∧ ∃ (g : Nat) (A' : Option Addr) (c' : Nat), s16 = .pointer (some ⟨g, 0, none⟩) ∧ wz.heap.size ≤ g ∧ wx.heap[g]? = some (.cells [.slice A' LM.length c', .int .i64 ln].toArray 35 (0, 0)) ∧ RT wx A' c' LM ∧ Below wz.heap.size wz wx)
      case first =>
        have HRd : Hid (Rd wz.drew Al cl Ll) := Lib.hid HRLC.out.drew
        have HRdz : Hid (Rd (wz.alloc (.cells #[.slice none 0 0, .int .i64 0] 35)).drew Al cl Ll) := Lib.hid (HRLC.out.alloc _).drew
        have hzlt : wz.heap.size < (wz.alloc (.cells #[.slice none 0 0, .int .i64 0] 35)).drew.heap.size := by show wz.heap.size < (wz.alloc (.cells #[.slice none 0 0, .int .i64 0] 35)).heap.size; simp
        have JOA := Lib.hid (fun (w : World) (hR : Rd w Al cl Ll) => join_any Al cl Ll w hR hta)
        go_region_held3 (fun w' => Below wz.heap.size wz w' ∧ w'.cell? ⟨w3.heap.size, 0, none⟩ = some (.slice (some ⟨b, o, none⟩) M.length c3) ∧ w'.cell? ⟨w3.heap.size, 1, none⟩ = some (.int .i64 n) ∧ w'.cell? ⟨wr.heap.size, 0, none⟩ = some (.string (pathOf Q)))
          ((refine ⟨?_, ?_, ?_, ?_⟩; (first | exact (Below.refl _ _).drew | exact Below.refl _ _ | exact HB9.out | exact HB10.out | exact below_alloc (Below.refl _ _) _ | exact (below_alloc (Below.refl _ _) _).drew | exact below_alloc HB9.out _ | exact below_alloc HB10.out _ | exact (HB10.out.setCell (p := ⟨_, 0, none⟩) (by first | exact Nat.le_refl _ | exact HB9.out.size) _).setCell (p := ⟨_, 1, none⟩) (by first | exact Nat.le_refl _ | exact HB9.out.size) _); all_goals (first | assumption | exact cell_alloc (by assumption) _ | (rw [cell_other (fun e => by injection e; omega), cell_other (fun e => by injection e; omega)]; assumption) | go_keep)))
          (first
          | (go_at_call 23; refine (JOA.out _ HRd.out).mono ?_; rintro e w9 ⟨ra, rfl, hra, hb9⟩; have HB9 : Hid (Below wz.heap.size wz w9) := Lib.hid (((Below.refl _ _).drew).trans hb9); obtain rfl := path_eq hra; have k9 := (HB9.out.block _ hn3C).trans KTC.out; have t0 := blk_cell k9 (j := 0) rfl; have t1 := blk_cell k9 (j := 1) rfl; obtain ⟨z0, -⟩ := row_cells ((HB9.out.block _ hnrC).trans KRC.out); have hs9 : w3.heap.size < w9.heap.size := blk_lt k9; have hs9r : wr.heap.size < w9.heap.size := Nat.lt_of_lt_of_le hnrC HB9.out.size; have HE9 : Hid (Env w9) := Lib.hid (HEC.out.below HB9.out); have HR9 : Hid (RT w9 (some ⟨b, o, none⟩) c3 M) := Lib.hid (HRC.out.below HB9.out); clear k9 hra; clear hb9)
          | (go_at_call 23; refine (JOA.out _ HRdz.out).mono ?_; rintro e w9 ⟨ra, rfl, hra, hb9⟩; have HZ9 := Lib.hid ((hb9.block wz.heap.size hzlt).trans (heap_alloc_new wz (.cells #[.slice none 0 0, .int .i64 0] 35))); have HB9 : Hid (Below wz.heap.size wz w9) := Lib.hid ((((Below.refl _ _).alloc (Nat.le_refl _) (.cells #[.slice none 0 0, .int .i64 0] 35)).drew).trans (hb9.mono (by simp))); obtain rfl := path_eq hra; have k9 := (HB9.out.block _ hn3C).trans KTC.out; have t0 := blk_cell k9 (j := 0) rfl; have t1 := blk_cell k9 (j := 1) rfl; obtain ⟨z0, -⟩ := row_cells ((HB9.out.block _ hnrC).trans KRC.out); have hs9 : w3.heap.size < w9.heap.size := blk_lt k9; have hs9r : wr.heap.size < w9.heap.size := Nat.lt_of_lt_of_le hnrC HB9.out.size; have HE9 : Hid (Env w9) := Lib.hid (HEC.out.below HB9.out); have HR9 : Hid (RT w9 (some ⟨b, o, none⟩) c3 M) := Lib.hid (HRC.out.below HB9.out); clear k9 hra; clear hb9)
          | (go_at_call 25; have HZ9' := Lib.hid HZ9.out; refine (LNK.out _ HE9.out HR9.out).mono ?_; rintro e w10 ⟨A10, c10, rfl, hR10, hb10⟩; have HZX := Lib.hid ((hb10.block _ (blk_lt HZ9.out)).trans HZ9.out); have y0 := blk_cell (cs := [.slice none 0 0, .int .i64 0]) HZX.out (j := 0) rfl; have y1 := blk_cell (cs := [.slice none 0 0, .int .i64 0]) HZX.out (j := 1) rfl; have yf := blk_frozen HZX.out; have HB10 : Hid (Below wz.heap.size wz w10) := Lib.hid (bch HB9.out hb10); have HR10 := Lib.hid hR10; have k10 := (HB10.out.block _ hn3C).trans KTC.out; have t0 := blk_cell k10 (j := 0) rfl; have t1 := blk_cell k10 (j := 1) rfl; obtain ⟨z0, -⟩ := row_cells ((HB10.out.block _ hnrC).trans KRC.out); clear k10 hb10 hR10)
          | (go_at_call 25; refine (LNK.out _ HE9.out HR9.out).mono ?_; rintro e w10 ⟨A10, c10, rfl, hR10, hb10⟩; have HB10 : Hid (Below wz.heap.size wz w10) := Lib.hid (bch HB9.out hb10); have HR10 := Lib.hid hR10; have k10 := (HB10.out.block _ hn3C).trans KTC.out; have t0 := blk_cell k10 (j := 0) rfl; have t1 := blk_cell k10 (j := 1) rfl; obtain ⟨z0, -⟩ := row_cells ((HB10.out.block _ hnrC).trans KRC.out); clear k10 hb10 hR10)
          | (go_at_call 25; refine (LNK.out _ (HE9.out.below ((Below.refl _ _).alloc (Nat.le_refl _) _)) (HR9.out.alloc _)).mono ?_; rintro e w10 ⟨A10, c10, rfl, hR10, hb10⟩; have HZX := Lib.hid ((hb10.block w9.heap.size (by simp)).trans (heap_alloc_new w9 (.cells #[.slice none 0 0, .int .i64 0] 35))); have y0 := blk_cell (cs := [.slice none 0 0, .int .i64 0]) HZX.out (j := 0) rfl; have y1 := blk_cell (cs := [.slice none 0 0, .int .i64 0]) HZX.out (j := 1) rfl; have yf := blk_frozen HZX.out; have HB10 : Hid (Below wz.heap.size wz w10) := Lib.hid (bch (below_alloc HB9.out _) hb10); have HR10 := Lib.hid hR10; have k10 := (HB10.out.block _ hn3C).trans KTC.out; have t0 := blk_cell k10 (j := 0) rfl; have t1 := blk_cell k10 (j := 1) rfl; obtain ⟨z0, -⟩ := row_cells ((HB10.out.block _ hnrC).trans KRC.out); clear k10 hb10 hR10))
        all_goals (go_wp2_with fail)
        all_goals go_meet
        all_goals first
          | (rw [set2 HZX.out]; exact ⟨rfl, _, A10, c10, rfl, by first | exact Nat.le_refl _ | exact HB9.out.size, setRow_heap _ _ _ _ _ _ HZX.out, HR10.out.setOther HZX.out tree_no _, below_setRow HB10.out (by first | exact Nat.le_refl _ | exact HB9.out.size) _⟩)
          | exact ⟨rfl, w10.heap.size, A10, c10, rfl, HB10.out.size, heap_alloc_new w10 _, HR10.out.alloc _, below_alloc HB10.out _⟩
      case rest =>
        obtain ⟨rfl, g, A', c', rfl, hgw, hg, hRL, hbx⟩ := hcut
        obtain ⟨wy, rfl⟩ : ∃ wy : World, wy = wc := ⟨_, rfl⟩
        have ktY : wy.heap[w3.heap.size]? = _ := (hbx.block _ hn3C).trans KTC.out
        have kuY : wy.heap[w4.heap.size]? = _ := (hbx.block _ (blk_lt KUC.out)).trans KUC.out
        have HBY : Hid (Below wr.heap.size wr wy) := Lib.hid (bch HBW8.out (bch HBC.out hbx))
        have HKU := Lib.hid kuY
        have HGB := Lib.hid hg
        have HRLM := Lib.hid hRL
        have hn3Y : w3.heap.size < wy.heap.size := blk_lt ktY
        have hgY : g < wy.heap.size := blk_lt hg
        have hg3 : w3.heap.size ≠ g := by omega
        clear t0 t1 z0
        have t0 := blk_cell ktY (j := 0) rfl
        have x0 := blk_cell hg (j := 0) rfl
        have x1 := blk_cell hg (j := 1) rfl
        clear hbx ktY kuY hg hRL
        have hLMb : LM.length ≤ 7000 := by
          by_cases h0 : le = 0
          · have h1 := Grown.link HG.out (Q := Q) HGP.out hjl
            rw [HLV.out] at h1
            have := h1.len
            simp only at this; omega
          · have h1 := linkV_same (L := M) (n := n) (P := bls Ll) (Q := Q) (by rw [HLV.out]; exact h0)
            rw [HLV.out] at h1
            have := h1.1
            simp only at this
            rw [this]; omega
        by_cases hok : le = 0 ∧ there = false ∧ LM.length = M.length + 1
        case neg =>
          have h3 : (le == 0) = false ∨ ((le == 0) = true ∧ there = true) ∨ ((le == 0) = true ∧ there = false ∧ ((LM.length : Int) == (M.length : Int) + 1) = false) := by
            by_cases h0 : le = 0
            · right
              cases there
              · exact Or.inr ⟨by simp [h0], rfl, by simp; intro h; exact hok ⟨h0, rfl, by omega⟩⟩
              · exact Or.inl ⟨by simp [h0], rfl⟩
            · exact Or.inl (by simp [h0])
          have HNO := Lib.hid hok
          clear hok
          rcases h3 with h1 | ⟨h1, rfl⟩ | ⟨h1, rfl, h2⟩
          all_goals
            go_wp2_with fail
            go_roundg (M.length - (k + 1))
            case measure => omega
            case rel => exact ⟨k + 1, rfl, by go_num, by omega, Lib.hid (bch HBR.out HBY.out)⟩
        case pos =>
          obtain ⟨rfl, rfl, hll⟩ := hok
          obtain ⟨LI, hLI⟩ : ∃ r : List Rw × Rw, LM = putR r.1 r.2 ∧ Inv (putR r.1 r.2) ln := by
            obtain ⟨M', r', hd, he⟩ := linkV_done HG.out.inv HG.out.nat (P := bls Ll) (Q := Q) HGP.out (by omega) (by rw [HLV.out])
            rw [HLV.out] at hd he
            exact ⟨(M', r'), he, hd.inv⟩
          have hInv : Hid (Inv LM ln) := Lib.hid (by rw [hLI.1]; exact hLI.2)
          have hln : 0 ≤ ln ∧ ln ≤ 7000 := by
            have h1 := Grown.link HG.out (Q := Q) HGP.out hjl
            rw [HLV.out] at h1
            have h2 := h1.next
            have h3 := h1.nat
            simp only at h2 h3; omega
          have hno : look M (bls Ll) = none := by
            have h := HLK.out
            rw [bl_pathOf, parts_join _ HGP.out] at h
            rw [h]; rfl
          have hnm := us_name HG.out (Q := Q) HGP.out hjl (by rw [HLV.out]) hno (by rw [HLV.out]; exact hll)
          rw [HLV.out] at hnm
          rcases hUL : us LM with ⟨xb, xi, xd, xl⟩
          simp only at hnm
          rw [hUL, HU.out] at hnm
          simp only at hnm
          obtain ⟨rfl, rfl⟩ := hnm
          have OL := Lib.hid (fun (A : Option Addr) (c : Nat) (w : World) (hE : Env w) (hR : RT w A c LM) => of_any A c LM ln w hE hR hInv.out.ok (by omega) (fun r hr => by have := hInv.out.ids r hr; omega) (fun r hr => by have := hInv.out.size r hr; omega))
          rw [hUL] at OL
          have hlb : ((LM.length : Int) == (M.length : Int) + 1) = true := by simp; omega
          have HLL := Lib.hid hll
          clear hno hUL hLI hll
          go_wp2_with fail
          refine (OL.out _ _ _ (HE.out.below (bch HBW.out HBY.out)) HRLM.out).mono ?_
          rintro e w12 ⟨rfl, hb12⟩
          have ku12 : w12.heap[w4.heap.size]? = _ := (hb12.block _ (blk_lt HKU.out)).trans HKU.out
          have u0 := blk_cell ku12 (j := 0) rfl
          have u1 := blk_cell ku12 (j := 1) rfl
          have hn412 : w4.heap.size < w12.heap.size := blk_lt ku12
          have HB12 := Lib.hid (bch HBY.out hb12)
          clear ku12 hb12 t0 x0 x1
          go_wp2_with fail
          go_roundg (M.length - (k + 1))
          case measure => omega
          case rel => exact ⟨k + 1, rfl, by go_num, by omega, Lib.hid (bch HBR.out (below_alloc HB12.out _))⟩

end Go.Proofs.YtcniahbliadgiaaDoor

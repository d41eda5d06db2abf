/-
  pannierlaw14.UsageOf: the walk.
-/
import Derived.Test.YtcniahbliadgiaaDoorPlant
import Derived.Test.YtcniahbliadgiaaDoorSplit
import Derived.Test.YtcniahbliadgiaaDoorUseB
import Derived.Deep.RegionHeld3
namespace Go.Proofs.YtcniahbliadgiaaDoor
open Go.RowKit
open Go.Proofs.PnKit Go.Proofs.PnPath

theorem usF_congr : ∀ (L : List Rw) (s s' : List Int) (u : Us), (∀ i, i ∈ s ↔ i ∈ s') → usF s u L = usF s' u L
  | [], _, _, _, _ => rfl
  | r :: L, s, s', u, h => by
    have e : usOne s u r = usOne s' u r := by
      unfold usOne
      by_cases hs : r.id ∈ s
      · have hs' := (h _).1 hs
        simp only [if_pos hs, if_pos hs']
      · have hs' := fun x => hs ((h _).2 x)
        simp only [if_neg hs, if_neg hs']
    rw [usF, usF, e]
    exact usF_congr L _ _ _ fun i => by simp [h i]
theorem sp_join {P : List (List UInt8)} (hG : G P) (hP : P ≠ []) : sp (join P) = P := by
  unfold sp
  rw [msplit_join P hP (fun p hp => (hG p hp).slash)]
  refine List.filter_eq_self.2 fun p hp => ?_
  have := hG p hp
  simp [this.ne, this.dot]
theorem own_nums {w : World} {base : Nat} {e : TypeId} {v : Value} {xs : List Int} (h : w.ownsRow base e 1 v xs.length (xs.map (Value.int .i64))) :
    ∃ A c, v = .slice A xs.length c ∧ ∀ (j : Nat) (x : Int), xs[j]? = some x → ∃ g, A = some ⟨g, 0, none⟩ ∧ w.cell? ⟨g, j, none⟩ = some (.int .i64 x) := by
  obtain ⟨A, c, rfl, hc⟩ := own_form h
  refine ⟨A, c, rfl, fun j x hx => ?_⟩
  have hlt : j < xs.length := (List.getElem?_eq_some_iff.1 hx).1
  obtain ⟨g, cap, hv, _, hlt'⟩ := h.form (by omega)
  have hA : A = some ⟨g, 0, none⟩ := by injection hv
  subst hA
  refine ⟨g, rfl, ?_⟩
  have := h.cells (g := g) rfl j _ (by rw [List.getElem?_map, hx]; rfl)
  rwa [add_at, Nat.zero_add] at this
theorem ownsRow_same {w w' : World} {base : Nat} {e : TypeId} {size : Nat} {v : Value} {n : Nat} {xs : List Value} (h : w.ownsRow base e size v n xs) (hk : ∀ k, k < w.heap.size → w'.heap[k]? = w.heap[k]?) : w'.ownsRow base e size v n xs := by
  obtain ⟨h1, h2⟩ := h
  refine ⟨h1, ?_⟩
  rcases h2 with h2 | ⟨g, cap, cur, hv, hg, hh, r⟩
  · exact Or.inl h2
  · exact Or.inr ⟨g, cap, cur, hv, hg, by rw [hk _ (Array.getElem?_eq_some_iff.1 hh).1]; exact hh, r⟩
/-- where the fold of the statement stands -/
structure FoldAt (M : List Rw) (RES : Us) (k : Nat) (ids : List Int) (u : Us) : Prop where
  res : ∃ seen, (∀ i, i ∈ seen ↔ i ∈ ids) ∧ usF seen u (M.drop k) = RES
  cnt : u.inodes = ids.length
  len : ids.length ≤ k
  bd : 0 ≤ u.bytes ∧ u.bytes ≤ 2000000 * k ∧ 0 ≤ u.depth ∧ u.depth ≤ 2000 ∧ 0 ≤ u.length ∧ u.length ≤ 2000
theorem FoldAt.old {M : List Rw} {RES : Us} {k : Nat} {ids : List Int} {u : Us} (h : FoldAt M RES k ids u) {r : Rw} (hr : M[k]? = some r) (hi : r.id ∈ ids) (hp : (key r).length ≤ 2000) (hq : r.path.size ≤ 1000) :
    FoldAt M RES (k + 1) ids ⟨u.bytes, u.inodes, max u.depth (key r).length, max u.length r.path.size⟩ := by
  obtain ⟨seen, h1, h2⟩ := h.res
  obtain ⟨hk, rfl⟩ := List.getElem?_eq_some_iff.1 hr
  rw [List.drop_eq_getElem_cons hk, usF] at h2
  obtain ⟨a1, a2, a3, a4, a5, a6⟩ := h.bd
  refine ⟨⟨seen, h1, ?_⟩, h.cnt, by have := h.len; omega, a1, by push_cast; omega, by simp only; omega, by simp only; omega, by simp only; omega, by simp only; omega⟩
  have e : usOne seen u M[k] = ⟨u.bytes, u.inodes, max u.depth (key M[k]).length, max u.length M[k].path.size⟩ := by
    unfold usOne; simp only [if_pos ((h1 _).2 hi)]
  rw [e] at h2
  rw [← h2]
  exact usF_congr _ _ _ _ fun i => ⟨fun h => List.mem_cons_of_mem _ h, fun h => by
    rcases List.mem_cons.1 h with rfl | h
    · exact (h1 _).2 hi
    · exact h⟩
theorem FoldAt.new {M : List Rw} {RES : Us} {k : Nat} {ids : List Int} {u : Us} (h : FoldAt M RES k ids u) {r : Rw} (hr : M[k]? = some r) (hi : r.id ∉ ids) (hp : (key r).length ≤ 2000) (hq : r.path.size ≤ 1000) (hs : 0 ≤ r.size ∧ r.size ≤ 2000000) :
    FoldAt M RES (k + 1) (ids ++ [r.id]) ⟨if r.kind = 1 then u.bytes + r.size else u.bytes, u.inodes + 1, max u.depth (key r).length, max u.length r.path.size⟩ := by
  obtain ⟨seen, h1, h2⟩ := h.res
  obtain ⟨hk, rfl⟩ := List.getElem?_eq_some_iff.1 hr
  rw [List.drop_eq_getElem_cons hk, usF] at h2
  obtain ⟨a1, a2, a3, a4, a5, a6⟩ := h.bd
  refine ⟨⟨M[k].id :: seen, fun i => by rw [List.mem_cons, h1, List.mem_append, List.mem_singleton]; exact ⟨fun h => h.symm, fun h => h.symm⟩, ?_⟩, by have := h.cnt; simp only [List.length_append, List.length_singleton]; push_cast; omega, by have := h.len; simp only [List.length_append, List.length_singleton]; omega, by simp only; split <;> omega, by simp only; split <;> push_cast <;> omega, by simp only; omega, by simp only; omega, by simp only; omega, by simp only; omega⟩
  have e : usOne seen u M[k] = ⟨if M[k].kind = 1 then u.bytes + M[k].size else u.bytes, u.inodes + 1, max u.depth (key M[k]).length, max u.length M[k].path.size⟩ := by
    unfold usOne; simp only [if_neg (fun x => hi ((h1 _).1 x))]
  rw [e] at h2
  exact h2
theorem info_int : (Tryd.prog.info? 3).map (fun i => (i.zero, i.size, i.bytes)) = some (some (.int .i64 0), 1, 8) := by kernel_rfl

set_option maxRecDepth 100000 in
set_option maxHeartbeats 2000000 in
theorem ofl_walk (A : Option Addr) (c : Nat) (L : List Tg) (w : World) (hE : Env w) (hR : Rg w A c L) :
    Calls Tryd.prog 5 #[.slice A (List.length L) c] w fun e w' => e = .returned (.bool true) ∧ Below w.heap.size w w' := by
  obtain ⟨i0, hi0, hz0, hz1, hz2⟩ := info_parts info_int
  have HR := Lib.hid hR
  have HE := Lib.hid hE
  clear hR hE
  by_cases hlen : L.length ≤ 40
  case neg =>
    have h1 : 40 < L.length := by omega
    go_enter Tryd.func5, Tryd.ntmps5
    go_wp2_with fail
    refine (measures_any _ HE.out).mono ?_
    rintro e w1 ⟨rfl, hb1⟩
    go_wp2_with fail
    go_ret
    exact ⟨rfl, hb1⟩
  have HG := Lib.hid (plantV_grown L)
  have hg1 : (plantV L).1.length ≤ 6100 := by have := HG.out.len; omega
  have hg2 : 0 ≤ (plantV L).2 ∧ (plantV L).2 ≤ 6100 := by have := HG.out.next; have := HG.out.nat; omega
  rcases hM : plantV L with ⟨M, n⟩
  rw [hM] at HG hg1 hg2
  simp only at hg1 hg2
  have OF := Lib.hid (fun (A : Option Addr) (c : Nat) (w : World) (hE : Env w) (hR : RT w A c M) => of_any A c M n w hE hR HG.out.inv.ok (by omega) (fun r hr => by have := HG.out.inv.ids r hr; simp only at this; omega) (fun r hr => by have := HG.out.inv.size r hr; omega))
  have PL := Lib.hid (fun (w : World) (hE : Env w) (hR : Rg w A c L) => planted_any A c L w hE hR (by omega))
  rw [hM] at PL
  clear hM
  go_enter Tryd.func5, Tryd.ntmps5
  go_wp2_with fail
  refine (measures_any _ HE.out).mono ?_
  rintro e w1 ⟨rfl, hb1⟩
  have HB1 := Lib.hid hb1
  clear hb1
  go_wp2_with fail
  refine (PL.out _ (HE.out.below HB1.out) (HR.out.below HB1.out)).mono ?_
  rintro e w2 ⟨A2, c2, rfl, hR2, hb2⟩
  have HB2 := Lib.hid (bch HB1.out hb2)
  have HR2 := Lib.hid hR2
  clear hb2 hR2 HB1 PL
  obtain ⟨RES, hRES⟩ : ∃ RES, us M = RES := ⟨_, rfl⟩
  rw [hRES] at OF
  have HF0 : Hid (FoldAt M RES 0 [] ⟨0, 0, 0, 0⟩) := Lib.hid ⟨⟨[], fun _ => Iff.rfl, hRES⟩, rfl, Nat.le_refl _, by decide, by decide, by decide, by decide, by decide, by decide⟩
  clear hRES
  go_wp2_with fail
  refine (OF.out _ _ _ (HE.out.below (HB2.out.alloc HB2.out.size _)) (HR2.out.alloc _)).mono ?_
  rintro e w3 ⟨rfl, hb3⟩
  have HB3 := Lib.hid (bch (HB2.out.alloc HB2.out.size _) hb3)
  have HR3 := Lib.hid ((HR2.out.alloc _).below hb3)
  have ht3 : w3.heap[w2.heap.size]? = some (.cells [.slice A2 M.length c2, .int .i64 n].toArray 35 (0, 0)) := by rw [hb3.block _ (by simp)]; exact heap_alloc_new w2 _
  have HT3 := Lib.hid ht3
  have t0 := blk_cell ht3 (j := 0) rfl
  have hn3 : w2.heap.size < w3.heap.size := blk_lt ht3
  clear hb3 ht3 OF
  obtain ⟨rb, ri, rd, rl⟩ := RES
  go_wp2_with fail
  generalize hw4 : w3.alloc (.cells #[.int .i64 rb, .int .i64 ri, .int .i64 rd, .int .i64 rl] 23) = w4
  have hbl : Below w3.heap.size w3 w4 := by rw [← hw4]; exact (Below.refl _ _).alloc (Nat.le_refl _) _
  have hu4 : w4.heap[w3.heap.size]? = some (.cells (usC ⟨rb, ri, rd, rl⟩).toArray 23 (0, 0)) := by rw [← hw4]; exact heap_alloc_new w3 _
  have HU4 := Lib.hid hu4
  have HR4 := Lib.hid (HR3.out.below hbl)
  have HB4 := Lib.hid (bch HB3.out hbl)
  have hn4 : w3.heap.size < w4.heap.size := (Array.getElem?_eq_some_iff.1 hu4).1
  clear hw4 hbl hu4 t0 HR3 HR2
  go_loopg [5, 6, 7, 8, 26] M.length (fun g v5 v6 v7 v8 i wr => ∃ (k : Nat) (ids : List Int) (u : Us), g = M.length - k ∧ i = .int .i64 k ∧ k ≤ M.length ∧ v6 = .int .i64 u.bytes ∧ v7 = .int .i64 u.depth ∧ v8 = .int .i64 u.length ∧
      Hid (wr.ownsRow w4.heap.size 3 1 v5 ids.length (ids.map (Value.int .i64))) ∧ Hid (FoldAt M ⟨rb, ri, rd, rl⟩ k ids u) ∧ Hid (Below w4.heap.size w4 wr))
  case atStart => exact ⟨0, [], ⟨0, 0, 0, 0⟩, rfl, rfl, Nat.zero_le _, rfl, rfl, rfl, Lib.hid (World.ownsRow_nil _ _ _ _), HF0, Lib.hid (Below.refl _ _)⟩
  case round =>
    obtain ⟨k, ids, u, rfl, rfl, hk, rfl, rfl, rfl, HOWN, HFO, HBR⟩ := hrel
    have HBW := Lib.hid (bch HB4.out HBR.out)
    by_cases hlt : k < M.length
    case neg =>
      have hfin : (⟨rb, ri, rd, rl⟩ : Us) = ⟨u.bytes, ids.length, u.depth, u.length⟩ := by
        obtain ⟨seen, _, h⟩ := HFO.out.res
        rw [List.drop_eq_nil_of_le (by omega)] at h
        rw [← h, usF, ← HFO.out.cnt]
      injection hfin with f1 f2 f3 f4
      subst f1 f2 f3 f4
      obtain ⟨A7, c7, hv7, -⟩ := own_nums HOWN.out
      subst hv7
      have hu4 : wr.heap[w3.heap.size]? = _ := (HBR.out.block _ hn4).trans HU4.out
      have u0 := blk_cell hu4 (j := 0) rfl
      have u1 := blk_cell hu4 (j := 1) rfl
      have u2 := blk_cell hu4 (j := 2) rfl
      have u3 := blk_cell hu4 (j := 3) rfl
      clear hu4
      go_wp2_with fail
      go_ret
      exact ⟨rfl, HBW.out⟩
    have hx : M[k]? = some M[k] := List.getElem?_eq_getElem hlt
    have hmem : M[k] ∈ M := List.getElem_mem hlt
    generalize M[k] = r at hx hmem
    have HX := Lib.hid hx
    have hpz := HG.out.inv.ok.psize _ hmem
    have hidb := HG.out.inv.ids _ hmem
    have hszb := HG.out.inv.size _ hmem
    obtain ⟨P, hGP, hPn, hPe⟩ := HG.out.inv.ok.path _ hmem
    have HKEY : Hid (sp (bl r.path) = key r) := Lib.hid (by rw [key_of hGP hPe, hPe, sp_join hGP hPn])
    obtain ⟨path, id, kind, mode, size, made⟩ := r
    obtain ⟨b, o, rfl, hbw⟩ := HR4.out.pos (by omega)
    obtain ⟨q0, q1, q2, q3, q4, q5, q6, q7, q8, q9, q10, q11, q12⟩ := (HR4.out.below HBR.out).cells hx
    simp only at hpz hidb hszb
    clear hx hmem hGP hPn hPe
    have hbd : 0 ≤ u.bytes ∧ u.bytes ≤ 100000000000 := by have := HFO.out.bd; omega
    go_wp2_with fail
    clear q0 q1 q2 q3 q4 q5 q6 q7 q8 q9 q10 q11 q12
    generalize hw5 : wr.alloc (.cells #[.string path, .int .i64 id, .int .i64 kind, .int .i64 mode, .int .i64 0, .int .i64 0, .int .i64 0, .string nos, .string nos, .string nos, .slice none 0 0, .int .i64 size, .bool made] 44) = w5
    have hr5 : w5.heap[wr.heap.size]? = some (.cells (Rw.cells ⟨path, id, kind, mode, size, made⟩).toArray 44 (0, 0)) := by rw [← hw5]; exact heap_alloc_new wr _
    have hbl5 : Below wr.heap.size wr w5 := by rw [← hw5]; exact (Below.refl _ _).alloc (Nat.le_refl _) _
    clear hw5
    refine (rsplit_any path _ (by omega)).mono ?_
    rintro e w6 ⟨A6, c6, L6, rfl, -, hL6, hb6⟩
    have hr6 : w6.heap[wr.heap.size]? = _ := (hb6.block _ (blk_lt hr5)).trans hr5
    have hb56 := bch hbl5 hb6
    have HOWN6 := Lib.hid (ownsRow_same HOWN.out hb56.block)
    have HB6 := Lib.hid hb56
    have HBR6 := Lib.hid (bch HBR.out hb56)
    have HD : Hid (L6.length = (parts (bl path)).length) := Lib.hid (by
      have h1 : (sp (bl path)).length = (parts (bl path)).length := congrArg List.length HKEY.out
      rw [← h1, ← hL6, bls_length])
    have HDK : Hid ((parts (bl path)).length ≤ 2000) := Lib.hid (by
      have h1 := length_le_tot (parts (bl path))
      have h2 := tot_parts (bl path)
      rw [bl_size] at h2; omega)
    obtain ⟨z0, z1, z2, z3, z4, z5, z6, z7, z8, z9, z10, z11, z12⟩ := row_cells hr6
    have HLT := Lib.hid HOWN.out.lt
    have HR6 := Lib.hid hr6
    obtain ⟨A7, c7, hv7, hc7⟩ := own_nums HOWN6.out
    subst hv7
    have HC7 := Lib.hid hc7
    clear hb6 hb56 hL6 hr5 hbl5 hr6 hc7 z3 z4 z5 z6 z7 z8 z9 z10 z12 HOWN
    have hidl : ids.length ≤ 6100 := by have := HFO.out.len; omega
    go_wp2_with fail
    go_loopg [11, 13, 43] ids.length (fun g kn _ j wi => w6 = wi ∧ ∃ m : Nat, g = ids.length - m ∧ j = .int .i64 m ∧ m ≤ ids.length ∧ kn = .bool (decide (id ∈ ids.take m)))
    case atStart => exact ⟨rfl, 0, rfl, rfl, Nat.zero_le _, by simp⟩
    case round =>
      obtain ⟨rfl, m, rfl, rfl, hm, rfl⟩ := hrel
      by_cases hml : m < ids.length
      case pos =>
        have hy : ids[m]? = some ids[m] := List.getElem?_eq_getElem hml
        have htk : ids.take (m + 1) = ids.take m ++ [ids[m]] := List.take_succ_eq_append_getElem hml
        generalize ids[m] = y at hy htk
        obtain ⟨g7, rfl, hcy⟩ := HC7.out m y hy
        have HTK := Lib.hid htk
        clear hy htk
        by_cases hkn : id ∈ ids.take m
        · rw [decide_eq_true hkn]
          have HT : Hid (decide (id ∈ ids.take (m + 1)) = true) := Lib.hid (by rw [HTK.out]; simp [hkn])
          clear hkn
          go_wp2_with fail
          go_roundg (ids.length - (m + 1))
          case measure => omega
          case rel => exact ⟨rfl, m + 1, rfl, by go_num, by omega, by rw [HT.out]⟩
        · rw [decide_eq_false hkn]
          have HKN := Lib.hid hkn
          clear hkn
          by_cases hyi : y = id
          · have hyb : (y == id) = true := by simp [hyi]
            have HT : Hid (decide (id ∈ ids.take (m + 1)) = true) := Lib.hid (by rw [HTK.out]; simp [hyi])
            clear hyi
            go_wp2_with fail
            go_roundg (ids.length - (m + 1))
            case measure => omega
            case rel => exact ⟨rfl, m + 1, rfl, by go_num, by omega, by rw [HT.out]⟩
          · have hyb : (y == id) = false := by simp [hyi]
            have HT : Hid (decide (id ∈ ids.take (m + 1)) = false) := Lib.hid (by rw [HTK.out]; simp [HKN.out]; exact fun h => hyi h.symm)
            clear hyi
            go_wp2_with fail
            go_roundg (ids.length - (m + 1))
            case measure => omega
            case rel => exact ⟨rfl, m + 1, rfl, by go_num, by omega, by rw [HT.out]⟩
      case neg =>
        rw [List.take_of_length_le (by omega)]
        by_cases hs : id ∈ ids
        · rw [decide_eq_true hs]
          have HFN := Lib.hid (HFO.out.old HX.out hs HDK.out hpz)
          clear hs
          go_wp2_with fail
          go_roundg (M.length - (k + 1))
          case measure => omega
          case rel =>
            refine ⟨k + 1, ids, ⟨u.bytes, u.inodes, max u.depth L6.length, max u.length path.size⟩, rfl, by go_num, by omega, rfl, rfl, rfl, HOWN6, ?_, HBR6⟩
            rw [HD.out]
            exact HFN
        · rw [decide_eq_false hs]
          have HFN := Lib.hid (HFO.out.new HX.out hs HDK.out hpz ⟨hszb.1, by simp only; omega⟩)
          clear hs
          have HO8 := Lib.hid (HOWN6.out.alloc (.cells #[.int .i64 id] 3))
          have hb48 : w4.heap.size ≤ w6.heap.size := HBR6.out.size
          go_wp2_with (at_builtin; refine wpList_append_own _ rfl _ _ 38 rfl w4.heap.size 3 i0 (.int .i64 0) 1 8 Tryd.underlying38 hi0 hz0 hz1 hz2 rfl (by decide) _ _ _ rfl HO8.out ⟨w6.heap.size, 0, none⟩ 1 1 [.int .i64 id] rfl rfl (news_one _ _ _) (by simp [Value.oneCell']) (by simp only [maxLen]; omega) (by omega) (base_alloc hb48 _) ?_)
          intro v7 w7 hown7 hg7 _
          have hb7 : Below w4.heap.size w4 w7 := below_grown (HBR6.out.alloc hb48 _) hg7 HO8.out (Nat.le_refl _) (base_alloc hb48 _)
          have HB7 := Lib.hid hb7
          have HOWN7 : Hid (w7.ownsRow w4.heap.size 3 1 v7 (ids ++ [id]).length ((ids ++ [id]).map (Value.int .i64))) := Lib.hid (by rw [List.length_append, List.map_append]; exact hown7)
          have hr7 : w7.heap[wr.heap.size]? = some (.cells (Rw.cells ⟨path, id, kind, mode, size, made⟩).toArray 44 (0, 0)) := by
            have hl := blk_lt HR6.out
            rw [hg7.block _ (by simp; omega) (fun e => by have := (HLT.out _ e.symm).2; omega), Below.heap_alloc _ _ _ hl]; exact HR6.out
          obtain ⟨-, -, z2, -, -, -, -, -, -, -, -, z11, -⟩ := row_cells hr7
          clear hown7 hg7 hb7 hr7
          have hkb : (kind = 1 ∧ (kind == 1) = true) ∨ (kind ≠ 1 ∧ (kind == 1) = false) := by
            by_cases h : kind = 1
            · exact Or.inl ⟨h, by simp [h]⟩
            · exact Or.inr ⟨h, by simp [h]⟩
          rcases hkb with ⟨hk1, hkb⟩ | ⟨hk1, hkb⟩
          case' inl =>
            have HFM : Hid (FoldAt M ⟨rb, ri, rd, rl⟩ (k + 1) (ids ++ [id]) ⟨u.bytes + size, u.inodes + 1, max u.depth L6.length, max u.length path.size⟩) := Lib.hid (by
              have h := HFN.out
              simp only [if_pos hk1] at h
              rw [HD.out]; exact h)
          case' inr =>
            have HFM : Hid (FoldAt M ⟨rb, ri, rd, rl⟩ (k + 1) (ids ++ [id]) ⟨u.bytes, u.inodes + 1, max u.depth L6.length, max u.length path.size⟩) := Lib.hid (by
              have h := HFN.out
              simp only [if_neg hk1] at h
              rw [HD.out]; exact h)
          all_goals
            clear hk1 HFN
            go_wp2_with fail
            go_roundg (M.length - (k + 1))
            case measure => omega
            case rel => first | exact ⟨k + 1, ids ++ [id], ⟨u.bytes + size, u.inodes + 1, max u.depth L6.length, max u.length path.size⟩, rfl, by go_num, by omega, rfl, rfl, rfl, HOWN7, HFM, HB7⟩ | exact ⟨k + 1, ids ++ [id], ⟨u.bytes, u.inodes + 1, max u.depth L6.length, max u.length path.size⟩, rfl, by go_num, by omega, rfl, rfl, rfl, HOWN7, HFM, HB7⟩

end Go.Proofs.YtcniahbliadgiaaDoor

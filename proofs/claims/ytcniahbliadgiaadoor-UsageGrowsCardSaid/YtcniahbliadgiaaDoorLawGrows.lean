/-
  pannierlaw14.UsageGrows: the walk.
-/
import Derived.Test.YtcniahbliadgiaaDoorGrow
namespace Go.Proofs.YtcniahbliadgiaaDoor
open Go.RowKit
open Go.Proofs.PnKit Go.Proofs.PnPath

abbrev zG : Array Value := #[.string ⟨#[]⟩, .int .i64 0, .int .i64 0, .int .i64 0, .int .i64 0, .int .i64 0, .int .i64 0, .string ⟨#[]⟩, .string ⟨#[]⟩, .string ⟨#[]⟩, .slice none 0 0, .int .i64 0, .bool false]
def getF (n0 : Nat) (vt vp vj vr : Value) (b : Bool) : Nat → (Nat → Value) → World → Prop
  | 0, xs, _ => xs 0 = vt
  | 1, xs, _ => xs 1 = vp
  | 2, xs, _ => xs 2 = vj
  | 3, xs, _ => xs 3 = .tuple #[vr, .bool b]
  | 4, xs, _ => xs 4 = .tuple #[vr, .bool b]
  | 5, xs, _ => xs 5 = vr
  | 6, xs, _ => xs 6 = .bool b
  | 7, xs, w => ∃ g, xs 7 = .pointer (some ⟨g, 0, none⟩) ∧ n0 ≤ g ∧ w.heap[g]? = some (.cells zG 44 (0, 0))
  | 9, xs, _ => xs 9 = .bool b
  | _, _, _ => True
def getK (i j : Nat) : Bool := i == 8 && j == 7
def get0 (i j : Nat) : Bool := i == 1 || j == 1
theorem getF_mono {n0 : Nat} {vt vp vj vr : Value} {b : Bool} : ∀ j xs w w', getF n0 vt vp vj vr b j xs w → Below w.heap.size w w' → getF n0 vt vp vj vr b j xs w' := by
  intro j xs w w' h hb
  rcases j with _ | _ | _ | _ | _ | _ | _ | _ | _ | _ | j
  all_goals first
    | exact h
    | (obtain ⟨g, h1, h2, h3⟩ := h; exact ⟨g, h1, h2, (hb.block _ (blk_lt h3)).trans h3⟩)
theorem getF_ext {ops : Array Oper} {n0 : Nat} {vt vp vj vr : Value} {b : Bool} : ∀ (j : Nat) (xs ys : Nat → Value) (w : World), (∀ k, k = j ∨ fpred ops j k = true → xs k = ys k) → getF n0 vt vp vj vr b j xs w → getF n0 vt vp vj vr b j ys w := by
  intro j xs ys w h hf
  have hj := h j (Or.inl rfl)
  rcases j with _ | _ | _ | _ | _ | _ | _ | _ | _ | _ | j
  all_goals first
    | exact trivial
    | exact hj.symm.trans hf
    | (obtain ⟨g, h1, h2⟩ := hf; exact ⟨g, hj.symm.trans h1, h2⟩)
theorem get0_sym (j k : Nat) : get0 j k = get0 k j := by unfold get0; exact Bool.or_comm _ _
theorem get0_diag (j k : Nat) (h : get0 j k = false) : get0 k k = false := by
  rw [← Bool.not_eq_true] at h ⊢
  unfold get0 at *
  simp only [Bool.or_eq_true, beq_iff_eq] at *
  omega
theorem get_std {ops : Array Oper} {n0 : Nat} {vt vp vj vr : Value} {b : Bool} {w0 : World} {l : Nat → Prop} {xs : Nat → Value} {w w' : World} {i : Nat} {v : Value} (h : FI ops (getF n0 vt vp vj vr b) getK get0 w0 l xs w)
    (hn : ¬ l i) (hp : ∀ k, fpred ops i k = true → l k) (hb : Below w.heap.size w w')
    (hv : get0 i i = false → ∀ g, fblk v = some g → g < w'.heap.size ∧ (g < w0.heap.size ∨ w.heap.size ≤ g)) (hF : getF n0 vt vp vj vr b i (fupd xs i v) w') :
    FI ops (getF n0 vt vp vj vr b) getK get0 w0 (fun j => j = i ∨ l j) (fupd xs i v) w' :=
  h.std getF_ext get0_sym get0_diag getF_mono hn hp hb hv hF
theorem get_only {l : Nat → Prop} (h : ¬ l 8) : ∀ k, getK k 7 = true → ¬ l k := by
  intro k hk
  have h9 : k = 8 := by simpa [getK] using hk
  subst h9; exact h
theorem gro_only4 {l : Nat → Prop} (h : ¬ l 4) : ∀ k, groK k 2 = true → ¬ l k := by
  intro k hk
  have h9 : k = 4 := by simpa [groK] using hk
  subst h9; exact h
theorem gro_only7 {l : Nat → Prop} (h : ¬ l 7) : ∀ k, groK k 4 = true → ¬ l k := by
  intro k hk
  have h9 : k = 7 := by simpa [groK] using hk
  subst h9; exact h
theorem gro_only7b {l : Nat → Prop} (h : ¬ l 7) : ∀ k, groK k 6 = true → ¬ l k := by
  intro k hk
  have h9 : k = 7 := by simpa [groK] using hk
  subst h9; exact h
theorem gro_only9 {l : Nat → Prop} (h : ¬ l 9) : ∀ k, groK k 8 = true → ¬ l k := by
  intro k hk
  have h9 : k = 9 := by simpa [groK] using hk
  subst h9; exact h
theorem gro_only12 {l : Nat → Prop} (h : ¬ l 12) : ∀ k, groK k 10 = true → ¬ l k := by
  intro k hk
  have h9 : k = 12 := by simpa [groK] using hk
  subst h9; exact h
theorem gro_only13 {l : Nat → Prop} (h : ¬ l 13) : ∀ k, groK k 11 = true → ¬ l k := by
  intro k hk
  have h9 : k = 13 := by simpa [groK] using hk
  subst h9; exact h

attribute [local go_sem ↓] Go.wp_at_zero Go.wp_at_succ

set_option maxRecDepth 100000 in
set_option maxHeartbeats 16000000 in
theorem grows_walk (A : Option Addr) (c : Nat) (L : List Tg) (x : Tg) (w : World) (hE : Env w) (hR : Rg w A c L) :
    Calls Tryd.prog 6 #[.slice A (List.length L) c, .agg (tgC x).toArray] w fun e w' => e = .returned (.bool true) ∧ Below w.heap.size w w' := by
  obtain ⟨path, dest, kind, size⟩ := x
  have HR := Lib.hid hR
  have HE := Lib.hid hE
  clear hR hE
  go_enter Tryd.func6, Tryd.ntmps6
  go_wp2_with fail
  generalize hw0 : w.alloc (.cells #[.string path, .string dest, .int .i64 kind, .int .i64 size] 49) = w0
  have hx0 : w0.heap[w.heap.size]? = some (.cells (tgC ⟨path, dest, kind, size⟩).toArray 49 (0, 0)) := by rw [← hw0]; exact heap_alloc_new w _
  have hbl : Below w.heap.size w w0 := by rw [← hw0]; exact (Below.refl _ _).alloc (Nat.le_refl _) _
  have HX0 := Lib.hid hx0
  have HB0 := Lib.hid hbl
  clear hw0 hx0 hbl
  refine (measures_any _ (HE.out.below HB0.out)).mono ?_
  rintro e w1 ⟨rfl, hb1⟩
  have HB1 := Lib.hid (bch HB0.out hb1)
  have hx1 := (hb1.block _ (blk_lt HX0.out)).trans HX0.out
  obtain ⟨x0, x1, x2, x3⟩ := tg_cells hx1
  have HX1 := Lib.hid hx1
  have hn1 : w.heap.size < w1.heap.size := blk_lt hx1
  clear hb1 hx1 HX0 HB0
  go_wp2_with fail
  refine (clean_any path _ (HE.out.below HB1.out)).mono ?_
  rintro e w2 ⟨Al, cl, Ll, code, rfl, hRl, hcl, hb2⟩
  have HB2 := Lib.hid (bch HB1.out hb2)
  have HRL := Lib.hid hRl
  have HCL := Lib.hid hcl
  have hx2 := (hb2.block _ (blk_lt HX1.out)).trans HX1.out
  clear x0 x1 x2 x3
  obtain ⟨x0, x1, x2, x3⟩ := tg_cells hx2
  have HX2 := Lib.hid hx2
  have hn2 : w.heap.size < w2.heap.size := blk_lt hx2
  clear hb2 hRl hcl hx2 HX1 hn1
  by_cases hgo : L.length ≤ 40 ∧ code = 0 ∧ path.size ≤ 300 ∧ dest.size = 0
  case neg =>
    have hg2 : 40 < L.length ∨ (L.length ≤ 40 ∧ (code != 0) = true) ∨ (L.length ≤ 40 ∧ code = 0 ∧ 300 < (path.size : Int)) ∨ (L.length ≤ 40 ∧ code = 0 ∧ (path.size : Int) ≤ 300 ∧ dest.toList.isEmpty = false) := by
      by_cases h : code = 0
      · by_cases hd : dest.size = 0
        · omega
        · have hdl : dest.toList.isEmpty = false := by
            have hdn : bl dest ≠ [] := fun h => hd (by rw [← bl_size, h]; rfl)
            have : ¬ dest.toList = [] := by rw [ByteArray.toList_eq]; exact hdn
            simpa using this
          by_cases h1 : 40 < L.length
          · exact Or.inl h1
          · by_cases h2 : 300 < (path.size : Int)
            · exact Or.inr (Or.inr (Or.inl ⟨by omega, h, h2⟩))
            · exact Or.inr (Or.inr (Or.inr ⟨by omega, h, by omega, hdl⟩))
      · have : (code != 0) = true := by simp [h]
        rcases Nat.lt_or_ge 40 L.length with h1 | h1
        · exact Or.inl h1
        · exact Or.inr (Or.inl ⟨h1, this⟩)
    have HGO := Lib.hid hgo
    clear hgo
    rcases hg2 with h | ⟨h, h2⟩ | ⟨h, rfl, h3⟩ | ⟨h, rfl, h3, h4⟩
    all_goals
      go_wp2_with fail
      go_ret
      exact ⟨rfl, HB2.out⟩
  obtain ⟨hlen, rfl, hs, hd⟩ := hgo
  have hdl : dest.toList = [] := by
    have h : bl dest = [] := List.eq_nil_of_length_eq_zero (by rw [bl_size]; exact hd)
    rw [ByteArray.toList_eq]; exact h
  have hde : dest.toList.isEmpty = true := by rw [hdl]; rfl
  clear hdl
  have hcb := clean_bounds HCL.out
  have HGP : Hid (G (bls Ll)) := Lib.hid hcb.1
  have hjl : (join (bls Ll)).length ≤ 300 := by have := hcb.2; omega
  have hta : tot (bls Ll) ≤ 100000000 := by have := clean_size HCL.out; omega
  have HG := Lib.hid (plantV_grown L)
  have HG2 := Lib.hid (plantV_grown (L ++ [⟨path, dest, kind, size⟩]))
  have hg1 : (plantV L).1.length ≤ 6100 := by have := HG.out.len; omega
  have hg2 : 0 ≤ (plantV L).2 ∧ (plantV L).2 ≤ 6100 := by have := HG.out.next; have := HG.out.nat; omega
  have hg3 : (plantV (L ++ [⟨path, dest, kind, size⟩])).1.length ≤ 6400 := by have := HG2.out.len; rw [List.length_append] at this; simp only [List.length_cons, List.length_nil] at this; omega
  have hg4 : 0 ≤ (plantV (L ++ [⟨path, dest, kind, size⟩])).2 ∧ (plantV (L ++ [⟨path, dest, kind, size⟩])).2 ≤ 6400 := by have := HG2.out.next; have := HG2.out.nat; rw [List.length_append] at *; simp only [List.length_cons, List.length_nil] at *; omega
  have PL := Lib.hid (fun (w : World) (hE : Env w) (hR : Rg w A c L) => planted_any A c L w hE hR (by omega))
  have PL2 : Hid (∀ (A : Option Addr) (c : Nat) (w : World), Env w → Rg w A c (L ++ [⟨path, dest, kind, size⟩]) → Calls Tryd.prog 18 #[.slice A (List.length L + 1) c] w fun e w' =>
      ∃ A' c', e = .returned (.agg #[.slice A' (plantV (L ++ [⟨path, dest, kind, size⟩])).1.length c', .int .i64 (plantV (L ++ [⟨path, dest, kind, size⟩])).2]) ∧ RT w' A' c' (plantV (L ++ [⟨path, dest, kind, size⟩])).1 ∧ Below w.heap.size w w') := Lib.hid (fun A c w hE hR => by
    have h := planted_any A c (L ++ [⟨path, dest, kind, size⟩]) w hE hR (by rw [List.length_append]; simp only [List.length_cons, List.length_nil]; omega)
    have e1 : (L ++ [(⟨path, dest, kind, size⟩ : Tg)]).length = L.length + 1 := by rw [List.length_append]; rfl
    rw [e1] at h
    exact h)
  have GRW := Lib.hid (us_grows L ⟨path, dest, kind, size⟩ (by rw [HCL.out]) hs hd)
  rcases hM : plantV L with ⟨M, n⟩
  rcases hN : plantV (L ++ [⟨path, dest, kind, size⟩]) with ⟨N, nn⟩
  rw [hM] at HG hg1 hg2 PL GRW
  rw [hN] at HG2 hg3 hg4 PL2 GRW
  rw [HCL.out] at GRW
  simp only at hg1 hg2 hg3 hg4
  have OF := Lib.hid (fun (w : World) (A : Option Addr) (c : Nat) (hE : Env w) (hR : RT w A c M) => of_any A c M n w hE hR HG.out.inv.ok (by omega) (fun r hr => by have := HG.out.inv.ids r hr; simp only at this; omega) (fun r hr => by have := HG.out.inv.size r hr; omega))
  have OF2 := Lib.hid (fun (w : World) (A : Option Addr) (c : Nat) (hE : Env w) (hR : RT w A c N) => of_any A c N nn w hE hR HG2.out.inv.ok (by omega) (fun r hr => by have := HG2.out.inv.ids r hr; simp only at this; omega) (fun r hr => by have := HG2.out.inv.size r hr; omega))
  have hub := grow_bytes (S := 1048576) M [] ⟨0, 0, 0, 0⟩ HG.out.inv.size (by decide)
  have hvb := grow_bytes (S := 1048576) N [] ⟨0, 0, 0, 0⟩ HG2.out.inv.size (by decide)
  rcases hU : us M with ⟨ub, ui, ud, ul⟩
  rcases hV : us N with ⟨vb, vi, vd, vl⟩
  rw [hU] at OF
  rw [hV] at OF2
  rw [hU, hV] at GRW
  have hub2 : 0 ≤ ub ∧ ub ≤ 100000000000 := by
    rw [show usF [] ⟨0, 0, 0, 0⟩ M = ⟨ub, ui, ud, ul⟩ from hU] at hub
    simp only at hub
    omega
  have hvb2 : 0 ≤ vb ∧ vb ≤ 100000000000 := by
    rw [show usF [] ⟨0, 0, 0, 0⟩ N = ⟨vb, vi, vd, vl⟩ from hV] at hvb
    simp only at hvb
    omega
  obtain ⟨jp, hjp⟩ : ∃ jp : ByteArray, bl jp = join (bls Ll) := ⟨pathOf (bls Ll), bl_pathOf _⟩
  have hjs : jp.size ≤ 100000 := by rw [← bl_size, hjp]; omega
  clear hM hN hcb hub hvb hU hV hd
  go_wp2_with fail
  refine (PL.out _ (HE.out.below HB2.out) (HR.out.below HB2.out)).mono ?_
  rintro e w3 ⟨A3, c3, rfl, hR3, hb3⟩
  obtain ⟨gp, gi, gk, gm, gs, gd, there, hlk, hget⟩ := get_gen A3 c3 M n jp HG.out.inv.ok hjs (by omega)
  have HLK := Lib.hid hlk
  have GT := Lib.hid hget
  clear hlk hget
  have HB3 := Lib.hid (bch HB2.out hb3)
  have HR3 := Lib.hid hR3
  have HRL3 := Lib.hid (HRL.out.below hb3)
  have hx3 := (hb3.block _ (blk_lt HX2.out)).trans HX2.out
  have HX3 := Lib.hid hx3
  have hn3 : w.heap.size < w3.heap.size := blk_lt hx3
  clear x0 x1 x2 x3 hb3 hR3 PL HRL hx3 HX2 hn2
  go_upto_region 7 with fail
  generalize hw4 : w3.alloc (.cells #[.slice A3 M.length c3, .int .i64 n] 35) = w4
  have hbl : Below w3.heap.size w3 w4 := by rw [← hw4]; exact (Below.refl _ _).alloc (Nat.le_refl _) _
  have ht4 : w4.heap[w3.heap.size]? = some (.cells [.slice A3 M.length c3, .int .i64 n].toArray 35 (0, 0)) := by rw [← hw4]; exact heap_alloc_new w3 _
  have HB4 := Lib.hid (bch HB3.out hbl)
  have HR4 := Lib.hid (HR3.out.below hbl)
  have HRL4 := Lib.hid (HRL3.out.below hbl)
  have HX4 := Lib.hid ((hbl.block _ hn3).trans HX3.out)
  have HT4 := Lib.hid ht4
  clear hw4 hbl ht4 HB3 HR3 HRL3 HX3
  have hn3w : w3.heap.size < w4.heap.size := blk_lt HT4.out
  go_cut [9] (fun s9 wx => s9 = .bool there ∧ Below w4.heap.size w4 wx)
  case first =>
    refine wp_region_facts (getF w4.heap.size (trG A3 M.length c3 n) (.slice Al Ll.length cl) (.string jp) (.agg #[.string gp, .int .i64 gi, .int .i64 gk, .int .i64 gm, .int .i64 0, .int .i64 0, .int .i64 0, .string nos, .string nos, .string nos, .slice none 0 0, .int .i64 gs, .bool gd]) there) getK get0 (by kernel_rfl) 92 (by kernel_rfl) (by kernel_rfl) 10 (by kernel_rfl) ?_ ?_
    · refine ⟨?_, ?_, ?_, ?_, ?_, ?_, ?_, ?_, ?_, ?_, trivial⟩
      · intro l xs w1 a hn hp hI hev hno K hK
        have e9 : a.tmps[7]?.getD undef = .pointer (some ⟨w3.heap.size, 0, none⟩) := hno 7 (by kernel_rfl)
        obtain ⟨t0, t1⟩ : w1.cell? ⟨w3.heap.size, 0, none⟩ = some (.slice A3 M.length c3) ∧ w1.cell? ⟨w3.heap.size, 1, none⟩ = some (.int .i64 n) := ⟨blk_cell ((hI.below.block _ (blk_lt HT4.out)).trans HT4.out) (j := 0) rfl, blk_cell ((hI.below.block _ (blk_lt HT4.out)).trans HT4.out) (j := 1) rfl⟩
        go_simp
        exact hK _ _ (get_std hI hn hp (Below.refl _ _) (fun _ g hg => by cases hg) (fupd_same xs 0 _))
      · intro l xs w1 a hn hp hI hev hno K hK
        have e9 : a.tmps[5]?.getD undef = .slice Al Ll.length cl := hno 5 (by kernel_rfl)
        go_simp
        exact hK _ _ (get_std hI hn hp (Below.refl _ _) (fun h _ _ => by cases h) (fupd_same xs 1 _))
      · intro l xs w1 a hn hp hI hev hno K hK
        have hf : xs 1 = _ := hI.fact 1 (hp 1 (by kernel_rfl)) (fun k hk => by simp [getK] at hk)
        have e9 := (hev 1 42 (by kernel_rfl)).trans hf
        go_simp
        go_at_call 23
        refine (join_any Al cl Ll w1 (HRL4.out.below hI.below) hta).mono ?_
        rintro e w2' ⟨r, rfl, hr, hb⟩
        obtain rfl : r = jp := bl_inj (hr.trans hjp.symm)
        exact hK _ _ (get_std hI hn hp hb (fun _ g hg => by cases hg) (fupd_same xs 2 _))
      · intro l xs w1 a hn hp hI hev hno K hK
        have hf : xs 0 = _ := hI.fact 0 (hp 0 (by kernel_rfl)) (fun k hk => by simp [getK] at hk)
        have hf2 : xs 2 = _ := hI.fact 2 (hp 2 (by kernel_rfl)) (fun k hk => by simp [getK] at hk)
        have e9 := (hev 0 41 (by kernel_rfl)).trans hf
        have e8 := (hev 2 43 (by kernel_rfl)).trans hf2
        go_simp
        go_at_call 22
        refine (GT.out _ (HE.out.below (bch HB4.out hI.below)) (HR4.out.below hI.below)).mono ?_
        rintro e w2' ⟨rfl, hb⟩
        exact hK _ _ (get_std hI hn hp hb (fun _ g hg => by cases hg) (fupd_same xs 3 _))
      · intro l xs w1 a hn hp hI hev hno K hK
        have hf : xs 3 = _ := hI.fact 3 (hp 3 (by kernel_rfl)) (fun k hk => by simp [getK] at hk)
        have e9 := (hev 3 44 (by kernel_rfl)).trans hf
        go_simp
        exact hK _ _ (get_std hI hn hp (Below.refl _ _) (fun _ g hg => by cases hg) (fupd_same xs 4 _))
      · intro l xs w1 a hn hp hI hev hno K hK
        have hf : xs 4 = _ := hI.fact 4 (hp 4 (by kernel_rfl)) (fun k hk => by simp [getK] at hk)
        have e9 := (hev 4 40 (by kernel_rfl)).trans hf
        go_simp
        exact hK _ _ (get_std hI hn hp (Below.refl _ _) (fun _ g hg => by cases hg) (fupd_same xs 5 _))
      · intro l xs w1 a hn hp hI hev hno K hK
        have hf : xs 4 = _ := hI.fact 4 (hp 4 (by kernel_rfl)) (fun k hk => by simp [getK] at hk)
        have e9 := (hev 4 40 (by kernel_rfl)).trans hf
        go_simp
        exact hK _ _ (get_std hI hn hp (Below.refl _ _) (fun _ g hg => by cases hg) (fupd_same xs 6 _))
      · intro l xs w1 a hn hp hI hev hno K hK
        go_simp
        exact hK _ _ (get_std hI hn hp ((Below.refl _ _).alloc (Nat.le_refl _) _) (fun _ g hg => by injection hg with hg; subst hg; exact ⟨by simp, Or.inr (Nat.le_refl _)⟩) ⟨w1.heap.size, fupd_same xs 7 _, hI.below.size, heap_alloc_new w1 _⟩)
      · intro l xs w1 a hn hp hI hev hno K hK
        have hf : xs 5 = _ := hI.fact 5 (hp 5 (by kernel_rfl)) (fun k hk => by simp [getK] at hk)
        have e8 := (hev 5 45 (by kernel_rfl)).trans hf
        obtain ⟨g, hg1, hg2, hg3⟩ := hI.fact 7 (hp 7 (by kernel_rfl)) (get_only hn)
        have e9 := (hev 7 8 (by kernel_rfl)).trans hg1
        have t0 := blk_cell (cs := zG.toList) hg3 (j := 0) rfl
        have t1 := blk_cell (cs := zG.toList) hg3 (j := 1) rfl
        have t2 := blk_cell (cs := zG.toList) hg3 (j := 2) rfl
        have t3 := blk_cell (cs := zG.toList) hg3 (j := 3) rfl
        have t4 := blk_cell (cs := zG.toList) hg3 (j := 4) rfl
        have t5 := blk_cell (cs := zG.toList) hg3 (j := 5) rfl
        have t6 := blk_cell (cs := zG.toList) hg3 (j := 6) rfl
        have t7 := blk_cell (cs := zG.toList) hg3 (j := 7) rfl
        have t8 := blk_cell (cs := zG.toList) hg3 (j := 8) rfl
        have t9 := blk_cell (cs := zG.toList) hg3 (j := 9) rfl
        have t10 := blk_cell (cs := zG.toList) hg3 (j := 10) rfl
        have t11 := blk_cell (cs := zG.toList) hg3 (j := 11) rfl
        have t12 := blk_cell (cs := zG.toList) hg3 (j := 12) rfl
        have tf := blk_frozen hg3
        go_simp
        rw [set13 hg3 rfl]
        exact hK undef _ (hI.gen getF_ext get0_sym hn hp (below_setRow hI.below (by omega) _) (by simp [World.setRow]) (fun j hj hk _ hf => by
          rcases j with _ | _ | _ | _ | _ | _ | _ | _ | _ | _ | j
          case succ.succ.succ.succ.succ.succ.succ.zero => cases hk
          all_goals exact hf) (fun k _ _ g' _ h1 => by cases h1) (fun _ g' hg' => by cases hg') (fun _ => trivial))
      · intro l xs w1 a hn hp hI hev hno K hK
        have hf : xs 6 = _ := hI.fact 6 (hp 6 (by kernel_rfl)) (fun k hk => by simp [getK] at hk)
        have e9 := (hev 6 46 (by kernel_rfl)).trans hf
        go_simp
        exact hK _ _ (get_std hI hn hp (Below.refl _ _) (fun _ g hg => by cases hg) (fupd_same xs 9 _))
    · intro xs w1 hI
      have h9 : xs 9 = _ := hI.fact 9 (by decide) (fun k hk => by simp [getK] at hk)
      have hb := hI.below
      clear hI
      simp only [fput, fdst, List.getElem?_toArray, List.getElem?_cons_succ, List.getElem?_cons_zero, Option.bind_some, Act.put, List.setIfInBounds_toArray, List.set_cons_zero, List.set_cons_succ]
      go_wp2_with fail
      go_meet
      exact ⟨h9, hb⟩
  case rest =>
    obtain ⟨rfl, hbc⟩ := hcut
    obtain ⟨wz, rfl⟩ : ∃ wz : World, wz = wc := ⟨wc, rfl⟩
    have HBZ := Lib.hid (bch HB4.out hbc)
    have HRZ := Lib.hid (HR.out.below HBZ.out)
    have HMZ := Lib.hid (HR4.out.below hbc)
    have HXZ := Lib.hid ((hbc.block _ (blk_lt HX4.out)).trans HX4.out)
    have HTZ := Lib.hid ((hbc.block _ (blk_lt HT4.out)).trans HT4.out)
    clear hbc HB4 HR4 HX4 HT4 HRL4 GT
    cases there
    case true =>
      go_wp2_with fail
      go_ret
      exact ⟨rfl, HBZ.out⟩
    have hno : look M (bls Ll) = none := by
      have h := HLK.out
      rw [hjp, parts_join _ HGP.out] at h
      exact h
    obtain ⟨⟨l1, l2, l3, l4⟩, l5⟩ := GRW.out hno
    simp only at l1 l2 l3 l4 l5
    have HL := Lib.hid (And.intro l1 (And.intro l2 (And.intro l3 (And.intro l4 l5))))
    clear hno l1 l2 l3 l4 l5 HLK GRW
    go_upto_region 10 with fail
    go_cut [10, 11] (fun s10 s11 wx => ∃ g1 g2, s10 = .pointer (some ⟨g1, 0, none⟩) ∧ s11 = .pointer (some ⟨g2, 0, none⟩) ∧ wx.heap[g1]? = some (.cells (usC ⟨ub, ui, ud, ul⟩).toArray usT (0, 0)) ∧ wx.heap[g2]? = some (.cells (usC ⟨vb, vi, vd, vl⟩).toArray usT (0, 0)) ∧ Below wz.heap.size wz wx)
    case first =>
      refine wp_region_facts (groF wz.heap.size (trG A3 M.length c3 n) (.slice A L.length c) L ⟨path, dest, kind, size⟩ N nn ⟨ub, ui, ud, ul⟩ ⟨vb, vi, vd, vl⟩) groK groKin (by kernel_rfl) 92 (by kernel_rfl) (by kernel_rfl) 14 (by kernel_rfl) ?_ ?_
      · refine ⟨?_, ?_, ?_, ?_, ?_, ?_, ?_, ?_, ?_, ?_, ?_, ?_, ?_, ?_, trivial⟩
        · intro l xs w1 a hn hp hI hev hno K hK
          have e9 : a.tmps[7]?.getD undef = .pointer (some ⟨w3.heap.size, 0, none⟩) := hno 7 (by kernel_rfl)
          obtain ⟨t0, t1⟩ : w1.cell? ⟨w3.heap.size, 0, none⟩ = some (.slice A3 M.length c3) ∧ w1.cell? ⟨w3.heap.size, 1, none⟩ = some (.int .i64 n) := ⟨blk_cell ((hI.below.block _ (blk_lt HTZ.out)).trans HTZ.out) (j := 0) rfl, blk_cell ((hI.below.block _ (blk_lt HTZ.out)).trans HTZ.out) (j := 1) rfl⟩
          go_simp
          exact hK _ _ (gro_std hI (by kernel_rfl) (by kernel_rfl) hn hp (Below.refl _ _) (fun _ g hg => by cases hg) (fupd_same xs 0 _))
        · intro l xs w1 a hn hp hI hev hno K hK
          have hf : xs 0 = _ := hI.fact 0 (hp 0 (by kernel_rfl)) (fun k hk => by simp [groK] at hk)
          have e9 := (hev 0 48 (by kernel_rfl)).trans hf
          have hEn := HE.out.below (bch HBZ.out hI.below)
          go_simp
          go_at_call 19
          refine (OF.out _ _ _ hEn (HMZ.out.below hI.below)).mono ?_
          rintro e w2' ⟨rfl, hb⟩
          exact hK _ _ (gro_std hI (by kernel_rfl) (by kernel_rfl) hn hp hb (fun _ g hg => by cases hg) (fupd_same xs 1 _))
        · intro l xs w1 a hn hp hI hev hno K hK
          go_simp
          exact hK (.slice (some ⟨w1.heap.size, 0, none⟩) 0 0) _ (gro_std hI (by kernel_rfl) (by kernel_rfl) hn hp ((Below.refl _ _).alloc (Nat.le_refl _) _) (fun _ g hg => by injection hg with hg; subst hg; exact ⟨by simp, Or.inr (Nat.le_refl _)⟩) (ownr_eq (World.ownsRow_made w1 #[] 0 hI.below.size (Nat.zero_le _) (by simp)) (fupd_same xs 2 _).symm))
        · intro l xs w1 a hn hp hI hev hno K hK
          have e9 : a.tmps[0]?.getD undef = .slice A L.length c := hno 0 (by kernel_rfl)
          go_simp
          exact hK _ _ (gro_std hI (by kernel_rfl) (by kernel_rfl) hn hp (Below.refl _ _) (fun h _ _ => by cases h) (fupd_same xs 3 _))
        · intro l xs w1 a hn hp hI hev hno K hK
          have hf : xs 3 = _ := hI.fact 3 (hp 3 (by kernel_rfl)) (fun k hk => by simp [groK] at hk)
          have e8 := (hev 3 51 (by kernel_rfl)).trans hf
          have h2 := hI.fact 2 (hp 2 (by kernel_rfl)) (gro_only4 hn)
          have e9 := hev 2 50 (by kernel_rfl)
          refine wp_append_tg (.tmp 50) (.tmp 51) rfl wz.heap.size (xs 2) 0 [] (by simpa [Act.eval] using e9) h2 A c L (by simpa [Act.eval] using e8) (HRZ.out.below hI.below) (by omega) hI.below.size ?_
          intro v' w2' ho hgr hob
          exact hK _ _ (gro_app4 hI ho hgr hob rfl (by kernel_rfl) (by kernel_rfl) (by kernel_rfl) (by kernel_rfl) (by kernel_rfl) (by kernel_rfl) hn hp)
        · intro l xs w1 a hn hp hI hev hno K hK
          have e9 : a.tmps[3]?.getD undef = .pointer (some ⟨w.heap.size, 0, none⟩) := hno 3 (by kernel_rfl)
          obtain ⟨x0, x1, x2, x3⟩ := tg_cells ((hI.below.block _ (blk_lt HXZ.out)).trans HXZ.out)
          go_simp
          exact hK _ _ (gro_std hI (by kernel_rfl) (by kernel_rfl) hn hp (Below.refl _ _) (fun _ g hg => by cases hg) (fupd_same xs 5 _))
        · intro l xs w1 a hn hp hI hev hno K hK
          have hf : xs 5 = _ := hI.fact 5 (hp 5 (by kernel_rfl)) (fun k hk => by simp [groK] at hk)
          have e9 := (hev 5 53 (by kernel_rfl)).trans hf
          go_simp
          exact hK (.slice (some ⟨w1.heap.size, 0, none⟩) 1 1) _ (gro_std hI (by kernel_rfl) (by kernel_rfl) hn hp ((Below.refl _ _).alloc (Nat.le_refl _) _) (fun _ g hg => by injection hg with hg; subst hg; exact ⟨by simp, Or.inr (Nat.le_refl _)⟩) ⟨w1.heap.size, fupd_same xs 6 _, hI.below.size, heap_alloc_new w1 _⟩)
        · intro l xs w1 a hn hp hI hev hno K hK
          obtain ⟨g, hg1, hg2, hg3⟩ := hI.fact 6 (hp 6 (by kernel_rfl)) (gro_only7b hn)
          have e8 := (hev 6 54 (by kernel_rfl)).trans hg1
          have h2 := hI.fact 4 (hp 4 (by kernel_rfl)) (gro_only7 hn)
          have e9 := hev 4 52 (by kernel_rfl)
          refine wp_append_tg (.tmp 52) (.tmp 54) rfl wz.heap.size (xs 4) L.length (flatG L) (by simpa [Act.eval] using e9) h2 (some ⟨g, 0, none⟩) 1 [⟨path, dest, kind, size⟩] (by simpa [Act.eval] using e8) (grow_one hg3) (by simp only [List.length_cons, List.length_nil]; omega) hI.below.size ?_
          intro v' w2' ho hgr hob
          exact hK _ _ (gro_app7 hI ho hgr hob rfl (by kernel_rfl) (by kernel_rfl) (by kernel_rfl) (by kernel_rfl) (by kernel_rfl) hn hp)
        · intro l xs w1 a hn hp hI hev hno K hK
          have h7 := hI.fact 7 (hp 7 (by kernel_rfl)) (fun k hk => by simp [groK] at hk)
          obtain ⟨A7, c7, h71, h72⟩ := Rg.of_own h7
          have h73 : xs 7 = .slice A7 (L.length + 1) c7 := by rw [h71, List.length_append]; rfl
          have e9 := (hev 7 55 (by kernel_rfl)).trans h73
          have hEn := HE.out.below (bch HBZ.out hI.below)
          go_simp
          go_at_call 18
          refine (PL2.out A7 c7 _ hEn h72).mono ?_
          rintro e w2' ⟨A8, c8, rfl, hR8, hb⟩
          exact hK _ _ (gro_std hI (by kernel_rfl) (by kernel_rfl) hn hp hb (fun _ g hg => by cases hg) ⟨A8, c8, fupd_same xs 8 _, hR8⟩)
        · intro l xs w1 a hn hp hI hev hno K hK
          obtain ⟨A8, c8, h81, h82⟩ := hI.fact 8 (hp 8 (by kernel_rfl)) (gro_only9 hn)
          have e9 := (hev 8 56 (by kernel_rfl)).trans h81
          have hEn := HE.out.below (bch HBZ.out hI.below)
          go_simp
          go_at_call 19
          refine (OF2.out _ _ _ hEn h82).mono ?_
          rintro e w2' ⟨rfl, hb⟩
          exact hK _ _ (gro_std hI (by kernel_rfl) (by kernel_rfl) hn hp hb (fun _ g hg => by cases hg) (fupd_same xs 9 _))
        · intro l xs w1 a hn hp hI hev hno K hK
          go_simp
          exact hK _ _ (gro_std hI (by kernel_rfl) (by kernel_rfl) hn hp ((Below.refl _ _).alloc (Nat.le_refl _) _) (fun _ g hg => by injection hg with hg; subst hg; exact ⟨by simp, Or.inr (Nat.le_refl _)⟩) ⟨w1.heap.size, fupd_same xs 10 _, hI.below.size, heap_alloc_new w1 _⟩)
        · intro l xs w1 a hn hp hI hev hno K hK
          go_simp
          exact hK _ _ (gro_std hI (by kernel_rfl) (by kernel_rfl) hn hp ((Below.refl _ _).alloc (Nat.le_refl _) _) (fun _ g hg => by injection hg with hg; subst hg; exact ⟨by simp, Or.inr (Nat.le_refl _)⟩) ⟨w1.heap.size, fupd_same xs 11 _, hI.below.size, heap_alloc_new w1 _⟩)
        · intro l xs w1 a hn hp hI hev hno K hK
          have hf : xs 1 = _ := hI.fact 1 (hp 1 (by kernel_rfl)) (fun k hk => by simp [groK] at hk)
          have e8 := (hev 1 49 (by kernel_rfl)).trans hf
          obtain ⟨g, hg1, hg2, hg3⟩ := hI.fact 10 (hp 10 (by kernel_rfl)) (gro_only12 hn)
          have e9 := (hev 10 10 (by kernel_rfl)).trans hg1
          have t0 := blk_cell hg3 (j := 0) rfl
          have t1 := blk_cell hg3 (j := 1) rfl
          have t2 := blk_cell hg3 (j := 2) rfl
          have t3 := blk_cell hg3 (j := 3) rfl
          have tf := blk_frozen hg3
          go_simp
          rw [set4 hg3]
          exact hK undef _ (gro_set12 hI hg1 hg2 hg3 rfl (by kernel_rfl) (by kernel_rfl) (by kernel_rfl) (by kernel_rfl) (by kernel_rfl) (by kernel_rfl) hn hp)
        · intro l xs w1 a hn hp hI hev hno K hK
          have hf : xs 9 = _ := hI.fact 9 (hp 9 (by kernel_rfl)) (fun k hk => by simp [groK] at hk)
          have e8 := (hev 9 57 (by kernel_rfl)).trans hf
          obtain ⟨g, hg1, hg2, hg3⟩ := hI.fact 11 (hp 11 (by kernel_rfl)) (gro_only13 hn)
          have e9 := (hev 11 11 (by kernel_rfl)).trans hg1
          have t0 := blk_cell hg3 (j := 0) rfl
          have t1 := blk_cell hg3 (j := 1) rfl
          have t2 := blk_cell hg3 (j := 2) rfl
          have t3 := blk_cell hg3 (j := 3) rfl
          have tf := blk_frozen hg3
          go_simp
          rw [set4 hg3]
          exact hK undef _ (gro_set13 hI hg1 hg2 hg3 rfl (by kernel_rfl) (by kernel_rfl) (by kernel_rfl) (by kernel_rfl) (by kernel_rfl) (by kernel_rfl) hn hp)
      · intro xs w1 hI
        obtain ⟨g1, h1, h2, h3⟩ := hI.fact 12 (by decide) (fun k hk => by simp [groK] at hk)
        obtain ⟨g2, h4, h5, h6⟩ := hI.fact 13 (by decide) (fun k hk => by simp [groK] at hk)
        have hb := hI.below
        clear hI
        simp only [fput, fdst, List.getElem?_toArray, List.getElem?_cons_succ, List.getElem?_cons_zero, Option.bind_some, Act.put, List.setIfInBounds_toArray, List.set_cons_zero, List.set_cons_succ]
        go_wp2_with fail
        go_meet
        exact ⟨g1, g2, h1, h4, h3, h6, hb⟩
    case rest =>
      obtain ⟨g1, g2, rfl, rfl, hg1, hg2, hbc⟩ := hcut
      have HB9 := Lib.hid (bch HBZ.out hbc)
      have u0 := blk_cell hg1 (j := 0) rfl
      have u1 := blk_cell hg1 (j := 1) rfl
      have u2 := blk_cell hg1 (j := 2) rfl
      have u3 := blk_cell hg1 (j := 3) rfl
      have v0 := blk_cell hg2 (j := 0) rfl
      have v1 := blk_cell hg2 (j := 1) rfl
      have v2 := blk_cell hg2 (j := 2) rfl
      have v3 := blk_cell hg2 (j := 3) rfl
      have hm1 := HL.out.1
      have hm2 := HL.out.2.1
      have hm3 := HL.out.2.2.1
      have hm4 := HL.out.2.2.2.1
      have hm5 := HL.out.2.2.2.2
      clear hbc hg1 hg2
      go_wp2_with fail
      go_ret
      exact ⟨rfl, HB9.out⟩

end Go.Proofs.YtcniahbliadgiaaDoor

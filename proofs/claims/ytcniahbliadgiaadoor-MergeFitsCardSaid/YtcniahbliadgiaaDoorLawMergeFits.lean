/-
  pannierlaw17.MergeFits: the walk.
-/
import Derived.Test.YtcniahbliadgiaaDoorLawM
import Derived.Test.YtcniahbliadgiaaDoorFacts
import Derived.Deep.QuietTactic
import Derived.BigQuiet
namespace Go.Proofs.YtcniahbliadgiaaDoor
open Go.RowKit
open Go.Proofs.PnKit Go.Proofs.PnPath

theorem fits_bytes {S : Int} : ∀ (L : List Rw) (seen : List Int) (u : Us), (∀ r ∈ L, 0 ≤ r.size ∧ r.size ≤ S) → 0 ≤ S → u.bytes ≤ (usF seen u L).bytes ∧ (usF seen u L).bytes ≤ u.bytes + S * L.length ∧ u.inodes ≤ (usF seen u L).inodes ∧ (usF seen u L).inodes ≤ u.inodes + L.length
  | [], seen, u, _, _ => by simp [usF]
  | r :: L, seen, u, h, hS => by
    have ih := fits_bytes L (r.id :: seen) (usOne seen u r) (fun x hx => h x (by simp [hx])) hS
    have hr := h r (by simp)
    have h1 : u.bytes ≤ (usOne seen u r).bytes ∧ (usOne seen u r).bytes ≤ u.bytes + S ∧ u.inodes ≤ (usOne seen u r).inodes ∧ (usOne seen u r).inodes ≤ u.inodes + 1 := by
      unfold usOne; simp only
      by_cases h1 : r.id ∈ seen <;> by_cases h2 : r.kind = 1 <;> simp only [h1, h2, if_true, if_false] <;> omega
    have h2 : S * ((r :: L).length : Int) = S * (L.length : Int) + S := by rw [List.length_cons]; push_cast; rw [Int.mul_add, Int.mul_one]
    have h3 : ((r :: L).length : Int) = (L.length : Int) + 1 := by rw [List.length_cons]; push_cast; rfl
    rw [usF, h2, h3]
    omega
theorem fits_us {L : List Rw} (h : ∀ r ∈ L, 0 ≤ r.size ∧ r.size ≤ 1048576) (hl : L.length ≤ 10000) : 0 ≤ (us L).bytes ∧ (us L).bytes ≤ 20000000000 ∧ 0 ≤ (us L).inodes ∧ (us L).inodes ≤ 10000 := by
  have h1 := fits_bytes L [] ⟨0, 0, 0, 0⟩ h (by decide)
  have e : us L = usF [] ⟨0, 0, 0, 0⟩ L := rfl
  rw [← e] at h1
  simp only at h1
  omega

abbrev trV (A : Option Addr) (n c : Nat) (x : Int) : Value := .agg #[.slice A n c, .int .i64 x]
def fitF (n0 : Nat) (va vb vt : Value) (uM uU uV uP : Us) : Nat → (Nat → Value) → World → Prop
  | 0, xs, _ => xs 0 = vt
  | 1, xs, _ => xs 1 = usV uV
  | 2, xs, _ => xs 2 = va
  | 3, xs, _ => xs 3 = usV uM
  | 4, xs, _ => xs 4 = vb
  | 5, xs, _ => xs 5 = usV uU
  | 6, xs, _ => xs 6 = usV uP
  | 7, xs, w => ∃ g, xs 7 = .pointer (some ⟨g, 0, none⟩) ∧ n0 ≤ g ∧ w.heap[g]? = some (.cells (usC ⟨0, 0, 0, 0⟩).toArray 23 (0, 0))
  | 8, xs, w => ∃ g, xs 8 = .pointer (some ⟨g, 0, none⟩) ∧ n0 ≤ g ∧ w.heap[g]? = some (.cells (usC ⟨0, 0, 0, 0⟩).toArray 23 (0, 0))
  | 9, xs, w => ∃ g, xs 7 = .pointer (some ⟨g, 0, none⟩) ∧ n0 ≤ g ∧ w.heap[g]? = some (.cells (usC uV).toArray 23 (0, 0))
  | 10, xs, w => ∃ g, xs 8 = .pointer (some ⟨g, 0, none⟩) ∧ n0 ≤ g ∧ w.heap[g]? = some (.cells (usC uP).toArray 23 (0, 0))
  | _, _, _ => True
def fitK (i j : Nat) : Bool := (i == 9 && j == 7) || (i == 10 && j == 8)
def fit0 (_ _ : Nat) : Bool := false
theorem fitF_mono {n0 : Nat} {va vb vt : Value} {uM uU uV uP : Us} : ∀ j xs w w', fitF n0 va vb vt uM uU uV uP j xs w → Below w.heap.size w w' → fitF n0 va vb vt uM uU uV uP j xs w' := by
  intro j xs w w' h hb
  rcases j with _ | _ | _ | _ | _ | _ | _ | _ | _ | _ | _ | j
  all_goals first
    | exact h
    | (obtain ⟨g, h1, h2, h3⟩ := h; exact ⟨g, h1, h2, (hb.block _ (blk_lt h3)).trans h3⟩)
theorem fitF_ext {ops : Array Oper} (h97 : fpred ops 9 7 = true) (h108 : fpred ops 10 8 = true) {n0 : Nat} {va vb vt : Value} {uM uU uV uP : Us} : ∀ (j : Nat) (xs ys : Nat → Value) (w : World), (∀ k, k = j ∨ fpred ops j k = true → xs k = ys k) → fitF n0 va vb vt uM uU uV uP j xs w → fitF n0 va vb vt uM uU uV uP j ys w := by
  intro j xs ys w h hf
  rcases j with _ | _ | _ | _ | _ | _ | _ | _ | _ | _ | _ | j
  case succ.succ.succ.succ.succ.succ.succ.succ.succ.zero => obtain ⟨g, h1, h2⟩ := hf; exact ⟨g, (h 7 (Or.inr h97)).symm.trans h1, h2⟩
  case succ.succ.succ.succ.succ.succ.succ.succ.succ.succ.zero => obtain ⟨g, h1, h2⟩ := hf; exact ⟨g, (h 8 (Or.inr h108)).symm.trans h1, h2⟩
  case succ.succ.succ.succ.succ.succ.succ.succ.succ.succ.succ => exact trivial
  case succ.succ.succ.succ.succ.succ.succ.zero => obtain ⟨g, h1, h2⟩ := hf; exact ⟨g, (h 7 (Or.inl rfl)).symm.trans h1, h2⟩
  case succ.succ.succ.succ.succ.succ.succ.succ.zero => obtain ⟨g, h1, h2⟩ := hf; exact ⟨g, (h 8 (Or.inl rfl)).symm.trans h1, h2⟩
  all_goals exact (h _ (Or.inl rfl)).symm.trans hf
theorem fit_std {ops : Array Oper} {n0 : Nat} {va vb vt : Value} {uM uU uV uP : Us} {w0 : World} {l : Nat → Prop} {xs : Nat → Value} {w w' : World} {i : Nat} {v : Value} (h : FI ops (fitF n0 va vb vt uM uU uV uP) fitK fit0 w0 l xs w)
    (h97 : fpred ops 9 7 = true) (h108 : fpred ops 10 8 = true) (hn : ¬ l i) (hp : ∀ k, fpred ops i k = true → l k) (hb : Below w.heap.size w w')
    (hv : ∀ g, fblk v = some g → g < w'.heap.size ∧ (g < w0.heap.size ∨ w.heap.size ≤ g)) (hF : fitF n0 va vb vt uM uU uV uP i (fupd xs i v) w') :
    FI ops (fitF n0 va vb vt uM uU uV uP) fitK fit0 w0 (fun j => j = i ∨ l j) (fupd xs i v) w' :=
  h.std (fitF_ext h97 h108) (fun _ _ => rfl) fitF_mono hn hp hb hv hF
/-- a usage's block is written -/
theorem fit_set {ops : Array Oper} {n0 : Nat} {va vb vt : Value} {uM uU uV uP : Us} {w0 : World} {l : Nat → Prop} {xs : Nat → Value} {w : World} {i j g : Nat} {v : Value} {cs : Array Value} {old : Array Value} {t : TypeId} (h : FI ops (fitF n0 va vb vt uM uU uV uP) fitK fit0 w0 l xs w)
    (h97 : fpred ops 9 7 = true) (h108 : fpred ops 10 8 = true) (hn : ¬ l i) (hp : ∀ k, fpred ops i k = true → l k)
    (hij : (i = 9 ∧ j = 7) ∨ (i = 10 ∧ j = 8)) (hj : l j) (hg : xs j = .pointer (some ⟨g, 0, none⟩)) (hn0 : n0 ≤ g) (hw0 : n0 = w0.heap.size) (hold : w.heap[g]? = some (.cells old t (0, 0)))
    (hv : fblk v = none) (hF : fitF n0 va vb vt uM uU uV uP i (fupd xs i v) (w.setRow g cs)) :
    FI ops (fitF n0 va vb vt uM uU uV uP) fitK fit0 w0 (fun j => j = i ∨ l j) (fupd xs i v) (w.setRow g cs) := by
  have hsz : (w.setRow g cs).heap.size = w.heap.size := by simp [World.setRow]
  refine h.gen (fitF_ext h97 h108) (fun _ _ => rfl) hn hp ?_ (Nat.le_of_eq hsz.symm) ?_ (fun k _ _ g' _ h1 => by rw [hv] at h1; cases h1) (fun g' hg' => by rw [hv] at hg'; cases hg') (fun _ => hF)
  · exact below_setRow h.below (by omega) _
  · intro k hk hki _ hf
    have far : ∀ (q : Nat) (g' : Nat), l q → q ≠ j → xs q = .pointer (some ⟨g', 0, none⟩) → (w.setRow g cs).heap[g']? = w.heap[g']? := fun q g' hq hqj hxq => by
      refine heap_setRow_ne w g g' cs ?_
      intro e
      subst e
      have := h.ap q j hqj hq hj rfl g' (by omega) (by rw [hxq]; rfl)
      rw [hg] at this
      exact this rfl
    rcases k with _ | _ | _ | _ | _ | _ | _ | _ | _ | _ | _ | k
    case succ.succ.succ.succ.succ.succ.succ.succ.succ.succ.succ => trivial
    case succ.succ.succ.succ.succ.succ.succ.zero =>
      obtain ⟨g', h1, h2, h3⟩ := hf
      refine ⟨g', h1, h2, (far 7 g' hk ?_ h1).trans h3⟩
      rintro rfl; rcases hij with ⟨rfl, -⟩ | ⟨-, hh⟩
      · cases hki
      · cases hh
    case succ.succ.succ.succ.succ.succ.succ.succ.zero =>
      obtain ⟨g', h1, h2, h3⟩ := hf
      refine ⟨g', h1, h2, (far 8 g' hk ?_ h1).trans h3⟩
      rintro rfl; rcases hij with ⟨-, hh⟩ | ⟨rfl, -⟩
      · cases hh
      · cases hki
    case succ.succ.succ.succ.succ.succ.succ.succ.succ.zero =>
      obtain ⟨g', h1, h2, h3⟩ := hf
      refine ⟨g', h1, h2, (far 7 g' (h.cl 9 7 hk h97) ?_ h1).trans h3⟩
      rintro rfl; rcases hij with ⟨rfl, -⟩ | ⟨-, hh⟩
      · exact hn hk
      · cases hh
    case succ.succ.succ.succ.succ.succ.succ.succ.succ.succ.zero =>
      obtain ⟨g', h1, h2, h3⟩ := hf
      refine ⟨g', h1, h2, (far 8 g' (h.cl 10 8 hk h108) ?_ h1).trans h3⟩
      rintro rfl; rcases hij with ⟨-, hh⟩ | ⟨rfl, -⟩
      · cases hh
      · exact hn hk
    all_goals exact hf
theorem only9 {l : Nat → Prop} (h : ¬ l 9) : ∀ k, fitK k 7 = true → ¬ l k := by
  intro k hk
  have h9 : k = 9 := by simpa [fitK] using hk
  subst h9; exact h
theorem only10 {l : Nat → Prop} (h : ¬ l 10) : ∀ k, fitK k 8 = true → ¬ l k := by
  intro k hk
  have h9 : k = 10 := by simpa [fitK] using hk
  subst h9; exact h
theorem fit_upper {a b : List Rw} {n m : Int} (ha : Inv a n) (hb : Inv b m) (hc : ∀ r ∈ b, ¬ clashR a r) {r : Rw} (hr : r ∈ b) :
    ∃ (p : ByteArray) (id mode size : Int) (md : Bool), look (overR a n b).1 (key r) = some ⟨p, id, r.kind, mode, size, md⟩ ∧ (r.made = false → mode = r.mode) := by
  have h := over_at ha hb hc hr
  by_cases hm : r.made = true
  · have h4 := hb.made r hr hm
    have hk := (resR_kind (more := n) (hc r hr)).2 h4
    rcases hx : resR a n r with ⟨p, id, kind, mode, size, md⟩
    rw [hx] at h hk
    simp only at hk
    refine ⟨p, id, mode, size, md, ?_, fun h => by rw [hm] at h; cases h⟩
    rw [h, hk, h4]
  · refine ⟨r.path, (resR a n r).id, r.mode, r.size, r.made, ?_, fun _ => rfl⟩
    rw [h]
    exact congrArg some (resR_same hm)
theorem fit_base {a b : List Rw} {n m : Int} (ha : Inv a n) (hb : Inv b m) (hc : ∀ r ∈ b, ¬ clashR a r) {r : Rw} (hr : r ∈ a) :
    ∃ x, look (overR a n b).1 (key r) = some x ∧ (look b (key r) = none → x = r) := by
  have h := (overR_look (more := n) b ha.ok.sorted hb.ok.sorted hc).2.2 (key r)
  rcases hs : look b (key r) with _ | s
  · rw [hs] at h
    exact ⟨r, h.trans (look_of ha.ok.sorted hr), fun _ => rfl⟩
  · rw [hs] at h
    exact ⟨_, h, fun h => by cases h⟩
theorem fit_none {b : List Rw} {m : Int} (hb : Inv b m) : ∃ T, mergeV ([], 0) (b, m) = (T, 0 + m, 0) ∧ T.length = b.length := by
  have hc : ∀ r ∈ b, ¬ clashR [] r := fun r _ ⟨o, ho, _⟩ => by rw [look_nil] at ho; cases ho
  refine ⟨_, mergeV_ok Inv.nil hb hc, ?_⟩
  have h := overR_length (more := 0) b Inv.nil.ok.sorted hb.ok.sorted hc
  have e : b.filter (fun r => (look [] (key r)).isSome) = [] := by
    rw [List.filter_eq_nil_iff]
    intro r _ h
    rw [look_nil] at h; cases h
  rw [e] at h
  simpa using h
attribute [local go_sem ↓] Go.wp_at_zero Go.wp_at_succ

set_option maxRecDepth 100000 in
set_option maxHeartbeats 8000000 in
theorem fitsm_walk (A : Option Addr) (c : Nat) (La : List Oq) (B : Option Addr) (d : Nat) (Lb : List Oq) (w : World) (hE : Env w) (hRa : RQ w A c La) (hRb : RQ w B d Lb) :
    Calls Tryd.prog 14 #[.slice A (List.length La) c, .slice B (List.length Lb) d] w fun e w' => e = .returned (.bool true) ∧ Below w.heap.size w w' := by
  have HRA := Lib.hid hRa
  have HRB := Lib.hid hRb
  have HE := Lib.hid hE
  clear hRa hRb hE
  go_enter Tryd.func14, Tryd.ntmps14
  go_wp2_with fail
  refine (lays_any _ HE.out).mono ?_
  rintro e w1 ⟨rfl, hb1⟩
  have HB1 := Lib.hid hb1
  clear hb1
  by_cases hgo : La.length ≤ 30 ∧ Lb.length ≤ 30
  case neg =>
    have hg2 : 30 < La.length ∨ (La.length ≤ 30 ∧ 30 < Lb.length) := by omega
    clear hgo
    rcases hg2 with h | ⟨h, h2⟩
    all_goals
      go_wp2_with fail
      go_ret
      exact ⟨rfl, HB1.out⟩
  obtain ⟨hla, hlb⟩ := hgo
  have HGA := Lib.hid (plantM_grown 0 La)
  have HGB := Lib.hid (plantM_grown 5000 Lb)
  have PA := Lib.hid (fun (w : World) (hE : Env w) (hR : RQ w A c La) => plantedM_any A c La 0 w hE hR (by omega) (by decide))
  have PB := Lib.hid (fun (w : World) (hE : Env w) (hR : RQ w B d Lb) => plantedM_any B d Lb 5000 w hE hR (by omega) (by decide))
  rcases hM : plantM 0 La with ⟨M, n⟩
  rcases hU : plantM 5000 Lb with ⟨U, m⟩
  rcases hTA : plantW La with ⟨TA, na⟩
  rcases hTB : plantW Lb with ⟨TB, nb⟩
  rw [hM, hTA] at PA
  rw [hU, hTB] at PB
  rw [hM] at HGA
  rw [hU] at HGB
  have hbM : M.length ≤ 4530 ∧ 0 ≤ n ∧ n ≤ 4530 := by
    have h1 := HGA.out.len
    have h2 := HGA.out.next
    have h3 := HGA.out.nat
    simp only at h1 h2 h3; omega
  have hbU : U.length ≤ 4530 ∧ 0 ≤ m ∧ m ≤ 4530 := by
    have h1 := HGB.out.len
    have h2 := HGB.out.next
    have h3 := HGB.out.nat
    simp only at h1 h2 h3; omega
  have HIA : Hid (Inv M n) := Lib.hid HGA.out.inv
  have HIB : Hid (Inv U m) := Lib.hid HGB.out.inv
  clear hM hU hTA hTB HGA HGB
  go_wp2_with fail
  refine (PA.out _ (HE.out.below HB1.out) (HRA.out.below HB1.out)).mono ?_
  rintro e w2 ⟨A2, c2, Ar, cr, rfl, hRM, hRT, hb2⟩
  have HB2 := Lib.hid (bch HB1.out hb2)
  have HRM := Lib.hid hRM
  have HRT := Lib.hid hRT
  have hal := fun o p : Obj => ((Below.refl w2.heap.size w2).alloc (Nat.le_refl _) o).alloc (by simp) p
  clear hRM hRT hb2 PA HRA
  go_wp2_with fail
  refine (PB.out _ (HE.out.below (bch HB2.out (hal _ _))) (HRB.out.below (bch HB2.out (hal _ _)))).mono ?_
  rintro e w4 ⟨B2, d2, Br, dr, rfl, hRU, hRV, hb4⟩
  obtain ⟨bA, rA⟩ := two_blk (a := [.slice A2 M.length c2, .int .i64 n]) (b := [.slice Ar TA.length cr, .int .i64 na]) hb4
  have HB4 := Lib.hid (bch (bch HB2.out (hal _ _)) hb4)
  have HRM4 := Lib.hid (HRM.out.below (bch (hal _ _) hb4))
  have HRT4 := Lib.hid (HRT.out.below (bch (hal _ _) hb4))
  have HRU := Lib.hid hRU
  have HRV := Lib.hid hRV
  have BA := Lib.hid bA
  have RA := Lib.hid rA
  clear hRU hRV hb4 bA rA PB HRB hal HRM HRT
  have hal := fun o p : Obj => ((Below.refl w4.heap.size w4).alloc (Nat.le_refl _) o).alloc (by simp) p
  have HAL := Lib.hid hal
  clear hal
  have hmw : MW w ((w4.alloc (.cells #[.slice B2 U.length d2, .int .i64 m] 35)).alloc (.cells #[.slice Br TB.length dr, .int .i64 nb] 64)) w2.heap.size w4.heap.size A2 c2 M n Ar cr TA na B2 d2 U m Br dr TB nb := by
    refine ⟨?_, ?_, ?_, ?_, HRM4.out.below (HAL.out _ _), HRT4.out.below (HAL.out _ _), HRU.out.below (HAL.out _ _), HRV.out.below (HAL.out _ _), bch HB4.out (HAL.out _ _)⟩
    · exact ((HAL.out _ _).block _ (blk_lt BA.out)).trans BA.out
    · exact ((HAL.out _ _).block _ (blk_lt RA.out)).trans RA.out
    · exact heap_alloc2_old w4 _ _
    · exact heap_alloc2_new w4 _ _
  have HMW0 := Lib.hid hmw
  have hg1 : w2.heap.size + 1 < w4.heap.size := blk_lt RA.out
  clear hmw BA RA HRM4 HRT4 HRU HRV HB4 HAL HB2
  have hsz5 : ((w4.alloc (.cells #[.slice B2 U.length d2, .int .i64 m] 35)).alloc (.cells #[.slice Br TB.length dr, .int .i64 nb] 64)).heap.size = w4.heap.size + 1 + 1 := by simp
  have OV := Lib.hid (fun (w : World) (hE : Env w) (hA : RT w A2 c2 M) (hB : RT w B2 d2 U) => Over_any A2 c2 M n B2 d2 U m w hE hA hB HIA.out.ok HIB.out.ok (by omega) (by omega) (fun r hr => by have := HIB.out.ids r hr; omega) (by omega) (by omega))
  have hA4 : w4.heap[w2.heap.size]? = some (.cells [.slice A2 M.length c2, .int .i64 n].toArray 35 (0, 0)) := by
    have h := HMW0.out.bA
    rw [Below.heap_alloc _ _ _ (by simp; omega), Below.heap_alloc _ _ _ (by omega)] at h
    exact h
  obtain ⟨a0, a1, hna⟩ := tree_cells hA4
  have hn4 : w4.heap.size < w4.heap.size + 1 := Nat.lt_succ_self _
  clear hA4
  rcases clash_or M U with hc | hc
  case' inr =>
    rw [mergeV_clash HIA.out HIB.out hc] at OV
    simp only at OV
    clear hc
    go_wp2_with fail
    refine (OV.out _ (HE.out.below HMW0.out.below) HMW0.out.tA HMW0.out.tB).mono ?_
    rintro e w6 ⟨A6, c6, rfl, hR6, hb6⟩
    have HB6 := Lib.hid (bch HMW0.out.below hb6)
    have HW6 := Lib.hid (HMW0.out.next hb6)
    clear hb6 hR6 HMW0 a0 a1
    obtain ⟨t0, t1, hnt6⟩ := tree_cells HW6.out.bA
    go_wp2_with fail
    go_ret
    exact ⟨rfl, HB6.out.alloc HB6.out.size _⟩
  have hvi := merge_inv HIA.out HIB.out hbM.2.1 hbU.2.1 hc
  have hlen := overR_length (more := n) U HIA.out.ok.sorted HIB.out.ok.sorted hc
  have hus := us_merge HIA.out HIB.out hbM.2.1 hbU.2.1 hc
  rw [mergeV_ok HIA.out HIB.out hc] at OV
  simp only at OV
  obtain ⟨V, hV⟩ : ∃ V, (overR M n U).1 = V := ⟨_, rfl⟩
  rw [hV] at hvi OV hlen hus
  have hvl : V.length ≤ 9060 := by omega
  have HVI := Lib.hid hvi
  have HFM := fits_us HIA.out.size (by omega)
  have HFU := fits_us HIB.out.size (by omega)
  rcases hUM : us M with ⟨ub, ui, ud, ul⟩
  rcases hUU : us U with ⟨xb, xi, xd, xl⟩
  rcases hUV : us V with ⟨vb, vi, vd, vl⟩
  rw [hUM, hUU, hUV] at hus
  rw [hUM] at HFM
  rw [hUU] at HFU
  have OFV := Lib.hid (fun (w : World) (A : Option Addr) (c : Nat) (hE : Env w) (hR : RT w A c V) => of_any A c V (n + m) w hE hR HVI.out.ok (by omega) (fun r hr => by have := HVI.out.ids r hr; omega) (fun r hr => by have := HVI.out.size r hr; omega))
  have OFM := Lib.hid (fun (w : World) (hE : Env w) (hR : RT w A2 c2 M) => of_any A2 c2 M n w hE hR HIA.out.ok (by omega) (fun r hr => by have := HIA.out.ids r hr; omega) (fun r hr => by have := HIA.out.size r hr; omega))
  have OFU := Lib.hid (fun (w : World) (hE : Env w) (hR : RT w B2 d2 U) => of_any B2 d2 U m w hE hR HIB.out.ok (by omega) (fun r hr => by have := HIB.out.ids r hr; omega) (fun r hr => by have := HIB.out.size r hr; omega))
  rw [hUV] at OFV
  rw [hUM] at OFM
  rw [hUU] at OFU
  simp only at hus HFM HFU
  have hpl : plusV ⟨ub, ui, ud, ul⟩ ⟨xb, xi, xd, xl⟩ = ⟨ub + xb, ui + xi, max ud xd, max ul xl⟩ := by
    unfold plusV wrap64
    simp only [Us.mk.injEq]
    exact ⟨by omega, by omega, trivial, trivial⟩
  have HPL := Lib.hid hpl
  have q1 : decide (ub + xb < vb) = false := decide_eq_false (by omega)
  have q2 : decide (ui + xi < vi) = false := decide_eq_false (by omega)
  have q3 : decide (max ud xd < vd) = false := decide_eq_false (by omega)
  have q4 : decide (max ul xl < vl) = false := decide_eq_false (by omega)
  have FU1 := Lib.hid (fun (r : Rw) (hr : r ∈ U) => fit_upper HIA.out HIB.out hc hr)
  have FM1 := Lib.hid (fun (r : Rw) (hr : r ∈ M) => fit_base HIA.out HIB.out hc hr)
  rw [hV] at FU1 FM1
  have OVN : Hid (∀ (w : World), Env w → RT w B2 d2 U → Calls Tryd.prog 28 #[.agg #[.slice none 0 0, .int .i64 0], .agg #[.slice B2 (List.length U) d2, .int .i64 m]] w fun e w' =>
      ∃ A' c', e = .returned (.tuple #[.agg #[.slice A' U.length c', .int .i64 m], .int .i64 0]) ∧ Below w.heap.size w w') := Lib.hid (fun w hE hB => by
    have h := Over_any none 0 [] 0 B2 d2 U m w hE (RT.nil w) hB OkT.nil HIB.out.ok (by simp) (by omega) (fun r hr => by have := HIB.out.ids r hr; omega) (by omega) (by omega)
    obtain ⟨T, hT, hTl⟩ := fit_none HIB.out
    rw [hT, Int.zero_add] at h
    simp only [hTl] at h
    exact h.mono (by rintro e w' ⟨A', c', rfl, _, hb⟩; exact ⟨A', c', rfl, hb⟩))
  have OVS : Hid (∀ (w : World), Env w → RT w A2 c2 M → Calls Tryd.prog 28 #[.agg #[.slice A2 (List.length M) c2, .int .i64 n], .agg #[.slice none 0 0, .int .i64 0]] w fun e w' =>
      ∃ A' c', e = .returned (.tuple #[.agg #[.slice A' M.length c', .int .i64 n], .int .i64 0]) ∧ Below w.heap.size w w') := Lib.hid (fun w hE hA => by
    have h := Over_any A2 c2 M n none 0 [] 0 w hE hA (RT.nil w) HIA.out.ok OkT.nil (by omega) (by simp) (fun r hr => by cases hr) (by omega) (by omega)
    have hT : mergeV (M, n) ([], 0) = (M, n, 0) := by show (M, n + 0, (0 : Int)) = _; rw [Int.add_zero]
    rw [hT] at h
    exact h.mono (by rintro e w' ⟨A', c', rfl, _, hb⟩; exact ⟨A', c', rfl, hb⟩))
  clear hus HFM HFU hpl hUM hUU hUV
  go_wp2_with fail
  refine (OV.out _ (HE.out.below HMW0.out.below) HMW0.out.tA HMW0.out.tB).mono ?_
  rintro e w6 ⟨A6, c6, rfl, hR6, hb6⟩
  have HW6 := Lib.hid (HMW0.out.next hb6)
  have HR6 := Lib.hid hR6
  clear a0 a1 hb6 hR6 HMW0 OV
  have hg6 : w4.heap.size < w6.heap.size := blk_lt HW6.out.bB
  go_upto_region 10 with fail
  generalize hw7 : w6.alloc (.cells #[.slice A6 V.length c6, .int .i64 (n + m)] 35) = w7
  have hbl : Below w6.heap.size w6 w7 := by rw [← hw7]; exact (Below.refl _ _).alloc (Nat.le_refl _) _
  have ht7 : w7.heap[w6.heap.size]? = some (.cells [.slice A6 V.length c6, .int .i64 (n + m)].toArray 35 (0, 0)) := by rw [← hw7]; exact heap_alloc_new w6 _
  have HW7 := Lib.hid (HW6.out.next hbl)
  have HR7 := Lib.hid (HR6.out.below hbl)
  have HT7 := Lib.hid ht7
  clear hw7 hbl ht7 HR6 HW6
  go_cut [11, 12] (fun s11 s12 wx => ∃ g1 g2, s11 = .pointer (some ⟨g1, 0, none⟩) ∧ s12 = .pointer (some ⟨g2, 0, none⟩) ∧ wx.heap[g1]? = some (.cells (usC ⟨vb, vi, vd, vl⟩).toArray 23 (0, 0)) ∧ wx.heap[g2]? = some (.cells (usC ⟨ub + xb, ui + xi, max ud xd, max ul xl⟩).toArray 23 (0, 0)) ∧ Below w7.heap.size w7 wx)
  case first =>
    refine wp_region_facts (fitF w7.heap.size (trV A2 M.length c2 n) (trV B2 U.length d2 m) (trV A6 V.length c6 (n + m)) ⟨ub, ui, ud, ul⟩ ⟨xb, xi, xd, xl⟩ ⟨vb, vi, vd, vl⟩ ⟨ub + xb, ui + xi, max ud xd, max ul xl⟩) fitK fit0 (by kernel_rfl) 240 (by kernel_rfl) (by kernel_rfl) 11 (by kernel_rfl) ?_ ?_
    · refine ⟨?_, ?_, ?_, ?_, ?_, ?_, ?_, ?_, ?_, ?_, ?_, trivial⟩
      · intro l xs w1 a hn hp hI hev hno K hK
        have e9 : a.tmps[9]?.getD undef = .pointer (some ⟨w6.heap.size, 0, none⟩) := hno 9 (by kernel_rfl)
        obtain ⟨t0, t1, -⟩ := tree_cells ((hI.below.block _ (blk_lt HT7.out)).trans HT7.out)
        go_simp
        exact hK _ _ (fit_std hI (by kernel_rfl) (by kernel_rfl) hn hp (Below.refl _ _) (fun g hg => by cases hg) (fupd_same xs 0 _))
      · intro l xs w1 a hn hp hI hev hno K hK
        have hf : xs 0 = _ := hI.fact 0 (hp 0 (by kernel_rfl)) (fun k hk => by simp [fitK] at hk)
        have e9 := (hev 0 66 (by kernel_rfl)).trans hf
        have hEn := HE.out.below (bch HW7.out.below hI.below)
        go_simp
        go_at_call 19
        refine (OFV.out _ _ _ hEn (HR7.out.below hI.below)).mono ?_
        rintro e w2' ⟨rfl, hb⟩
        exact hK _ _ (fit_std hI (by kernel_rfl) (by kernel_rfl) hn hp hb (fun g hg => by cases hg) (fupd_same xs 1 _))
      · intro l xs w1 a hn hp hI hev hno K hK
        have e9 : a.tmps[5]?.getD undef = .pointer (some ⟨w2.heap.size, 0, none⟩) := hno 5 (by kernel_rfl)
        obtain ⟨t0, t1, -⟩ := tree_cells ((hI.below.block _ (blk_lt HW7.out.bA)).trans HW7.out.bA)
        go_simp
        exact hK _ _ (fit_std hI (by kernel_rfl) (by kernel_rfl) hn hp (Below.refl _ _) (fun g hg => by cases hg) (fupd_same xs 2 _))
      · intro l xs w1 a hn hp hI hev hno K hK
        have hf : xs 2 = _ := hI.fact 2 (hp 2 (by kernel_rfl)) (fun k hk => by simp [fitK] at hk)
        have e9 := (hev 2 68 (by kernel_rfl)).trans hf
        have hEn := HE.out.below (bch HW7.out.below hI.below)
        go_simp
        go_at_call 19
        refine (OFM.out _ hEn (HW7.out.tA.below hI.below)).mono ?_
        rintro e w2' ⟨rfl, hb⟩
        exact hK _ _ (fit_std hI (by kernel_rfl) (by kernel_rfl) hn hp hb (fun g hg => by cases hg) (fupd_same xs 3 _))
      · intro l xs w1 a hn hp hI hev hno K hK
        have e9 : a.tmps[7]?.getD undef = .pointer (some ⟨w4.heap.size, 0, none⟩) := hno 7 (by kernel_rfl)
        obtain ⟨t0, t1, -⟩ := tree_cells ((hI.below.block _ (blk_lt HW7.out.bB)).trans HW7.out.bB)
        go_simp
        exact hK _ _ (fit_std hI (by kernel_rfl) (by kernel_rfl) hn hp (Below.refl _ _) (fun g hg => by cases hg) (fupd_same xs 4 _))
      · intro l xs w1 a hn hp hI hev hno K hK
        have hf : xs 4 = _ := hI.fact 4 (hp 4 (by kernel_rfl)) (fun k hk => by simp [fitK] at hk)
        have e9 := (hev 4 70 (by kernel_rfl)).trans hf
        have hEn := HE.out.below (bch HW7.out.below hI.below)
        go_simp
        go_at_call 19
        refine (OFU.out _ hEn (HW7.out.tB.below hI.below)).mono ?_
        rintro e w2' ⟨rfl, hb⟩
        exact hK _ _ (fit_std hI (by kernel_rfl) (by kernel_rfl) hn hp hb (fun g hg => by cases hg) (fupd_same xs 5 _))
      · intro l xs w1 a hn hp hI hev hno K hK
        have hf : xs 3 = _ := hI.fact 3 (hp 3 (by kernel_rfl)) (fun k hk => by simp [fitK] at hk)
        have e9 := (hev 3 69 (by kernel_rfl)).trans hf
        have hEn := HE.out.below (bch HW7.out.below hI.below)
        have hf2 : xs 5 = _ := hI.fact 5 (hp 5 (by kernel_rfl)) (fun k hk => by simp [fitK] at hk)
        have e8 := (hev 5 71 (by kernel_rfl)).trans hf2
        go_simp
        go_at_call 16
        refine (plus_any ⟨ub, ui, ud, ul⟩ ⟨xb, xi, xd, xl⟩ w1).mono ?_
        rintro e w2' ⟨rfl, hb⟩
        exact hK _ _ (fit_std hI (by kernel_rfl) (by kernel_rfl) hn hp hb (fun g hg => by cases hg) (by rw [HPL.out]; exact fupd_same xs 6 _))
      · intro l xs w1 a hn hp hI hev hno K hK
        go_simp
        exact hK _ _ (fit_std hI (by kernel_rfl) (by kernel_rfl) hn hp ((Below.refl _ _).alloc (Nat.le_refl _) _) (fun g hg => by injection hg with hg; subst hg; exact ⟨by simp, Or.inr (Nat.le_refl _)⟩) ⟨w1.heap.size, fupd_same xs 7 _, hI.below.size, heap_alloc_new w1 _⟩)
      · intro l xs w1 a hn hp hI hev hno K hK
        go_simp
        exact hK _ _ (fit_std hI (by kernel_rfl) (by kernel_rfl) hn hp ((Below.refl _ _).alloc (Nat.le_refl _) _) (fun g hg => by injection hg with hg; subst hg; exact ⟨by simp, Or.inr (Nat.le_refl _)⟩) ⟨w1.heap.size, fupd_same xs 8 _, hI.below.size, heap_alloc_new w1 _⟩)
      · intro l xs w1 a hn hp hI hev hno K hK
        have hf : xs 1 = _ := hI.fact 1 (hp 1 (by kernel_rfl)) (fun k hk => by simp [fitK] at hk)
        have e8 := (hev 1 67 (by kernel_rfl)).trans hf
        obtain ⟨g, hg1, hg2, hg3⟩ := hI.fact 7 (hp 7 (by kernel_rfl)) (only9 hn)
        have e9 := (hev 7 11 (by kernel_rfl)).trans hg1
        have t0 := blk_cell hg3 (j := 0) rfl
        have t1 := blk_cell hg3 (j := 1) rfl
        have t2 := blk_cell hg3 (j := 2) rfl
        have t3 := blk_cell hg3 (j := 3) rfl
        have tf := blk_frozen hg3
        go_simp
        rw [set4 hg3]
        exact hK undef _ (fit_set hI (by kernel_rfl) (by kernel_rfl) hn hp (by simp) (hp 7 (by kernel_rfl)) hg1 hg2 rfl hg3 rfl ⟨g, (fupd_ne (by decide)).trans hg1, hg2, setRow_heap _ _ _ _ _ _ hg3⟩)
      · intro l xs w1 a hn hp hI hev hno K hK
        have hf : xs 6 = _ := hI.fact 6 (hp 6 (by kernel_rfl)) (fun k hk => by simp [fitK] at hk)
        have e8 := (hev 6 72 (by kernel_rfl)).trans hf
        obtain ⟨g, hg1, hg2, hg3⟩ := hI.fact 8 (hp 8 (by kernel_rfl)) (only10 hn)
        have e9 := (hev 8 12 (by kernel_rfl)).trans hg1
        have t0 := blk_cell hg3 (j := 0) rfl
        have t1 := blk_cell hg3 (j := 1) rfl
        have t2 := blk_cell hg3 (j := 2) rfl
        have t3 := blk_cell hg3 (j := 3) rfl
        have tf := blk_frozen hg3
        go_simp
        rw [set4 hg3]
        exact hK undef _ (fit_set hI (by kernel_rfl) (by kernel_rfl) hn hp (by simp) (hp 8 (by kernel_rfl)) hg1 hg2 rfl hg3 rfl ⟨g, (fupd_ne (by decide)).trans hg1, hg2, setRow_heap _ _ _ _ _ _ hg3⟩)
    · intro xs w1 hI
      obtain ⟨g1, h1, h2, h3⟩ := hI.fact 9 (by decide) (fun k hk => by simp [fitK] at hk)
      obtain ⟨g2, h4, h5, h6⟩ := hI.fact 10 (by decide) (fun k hk => by simp [fitK] at hk)
      have hb := hI.below
      clear hI
      simp only [fput, fdst, List.getElem?_toArray, List.getElem?_cons_succ, List.getElem?_cons_zero, Option.bind_some, Act.put, List.setIfInBounds_toArray, List.set_cons_zero, List.set_cons_succ]
      go_wp2_with fail
      go_meet
      exact ⟨g1, g2, h1, h4, h3, h6, hb⟩
  case rest =>
    obtain ⟨g1, g2, rfl, rfl, hg1, hg2, hbc⟩ := hcut
    obtain ⟨wz, rfl⟩ : ∃ wz : World, wz = wc := ⟨wc, rfl⟩
    have HWZ := Lib.hid (HW7.out.next hbc)
    have HRZ := Lib.hid (HR7.out.below hbc)
    have HTZ := Lib.hid ((hbc.block _ (blk_lt HT7.out)).trans HT7.out)
    have u0 := blk_cell hg1 (j := 0) rfl
    have u1 := blk_cell hg1 (j := 1) rfl
    have u2 := blk_cell hg1 (j := 2) rfl
    have u3 := blk_cell hg1 (j := 3) rfl
    have p0 := blk_cell hg2 (j := 0) rfl
    have p1 := blk_cell hg2 (j := 1) rfl
    have p2 := blk_cell hg2 (j := 2) rfl
    have p3 := blk_cell hg2 (j := 3) rfl
    obtain ⟨b0, b1, hnbz⟩ := tree_cells HWZ.out.bB
    clear hbc hg1 hg2 HW7 HR7 HT7 OFV OFM OFU HPL hg6
    go_wp2_with fail
    clear u0 u1 u2 u3 p0 p1 p2 p3 q1 q2 q3 q4 b0 b1
    go_loopg [102] U.length (fun g i wr => ∃ k : Nat, g = U.length - k ∧ i = .int .i64 k ∧ k ≤ U.length ∧ Hid (Below wz.heap.size wz wr))
    case atStart => exact ⟨0, rfl, rfl, Nat.zero_le _, Lib.hid (Below.refl _ _)⟩
    case round =>
      obtain ⟨k, rfl, rfl, hk, HBR⟩ := hrel
      have HWR := Lib.hid (HWZ.out.next HBR.out)
      have HRR := Lib.hid (HRZ.out.below HBR.out)
      have tr := (HBR.out.block _ (blk_lt HTZ.out)).trans HTZ.out
      have HTR := Lib.hid tr
      obtain ⟨t0, t1, hntr⟩ := tree_cells tr
      clear tr
      by_cases hlt : k < U.length
      case pos =>
        have hx : U[k]? = some U[k] := List.getElem?_eq_getElem hlt
        have hmem : U[k] ∈ U := List.getElem_mem hlt
        generalize U[k] = r at hx hmem
        have hps := size_path HIB.out.ok hmem
        obtain ⟨b, o, rfl, hbw⟩ := HWR.out.tB.pos (by omega)
        obtain ⟨gp, gi, gm, gs, gd, hlk, hmo⟩ := FU1.out _ hmem
        obtain ⟨path, id, kind, mode, size, made⟩ := r
        obtain ⟨q0, q1, q2, q3, q4, q5, q6, q7, q8, q9, q10, q11, q12⟩ := HWR.out.tB.cells hx
        have GT := Lib.hid (fun (w : World) (hE : Env w) (hR : RT w A6 c6 V) => get_some A6 c6 V (n + m) path w hE hR HVI.out.ok hps (by omega) hlk)
        have HMO := Lib.hid hmo
        clear hx hmem hps hlk hmo
        go_wp2_with fail
        clear q0 q1 q2 q3 q4 q5 q6 q7 q8 q9 q10 q11 q12 t0 t1
        generalize hw8 : wr.alloc (.cells #[.string path, .int .i64 id, .int .i64 kind, .int .i64 mode, .int .i64 0, .int .i64 0, .int .i64 0, .string nos, .string nos, .string nos, .slice none 0 0, .int .i64 size, .bool made] 44) = w8
        have hr8 : w8.heap[wr.heap.size]? = some (.cells (Rw.cells ⟨path, id, kind, mode, size, made⟩).toArray 44 (0, 0)) := by rw [← hw8]; exact heap_alloc_new wr _
        have hbl : Below wr.heap.size wr w8 := by rw [← hw8]; exact (Below.refl _ _).alloc (Nat.le_refl _) _
        have HW8 := Lib.hid (HWR.out.next hbl)
        have HB8 := Lib.hid (bch HBR.out hbl)
        have HV8 := Lib.hid (HRR.out.below hbl)
        have HR8 := Lib.hid hr8
        clear hw8 hbl hr8
        refine (GT.out _ (HE.out.below HW8.out.below) HV8.out).mono ?_
        rintro e w9 ⟨rfl, hb9⟩
        have HB9 := Lib.hid (bch HB8.out hb9)
        have hr9 := (hb9.block _ (blk_lt HR8.out)).trans HR8.out
        obtain ⟨-, -, z2, z3, -, -, -, -, -, -, -, -, z12⟩ := row_cells hr9
        have hn9 : wr.heap.size < w9.heap.size := blk_lt hr9
        have HFIN := Lib.hid (fun ob : Obj => HB9.out.alloc HB9.out.size ob)
        clear hb9 hr9 HR8 HW8 HV8
        cases made
        case' false => obtain rfl := HMO.out rfl
        all_goals
          clear HMO
          go_wp2_with fail
          go_roundg (U.length - (k + 1))
          case measure => omega
          case rel => exact ⟨k + 1, rfl, by go_num, by omega, Lib.hid (HFIN.out _)⟩
      case neg =>
        obtain ⟨wy, rfl⟩ : ∃ wy : World, wy = wr := ⟨wr, rfl⟩
        obtain ⟨b0, b1, hnby⟩ := tree_cells HWR.out.bA
        clear t0 t1
        go_wp2_with fail
        clear b0 b1
        go_loopg [143] M.length (fun g i wr => ∃ k : Nat, g = M.length - k ∧ i = .int .i64 k ∧ k ≤ M.length ∧ Hid (Below wy.heap.size wy wr))
        case atStart => exact ⟨0, rfl, rfl, Nat.zero_le _, Lib.hid (Below.refl _ _)⟩
        case round =>
          obtain ⟨k2, rfl, rfl, hk2, HBS⟩ := hrel
          have HWS := Lib.hid (HWR.out.next HBS.out)
          have HRS := Lib.hid (HRR.out.below HBS.out)
          have ts := (HBS.out.block _ (blk_lt HTR.out)).trans HTR.out
          have HTS := Lib.hid ts
          obtain ⟨t0, t1, hnts⟩ := tree_cells ts
          obtain ⟨b0, b1, hnbs⟩ := tree_cells HWS.out.bB
          clear ts
          by_cases hlt : k2 < M.length
          case pos =>
            have hx : M[k2]? = some M[k2] := List.getElem?_eq_getElem hlt
            have hmem : M[k2] ∈ M := List.getElem_mem hlt
            generalize M[k2] = r at hx hmem
            have hps := size_path HIA.out.ok hmem
            obtain ⟨b, o, rfl, hbw⟩ := HWS.out.tA.pos (by omega)
            obtain ⟨⟨xp, xi, xk, xm, xs, xd⟩, hlk, hsame⟩ := FM1.out _ hmem
            obtain ⟨path, id, kind, mode, size, made⟩ := r
            obtain ⟨q0, q1, q2, q3, q4, q5, q6, q7, q8, q9, q10, q11, q12⟩ := HWS.out.tA.cells hx
            have GT := Lib.hid (fun (w : World) (hE : Env w) (hR : RT w A6 c6 V) => get_some A6 c6 V (n + m) path w hE hR HVI.out.ok hps (by omega) hlk)
            obtain ⟨gp, gi, gk, gm, gs, gd, over, hlk2, hget⟩ := get_gen B2 d2 U m path HIB.out.ok hps (by omega)
            have GU := Lib.hid hget
            have hsame2 : over = false → xi = id ∧ xk = kind ∧ xm = mode ∧ xs = size := fun h => by
              subst h
              have h1 := hsame hlk2
              injection h1 with _ h2 h3 h4 h5 _
              exact ⟨h2, h3, h4, h5⟩
            have HSM := Lib.hid hsame2
            clear hx hmem hps hlk hsame hlk2 hget hsame2
            go_wp2_with fail
            clear q0 q1 q2 q3 q4 q5 q6 q7 q8 q9 q10 q11 q12 t0 t1 b0 b1
            generalize hw8 : wr.alloc (.cells #[.string path, .int .i64 id, .int .i64 kind, .int .i64 mode, .int .i64 0, .int .i64 0, .int .i64 0, .string nos, .string nos, .string nos, .slice none 0 0, .int .i64 size, .bool made] 44) = w8
            have hr8 : w8.heap[wr.heap.size]? = some (.cells (Rw.cells ⟨path, id, kind, mode, size, made⟩).toArray 44 (0, 0)) := by rw [← hw8]; exact heap_alloc_new wr _
            have hbl : Below wr.heap.size wr w8 := by rw [← hw8]; exact (Below.refl _ _).alloc (Nat.le_refl _) _
            have HW8 := Lib.hid (HWS.out.next hbl)
            have HB8 := Lib.hid (bch HBS.out hbl)
            have HV8 := Lib.hid (HRS.out.below hbl)
            have HR8 := Lib.hid hr8
            clear hw8 hbl hr8
            refine (GT.out _ (HE.out.below HW8.out.below) HV8.out).mono ?_
            rintro e w9 ⟨rfl, hb9⟩
            have HB9 := Lib.hid (bch HB8.out hb9)
            have HW9 := Lib.hid (HW8.out.next hb9)
            have hr9 := (hb9.block _ (blk_lt HR8.out)).trans HR8.out
            obtain ⟨z0, -⟩ := row_cells hr9
            obtain ⟨b0, b1, hnb9⟩ := tree_cells HW9.out.bB
            have hn9 : wr.heap.size < w9.heap.size := blk_lt hr9
            have HR9 := Lib.hid hr9
            clear hb9 hr9 HR8 HW8 HV8 HB8
            go_wp2_with fail
            clear z0 b0 b1
            generalize hw10 : w9.alloc (.cells #[.string xp, .int .i64 xi, .int .i64 xk, .int .i64 xm, .int .i64 0, .int .i64 0, .int .i64 0, .string nos, .string nos, .string nos, .slice none 0 0, .int .i64 xs, .bool xd] 44) = w10
            have hx10 : w10.heap[w9.heap.size]? = some (.cells (Rw.cells ⟨xp, xi, xk, xm, xs, xd⟩).toArray 44 (0, 0)) := by rw [← hw10]; exact heap_alloc_new w9 _
            have hbl : Below w9.heap.size w9 w10 := by rw [← hw10]; exact (Below.refl _ _).alloc (Nat.le_refl _) _
            have HW10 := Lib.hid (HW9.out.next hbl)
            have HB10 := Lib.hid (bch HB9.out hbl)
            have HR10 := Lib.hid ((hbl.block _ (blk_lt HR9.out)).trans HR9.out)
            have HX10 := Lib.hid hx10
            clear hw10 hbl hx10 HB9 HR9 HW9
            refine (GU.out _ (HE.out.below HW10.out.below) HW10.out.tB).mono ?_
            rintro e w11 ⟨rfl, hb11⟩
            have HB11 := Lib.hid (bch HB10.out hb11)
            have hr11 := (hb11.block _ (blk_lt HR10.out)).trans HR10.out
            have hx11 := (hb11.block _ (blk_lt HX10.out)).trans HX10.out
            obtain ⟨-, z1, z2, z3, -, -, -, -, -, -, -, z11, -⟩ := row_cells hr11
            obtain ⟨-, y1, y2, y3, -, -, -, -, -, -, -, y11, -⟩ := row_cells hx11
            have hn11 : wr.heap.size < w11.heap.size := blk_lt hr11
            have hm11 : w9.heap.size < w11.heap.size := blk_lt hx11
            have HFIN := Lib.hid (fun ob : Obj => HB11.out.alloc HB11.out.size ob)
            clear hb11 hr11 hx11 HR10 HX10 HW10 HB10 HB11
            cases over
            case' false => obtain ⟨rfl, rfl, rfl, rfl⟩ := HSM.out rfl
            all_goals
              clear HSM
              go_wp2_with fail
              go_roundg (M.length - (k2 + 1))
              case measure => omega
              case rel => exact ⟨k2 + 1, rfl, by go_num, by omega, Lib.hid (HFIN.out _)⟩
          case neg =>
            clear t0 t1
            go_wp2_with fail
            clear b0 b1
            refine (OVN.out _ (HE.out.below HWS.out.below) HWS.out.tB).mono ?_
            rintro e w8 ⟨A8, c8, rfl, hb8⟩
            have HW8 := Lib.hid (HWS.out.next hb8)
            clear hb8
            obtain ⟨a0, a1, hna8⟩ := tree_cells HW8.out.bA
            go_wp2_with fail
            clear a0 a1
            generalize hw9 : w8.alloc (.cells #[.slice A8 U.length c8, .int .i64 m] 35) = w9
            have hbl : Below w8.heap.size w8 w9 := by rw [← hw9]; exact (Below.refl _ _).alloc (Nat.le_refl _) _
            have ht9 : w9.heap[w8.heap.size]? = some (.cells [.slice A8 U.length c8, .int .i64 m].toArray 35 (0, 0)) := by rw [← hw9]; exact heap_alloc_new w8 _
            have HW9 := Lib.hid (HW8.out.next hbl)
            have HT9 := Lib.hid ht9
            clear hw9 hbl ht9 HW8
            refine (OVS.out _ (HE.out.below HW9.out.below) HW9.out.tA).mono ?_
            rintro e w10 ⟨A10, c10, rfl, hb10⟩
            have HW10 := Lib.hid (HW9.out.next hb10)
            have ht10 := (hb10.block _ (blk_lt HT9.out)).trans HT9.out
            obtain ⟨y0, y1, hny⟩ := tree_cells ht10
            clear hb10 ht10 HT9 HW9
            obtain ⟨a0, a1, hna10⟩ := tree_cells HW10.out.bA
            obtain ⟨b0, b1, hnb10⟩ := tree_cells HW10.out.bB
            have HFIN := Lib.hid (fun ob : Obj => HW10.out.below.alloc HW10.out.below.size ob)
            go_wp2_with fail
            go_ret
            exact ⟨rfl, HFIN.out _⟩

end Go.Proofs.YtcniahbliadgiaaDoor

/-
  Plain: how much a tree has behind a thing more, a name more, a cut, other bytes.
-/
import Derived.Test.YtcniahbliadgiaaDoorInvB
namespace Go.Proofs.YtcniahbliadgiaaDoor
open Go.RowKit
open Go.Proofs.PnKit Go.Proofs.PnPath

theorem Ids.mono {L : List Rw} {n m : Nat} (h : Ids L n) (hm : n ≤ m) : Ids L m := fun x hx => by have := h x hx; omega
theorem own_nonneg {L : List Rw} {n : Int} (h : Inv L n) {x : Rw} (hx : x ∈ L) : 0 ≤ ownB x ∧ ownB x ≤ 1048576 := by
  have := h.size x hx
  unfold ownB; split <;> omega
theorem szOf_nonneg {L : List Rw} {n : Int} (h : Inv L n) (i : Int) : 0 ≤ szOf L i := by
  rcases szOf_cases i L with ⟨x, hx, _, e⟩ | ⟨_, e⟩
  · rw [e]; exact (own_nonneg h hx).1
  · rw [e]; exact Int.le_refl _
theorem own_dir {x : Rw} (h : x.kind = 4) : ownB x = 0 := by unfold ownB; rw [if_neg (by omega)]
theorem isIn_bound (L : List Rw) (i : Int) : 0 ≤ isIn L i ∧ isIn L i ≤ 1 := by
  rcases isIn_cases i L with ⟨_, _, _, e⟩ | ⟨_, e⟩ <;> rw [e] <;> decide

/-- no less, and at most so much more -/
structure UsLe (u v : Us) : Prop where
  bytes : u.bytes ≤ v.bytes
  inodes : u.inodes ≤ v.inodes
  depth : u.depth ≤ v.depth
  length : u.length ≤ v.length
theorem UsLe.refl (u : Us) : UsLe u u := ⟨Int.le_refl _, Int.le_refl _, Int.le_refl _, Int.le_refl _⟩

/-- all of a tree is there, and of what is new there is at most one file -/
theorem us_more {L M : List Rw} {n m : Nat} {r : Rw} (hM : Cons M) (iL : Ids L n) (iM : Ids M m) (hn : n ≤ m) (hs : ∀ x ∈ M, 0 ≤ ownB x) (sub : ∀ x ∈ L, x ∈ M) (new : ∀ x ∈ M, x ∈ L ∨ ownB x = 0 ∨ x = r) (hr : ownB r ≤ 1048576 ∧ 0 ≤ ownB r ∧ 0 ≤ r.id) :
    UsLe (us L) (us M) ∧ (us M).bytes - (us L).bytes ≤ 1048576 := by
  have hb : ∀ i : Int, szOf L i ≤ szOf M i ∧ szOf M i ≤ szOf L i + (if i = r.id then 1048576 else 0) := fun i => by
    rcases szOf_cases i L with ⟨x, hx, hi, e⟩ | ⟨hx, e⟩
    · subst hi
      rw [e, szOf_of hM (sub x hx)]
      refine ⟨Int.le_refl _, ?_⟩
      split <;> omega
    · rw [e]
      rcases szOf_cases i M with ⟨y, hy, hi, e2⟩ | ⟨_, e2⟩
      · rw [e2]
        refine ⟨hs y hy, ?_⟩
        rcases new y hy with h1 | h1 | h1
        · exact absurd hi (hx y h1)
        · rw [h1]; split <;> omega
        · subst h1; rw [if_pos hi.symm]; omega
      · rw [e2]
        refine ⟨Int.le_refl _, ?_⟩
        split <;> omega
  have hi : ∀ i : Int, isIn L i ≤ isIn M i := fun i => by
    rcases isIn_cases i L with ⟨x, hx, hi, e⟩ | ⟨hx, e⟩
    · subst hi; rw [e, isIn_of (sub x hx)]; exact Int.le_refl _
    · rw [e]; exact (isIn_bound M i).1
  refine ⟨⟨?_, ?_, ?_, ?_⟩, ?_⟩
  · rw [us_bytes (iL.mono hn), us_bytes iM]; exact sumTo_le m fun i _ _ => (hb i).1
  · rw [us_inodes (iL.mono hn), us_inodes iM]; exact sumTo_le m fun i _ _ => hi i
  · rw [us_depth, us_depth]; exact maxF_mono fun x hx => ⟨x, sub x hx, Int.le_refl _⟩
  · rw [us_length, us_length]; exact maxF_mono fun x hx => ⟨x, sub x hx, Int.le_refl _⟩
  · rw [us_bytes (iL.mono hn), us_bytes iM]
    have h1 := sumTo_le m (f := szOf M) (g := fun i => szOf L i + (if i = r.id then 1048576 else 0)) fun i _ _ => (hb i).2
    rw [sumTo_add] at h1
    have h2 := sumTo_one (f := fun i => if i = r.id then (1048576 : Int) else 0) (g := fun _ => 0) (a := r.id) (fun i hi => by simp [hi]) hr.2.2 m
    rw [sumTo_zero] at h2
    simp only [if_true] at h2
    split at h2 <;> omega

theorem Grown.ids {t : List Rw × Int} {k : Nat} (h : Grown t k) : Ids t.1 t.2.toNat := h.inv.toIds h.nat
/-- a thing more at a path where nothing stood -/
theorem us_add {t : List Rw × Int} {k : Nat} (h : Grown t k) {P : List (List UInt8)} (hG : G P) (hl : (join P).length ≤ 300) {kind mode size : Int} {made : Bool} (hs : 0 ≤ size ∧ size ≤ 1048576) (hz : kind ≠ 1 → size = 0) (hm : made = true → kind = 4) (hno : look t.1 P = none) :
    UsLe (us t.1) (us (addV t.1 t.2 P kind mode size made).1) ∧ (us (addV t.1 t.2 P kind mode size made).1).bytes - (us t.1).bytes ≤ 1048576 := by
  by_cases h0 : (addV t.1 t.2 P kind mode size made).2.2 = 0
  case neg => rw [(addV_same h0).1]; exact ⟨UsLe.refl _, by omega⟩
  obtain ⟨M, m, r, ha, he⟩ := addV_ok h.inv h.nat hG (by omega) hs hz hm h0
  have hi := ha.inv
  rw [he]
  generalize (addV t.1 t.2 P kind mode size made).2.1 = n' at ha hi
  have hp := ha.par
  have hkr := key_path hG ha.row.1
  have hle := hp.le
  have h6 := h.nat
  have hn' : m ≤ n' := by rcases ha.id with ⟨_, e, _⟩ | ⟨_, e, _⟩ <;> omega
  have hnoM : ∀ x ∈ M, key x ≠ P := fun x hx e => look_none.1 hno x (hp.at hx e) e
  have mem := fun {x : Rw} => mem_putR_iff (r := r) hp.inv.ok.sorted (x := x)
  rw [hkr] at mem
  have hr := own_nonneg hi (self_putR r M)
  have hri := hi.ids r (self_putR r M)
  exact us_more hi.cons h.ids (hi.toIds (by omega)) (by omega) (fun x hx => (own_nonneg hi hx).1)
    (fun x hx => mem.2 (Or.inr ⟨hp.old x hx, hnoM x (hp.old x hx)⟩)) (fun x hx => by
      rcases mem.1 hx with h1 | ⟨h1, _⟩
      · exact Or.inr (Or.inr h1)
      · rcases hp.new x h1 with h2 | ⟨_, h2, _⟩
        · exact Or.inl h2
        · exact Or.inr (Or.inl (own_dir h2))) ⟨hr.2, hr.1, hri.1⟩
/-- THE LAW UsageGrows, plain -/
theorem us_grows (l : List Tg) (x : Tg) (hc : (clean (bl x.path)).2 = 0) (hp : x.path.size ≤ 300) (ht : x.dest.size = 0) (hno : look (plantV l).1 (clean (bl x.path)).1 = none) :
    UsLe (us (plantV l).1) (us (plantV (l ++ [x])).1) ∧ (us (plantV (l ++ [x])).1).bytes - (us (plantV l).1).bytes ≤ 1048576 := by
  have hg := plantV_grown l
  have hb := clean_bounds (s := x.path) (L := (clean (bl x.path)).1) (by rw [← hc])
  have hz : UsLe (us (plantV l).1) (us (plantV l).1) ∧ (us (plantV l).1).bytes - (us (plantV l).1).bytes ≤ 1048576 := ⟨UsLe.refl _, by omega⟩
  rw [plantV_snoc]
  unfold stepT
  split
  · exact hz
  rename_i hcc
  have hs0 : 0 ≤ x.size ∧ x.size ≤ 1048576 := by
    constructor
    · exact Int.not_lt.1 fun h1 => hcc (Or.inr (Or.inl h1))
    · exact Int.not_lt.1 fun h1 => hcc (Or.inr (Or.inr (Or.inl h1)))
  rw [if_neg (fun h => h ht)]
  split
  · exact us_add hg hb.1 (by omega) hs0 (fun h => absurd rfl h) (fun h => by cases h) hno
  · split
    · exact us_add hg hb.1 (by omega) ⟨by decide, by decide⟩ (fun _ => rfl) (fun h => by cases h) hno
    · exact hz

/-- rows cut: what is left has no more -/
theorem us_filter {L : List Rw} {n : Nat} (hL : Cons L) (iL : Ids L n) (hs : ∀ x ∈ L, 0 ≤ ownB x) (p : Rw → Bool) : UsLe (us (L.filter p)) (us L) := by
  have sub : ∀ x ∈ L.filter p, x ∈ L := fun x hx => (List.mem_filter.1 hx).1
  have iF : Ids (L.filter p) n := fun x hx => iL x (sub x hx)
  have cF : Cons (L.filter p) := fun x hx y hy => hL x (sub x hx) y (sub y hy)
  refine ⟨?_, ?_, ?_, ?_⟩
  · rw [us_bytes iF, us_bytes iL]
    refine sumTo_le n fun i _ _ => ?_
    rcases szOf_cases i (L.filter p) with ⟨x, hx, hi, e⟩ | ⟨_, e⟩
    · subst hi; rw [e, szOf_of hL (sub x hx)]; exact Int.le_refl _
    · rw [e]
      rcases szOf_cases i L with ⟨x, hx, _, e⟩ | ⟨_, e⟩
      · rw [e]; exact hs x hx
      · rw [e]; exact Int.le_refl _
  · rw [us_inodes iF, us_inodes iL]
    refine sumTo_le n fun i _ _ => ?_
    rcases isIn_cases i (L.filter p) with ⟨x, hx, hi, e⟩ | ⟨_, e⟩
    · subst hi; rw [e, isIn_of (sub x hx)]; exact Int.le_refl _
    · rw [e]; exact (isIn_bound L i).1
  · rw [us_depth, us_depth]; exact maxF_mono fun x hx => ⟨x, sub x hx, Int.le_refl _⟩
  · rw [us_length, us_length]; exact maxF_mono fun x hx => ⟨x, sub x hx, Int.le_refl _⟩

theorem sumTo_range {a b : Int} (hab : a ≤ b) (m : Nat) (hb : b ≤ m) : sumTo (fun i => if a ≤ i ∧ i < b then 1 else 0) m ≤ b - a := by
  have key : ∀ n : Nat, sumTo (fun i => if a ≤ i ∧ i < b then (1 : Int) else 0) n ≤ max 0 (min (n : Int) b - a) := fun n => by
    induction n with
    | zero => simp [sumTo]; omega
    | succ n ih =>
      simp only [sumTo]
      split <;> push_cast <;> omega
  have := key m
  omega

/-- a second name: no byte and no thing more, but directories -/
theorem us_link {t : List Rw × Int} {k : Nat} (h : Grown t k) {P Q : List (List UInt8)} (hG : G P) (hl : (join P).length ≤ 300) (h0 : (linkV t.1 t.2 P Q).2.2 = 0) :
    (us (linkV t.1 t.2 P Q).1).bytes ≤ (us t.1).bytes ∧ (us (linkV t.1 t.2 P Q).1).inodes ≤ (us t.1).inodes + ((linkV t.1 t.2 P Q).1.length - t.1.length) ∧ t.1.length ≤ (linkV t.1 t.2 P Q).1.length := by
  obtain ⟨M, r, ha, he⟩ := linkV_done h.inv h.nat hG (by omega) h0
  have hi := ha.inv
  rw [he]
  generalize (linkV t.1 t.2 P Q).2.1 = m at ha hi
  have hp := ha.par
  obtain ⟨x, hx, hxk, hx1, rfl⟩ := ha.src
  have hle := hp.le
  have h6 := h.nat
  have mem := fun {y : Rw} => mem_putR_iff (r := ⟨pathOf P, x.id, 1, x.mode, x.size, x.made⟩) hp.inv.ok.sorted (x := y)
  have hcnt := hp.cnt
  have hge := putR_length_ge (r := ⟨pathOf P, x.id, 1, x.mode, x.size, x.made⟩) hp.inv.ok.sorted
  have iM := hi.toIds (by omega)
  have iL := h.ids.mono (m := m.toNat) (by omega)
  refine ⟨?_, ?_, by omega⟩
  · rw [us_bytes iM, us_bytes iL]
    refine sumTo_le _ fun i _ _ => ?_
    rcases szOf_cases i (putR M ⟨pathOf P, x.id, 1, x.mode, x.size, x.made⟩) with ⟨y, hy, hyi, e⟩ | ⟨_, e⟩
    · rw [e]
      rcases mem.1 hy with rfl | ⟨hy, _⟩
      · have hyi : x.id = i := hyi
        rw [← hyi, szOf_of h.inv.cons hx]
        exact Int.le_of_eq (own_eq (by exact hx1.symm) rfl)
      · rcases hp.new y hy with h2 | ⟨_, h2, _⟩
        · rw [← hyi, szOf_of h.inv.cons h2]; exact Int.le_refl _
        · rw [own_dir h2]; exact szOf_nonneg h.inv i
    · rw [e]; exact szOf_nonneg h.inv i
  · have h1 : (us (putR M ⟨pathOf P, x.id, 1, x.mode, x.size, x.made⟩)).inodes ≤ (us t.1).inodes + (m - t.2) := by
      rw [us_inodes iM, us_inodes iL]
      have h2 := sumTo_le m.toNat (f := isIn (putR M ⟨pathOf P, x.id, 1, x.mode, x.size, x.made⟩)) (g := fun i => isIn t.1 i + (if t.2 ≤ i ∧ i < m then 1 else 0)) fun i _ _ => by
        rcases isIn_cases i (putR M ⟨pathOf P, x.id, 1, x.mode, x.size, x.made⟩) with ⟨y, hy, hyi, e⟩ | ⟨_, e⟩
        · rw [e]
          have hb := isIn_bound t.1 i
          rcases mem.1 hy with rfl | ⟨hy, _⟩
          · have hyi : x.id = i := hyi
            rw [← hyi, isIn_of hx]; split <;> omega
          · rcases hp.new y hy with h2 | ⟨h2, _⟩
            · rw [← hyi, isIn_of h2]; split <;> omega
            · have := hp.inv.ids y hy
              rw [if_pos ⟨by omega, by omega⟩]; omega
        · rw [e]
          have hb := isIn_bound t.1 i
          split <;> omega
      rw [sumTo_add] at h2
      have h3 := sumTo_range hle m.toNat (by omega)
      omega
    omega
/-- one name more, and no directory: as much as it was -/
theorem us_name {t : List Rw × Int} {k : Nat} (h : Grown t k) {P Q : List (List UInt8)} (hG : G P) (hl : (join P).length ≤ 300) (h0 : (linkV t.1 t.2 P Q).2.2 = 0) (hno : look t.1 P = none) (hlen : (linkV t.1 t.2 P Q).1.length = t.1.length + 1) :
    (us (linkV t.1 t.2 P Q).1).bytes = (us t.1).bytes ∧ (us (linkV t.1 t.2 P Q).1).inodes = (us t.1).inodes := by
  obtain ⟨M, r, ha, he⟩ := linkV_done h.inv h.nat hG (by omega) h0
  have hi := ha.inv
  rw [he] at hlen ⊢
  generalize (linkV t.1 t.2 P Q).2.1 = m at ha hi
  have hp := ha.par
  obtain ⟨x, hx, hxk, hx1, rfl⟩ := ha.src
  have h6 := h.nat
  have hkr : key (⟨pathOf P, x.id, 1, x.mode, x.size, x.made⟩ : Rw) = P := key_path hG rfl
  have mem := fun {y : Rw} => mem_putR_iff (r := ⟨pathOf P, x.id, 1, x.mode, x.size, x.made⟩) hp.inv.ok.sorted (x := y)
  rw [hkr] at mem
  have hlk : look M (key (⟨pathOf P, x.id, 1, x.mode, x.size, x.made⟩ : Rw)) = none := by rw [hkr, hp.look]; exact hno
  rw [putR_length hp.inv.ok.sorted, hlk] at hlen
  have hML : M = t.1 ∧ m = t.2 := by
    rcases hp.same with h1 | h1
    · exact h1
    · simp at hlen; omega
  obtain ⟨rfl, rfl⟩ := hML
  have hno' : ∀ y ∈ t.1, key y ≠ P := look_none.1 hno
  have iM := hi.toIds h6
  constructor
  · rw [us_bytes iM, us_bytes h.ids]
    refine sumTo_congr _ fun i _ _ => ?_
    rcases szOf_cases i (putR t.1 ⟨pathOf P, x.id, 1, x.mode, x.size, x.made⟩) with ⟨y, hy, hyi, e⟩ | ⟨hn, e⟩
    · rw [e]
      rcases mem.1 hy with rfl | ⟨hy, _⟩
      · have hyi : x.id = i := hyi
        rw [← hyi, szOf_of h.inv.cons hx]
        exact own_eq (by exact hx1.symm) rfl
      · rw [← hyi, szOf_of h.inv.cons hy]
    · rw [e, szOf_none fun y hy => hn y (mem.2 (Or.inr ⟨hy, hno' y hy⟩))]
  · rw [us_inodes iM, us_inodes h.ids]
    refine sumTo_congr _ fun i _ _ => ?_
    rcases isIn_cases i (putR t.1 ⟨pathOf P, x.id, 1, x.mode, x.size, x.made⟩) with ⟨y, hy, hyi, e⟩ | ⟨hn, e⟩
    · rw [e]
      rcases mem.1 hy with rfl | ⟨hy, _⟩
      · have hyi : x.id = i := hyi
        rw [← hyi, isIn_of hx]
      · rw [← hyi, isIn_of hy]
    · rw [e, isIn_none fun y hy => hn y (mem.2 (Or.inr ⟨hy, hno' y hy⟩))]

/-- the tree with another size of a file, by all its names -/
def setV (L : List Rw) (id size : Int) : List Rw := L.map fun r => if r.id = id ∧ r.kind = 1 then { r with size := size } else r
theorem us_set {t : List Rw × Int} {k : Nat} (h : Grown t k) {x : Rw} (hx : x ∈ t.1) (hk : x.kind = 1) (size : Int) :
    (us (setV t.1 x.id size)).bytes - (us t.1).bytes = size - x.size ∧ (us (setV t.1 x.id size)).inodes = (us t.1).inodes ∧ (us (setV t.1 x.id size)).depth = (us t.1).depth ∧ (us (setV t.1 x.id size)).length = (us t.1).length := by
  have hsz : ∀ (L : List Rw) (i : Int), i ≠ x.id → szOf (setV L x.id size) i = szOf L i := fun L i hi => by
    induction L with
    | nil => rfl
    | cons r L ih =>
      show szOf ((if r.id = x.id ∧ r.kind = 1 then { r with size := size } else r) :: setV L x.id size) i = _
      by_cases hr : r.id = x.id ∧ r.kind = 1
      · rw [if_pos hr, szOf, szOf, ih, if_neg (by show ¬ r.id = i; omega), if_neg (by omega)]
      · rw [if_neg hr, szOf, szOf, ih]
  have hsx : ∀ (L : List Rw), Cons L → x ∈ L → szOf (setV L x.id size) x.id = size := fun L hC hx => by
    rcases szOf_cases x.id (setV L x.id size) with ⟨y, hy, hyi, e⟩ | ⟨hn, e⟩
    · obtain ⟨z, hz, rfl⟩ := List.mem_map.1 hy
      rw [e]
      by_cases hr : z.id = x.id ∧ z.kind = 1
      · rw [if_pos hr]; unfold ownB; rw [if_pos hr.2]
      · rw [if_neg hr] at hyi
        exact absurd ⟨hyi, by rw [(hC z hz x hx hyi).1, hk]⟩ hr
    · refine absurd ?_ (hn _ (List.mem_map.2 ⟨x, hx, rfl⟩))
      split <;> rfl
  have hin : ∀ (L : List Rw) (i : Int), isIn (setV L x.id size) i = isIn L i := fun L i => by
    induction L with
    | nil => rfl
    | cons r L ih =>
      show isIn ((if r.id = x.id ∧ r.kind = 1 then { r with size := size } else r) :: setV L x.id size) i = _
      by_cases hr : r.id = x.id ∧ r.kind = 1
      · rw [if_pos hr, isIn, isIn, ih]
      · rw [if_neg hr, isIn, isIn, ih]
  have hmx : ∀ (f : Rw → Int), (∀ (r : Rw) (s : Int), f { r with size := s } = f r) → ∀ (L : List Rw) (d : Int), maxF f d (setV L x.id size) = maxF f d L := fun f hf L => by
    induction L with
    | nil => intro d; rfl
    | cons r L ih =>
      intro d
      show maxF f d ((if r.id = x.id ∧ r.kind = 1 then { r with size := size } else r) :: setV L x.id size) = _
      by_cases hr : r.id = x.id ∧ r.kind = 1
      · rw [if_pos hr, maxF, maxF, hf, ih]
      · rw [if_neg hr, maxF, maxF, ih]
  have iS : Ids (setV t.1 x.id size) t.2.toNat := fun y hy => by
    obtain ⟨z, hz, rfl⟩ := List.mem_map.1 hy
    have := h.ids z hz
    split
    · exact this
    · exact this
  refine ⟨?_, ?_, ?_, ?_⟩
  · rw [us_bytes iS, us_bytes h.ids]
    have hb := h.ids x hx
    have h1 := sumTo_one (f := szOf (setV t.1 x.id size)) (g := szOf t.1) (a := x.id) (fun i hi => hsz t.1 i hi) hb.1 t.2.toNat
    rw [if_pos hb.2, hsx t.1 h.inv.cons hx, szOf_of h.inv.cons hx] at h1
    unfold ownB at h1
    rw [if_pos hk] at h1
    omega
  · rw [us_inodes iS, us_inodes h.ids]; exact sumTo_congr _ fun i _ _ => hin t.1 i
  · rw [us_depth, us_depth]; exact hmx _ (fun _ _ => rfl) _ _
  · rw [us_length, us_length]; exact hmx _ (fun _ _ => rfl) _ _

end Go.Proofs.YtcniahbliadgiaaDoor

/- Plain arithmetic on those functions of values: what they reckon; no conditions beyond those each theorem names. -/
import Derived.Test.YthpdindonopblaaGreatZL1
import Derived.Test.YthpdindonopblaaGreatZA1
set_option linter.unusedVariables false
set_option linter.unusedSimpArgs false
set_option linter.unusedSectionVars false
section
/- Distributions of sums of subsets. -/
namespace Go.ZL
open Go Go.ZM Go.ZS

def Asc (l : List AQ) : Prop := l.Pairwise fun a b => a.1 < b.1
def Pos (l : List AQ) : Prop := ∀ a ∈ l, 0 < a.2

theorem mergeQ_mem : ∀ (a b : List AQ) (z : AQ), z ∈ mergeQ a b → (∃ x ∈ a, z.1 = x.1) ∨ ∃ y ∈ b, z.1 = y.1
  | [], b, z, h => by rw [mergeQ_nil] at h; exact .inr ⟨z, h, rfl⟩
  | x :: a, [], z, h => by rw [mergeQ_nil'] at h; exact .inl ⟨z, h, rfl⟩
  | x :: a, y :: b, z, h => by
    rw [mergeQ_cons] at h
    split at h
    · rcases List.mem_cons.1 h with rfl | h
      · exact .inl ⟨z, List.mem_cons_self .., rfl⟩
      · rcases mergeQ_mem a (y :: b) z h with ⟨w, hw, e⟩ | h'
        · exact .inl ⟨w, List.mem_cons_of_mem _ hw, e⟩
        · exact .inr h'
    · split at h
      · rcases List.mem_cons.1 h with rfl | h
        · exact .inr ⟨z, List.mem_cons_self .., rfl⟩
        · rcases mergeQ_mem (x :: a) b z h with h' | ⟨w, hw, e⟩
          · exact .inl h'
          · exact .inr ⟨w, List.mem_cons_of_mem _ hw, e⟩
      · rcases List.mem_cons.1 h with rfl | h
        · exact .inl ⟨x, List.mem_cons_self .., rfl⟩
        · rcases mergeQ_mem a b z h with ⟨w, hw, e⟩ | ⟨w, hw, e⟩
          · exact .inl ⟨w, List.mem_cons_of_mem _ hw, e⟩
          · exact .inr ⟨w, List.mem_cons_of_mem _ hw, e⟩
 termination_by a b => a.length + b.length

theorem mergeQ_pos : ∀ (a b : List AQ), Pos a → Pos b → Pos (mergeQ a b)
  | [], b, _, h => by rw [mergeQ_nil]; exact h
  | x :: a, [], h, _ => by rw [mergeQ_nil']; exact h
  | x :: a, y :: b, ha, hb => by
    have hx := ha x (List.mem_cons_self ..)
    have hy := hb y (List.mem_cons_self ..)
    have ha' : Pos a := fun z hz => ha z (List.mem_cons_of_mem _ hz)
    have hb' : Pos b := fun z hz => hb z (List.mem_cons_of_mem _ hz)
    rw [mergeQ_cons]
    have cons : ∀ (z : AQ) (l : List AQ), 0 < z.2 → Pos l → Pos (z :: l) := fun z l h1 h2 w hw => by
      rcases List.mem_cons.1 hw with rfl | hw
      · exact h1
      · exact h2 w hw
    split
    · exact cons _ _ hx (mergeQ_pos a (y :: b) ha' hb)
    · split
      · exact cons _ _ hy (mergeQ_pos (x :: a) b ha hb')
      · exact cons _ _ (by show 0 < x.2 + y.2; omega) (mergeQ_pos a b ha' hb')
 termination_by a b => a.length + b.length

theorem mergeQ_tot : ∀ (a b : List AQ), totQ (mergeQ a b) = totQ a + totQ b
  | [], b => by rw [mergeQ_nil]; simp [totQ]
  | x :: a, [] => by rw [mergeQ_nil']; simp [totQ]
  | x :: a, y :: b => by
    rw [mergeQ_cons]
    split
    · rw [totQ_cons, mergeQ_tot a (y :: b), totQ_cons, totQ_cons]; omega
    · split
      · rw [totQ_cons, mergeQ_tot (x :: a) b, totQ_cons, totQ_cons]; omega
      · rw [totQ_cons, mergeQ_tot a b, totQ_cons, totQ_cons]; omega
 termination_by a b => a.length + b.length

theorem mergeQ_asc : ∀ (a b : List AQ), Asc a → Asc b → Asc (mergeQ a b)
  | [], b, _, h => by rw [mergeQ_nil]; exact h
  | x :: a, [], h, _ => by rw [mergeQ_nil']; exact h
  | x :: a, y :: b, ha, hb => by
    obtain ⟨ha1, ha2⟩ := List.pairwise_cons.1 ha
    obtain ⟨hb1, hb2⟩ := List.pairwise_cons.1 hb
    rw [mergeQ_cons]
    split
    · rename_i hlt
      refine List.pairwise_cons.2 ⟨fun z hz => ?_, mergeQ_asc a (y :: b) ha2 hb⟩
      rcases mergeQ_mem a (y :: b) z hz with ⟨w, hw, e⟩ | ⟨w, hw, e⟩
      · rw [e]; exact ha1 w hw
      · rw [e]
        rcases List.mem_cons.1 hw with rfl | hw
        · exact hlt
        · have := hb1 w hw; grind
    · split
      · rename_i _ hlt
        refine List.pairwise_cons.2 ⟨fun z hz => ?_, mergeQ_asc (x :: a) b ha hb2⟩
        rcases mergeQ_mem (x :: a) b z hz with ⟨w, hw, e⟩ | ⟨w, hw, e⟩
        · rw [e]
          rcases List.mem_cons.1 hw with rfl | hw
          · exact hlt
          · have := ha1 w hw; grind
        · rw [e]; exact hb1 w hw
      · rename_i h1 h2
        have he : x.1 = y.1 := by grind
        refine List.pairwise_cons.2 ⟨fun z hz => ?_, mergeQ_asc a b ha2 hb2⟩
        show x.1 < z.1
        rcases mergeQ_mem a b z hz with ⟨w, hw, e⟩ | ⟨w, hw, e⟩
        · rw [e]; exact ha1 w hw
        · rw [e, he]; exact hb1 w hw
 termination_by a b => a.length + b.length

theorem shiftQ_asc {l : List AQ} (h : Asc l) (x : Rat) : Asc (shiftQ l x) := by
  unfold shiftQ Asc
  rw [List.pairwise_map]
  exact h.imp fun {a b} hab => by show a.1 + x < b.1 + x; grind
theorem shiftQ_pos {l : List AQ} (h : Pos l) (x : Rat) : Pos (shiftQ l x) := by
  intro z hz
  obtain ⟨a, ha, rfl⟩ := List.mem_map.1 hz
  exact h a ha
theorem shiftQ_tot (l : List AQ) (x : Rat) : totQ (shiftQ l x) = totQ l := by unfold totQ shiftQ; rw [List.map_map]; rfl
theorem shiftQ_len (l : List AQ) (x : Rat) : (shiftQ l x).length = l.length := List.length_map ..

theorem validQ_of : ∀ (l : List AQ) (p : Option Rat), Asc l → Pos l → (∀ q, p = some q → ∀ a ∈ l, q < a.1) → validQ p l = true
  | [], p, _, _, _ => by cases p <;> rfl
  | a :: l, p, h1, h2, h3 => by
    obtain ⟨g1, g2⟩ := List.pairwise_cons.1 h1
    have ih := validQ_of l (some a.1) g2 (fun z hz => h2 z (List.mem_cons_of_mem _ hz)) (fun q hq z hz => by injection hq with hq; subst hq; exact g1 z hz)
    have hp := h2 a (List.mem_cons_self ..)
    cases p with
    | none => simp [validQ, hp, ih]
    | some q => simp [validQ, hp, ih, h3 q rfl a (List.mem_cons_self ..)]

theorem pos_le_tot : ∀ (l : List AQ), Pos l → (l.length : Int) ≤ totQ l ∧ ∀ a ∈ l, a.2 ≤ totQ l
  | [], _ => ⟨by simp [totQ], fun a ha => by cases ha⟩
  | x :: l, h => by
    obtain ⟨h1, h2⟩ := pos_le_tot l fun z hz => h z (List.mem_cons_of_mem _ hz)
    have hx := h x (List.mem_cons_self ..)
    rw [totQ_cons]
    refine ⟨by rw [List.length_cons]; omega, fun a ha => ?_⟩
    rcases List.mem_cons.1 ha with rfl | ha
    · omega
    · have := h2 a ha; omega

/-- the sums of k of the scores (the last score first), with how often each occurs -/
def subR : List Rat → Nat → List AQ
  | _, 0 => [(0, 1)]
  | [], _ + 1 => []
  | x :: ps, k + 1 => mergeQ (subR ps (k + 1)) (shiftQ (subR ps k) x)

theorem subR_zero (ps : List Rat) : subR ps 0 = [(0, 1)] := by cases ps <;> rfl
theorem subR_big : ∀ (ps : List Rat) (k : Nat), ps.length < k → subR ps k = []
  | [], k + 1, _ => rfl
  | x :: ps, k + 1, h => by
    simp only [List.length_cons] at h
    show mergeQ (subR ps (k + 1)) (shiftQ (subR ps k) x) = []
    rw [subR_big ps (k + 1) (by omega), subR_big ps k (by omega), mergeQ_nil]; rfl

structure SubOk (D M : Nat) (ps : List Rat) (l : List AQ) : Prop where
  asc : Asc l
  pos : Pos l
  tot : totQ l ≤ 2 ^ ps.length
  tot0 : 0 ≤ totQ l
  dm : ∀ a ∈ l, Dm D (ps.length * M) a.1

theorem subR_ok {D M : Nat} (hD : 0 < D) : ∀ (ps : List Rat) (k : Nat), (∀ x ∈ ps, Dm D M x) → SubOk D M ps (subR ps k)
  | ps, 0, _ => by
    rw [subR_zero]
    refine ⟨List.pairwise_singleton _ _, fun a ha => ?_, ?_, by decide, fun a ha => ?_⟩
    · rw [List.mem_singleton.1 ha]; decide
    · have : (0 : Int) < 2 ^ ps.length := Int.pow_pos (by decide)
      exact this
    · rw [List.mem_singleton.1 ha]; exact Dm.zero _ _
  | [], k + 1, _ => ⟨List.Pairwise.nil, (fun a ha => by cases ha), (show totQ ([] : List AQ) ≤ 2 ^ 0 by decide), (show 0 ≤ totQ ([] : List AQ) by decide), (fun a ha => by cases ha)⟩
  | x :: ps, k + 1, h => by
    have h1 := subR_ok hD ps (k + 1) fun y hy => h y (List.mem_cons_of_mem _ hy)
    have h2 := subR_ok hD ps k fun y hy => h y (List.mem_cons_of_mem _ hy)
    have hx := h x (List.mem_cons_self ..)
    show SubOk D M (x :: ps) (mergeQ (subR ps (k + 1)) (shiftQ (subR ps k) x))
    refine ⟨mergeQ_asc _ _ h1.asc (shiftQ_asc h2.asc x), mergeQ_pos _ _ h1.pos (shiftQ_pos h2.pos x), ?_, ?_, fun a ha => ?_⟩
    · rw [mergeQ_tot, shiftQ_tot, List.length_cons, Int.pow_succ]
      have := h1.tot
      have := h2.tot
      omega
    · rw [mergeQ_tot, shiftQ_tot]
      have := h1.tot0
      have := h2.tot0
      omega
    · rw [List.length_cons, Nat.add_mul, Nat.one_mul]
      rcases mergeQ_mem _ _ a ha with ⟨w, hw, e⟩ | ⟨w, hw, e⟩
      · rw [e]; exact (h1.dm w hw).mono (by omega)
      · obtain ⟨u, hu, rfl⟩ := List.mem_map.1 hw
        rw [e]
        exact (h2.dm u hu).add hD hx

/-- scores of bounded size -/
structure Scores (xs : List RR) (D M d m : Nat) : Prop where
  sz : ∀ x ∈ xs, Sz x
  D0 : 0 < D
  Dd : D ≤ 4294967296 ^ d
  Mm : M ≤ 4294967296 ^ m
  small : d + m ≤ 50000
  dm : ∀ x ∈ xs, Dm D M (valR x)
  len : xs.length ≤ 14

section
variable {xs : List RR} {D M d m : Nat}
theorem Scores.sub (h : Scores xs D M d m) {ps : List Rat} (hp : ∀ x ∈ ps, Dm D M x) (hl : ps.length ≤ 14) (k : Nat) : (∀ a ∈ subR ps k, AB 100000 a) ∧ (subR ps k).length ≤ 16384 := by
  have ho := subR_ok h.D0 ps k hp
  obtain ⟨h1, h2⟩ := pos_le_tot _ ho.pos
  have hs := h.small
  have ht := ho.tot
  have h14 : (2 : Int) ^ ps.length ≤ 2 ^ 14 := by have := Nat.pow_le_pow_right (show 0 < 2 by decide) hl; exact_mod_cast this
  have e14 : (2 : Int) ^ 14 = 16384 := by decide
  refine ⟨fun a ha => ⟨?_, ?_⟩, by omega⟩
  · have hm : ps.length * M ≤ 4294967296 ^ (m + 1) := by
      have := Nat.mul_le_mul (show ps.length ≤ 4294967296 by omega) h.Mm
      rwa [← Bpow_succ] at this
    exact ((ho.dm a ha).bd h.D0 h.Dd hm).mono (by omega)
  · have g1 := h2 a ha
    have g2 := ho.pos a ha
    exact Nat.le_trans (ln_i64 (by omega) (by omega)) (by omega)

/-- the row of sums: which of them are new -/
def rowQ (ps : List Rat) (x : Rat) (k0 mm : Nat) : List (List AR) := (List.range (mm + 1)).map fun j => (if k0 < j then subR (x :: ps) j else subR ps j).map enc

theorem rowQ_len (ps : List Rat) (x : Rat) (k0 mm : Nat) : (rowQ ps x k0 mm).length = mm + 1 := by simp [rowQ]
theorem rowQ_get (ps : List Rat) (x : Rat) (k0 : Nat) {mm j : Nat} (h : j < mm + 1) : (rowQ ps x k0 mm)[j]? = some ((if k0 < j then subR (x :: ps) j else subR ps j).map enc) := by
  simp [rowQ, h]
theorem rowQ_set (ps : List Rat) (x : Rat) {k mm : Nat} (h : k + 1 < mm + 1) : (rowQ ps x (k + 1) mm).set (k + 1) ((subR (x :: ps) (k + 1)).map enc) = rowQ ps x k mm := by
  refine List.ext_getElem? fun j => ?_
  rw [List.getElem?_set]
  by_cases hj : j < mm + 1
  · rw [rowQ_get _ _ _ hj, rowQ_get _ _ _ hj, rowQ_len]
    by_cases e : k + 1 = j
    · subst e
      simp [h]
    · rw [if_neg e]
      by_cases h1 : k + 1 < j
      · rw [if_pos h1, if_pos (by omega)]
      · rw [if_neg h1, if_neg (by omega)]
  · have e1 : (rowQ ps x (k + 1) mm)[j]? = none := List.getElem?_eq_none (by rw [rowQ_len]; omega)
    have e2 : (rowQ ps x k mm)[j]? = none := List.getElem?_eq_none (by rw [rowQ_len]; omega)
    rw [e1, e2, if_neg (by omega)]

theorem sub_L11 (h : Scores xs D M d m) {ps : List Rat} (hp : ∀ x ∈ ps, Dm D M x) (hl : ps.length ≤ 13) {x : RR} (hx : x ∈ xs) (v1 : Int) (v29 : List RR) (v30 v31 : Int) {mm : Nat} (hmm : mm ≤ 14) : ∀ (k : Nat), k ≤ mm →
    permutation_Subsets.L11 v1 (rowQ ps (valR x) k mm) x (k : Int) v29 v30 v31 = some (v1, rowQ ps (valR x) 0 mm, v29, v30, v31)
  | 0, _ => by rw [permutation_Subsets.L11_eq, dec_f (by omega)]
  | k + 1, hk => by
    obtain ⟨a1, a2⟩ := h.sub hp (by omega) (k + 1)
    obtain ⟨b1, b2⟩ := h.sub hp (by omega) k
    have g1 := rowQ_get ps (valR x) (k + 1) (mm := mm) (j := k + 1) (by omega)
    have g0 := rowQ_get ps (valR x) (k + 1) (mm := mm) (j := k) (by omega)
    rw [if_neg (by omega)] at g1 g0
    have e1 : IntKind.i64.wrap (((k + 1 : Nat) : Int) - 1) = (k : Int) := by rw [i64_id (by omega) (by omega)]; omega
    rw [permutation_Subsets.L11_eq, dec_t (by omega), e1]
    simp only [toNat_nat]
    rw [cond_t (inb_t (by omega) (by rw [rowQ_len]; omega)), g1]
    simp only [Option.bind_some]
    rw [cond_t (inb_t (by omega) (by rw [rowQ_len]; omega)), g0]
    simp only [Option.bind_some]
    rw [shift_eq (k := 100000) (by omega) (h.sz x hx) (by omega) b1]
    simp only [Option.bind_some]
    have sb : ∀ z ∈ shiftQ (subR ps k) (valR x), AB 300000 z := by
      intro z hz
      obtain ⟨a, ha, rfl⟩ := List.mem_map.1 hz
      have hxb : Bd 100000 (valR x) := by
        have hs := h.small
        exact ((h.dm x hx).bd h.D0 h.Dd h.Mm).mono (by omega)
      exact ⟨((b1 a ha).1.add hxb).mono (by omega), Nat.le_trans (b1 a ha).2 (by omega)⟩
    rw [merge_eq (k := 300000) (by omega) (fun z hz => (a1 z hz).mono (by omega)) sb (by rw [shiftQ_len]; omega)]
    simp only [Option.bind_some]
    rw [cond_t (inb_t (by omega) (by rw [rowQ_len]; omega))]
    have e2 : (rowQ ps (valR x) (k + 1) mm).set (k + 1) ((mergeQ (subR ps (k + 1)) (shiftQ (subR ps k) (valR x))).map enc) = rowQ ps (valR x) k mm := rowQ_set ps (valR x) (by omega)
    rw [e2]
    exact sub_L11 h hp hl hx v1 v29 v30 v31 hmm k (by omega)

theorem rowQ_start (ps : List Rat) (x : Rat) {k0 mm : Nat} (h : ps.length + 1 ≤ k0 ∨ mm ≤ k0) : rowQ ps x k0 mm = (List.range (mm + 1)).map fun j => (subR ps j).map enc := by
  unfold rowQ
  refine List.map_congr_left fun j hj => ?_
  rw [List.mem_range] at hj
  split
  · rw [subR_big ps j (by omega), subR_big (x :: ps) j (by simp; omega)]
  · rfl
theorem rowQ_end (ps : List Rat) (x : Rat) (mm : Nat) : rowQ ps x 0 mm = (List.range (mm + 1)).map fun j => (subR (x :: ps) j).map enc := by
  unfold rowQ
  refine List.map_congr_left fun j hj => ?_
  split
  · rfl
  · have : j = 0 := by omega
    subst this
    rw [subR_zero, subR_zero]

theorem minI_nat (a b : Nat) : minI (a : Int) (b : Int) = ((min a b : Nat) : Int) := by unfold minI; split <;> omega

theorem sub_L8 (h : Scores xs D M d m) {mm : Nat} (hmm : mm ≤ 14) : ∀ (e n : Nat), n + e = xs.length →
    permutation_Subsets.L8 (mm : Int) ((List.range (mm + 1)).map fun j => (subR (((xs.take n).map valR).reverse) j).map enc) xs (xs.length : Int) (n : Int) =
      some ((mm : Int), (List.range (mm + 1)).map fun j => (subR ((xs.map valR).reverse) j).map enc)
  | 0, n, hd => by
    rw [permutation_Subsets.L8_eq, dec_f (by omega), List.take_of_length_le (by omega)]
  | e + 1, n, hd => by
    have hn : n < xs.length := by omega
    have hm := List.getElem_mem hn
    have hlen := h.len
    have hp : ∀ x ∈ ((xs.take n).map valR).reverse, Dm D M x := by
      intro x hx
      obtain ⟨y, hy, rfl⟩ := List.mem_map.1 (List.mem_reverse.1 hx)
      exact h.dm y (List.mem_of_mem_take hy)
    have hpl : (((xs.take n).map valR).reverse).length = n := by simp; omega
    have e1 : IntKind.i64.wrap ((n : Int) + 1) = ((n + 1 : Nat) : Int) := i64_id (by omega) (by omega)
    rw [permutation_Subsets.L8_eq, dec_t (by omega), bind_idx rfl hn, e1, minI_nat]
    have h11 := sub_L11 h hp (by omega) hm (mm : Int) xs (xs.length : Int) (n : Int) hmm (min (n + 1) mm) (by omega)
    rw [rowQ_start _ _ (by omega), rowQ_end] at h11
    rw [h11]
    simp only [Option.bind_some]
    rw [e1]
    have e2 : valR xs[n] :: ((xs.take n).map valR).reverse = ((xs.take (n + 1)).map valR).reverse := by
      rw [List.take_add_one, List.getElem?_eq_getElem hn]
      simp only [Option.toList_some, List.map_append, List.map_cons, List.map_nil, List.reverse_append, List.reverse_cons, List.reverse_nil, List.nil_append, List.singleton_append]
    rw [e2]
    exact sub_L8 h hmm e (n + 1) (by omega)

theorem small_few (h : xs.length ≤ 14) : permutation_small xs = some true := by
  unfold permutation_small
  rw [dec_t (by omega)]

def subsetsQ (l : List Rat) (k : Nat) : List AQ := subR l.reverse k

theorem subsets_eq (h : Scores xs D M d m) {mm : Nat} (hmm : mm ≤ xs.length) : permutation_Subsets xs (mm : Int) = some ((subsetsQ (xs.map valR) mm).map enc, 0) := by
  have hlen := h.len
  unfold permutation_Subsets
  rw [small_few hlen]
  simp only [Option.bind_some]
  have e1 : IntKind.i64.wrap ((mm : Int) + 1) = ((mm + 1 : Nat) : Int) := i64_id (by omega) (by omega)
  have hone : permutation_one = some (int 1) := by unfold permutation_one; rw [iFromInt_eq (by omega) (by omega)]; rfl
  rw [Bool.not_true, cond_false, dec_f (by omega), dec_f (by omega), e1, cond_t (mkOk_t (by omega) (by omega) (by omega)), hone]
  simp only [Option.bind_some, toNat_nat]
  rw [cond_t (inb_t (by omega) (by simp))]
  have e2 : ((List.replicate (mm + 1) ([] : List AR))[(0 : Int).toNat]?) = some [] := by simp
  rw [e2]
  simp only [Option.bind_some]
  have e3 : (List.replicate (mm + 1) ([] : List AR)).set ((0 : Int).toNat) [(((false, ([] : List Int)), ([] : List Int)), int 1)] = (List.range (mm + 1)).map fun j => (subR [] j).map enc := by
    rw [← zero_rat]
    refine List.ext_getElem? fun j => ?_
    rw [List.getElem?_set]
    by_cases hj : j < mm + 1
    · rcases Nat.eq_zero_or_pos j with rfl | hj0
      · simp [subR_zero, enc]
      · have : ¬ (0 : Int).toNat = j := by simp; omega
        obtain ⟨i, rfl⟩ : ∃ i, j = i + 1 := ⟨j - 1, by omega⟩
        rw [if_neg this]
        simp [hj, subR]
    · have : ¬ (0 : Int).toNat = j := by simp; omega
      rw [if_neg this]
      simp [hj]
  rw [e3]
  have h8 := sub_L8 h (mm := mm) (by omega) xs.length 0 (by omega)
  have e0 : ((0 : Nat) : Int) = 0 := rfl
  rw [e0, List.take_zero, List.map_nil, List.reverse_nil] at h8
  rw [h8]
  simp only [Option.bind_some, toNat_nat]
  rw [cond_t (inb_t (by omega) (by simp <;> omega))]
  have e4 : ((List.range (mm + 1)).map fun j => (subR ((xs.map valR).reverse) j).map enc)[mm]? = some ((subR ((xs.map valR).reverse) mm).map enc) := by simp
  rw [e4]
  simp only [Option.bind_some]
  have hp : ∀ x ∈ (xs.map valR).reverse, Dm D M x := by
    intro x hx
    obtain ⟨y, hy, rfl⟩ := List.mem_map.1 (List.mem_reverse.1 hx)
    exact h.dm y hy
  obtain ⟨a1, a2⟩ := h.sub hp (by simp; omega) mm
  rw [fresh_eq (k := 100000) (by omega) (by omega) a1]
  rfl
end
end Go.ZL
end

section
/- The rank test of sums on few scores, and the laws' own example. -/
namespace Go.ZL
open Go Go.ZM Go.ZS

theorem subR_one : ∀ (ps : List Rat) (k : Nat), k ≤ ps.length → (∀ j, 0 ≤ totQ (subR ps j)) → 1 ≤ totQ (subR ps k)
  | ps, 0, _, _ => by rw [subR_zero]; decide
  | [], k + 1, h, _ => by simp at h
  | x :: ps, k + 1, h, _ => by
    have hp : ∀ (ps : List Rat) (j : Nat), 0 ≤ totQ (subR ps j) := by
      intro ps
      induction ps with
      | nil => intro j; cases j with | zero => decide | succ j => exact Int.le_refl 0
      | cons y qs ih =>
        intro j
        cases j with
        | zero => rw [subR_zero]; decide
        | succ j =>
          show 0 ≤ totQ (mergeQ (subR qs (j + 1)) (shiftQ (subR qs j) y))
          rw [mergeQ_tot, shiftQ_tot]
          have := ih (j + 1)
          have := ih j
          omega
    show 1 ≤ totQ (mergeQ (subR ps (k + 1)) (shiftQ (subR ps k) x))
    rw [mergeQ_tot, shiftQ_tot]
    have h1 := subR_one ps k (by simpa using h) (hp ps)
    have h2 := hp ps (k + 1)
    omega

section
variable {ps : List Rat} {D M d m : Nat}
/-- the sums of subsets as a distribution -/
theorem sub_dist (hD : 0 < D) (hDd : D ≤ 4294967296 ^ d) (hM : M ≤ 4294967296 ^ m) (hs : d + m ≤ 5000) (hp : ∀ x ∈ ps, Dm D M x) (hl : ps.length ≤ 14) {k : Nat} (hk : k ≤ ps.length) :
    Dist ((subR ps k).map enc) D (ps.length * M) d (m + 1) 1 (totQ (subR ps k)) ∧ checkQ (subR ps k) = 0 ∧ (subR ps k).length ≤ 16384 ∧ 1 ≤ totQ (subR ps k) ∧ totQ (subR ps k) ≤ 16384 := by
  have ho := subR_ok hD ps k hp
  have h14 : (2 : Int) ^ ps.length ≤ 2 ^ 14 := by have := Nat.pow_le_pow_right (show 0 < 2 by decide) hl; exact_mod_cast this
  have e14 : (2 : Int) ^ 14 = 16384 := by decide
  have ht := ho.tot
  obtain ⟨hn1, hn2⟩ := pos_le_tot _ ho.pos
  have h1 : 1 ≤ totQ (subR ps k) := by
    refine subR_one ps k hk fun j => (subR_ok hD ps j hp).tot0
  have hmm : ps.length * M ≤ 4294967296 ^ (m + 1) := by
    have := Nat.mul_le_mul (show ps.length ≤ 4294967296 by omega) hM
    rwa [← Bpow_succ] at this
  refine ⟨⟨?_, by rw [List.length_map]; omega, hD, hDd, hmm, by omega, by rw [Int.pow_one]; omega, by omega, ?_⟩, ?_, by omega, h1, by omega⟩
  · intro x hx
    obtain ⟨a, ha, rfl⟩ := List.mem_map.1 hx
    have g := hn2 a ha
    have gp := ho.pos a ha
    exact AB.aw ⟨((ho.dm a ha).bd hD hDd hmm).mono (by omega), Nat.le_trans (ln_i64 (by omega) (by omega)) (by omega)⟩
  · intro x hx
    obtain ⟨a, ha, rfl⟩ := List.mem_map.1 hx
    have g := hn2 a ha
    have gp := ho.pos a ha
    show Dm D _ (valR (rat a.1)) ∧ 0 ≤ valI (int a.2) ∧ valI (int a.2) ≤ _
    rw [valR_rat, valI_int]
    exact ⟨ho.dm a ha, by omega, g⟩
  · unfold checkQ
    rw [validQ_of _ none ho.asc ho.pos (fun q hq => by cases hq), Bool.and_true, decide_eq_true (by omega), if_pos rfl, if_neg (fun e => by rw [e] at h1; exact absurd h1 (by decide))]

def sumQ (l : List Rat) : Rat := l.foldl (· + ·) 0

theorem sumQ_dm (hD : 0 < D) {l : List Rat} (hx : ∀ x ∈ l, Dm D M x) : ∀ n, n ≤ l.length → Dm D (n * M) (sumQ (l.take n))
  | 0, _ => Dm.zero _ _
  | n + 1, hn => by
    unfold sumQ
    rw [foldl_take _ _ _ (by omega), Nat.add_mul, Nat.one_mul]
    exact (sumQ_dm hD hx n (by omega)).add hD (hx _ (List.getElem_mem (by omega)))

theorem eSum_L3 {xs : List RR} (hl : xs.length ≤ 1000000) (hz : ∀ x ∈ xs, Sz x) (ht : ∀ n, n ≤ xs.length → Sz (rat (sumQ ((xs.map valR).take n)))) (v2 : RR) :
    ∀ (e n : Nat), n + e = xs.length → exact_Sum.L3 v2 (rat (sumQ ((xs.map valR).take n))) xs (xs.length : Int) (n : Int) = some (v2, rat (sumQ (xs.map valR)))
  | 0, n, hd => by rw [exact_Sum.L3_eq, dec_f (by omega), List.take_of_length_le (by rw [List.length_map]; omega)]
  | e + 1, n, hd => by
    have hn : n < xs.length := by omega
    have hm := List.getElem_mem hn
    have e1 : IntKind.i64.wrap ((n : Int) + 1) = ((n + 1 : Nat) : Int) := i64_id (by omega) (by omega)
    rw [exact_Sum.L3_eq, dec_t (by omega), bind_idx rfl hn, qAdd (ht n (by omega)) (hz _ hm), valR_rat, e1]
    simp only [Option.bind_some]
    have : sumQ ((xs.map valR).take n) + valR xs[n] = sumQ ((xs.map valR).take (n + 1)) := by
      unfold sumQ
      rw [foldl_take _ _ _ (by rw [List.length_map]; omega), List.getElem_map]
    rw [this]
    exact eSum_L3 hl hz ht v2 e (n + 1) (by omega)

theorem eSum_eq {xs : List RR} (hl : xs.length ≤ 1000000) (hz : ∀ x ∈ xs, Sz x) (ht : ∀ n, n ≤ xs.length → Sz (rat (sumQ ((xs.map valR).take n)))) : exact_Sum xs = some (rat (sumQ (xs.map valR))) := by
  unfold exact_Sum
  have h := eSum_L3 hl hz ht ((false, []), []) xs.length 0 (by omega)
  rw [List.take_zero, show sumQ [] = 0 from rfl, zero_rat] at h
  have e0 : ((0 : Nat) : Int) = 0 := rfl
  rw [e0] at h
  rw [h]
  rfl

abbrev SixR : Type := RR × RR × RR × RR × RR × RR
/-- what a test answers: the statistic, its mean and variance, and the three tails -/
def sixQ (l : List AQ) (v : Rat) : SixR := (rat v, rat (meanQ l), rat (varQ l), rat (tailQ l v 1), rat (tailQ l v 2), rat (tailQ l v 3))

theorem result_eq {l : List AR} {c : Nat} {N : Int} (h : Dist l D M d m c N) (hN : totQ (l.map valA) = N) (hc : checkQ (l.map valA) = 0) {v : RR} (hv : Rw 10000 v) :
    ranktest_result l v = some (sixQ (l.map valA) (valR v)) := by
  unfold ranktest_result exact_Clean
  rw [← zero_rat, qAdd (hv.mono (by omega)) (Bd.zero.sz (by omega)), valR_rat, Rat.add_zero]
  simp only [Option.bind_some]
  rw [moments_good h h.len hN hc]
  simp only [Option.bind_some]
  rw [tail_good h hN hc (.inl rfl) hv]
  simp only [Option.bind_some]
  rw [tail_good h hN hc (.inr (.inl rfl)) hv]
  simp only [Option.bind_some]
  rw [tail_good h hN hc (.inr (.inr rfl)) hv]
  rfl

theorem rank_dm {l : List Rat} (hl : l.length ≤ 1000) : ∀ x ∈ rankQ l, Dm 2 2000 x := by
  intro x hx
  obtain ⟨y, _, rfl⟩ := List.mem_map.1 hx
  have h1 := lessN_le l y
  have h2 := sameN_le l y
  exact ⟨((2 * lessN l y + sameN l y + 1 : Nat) : Int), rfl, by omega⟩

theorem copy_eq {xs : List RR} (h : xs.length ≤ 1000000) : api_Rat_ xs = some xs := by
  unfold api_Rat_
  rw [cond_t (apOk_t (by omega))]

theorem sum_eq {xs ys : List RR} (h1 : 1 ≤ xs.length) (h2 : 1 ≤ ys.length) (hl : xs.length + ys.length ≤ 14) (hx : ∀ x ∈ xs, Sz x) (hy : ∀ x ∈ ys, Sz x) :
    ranktest_Sum xs ys = some (sixQ (subsetsQ (rankQ ((xs ++ ys).map valR)) xs.length) (sumQ ((rankQ ((xs ++ ys).map valR)).take xs.length)), 0) := by
  have hxy : ∀ x ∈ xs ++ ys, Sz x := fun x h => (List.mem_append.1 h).elim (hx x) (hy x)
  have hlen : (xs ++ ys).length = xs.length + ys.length := List.length_append
  have e1 : IntKind.i64.wrap ((xs.length : Int) + (ys.length : Int)) = ((xs.length + ys.length : Nat) : Int) := i64_id (by omega) (by omega)
  unfold ranktest_Sum
  rw [dec_f (by omega), dec_f (by omega), e1, dec_f (by omega), copy_eq (by omega)]
  simp only [Option.bind_some]
  rw [cond_t (apOk_t (by omega)), rank_eq (by omega) hxy]
  simp only [Option.bind_some]
  have hrl : (rankQ ((xs ++ ys).map valR)).length = xs.length + ys.length := by rw [rankQ_len, List.length_map, hlen]
  have hdm := rank_dm (l := (xs ++ ys).map valR) (by rw [List.length_map]; omega)
  generalize hr : rankQ ((xs ++ ys).map valR) = r at hrl hdm
  have hsz : ∀ x ∈ r.map rat, Sz x := by
    intro x hx
    obtain ⟨y, hy, rfl⟩ := List.mem_map.1 hx
    exact ((hdm y hy).bd (by omega) (d := 1) (m := 1) (by omega) (by omega)).sz (by omega)
  have hsc : Scores (r.map rat) 2 2000 1 1 := ⟨hsz, by omega, by omega, by omega, by omega, (by
    intro x hx
    obtain ⟨y, hy, rfl⟩ := List.mem_map.1 hx
    rw [valR_rat]; exact hdm y hy), by rw [List.length_map]; omega⟩
  rw [subsets_eq hsc (by rw [List.length_map]; omega), map_valR_rat]
  simp only [Option.bind_some]
  simp only [decide_true, Bool.not_true, cond_false]
  rw [cond_t (slOk_t (by omega) (by omega) (by rw [List.length_map]; omega))]
  have e2 : ((r.map rat).drop 0).take (((xs.length : Int) - 0).toNat) = (r.take xs.length).map rat := by
    rw [List.drop_zero, List.map_take]
    congr 1
  have hsum : ∀ n, n ≤ r.length → Bd 3 (sumQ (r.take n)) := fun n hn => (sumQ_dm (by omega) hdm n hn).bd (by omega) (d := 1) (m := 1) (by omega) (by omega)
  rw [e2, eSum_eq (by rw [List.length_map, List.length_take]; omega) (fun x hx => by rw [List.map_take] at hx; exact hsz x (List.mem_of_mem_take hx)) (fun n hn => by
    rw [map_valR_rat, List.take_take]
    exact (hsum _ (by omega)).sz (by omega)), map_valR_rat]
  simp only [Option.bind_some]
  obtain ⟨g1, g2, g3, g4, g5⟩ := sub_dist (ps := r.reverse) (k := xs.length) (show 0 < 2 by omega) (d := 1) (m := 1) (M := 2000) (by omega) (by omega) (by omega) (fun x hx => hdm x (List.mem_reverse.1 hx)) (by rw [List.length_reverse]; omega) (by rw [List.length_reverse]; omega)
  have hv := (hsum xs.length (by omega)).rw
  unfold subsetsQ
  rw [result_eq g1 (by rw [map_valA_enc]) (by rw [map_valA_enc]; exact g2) (hv.mono (by omega)), map_valA_enc, valR_rat]
  rfl
end

/-! ### reckoning with small numbers -/
def mergeF : Nat → List AQ → List AQ → List AQ
  | 0, _, _ => []
  | _ + 1, [], b => b
  | _ + 1, a, [] => a
  | n + 1, x :: a, y :: b => if x.1 < y.1 then x :: mergeF n a (y :: b) else if y.1 < x.1 then y :: mergeF n (x :: a) b else (x.1, x.2 + y.2) :: mergeF n a b

theorem mergeF_eq : ∀ (n : Nat) (a b : List AQ), a.length + b.length < n → mergeF n a b = mergeQ a b
  | n + 1, [], b, _ => by rw [mergeQ_nil]; rfl
  | n + 1, x :: a, [], _ => by rw [mergeQ_nil']; rfl
  | n + 1, x :: a, y :: b, h => by
    simp only [List.length_cons] at h
    rw [mergeQ_cons]
    show (if _ then _ else if _ then _ else _) = _
    rw [mergeF_eq n a (y :: b) (by simp only [List.length_cons]; omega), mergeF_eq n (x :: a) b (by simp only [List.length_cons]; omega), mergeF_eq n a b (by omega)]

def subF : List Rat → Nat → List AQ
  | _, 0 => [(0, 1)]
  | [], _ + 1 => []
  | x :: ps, k + 1 => mergeF ((subF ps (k + 1)).length + (shiftQ (subF ps k) x).length + 1) (subF ps (k + 1)) (shiftQ (subF ps k) x)
theorem subF_eq : ∀ (ps : List Rat) (k : Nat), subF ps k = subR ps k
  | ps, 0 => by rw [subR_zero]; cases ps <;> rfl
  | [], k + 1 => rfl
  | x :: ps, k + 1 => by
    show mergeF _ _ _ = mergeQ _ _
    rw [mergeF_eq _ _ _ (by omega), subF_eq ps (k + 1), subF_eq ps k]
end Go.ZL
end

section
/- Sums over the subsets of a list. -/
namespace Go.ZL
open Go Go.ZM Go.ZS

/-- what a function sums to over a distribution -/
def E : List AQ → (Rat → Rat) → Rat
  | [], _ => 0
  | a :: l, g => (a.2 : Rat) * g a.1 + E l g
/-- what a function of the sum sums to over the subsets of k -/
def S : List Rat → Nat → (Rat → Rat) → Rat
  | _, 0, g => g 0
  | [], _ + 1, _ => 0
  | x :: ps, k + 1, g => S ps (k + 1) g + S ps k (fun s => g (s + x))

theorem S_zero (ps : List Rat) (g : Rat → Rat) : S ps 0 g = g 0 := by cases ps <;> rfl
theorem S_cons (x : Rat) (ps : List Rat) (k : Nat) (g : Rat → Rat) : S (x :: ps) (k + 1) g = S ps (k + 1) g + S ps k (fun s => g (s + x)) := rfl

theorem E_merge (g : Rat → Rat) : ∀ (a b : List AQ), E (mergeQ a b) g = E a g + E b g
  | [], b => by rw [mergeQ_nil]; show _ = 0 + _; rw [Rat.zero_add]
  | x :: a, [] => by rw [mergeQ_nil']; show _ = _ + 0; rw [Rat.add_zero]
  | x :: a, y :: b => by
    rw [mergeQ_cons]
    split
    · show _ + E (mergeQ a (y :: b)) g = _
      rw [E_merge g a (y :: b)]
      show _ = (x.2 : Rat) * g x.1 + E a g + _
      grind
    · split
      · show _ + E (mergeQ (x :: a) b) g = _
        rw [E_merge g (x :: a) b]
        show _ = _ + ((y.2 : Rat) * g y.1 + E b g)
        grind
      · rename_i h1 h2
        have e : x.1 = y.1 := by grind
        show ((x.2 + y.2 : Int) : Rat) * g x.1 + E (mergeQ a b) g = ((x.2 : Rat) * g x.1 + E a g) + ((y.2 : Rat) * g y.1 + E b g)
        rw [E_merge g a b, Rat.intCast_add, e]
        grind
 termination_by a b => a.length + b.length

theorem E_shift (g : Rat → Rat) (x : Rat) : ∀ l : List AQ, E (shiftQ l x) g = E l (fun s => g (s + x))
  | [] => rfl
  | a :: l => by
    show (a.2 : Rat) * g (a.1 + x) + E (shiftQ l x) g = (a.2 : Rat) * g (a.1 + x) + E l (fun s => g (s + x))
    rw [E_shift g x l]

theorem E_sub : ∀ (ps : List Rat) (k : Nat) (g : Rat → Rat), E (subR ps k) g = S ps k g
  | ps, 0, g => by
    rw [subR_zero, S_zero]
    show ((1 : Int) : Rat) * g 0 + 0 = g 0
    rw [Rat.intCast_one, Rat.one_mul, Rat.add_zero]
  | [], k + 1, g => rfl
  | x :: ps, k + 1, g => by
    show E (mergeQ (subR ps (k + 1)) (shiftQ (subR ps k) x)) g = _
    rw [E_merge, E_shift, E_sub ps (k + 1), E_sub ps k]
    rfl

theorem E_congr {f g : Rat → Rat} (h : ∀ s, f s = g s) (l : List AQ) : E l f = E l g := by rw [show f = g from funext h]
theorem S_congr {f g : Rat → Rat} (h : ∀ s, f s = g s) (l : List Rat) (k : Nat) : S l k f = S l k g := by rw [show f = g from funext h]

theorem tot_E : ∀ l : List AQ, ((totQ l : Int) : Rat) = E l (fun _ => 1)
  | [] => rfl
  | a :: l => by
    rw [totQ_cons, Rat.intCast_add, tot_E l]
    show _ = (a.2 : Rat) * 1 + _
    rw [Rat.mul_one]

theorem mean_E (N : Int) : ∀ (l : List AQ) (s : Rat), l.foldl (meanStep N) s = s + E l id / (N : Rat)
  | [], s => by show s = s + 0 / (N : Rat); rw [Rat.div_def, Rat.zero_mul, Rat.add_zero]
  | a :: l, s => by
    rw [List.foldl_cons, mean_E N l]
    show s + a.1 * ((a.2 : Rat) / (N : Rat)) + E l id / (N : Rat) = s + ((a.2 : Rat) * a.1 + E l id) / (N : Rat)
    rw [Rat.div_def, Rat.div_def, Rat.div_def]
    grind
theorem var_E (N : Int) (m : Rat) : ∀ (l : List AQ) (s : Rat), l.foldl (varStep N m) s = s + E l (fun x => (x - m) * (x - m)) / (N : Rat)
  | [], s => by show s = s + 0 / (N : Rat); rw [Rat.div_def, Rat.zero_mul, Rat.add_zero]
  | a :: l, s => by
    rw [List.foldl_cons, var_E N m l]
    show s + (a.1 - m) * (a.1 - m) * ((a.2 : Rat) / (N : Rat)) + E l (fun x => (x - m) * (x - m)) / (N : Rat) = s + ((a.2 : Rat) * ((a.1 - m) * (a.1 - m)) + E l (fun x => (x - m) * (x - m))) / (N : Rat)
    rw [Rat.div_def, Rat.div_def, Rat.div_def]
    grind

theorem meanQ_E (l : List AQ) : meanQ l = E l id / E l (fun _ => 1) := by
  unfold meanQ
  rw [mean_E, tot_E]
  grind
theorem varQ_E (l : List AQ) : varQ l = E l (fun x => (x - meanQ l) * (x - meanQ l)) / E l (fun _ => 1) := by
  show l.foldl (varStep (totQ l) (meanQ l)) 0 = _
  rw [var_E, tot_E]
  grind

/-- one, where a sum lies beyond v on a side -/
def far (side : Int) (v m f : Rat) (s : Rat) : Rat := if inTail side v m f (s, 0) then 1 else 0
theorem tailN_E (side : Int) (v m f : Rat) : ∀ l : List AQ, ((tailN side v m f l : Int) : Rat) = E l (far side v m f)
  | [] => rfl
  | a :: l => by
    have ih := tailN_E side v m f l
    have hd : far side v m f a.1 = if inTail side v m f a then 1 else 0 := rfl
    unfold tailN at ih ⊢
    show _ = (a.2 : Rat) * far side v m f a.1 + E l (far side v m f)
    rw [hd, ← ih]
    cases h : inTail side v m f a with
    | true =>
      rw [List.filter_cons_of_pos h, totQ_cons, Rat.intCast_add, if_pos rfl, Rat.mul_one]
    | false =>
      rw [List.filter_cons_of_neg (by rw [h]; decide), if_neg (by decide), Rat.mul_zero, Rat.zero_add]
theorem tailQ_E (l : List AQ) (v : Rat) (side : Int) : tailQ l v side = E l (far side v (meanQ l) (absQ (v - meanQ l))) / E l (fun _ => 1) := by
  unfold tailQ
  rw [tailN_E, tot_E]

/-! ### whole and part -/
theorem S_big : ∀ (ps : List Rat) (k : Nat) (g : Rat → Rat), ps.length < k → S ps k g = 0
  | [], k + 1, g, _ => rfl
  | x :: ps, k + 1, g, h => by
    simp only [List.length_cons] at h
    rw [S_cons, S_big ps (k + 1) _ (by omega), S_big ps k _ (by omega), Rat.add_zero]

/-- the sum of a list -/
def tot : List Rat → Rat
  | [] => 0
  | x :: ps => tot ps + x

theorem S_all : ∀ (ps : List Rat) (g : Rat → Rat), S ps ps.length g = g (tot ps)
  | [], g => rfl
  | x :: ps, g => by
    rw [List.length_cons, S_cons, S_big ps _ _ (by omega), S_all ps, Rat.zero_add]
    rfl

theorem S_rest : ∀ (ps : List Rat) (k : Nat) (g : Rat → Rat), k ≤ ps.length → S ps k g = S ps (ps.length - k) (fun s => g (tot ps - s))
  | ps, 0, g, _ => by
    rw [S_zero, Nat.sub_zero, S_all, Rat.sub_self]
  | [], k + 1, g, h => by simp at h
  | x :: ps, k + 1, g, h => by
    simp only [List.length_cons] at h
    rw [S_cons, List.length_cons]
    rcases Nat.eq_or_lt_of_le (show k ≤ ps.length by omega) with e | e
    · rw [show ps.length + 1 - (k + 1) = 0 by omega, S_zero, S_big ps (k + 1) _ (by omega), e, S_all]
      show 0 + g (tot ps + x) = g (tot ps + x - 0)
      grind
    · obtain ⟨j, hj⟩ : ∃ j, ps.length - k = j + 1 := ⟨ps.length - k - 1, by omega⟩
      rw [show ps.length + 1 - (k + 1) = j + 1 by omega, S_cons, S_rest ps (k + 1) g (by omega), S_rest ps k _ (by omega), hj, show ps.length - (k + 1) = j by omega, Rat.add_comm]
      congr 1
      · exact S_congr (fun s => by show g (tot ps - s + x) = g (tot ps + x - s); congr 1; grind) _ _
      · exact S_congr (fun s => by show g (tot ps - s) = g (tot ps + x - (s + x)); congr 1; grind) _ _

theorem S_perm {a b : List Rat} (h : a.Perm b) : ∀ (k : Nat) (g : Rat → Rat), S a k g = S b k g := by
  induction h with
  | nil => intros; rfl
  | cons x _ ih =>
    intro k g
    cases k with
    | zero => rw [S_zero, S_zero]
    | succ k => rw [S_cons, S_cons, ih, ih]
  | swap x y l =>
    intro k g
    cases k with
    | zero => rw [S_zero, S_zero]
    | succ k =>
      cases k with
      | zero =>
        rw [S_cons, S_cons, S_cons, S_cons, S_zero, S_zero, S_zero, S_zero]
        grind
      | succ k =>
        rw [S_cons, S_cons, S_cons, S_cons, S_cons, S_cons]
        have : S l k (fun s => g (s + x + y)) = S l k (fun s => g (s + y + x)) := S_congr (fun s => by show g (s + x + y) = g (s + y + x); congr 1; grind) _ _
        rw [this]
        grind
  | trans _ _ ih1 ih2 => intro k g; rw [ih1, ih2]
end Go.ZL
end

section
/- Convolution of distributions. -/
namespace Go.ZL
open Go Go.ZM Go.ZS

def scaleQ (x : AQ) (b : List AQ) : List AQ := b.map fun y => (x.1 + y.1, x.2 * y.2)
/-- the convolution so far, step by step; nothing, where it grows too long -/
def convGo : List AQ → List AQ → List AQ → Option (List AQ)
  | acc, [], _ => some acc
  | acc, x :: a, b => if 16384 < (mergeQ acc (scaleQ x b)).length then none else convGo (mergeQ acc (scaleQ x b)) a b

/-- values of a size, and numbers up to n times a size -/
def CB (k n : Nat) (l : List AQ) : Prop := ∀ a ∈ l, Bd (2 * k + 1) a.1 ∧ a.2.natAbs ≤ n * 4294967296 ^ (2 * k)

theorem scaleQ_cb {k : Nat} {x : AQ} {b : List AQ} (hx : AB k x) (hb : ∀ y ∈ b, AB k y) : CB k 1 (scaleQ x b) := by
  intro a ha
  obtain ⟨y, hy, rfl⟩ := List.mem_map.1 ha
  refine ⟨(hx.1.add (hb y hy).1).mono (by omega), ?_⟩
  have h1 := Nat.lt_of_lt_of_le (lt_ln x.2) (Nat.pow_le_pow_right (by omega) hx.2)
  have h2 := Nat.lt_of_lt_of_le (lt_ln y.2) (Nat.pow_le_pow_right (by omega) (hb y hy).2)
  show (x.2 * y.2).natAbs ≤ _
  rw [Int.natAbs_mul, Nat.one_mul, Nat.two_mul, Nat.pow_add]
  exact Nat.mul_le_mul (Nat.le_of_lt h1) (Nat.le_of_lt h2)
theorem mergeQ_cb {k m n : Nat} : ∀ (a b : List AQ), CB k m a → CB k n b → CB k (m + n) (mergeQ a b)
  | [], b, _, hb => by rw [mergeQ_nil]; exact fun z hz => ⟨(hb z hz).1, Nat.le_trans (hb z hz).2 (Nat.mul_le_mul_right _ (by omega))⟩
  | x :: a, [], ha, _ => by rw [mergeQ_nil']; exact fun z hz => ⟨(ha z hz).1, Nat.le_trans (ha z hz).2 (Nat.mul_le_mul_right _ (by omega))⟩
  | x :: a, y :: b, ha, hb => by
    have hx := ha x (List.mem_cons_self ..)
    have hy := hb y (List.mem_cons_self ..)
    have ha' : CB k m a := fun z hz => ha z (List.mem_cons_of_mem _ hz)
    have hb' : CB k n b := fun z hz => hb z (List.mem_cons_of_mem _ hz)
    have cons : ∀ (z : AQ) (l : List AQ), (Bd (2 * k + 1) z.1 ∧ z.2.natAbs ≤ (m + n) * 4294967296 ^ (2 * k)) → CB k (m + n) l → CB k (m + n) (z :: l) := fun z l h1 h2 w hw => by
      rcases List.mem_cons.1 hw with rfl | hw
      · exact h1
      · exact h2 w hw
    rw [mergeQ_cons]
    split
    · exact cons _ _ ⟨hx.1, Nat.le_trans hx.2 (Nat.mul_le_mul_right _ (by omega))⟩ (mergeQ_cb a (y :: b) ha' hb)
    · split
      · exact cons _ _ ⟨hy.1, Nat.le_trans hy.2 (Nat.mul_le_mul_right _ (by omega))⟩ (mergeQ_cb (x :: a) b ha hb')
      · refine cons _ _ ⟨hx.1, ?_⟩ (mergeQ_cb a b ha' hb')
        show (x.2 + y.2).natAbs ≤ _
        rw [Nat.add_mul]
        have := hx.2
        have := hy.2
        omega
 termination_by a b => a.length + b.length
theorem CB.ab {k n : Nat} {l : List AQ} (h : CB k n l) (hn : n < 4294967296) : ∀ a ∈ l, AB (2 * k + 1) a := by
  intro a ha
  refine ⟨(h a ha).1, ln_le ?_⟩
  have h2 := (h a ha).2
  rw [Bpow_succ]
  have := Nat.mul_lt_mul_of_pos_right hn (Bpow_pos (2 * k))
  omega

theorem conv_L9 {k : Nat} (hk : k ≤ 100000) {x : AR} (hx : AW k x) {b : List AR} (hb : ∀ y ∈ b, AW k y) (hl : b.length ≤ 16384) (v1 v6 v20 : List AR) (v21 v22 : Int) : ∀ (e n : Nat), n + e = b.length →
    permutation_Convolve.L9 v1 v6 x ((scaleQ (valA x) ((b.take n).map valA)).map enc) v20 v21 v22 b (b.length : Int) (n : Int) = some (v1, v6, (scaleQ (valA x) (b.map valA)).map enc, v20, v21, v22)
  | 0, n, hd => by rw [permutation_Convolve.L9_eq, dec_f (by omega), List.take_of_length_le (by omega)]
  | e + 1, n, hd => by
    have hn : n < b.length := by omega
    have hm := hb _ (List.getElem_mem hn)
    have e1 : IntKind.i64.wrap ((n : Int) + 1) = ((n + 1 : Nat) : Int) := i64_id (by omega) (by omega)
    have h1 := hx.n
    have h2 := hm.n
    rw [permutation_Convolve.L9_eq, dec_t (by omega), bind_idx rfl hn, e1, qAdd (hx.v.mono (by omega)) (hm.v.mono (by omega))]
    simp only [Option.bind_some]
    rw [iMul_eq hx.c hm.c (by omega)]
    simp only [Option.bind_some]
    rw [cond_t (apOk_t (by unfold scaleQ; simp; omega))]
    have e2 : (scaleQ (valA x) ((b.take n).map valA)).map enc ++ [(rat (valR x.1 + valR b[n].1), int (valI x.2 * valI b[n].2))] = (scaleQ (valA x) ((b.take (n + 1)).map valA)).map enc := by
      rw [List.take_add_one, List.getElem?_eq_getElem hn]
      unfold scaleQ
      simp only [Option.toList_some, List.map_append, List.map_cons, List.map_nil]
      rfl
    rw [e2]
    exact conv_L9 hk hx hb hl v1 v6 v20 v21 v22 e (n + 1) (by omega)

theorem AW.ab {k : Nat} {x : AR} (h : AW k x) (hk : 1 ≤ k) : AB k (valA x) := ⟨by have := h.v.bd; rwa [Nat.max_eq_right hk] at this, h.ln⟩

theorem conv_L5 {k : Nat} (hk : k ≤ 100000) (hk1 : 1 ≤ k) {a b : List AR} (ha : ∀ y ∈ a, AW k y) (hb : ∀ y ∈ b, AW k y) (la : a.length ≤ 16384) (lb : b.length ≤ 16384) : ∀ (e n : Nat) (acc : List AQ), n + e = a.length → CB k n acc → acc.length ≤ 16384 →
    permutation_Convolve.L5 b (acc.map enc) a (a.length : Int) (n : Int) = some (match convGo acc ((a.drop n).map valA) (b.map valA) with | some l => .inl (l.map enc) | none => .inr ([], 2)) ∧ ∀ l, convGo acc ((a.drop n).map valA) (b.map valA) = some l → CB k a.length l ∧ l.length ≤ 16384
  | 0, n, acc, hd, hc, hL => by
    rw [permutation_Convolve.L5_eq, dec_f (by omega), List.drop_of_length_le (by omega)]
    refine ⟨rfl, fun l h => ?_⟩
    have h : some acc = some l := h
    injection h with h
    subst h
    rw [show a.length = n by omega]
    exact ⟨hc, hL⟩
  | e + 1, n, acc, hd, hc, hL => by
    have hn : n < a.length := by omega
    have hm := ha _ (List.getElem_mem hn)
    have e1 : IntKind.i64.wrap ((n : Int) + 1) = ((n + 1 : Nat) : Int) := i64_id (by omega) (by omega)
    have h9 := conv_L9 hk hm hb lb b (acc.map enc) a (a.length : Int) (n : Int) b.length 0 (by omega)
    have e0 : ((0 : Nat) : Int) = 0 := rfl
    rw [e0, List.take_zero, List.map_nil, show scaleQ (valA a[n]) [] = [] from rfl, List.map_nil] at h9
    have hs := scaleQ_cb (hm.ab hk1) (b := b.map valA) (fun y hy => by obtain ⟨z, hz, rfl⟩ := List.mem_map.1 hy; exact (hb z hz).ab hk1)
    have hcm := mergeQ_cb acc _ hc hs
    have hsl : (scaleQ (valA a[n]) (b.map valA)).length = b.length := by unfold scaleQ; rw [List.length_map, List.length_map]
    rw [permutation_Convolve.L5_eq, dec_t (by omega), bind_idx rfl hn, h9]
    simp only [Option.bind_some]
    rw [e1, merge_eq (k := 2 * k + 1) (by omega) (hc.ab (by omega)) (hs.ab (by omega)) (by omega)]
    simp only [Option.bind_some]
    rw [List.drop_eq_getElem_cons hn, List.map_cons]
    have hstep : convGo acc (valA a[n] :: (a.drop (n + 1)).map valA) (b.map valA) = if 16384 < (mergeQ acc (scaleQ (valA a[n]) (b.map valA))).length then none else convGo (mergeQ acc (scaleQ (valA a[n]) (b.map valA))) ((a.drop (n + 1)).map valA) (b.map valA) := rfl
    rw [hstep, List.length_map]
    by_cases hbig : 16384 < (mergeQ acc (scaleQ (valA a[n]) (b.map valA))).length
    · rw [dec_t (by omega), if_pos hbig]
      exact ⟨rfl, fun l h => by cases h⟩
    · rw [dec_f (by omega), if_neg hbig]
      exact conv_L5 hk hk1 ha hb la lb e (n + 1) _ (by omega) hcm (by omega)

/-- what Convolve answers -/
def convQ (a b : List AQ) : List AR × Int :=
  if (decide (a.length ≤ 16384) && validQ none a) = true then
    if (decide (b.length ≤ 16384) && validQ none b) = true then
      match convGo [] a b with
      | some l => (l.map enc, 0)
      | none => ([], 2)
    else ([], 4)
  else ([], 4)

theorem convolve_eq {k : Nat} (hk : k ≤ 100000) (hk1 : 1 ≤ k) {a b : List AR} (ha : ∀ y ∈ a, AW k y) (hb : ∀ y ∈ b, AW k y) (la : a.length ≤ 1000000000) (lb : b.length ≤ 1000000000) :
    permutation_Convolve a b = some (convQ (a.map valA) (b.map valA)) := by
  unfold permutation_Convolve convQ
  rw [pValid_eq (k := k) (by omega) la ha, pValid_eq (k := k) (by omega) lb hb]
  simp only [Option.bind_some]
  rw [List.length_map, List.length_map]
  cases h1 : (decide (a.length ≤ 16384) && validQ none (a.map valA)) with
  | false => rfl
  | true =>
    rw [Bool.not_true, cond_false, if_pos rfl]
    cases h2 : (decide (b.length ≤ 16384) && validQ none (b.map valA)) with
    | false => rfl
    | true =>
      rw [Bool.not_true, cond_false, if_pos rfl]
      rw [Bool.and_eq_true, decide_eq_true_eq] at h1 h2
      obtain ⟨h5, h6⟩ := conv_L5 hk hk1 ha hb h1.1 h2.1 a.length 0 [] (by omega) (fun z hz => by cases hz) (by decide)
      have e0 : ((0 : Nat) : Int) = 0 := rfl
      rw [e0, List.drop_zero, List.map_nil] at h5
      rw [List.drop_zero] at h6
      rw [h5]
      simp only [Option.bind_some]
      cases hg : convGo [] (a.map valA) (b.map valA) with
      | none => rfl
      | some l =>
        obtain ⟨g1, g2⟩ := h6 l hg
        show (permutation_fresh (l.map enc)).bind _ = _
        rw [fresh_eq (k := 2 * k + 1) (by omega) (by omega) (g1.ab (by omega))]
        rfl
end Go.ZL
end

section
/- The laws of rank tests: their own example. -/
namespace Go.ZL
open Go Go.ZM Go.ZS

theorem ints_L3 {l : List Int} (hl : l.length ≤ 1000000) (h : ∀ x ∈ l, -9223372036854775808 ≤ x ∧ x < 9223372036854775808) : ∀ (e n : Nat), n + e = l.length →
    robuststatslaw31_ints.L3 ((l.take n).map fun x : Int => rat (x : Rat)) l (l.length : Int) (n : Int) = some (l.map fun x : Int => rat (x : Rat))
  | 0, n, hd => by rw [robuststatslaw31_ints.L3_eq, dec_f (by omega), List.take_of_length_le (by omega)]
  | e + 1, n, hd => by
    have hn : n < l.length := by omega
    have hm := h _ (List.getElem_mem hn)
    have e1 : IntKind.i64.wrap ((n : Int) + 1) = ((n + 1 : Nat) : Int) := i64_id (by omega) (by omega)
    rw [robuststatslaw31_ints.L3_eq, dec_t (by omega), bind_idx rfl hn, fFromInt_eq hm.1 hm.2, e1]
    simp only [Option.bind_some]
    rw [cond_t (apOk_t (by simp; omega))]
    have : (l.take n).map (fun x : Int => rat (x : Rat)) ++ [rat (l[n] : Rat)] = (l.take (n + 1)).map fun x : Int => rat (x : Rat) := by
      rw [List.take_add_one, List.getElem?_eq_getElem hn, List.map_append]
      rfl
    rw [this]
    exact ints_L3 hl h e (n + 1) (by omega)
theorem ints_eq {l : List Int} (hl : l.length ≤ 1000000) (h : ∀ x ∈ l, -9223372036854775808 ≤ x ∧ x < 9223372036854775808) : robuststatslaw31_ints l = some (l.map fun x : Int => rat (x : Rat)) := by
  unfold robuststatslaw31_ints
  have := ints_L3 hl h l.length 0 (by omega)
  have e0 : ((0 : Nat) : Int) = 0 := rfl
  rw [e0, List.take_zero, List.map_nil] at this
  rw [this]
  rfl

theorem ex_sub : subsetsQ [1, 2, 3, 4] 2 = [(3, 1), (4, 1), (5, 2), (6, 1), (7, 1)] := by
  unfold subsetsQ
  rw [← subF_eq]
  decide +kernel
theorem ex_rank : rankQ [1, 2, 3, 4] = [1, 2, 3, 4] := by decide +kernel
theorem ex_rank3 : rankQ [3, 1, 3] = [5/2, 1, 5/2] := by decide +kernel
theorem ex_less : tailQ [(3, 1), (4, 1), (5, 2), (6, 1), (7, 1)] 3 1 = 1/6 := by decide +kernel
theorem ex_two : tailQ [(3, 1), (4, 1), (5, 2), (6, 1), (7, 1)] 3 3 = 1/3 := by decide +kernel
theorem ex_sum : sumQ [1, 2] = 3 := by decide +kernel

theorem six_1 (l : List AQ) (v : Rat) : (sixQ l v).1 = rat v := rfl
theorem six_4 (l : List AQ) (v : Rat) : (sixQ l v).2.2.2.1 = rat (tailQ l v 1) := rfl
theorem six_6 (l : List AQ) (v : Rat) : (sixQ l v).2.2.2.2.2 = rat (tailQ l v 3) := rfl

theorem awake_eq : robuststatslaw31_awake = some true := by
  have sz : ∀ (l : List Int), (∀ x ∈ l, -9223372036854775808 ≤ x ∧ x < 9223372036854775808) → ∀ y ∈ l.map (fun x : Int => rat (x : Rat)), Sz y := by
    intro l h y hy
    obtain ⟨x, hx, rfl⟩ := List.mem_map.1 hy
    exact (Bd.i64 (h x hx).1 (h x hx).2).sz (by omega)
  have s313 : ∀ x ∈ ([3, 1, 3] : List Int), -9223372036854775808 ≤ x ∧ x < 9223372036854775808 := by decide
  have s12 : ∀ x ∈ ([1, 2] : List Int), -9223372036854775808 ≤ x ∧ x < 9223372036854775808 := by decide
  have s34 : ∀ x ∈ ([3, 4] : List Int), -9223372036854775808 ≤ x ∧ x < 9223372036854775808 := by decide
  have v : ∀ l : List Int, (l.map fun x : Int => rat (x : Rat)).map valR = l.map fun x : Int => (x : Rat) := by
    intro l
    rw [List.map_map]
    exact List.map_congr_left fun x _ => valR_rat _
  have f52 : robuststatsref03_Fraction (5 : Int) (2 : Int) = some (rat (5/2)) := fFraction_eq (by omega) (by omega) (by omega) (by omega) (by omega)
  have f16 : robuststatsref03_Fraction (1 : Int) (6 : Int) = some (rat (1/6)) := fFraction_eq (by omega) (by omega) (by omega) (by omega) (by omega)
  have f13 : robuststatsref03_Fraction (1 : Int) (3 : Int) = some (rat (1/3)) := fFraction_eq (by omega) (by omega) (by omega) (by omega) (by omega)
  have f1 : robuststatsref03_FromInt (1 : Int) = some (rat 1) := fFromInt_eq (by omega) (by omega)
  have f3 : robuststatsref03_FromInt (3 : Int) = some (rat 3) := fFromInt_eq (by omega) (by omega)
  have b52 : Bd 2 (5/2) := Bd.frac (a := 5) (b := 2) (by omega) (by omega)
  have b1 : Bd 2 (1 : Rat) := Bd.i64 (n := 1) (by omega) (by omega)
  have b3 : Bd 2 (3 : Rat) := Bd.i64 (n := 3) (by omega) (by omega)
  have b16 : Bd 2 (1/6) := Bd.frac (a := 1) (b := 6) (by omega) (by omega)
  have b13 : Bd 2 (1/3) := Bd.frac (a := 1) (b := 3) (by omega) (by omega)
  have e3 : ([3, 1, 3] : List Int).map (fun x : Int => (x : Rat)) = [3, 1, 3] := rfl
  have e4 : (([1, 2] : List Int).map (fun x : Int => rat (x : Rat)) ++ ([3, 4] : List Int).map (fun x : Int => rat (x : Rat))).map valR = [1, 2, 3, 4] := by
    rw [List.map_append, v, v]; rfl
  unfold robuststatslaw31_awake
  rw [ints_eq (by decide) s313]
  simp only [Option.bind_some]
  rw [rank_eq (by decide) (sz _ s313), v, e3, ex_rank3]
  simp only [Option.bind_some]
  rw [ints_eq (by decide) s12, ints_eq (by decide) s34]
  simp only [Option.bind_some]
  rw [sum_eq (by decide) (by decide) (by decide) (sz _ s12) (sz _ s34), e4, ex_rank]
  simp only [Option.bind_some]
  rw [show (([1, 2] : List Int).map (fun x : Int => rat (x : Rat))).length = 2 from rfl, ex_sub, show ([1, 2, 3, 4] : List Rat).take 2 = [1, 2] from rfl, ex_sum]
  rw [f52, f1]
  simp only [Option.bind_some]
  have hb : ∀ q ∈ ([5/2, 1, 5/2] : List Rat), Bd 2 q := by
    intro q hq
    simp only [List.mem_cons, List.not_mem_nil, or_false] at hq
    rcases hq with rfl | rfl | rfl
    · exact b52
    · exact b1
    · exact b52
  have := sameList_rfl (by decide) (by decide) hb
  rw [show ([5/2, 1, 5/2] : List Rat).map rat = [rat (5/2), rat 1, rat (5/2)] from rfl] at this
  rw [show ([5/2, 1, 5/2] : List Rat).map rat = [rat (5/2), rat 1, rat (5/2)] from rfl, this]
  simp only [Option.bind_some, cond_true, decide_true]
  rw [f3]
  simp only [Option.bind_some]
  rw [six_1, gSame b3 (by decide)]
  simp only [Option.bind_some, decide_true, cond_true]
  rw [f16]
  simp only [Option.bind_some]
  rw [six_4, ex_less, gSame b16 (by decide)]
  simp only [Option.bind_some, decide_true, cond_true]
  rw [f13]
  simp only [Option.bind_some]
  rw [six_6, ex_two, gSame b13 (by decide)]
  simp only [Option.bind_some, decide_true]

theorem law_midranks {l : List Int} {xs : List RR} (hl : ∀ x ∈ l, -9223372036854775808 ≤ x ∧ x < 9223372036854775808) (hx : ∀ x ∈ xs, Lb x.1.2 ∧ Lb x.2) (hn : xs.length ≤ 9223372036854775807) :
    robuststatslaw31_RanktestMidranks l xs = some true := by
  unfold robuststatslaw31_RanktestMidranks
  rw [show (200 : Int) = ((200 : Nat) : Int) from rfl, mLightList (by omega) 200]
  simp only [Option.bind_some]
  cases hL : (decide (xs.length ≤ 200) && xs.all lightB) with
  | false =>
    rw [Bool.not_false, cond_true, awake_eq]
    rfl
  | true =>
    rw [Bool.not_true, cond_false]
    rw [Bool.and_eq_true, decide_eq_true_eq] at hL
    have hs : ∀ x ∈ xs, Sz x := fun x h => (light_rw hx hL.2 x h).mono (by omega)
    by_cases h60 : (60 : Int) < (xs.length : Int)
    · rw [dec_t h60, awake_eq]
      rfl
    rw [dec_f h60]
    obtain ⟨t, e1, ht⟩ := tNew hl
    rw [e1]
    simp only [Option.bind_some]
    obtain ⟨ys, t', e2, ht', y1, y2, y3⟩ := tValues ht (n := 12) (by omega) (by omega)
    rw [show ((12 : Nat) : Int) = 12 from rfl] at e2
    rw [e2]
    simp only [Option.bind_some]
    have hys : ∀ x ∈ ys.map rat, Sz x := rat_sz y3 (by omega)
    rw [rank_eq (by rw [List.length_map]; omega) hys, rank_ref_eq (by rw [List.length_map]; omega) hys]
    simp only [Option.bind_some]
    have r1 : ∀ (zs : List RR), zs.length ≤ 200 → robuststatsref03_SameList ((rankQ (zs.map valR)).map rat) ((rankQ (zs.map valR)).map rat) = some true := by
      intro zs hz
      exact sameList_rfl (by rw [rankQ_len, List.length_map]; omega) (by decide) (rankQ_bd (by rw [List.length_map]; omega))
    rw [r1 _ (by rw [List.length_map]; omega)]
    simp only [Option.bind_some, cond_true]
    rw [rank_eq (by omega) hs, rank_ref_eq (by omega) hs]
    simp only [Option.bind_some]
    rw [r1 _ (by omega)]
    simp only [Option.bind_some, cond_true]
    rw [rank_eq (by decide) (fun x hx => by cases hx)]
    simp only [Option.bind_some]
    rw [dec_t (by rfl), awake_eq]
    rfl

theorem rat_lb {x : RR} (h : Rng (.struct (.pair (.struct (.pair .bool (.slice (.int .u32)))) (.slice (.int .u32)))) x) : Lb x.1.2 ∧ Lb x.2 :=
  ⟨fun y hy => wf_u32 (h.1.2.2 y hy), fun y hy => wf_u32 (h.2.2 y hy)⟩
end Go.ZL
end

section
/- Ranks under order, and of two lists. -/
namespace Go.ZL
open Go Go.ZM Go.ZS

theorem rankQ_def (l : List Rat) : rankQ l = l.map (rank1 l) := rfl
theorem rank1_comm (a b : List Rat) (v : Rat) : rank1 (a ++ b) v = rank1 (b ++ a) v := by
  unfold rank1 lessN sameN
  rw [List.countP_append, List.countP_append, List.countP_append, List.countP_append, Nat.add_comm (a.countP _), Nat.add_comm (a.countP fun w => decide (w = v))]
theorem rankQ_comm (a b : List Rat) : ∃ ra rb, rankQ (a ++ b) = ra ++ rb ∧ rankQ (b ++ a) = rb ++ ra ∧ ra.length = a.length ∧ rb.length = b.length := by
  refine ⟨a.map (rank1 (a ++ b)), b.map (rank1 (a ++ b)), ?_, ?_, List.length_map .., List.length_map ..⟩
  · rw [rankQ_def, List.map_append]
  · rw [rankQ_def, List.map_append]
    congr 1
    · exact List.map_congr_left fun v _ => rank1_comm b a v
    · exact List.map_congr_left fun v _ => rank1_comm b a v

/-- ranks do not see a map that keeps order -/
theorem rankQ_mono {f : Rat → Rat} (hf : ∀ x y, x < y → f x < f y) (l : List Rat) : rankQ (l.map f) = rankQ l := by
  have h1 : ∀ x y, (f x < f y ↔ x < y) := by
    intro x y
    refine ⟨fun h => ?_, hf x y⟩
    by_cases h' : x < y
    · exact h'
    · exfalso
      by_cases g : y < x
      · have := hf y x g; grind
      · have e : x = y := by grind
        rw [e] at h; grind
  have h2 : ∀ x y, (f x = f y ↔ x = y) := by
    intro x y
    refine ⟨fun h => ?_, fun h => by rw [h]⟩
    have a := h1 x y
    have b := h1 y x
    rw [h] at a b
    grind
  rw [rankQ_def, rankQ_def, List.map_map]
  refine List.map_congr_left fun v _ => ?_
  show rank1 (l.map f) (f v) = rank1 l v
  unfold rank1 lessN sameN
  rw [List.countP_map, List.countP_map]
  have e1 : ((fun w => decide (w < f v)) ∘ f) = fun w => decide (w < v) := funext fun w => by
    show decide (f w < f v) = decide (w < v); rw [Bool.eq_iff_iff, decide_eq_true_eq, decide_eq_true_eq]; exact h1 w v
  have e2 : ((fun w => decide (w = f v)) ∘ f) = fun w => decide (w = v) := funext fun w => by
    show decide (f w = f v) = decide (w = v); rw [Bool.eq_iff_iff, decide_eq_true_eq, decide_eq_true_eq]; exact h2 w v
  rw [e1, e2]

/-! ### all ranks together -/
def moreN (l : List Rat) (v : Rat) : Nat := l.countP fun w => decide (v < w)
theorem less_same_more : ∀ (l : List Rat) (v : Rat), lessN l v + sameN l v + moreN l v = l.length
  | [], v => rfl
  | x :: l, v => by
    have ih := less_same_more l v
    unfold lessN sameN moreN at ih ⊢
    rw [List.countP_cons, List.countP_cons, List.countP_cons, List.length_cons]
    by_cases h : x < v
    · have h2 : ¬ x = v := by grind
      have h3 : ¬ v < x := by grind
      simp only [h, h2, h3, decide_true, decide_false, if_true]
      simp
      omega
    · by_cases g : v < x
      · have h2 : ¬ x = v := by grind
        have h3 : ¬ x < v := by grind
        simp only [g, h2, h3, decide_true, decide_false, if_true]
        simp
        omega
      · have e : x = v := by grind
        subst e
        have h2 : ¬ x < x := by grind
        simp only [h2, decide_true, decide_false, if_true]
        simp
        omega

def sumN (f : Rat → Nat) : List Rat → Nat
  | [] => 0
  | x :: l => f x + sumN f l
theorem sumN_add (f g : Rat → Nat) : ∀ l, sumN (fun x => f x + g x) l = sumN f l + sumN g l
  | [] => rfl
  | x :: l => by simp only [sumN]; rw [sumN_add f g l]; omega
theorem sumN_const (c : Nat) : ∀ l, sumN (fun _ => c) l = l.length * c
  | [] => by simp [sumN]
  | x :: l => by simp only [sumN]; rw [sumN_const c l, List.length_cons, Nat.add_mul]; omega
theorem sumN_congr {f g : Rat → Nat} (h : ∀ x, f x = g x) (l : List Rat) : sumN f l = sumN g l := by rw [show f = g from funext h]

theorem less_more_sum (b : List Rat) : ∀ a : List Rat, sumN (lessN b) a = sumN (moreN a) b
  | [] => by
    have : sumN (moreN []) b = b.length * 0 := sumN_const 0 b
    rw [this]; rfl
  | x :: a => by
    show lessN b x + sumN (lessN b) a = _
    rw [less_more_sum b a]
    have h : ∀ w, moreN (x :: a) w = (if w < x then 1 else 0) + moreN a w := by
      intro w
      unfold moreN
      rw [List.countP_cons]
      simp only [decide_eq_true_eq]
      omega
    rw [sumN_congr h, sumN_add]
    congr 1
    induction b with
    | nil => rfl
    | cons w b ih =>
      show lessN (w :: b) x = (if w < x then 1 else 0) + sumN _ b
      rw [← ih]
      unfold lessN
      rw [List.countP_cons]
      simp only [decide_eq_true_eq]
      omega

theorem rank_sumN (l : List Rat) : sumN (fun v => 2 * lessN l v + sameN l v + 1) l = l.length * (l.length + 1) := by
  have e : ∀ v, 2 * lessN l v + sameN l v + 1 = (lessN l v + (l.length + 1 - moreN l v)) := by
    intro v
    have := less_same_more l v
    omega
  have e2 : ∀ v, lessN l v + (l.length + 1 - moreN l v) + moreN l v = lessN l v + (l.length + 1) := by
    intro v
    have := less_same_more l v
    omega
  have h1 := sumN_add (fun v => lessN l v + (l.length + 1 - moreN l v)) (moreN l) l
  rw [sumN_congr e2, sumN_add, sumN_const] at h1
  have h2 := less_more_sum l l
  have h3 := sumN_congr e l
  have h4 : sumN (fun x => lessN l x) l = sumN (lessN l) l := rfl
  omega

theorem tot_half (f : Rat → Nat) : ∀ l : List Rat, tot (l.map fun v => ((f v : Nat) : Rat) / 2) = ((sumN f l : Nat) : Rat) / 2
  | [] => by show (0 : Rat) = ((0 : Nat) : Rat) / 2; decide +kernel
  | x :: l => by
    show tot (l.map _) + ((f x : Nat) : Rat) / 2 = ((f x + sumN f l : Nat) : Rat) / 2
    rw [tot_half f l, Rat.natCast_add]
    grind
theorem rank_tot (l : List Rat) : tot (rankQ l) = ((l.length * (l.length + 1) : Nat) : Rat) / 2 := by
  unfold rankQ
  rw [tot_half (fun v => 2 * lessN l v + sameN l v + 1), rank_sumN]

theorem tot_append : ∀ a b : List Rat, tot (a ++ b) = tot a + tot b
  | [], b => by show _ = 0 + _; rw [Rat.zero_add]; rfl
  | x :: a, b => by
    show tot (a ++ b) + x = tot a + x + tot b
    rw [tot_append a b]; grind
theorem foldl_tot : ∀ (l : List Rat) (s : Rat), l.foldl (· + ·) s = s + tot l
  | [], s => by show s = s + 0; rw [Rat.add_zero]
  | x :: l, s => by
    rw [List.foldl_cons, foldl_tot l]
    show s + x + tot l = s + (tot l + x)
    grind
theorem sumQ_tot (l : List Rat) : sumQ l = tot l := by unfold sumQ; rw [foldl_tot, Rat.zero_add]
theorem tot_reverse (l : List Rat) : tot l.reverse = tot l := by
  induction l with
  | nil => rfl
  | cons x l ih =>
    rw [List.reverse_cons, tot_append, ih]
    show tot l + (0 + x) = tot l + x
    rw [Rat.zero_add]
end Go.ZL
end

section
/- The rank test of sums: what it answers when the two sides change places, and when the values are raised in order. -/
namespace Go.ZL
open Go Go.ZM Go.ZS

theorem sq_nonneg (x : Rat) : 0 ≤ x * x := by
  by_cases h : 0 ≤ x
  · exact Rat.mul_nonneg h h
  · have h' : 0 ≤ -x := by grind
    have := Rat.mul_nonneg h' h'
    grind
theorem sq_pos {x : Rat} (h : x ≠ 0) : 0 < x * x := by
  by_cases h0 : 0 < x
  · exact Rat.mul_pos h0 h0
  · have h' : 0 < -x := by grind
    have := Rat.mul_pos h' h'
    grind
def riseQ (a x : Rat) : Rat := a + x * (x * x)
theorem rise_mono (a : Rat) : ∀ x y, x < y → riseQ a x < riseQ a y := by
  intro x y h
  have h1 : 0 < y - x := by grind
  have h2 : 0 < (2 * y + x) * (2 * y + x) + 3 * (x * x) := by
    have g1 := sq_nonneg (2 * y + x)
    by_cases e : x = 0
    · subst e
      have : 2 * y + 0 ≠ 0 := by grind
      have g2 := sq_pos this
      grind
    · have g2 := sq_pos e
      grind
  have h3 := Rat.mul_pos h1 h2
  have h4 : (y - x) * ((2 * y + x) * (2 * y + x) + 3 * (x * x)) = 4 * (riseQ a y - riseQ a x) := by unfold riseQ; grind
  rw [h4] at h3
  grind

theorem Bd.rise {a x : Rat} (ha : Bd 2 a) (hx : Bd 2 x) : Bd 9 (riseQ a x) := (ha.add (hx.mul (hx.mul hx))).mono (by omega)

theorem rise_L3 {a : Rat} (ha : Bd 2 a) {l : List Rat} (hl : l.length ≤ 1000000) (hx : ∀ x ∈ l, Bd 2 x) : ∀ (e n : Nat), n + e = l.length →
    robuststatslaw31_rise.L3 (rat a) (((l.take n).map (riseQ a)).map rat) (l.map rat) ((l.map rat).length : Int) (n : Int) = some ((l.map (riseQ a)).map rat)
  | 0, n, hd => by rw [robuststatslaw31_rise.L3_eq, dec_f (by rw [List.length_map]; omega), List.take_of_length_le (by omega)]
  | e + 1, n, hd => by
    have hn : n < l.length := by omega
    have hm := hx _ (List.getElem_mem hn)
    have e1 : IntKind.i64.wrap ((n : Int) + 1) = ((n + 1 : Nat) : Int) := i64_id (by omega) (by omega)
    rw [robuststatslaw31_rise.L3_eq, dec_t (by rw [List.length_map]; omega), bind_idx rfl (by rw [List.length_map]; exact hn), e1, List.getElem_map, gMul (hm.sz (by omega)) (hm.sz (by omega)), valR_rat]
    simp only [Option.bind_some]
    rw [gMul (hm.sz (by omega)) ((hm.mul hm).sz (by omega)), valR_rat, valR_rat]
    simp only [Option.bind_some]
    rw [gAdd (ha.sz (by omega)) ((hm.mul (hm.mul hm)).sz (by omega)), valR_rat, valR_rat]
    simp only [Option.bind_some]
    rw [cond_t (apOk_t (by simp; omega))]
    have : ((l.take n).map (riseQ a)).map rat ++ [rat (a + l[n] * (l[n] * l[n]))] = ((l.take (n + 1)).map (riseQ a)).map rat := by
      rw [List.take_add_one, List.getElem?_eq_getElem hn, List.map_append, List.map_append]
      rfl
    rw [this]
    exact rise_L3 ha hl hx e (n + 1) (by omega)
theorem rise_eq {a : Rat} (ha : Bd 2 a) {l : List Rat} (hl : l.length ≤ 1000000) (hx : ∀ x ∈ l, Bd 2 x) : robuststatslaw31_rise (l.map rat) (rat a) = some ((l.map (riseQ a)).map rat) := by
  unfold robuststatslaw31_rise
  have := rise_L3 ha hl hx l.length 0 (by omega)
  have e0 : ((0 : Nat) : Int) = 0 := rfl
  rw [e0, List.take_zero, List.map_nil, List.map_nil] at this
  rw [this]
  rfl

/-! ### the answer's size -/
theorem sz_bd {q : Rat} (h : Sz (rat q)) : Bd 1000000 q := by
  have := Rw.bd h
  rw [valR_rat] at this
  exact this.mono (by omega)
theorem pos_filter {l : List AQ} (h : Pos l) (p : AQ → Bool) : 0 ≤ totQ (l.filter p) ∧ totQ (l.filter p) ≤ totQ l := by
  induction l with
  | nil => exact ⟨Int.le_refl _, Int.le_refl _⟩
  | cons a l ih =>
    have h1 := h a (List.mem_cons_self ..)
    obtain ⟨i1, i2⟩ := ih fun z hz => h z (List.mem_cons_of_mem _ hz)
    rw [totQ_cons]
    cases hp : p a with
    | true => rw [List.filter_cons_of_pos hp, totQ_cons]; omega
    | false => rw [List.filter_cons_of_neg (by rw [hp]; decide)]; omega

/-- the six numbers of an answer -/
def sixL (l : List AQ) (v : Rat) : List Rat := [v, meanQ l, varQ l, tailQ l v 1, tailQ l v 2, tailQ l v 3]
theorem six_bd {r : List Rat} {k : Nat} (hr : ∀ x ∈ r, Dm 2 2000 x) (hl : r.length ≤ 14) (hk : k ≤ r.length) {v : Rat} (hv : Bd 1000000 v) : ∀ q ∈ sixL (subsetsQ r k) v, Bd 1000000 q := by
  obtain ⟨g1, g2, g3, g4, g5⟩ := sub_dist (ps := r.reverse) (k := k) (show 0 < 2 by omega) (d := 1) (m := 1) (M := 2000) (by omega) (by omega) (by omega) (fun x hx => hr x (List.mem_reverse.1 hx)) (by rw [List.length_reverse]; omega) (by rw [List.length_reverse]; omega)
  have ho := (subR_ok (D := 2) (M := 2000) (by omega) r.reverse k fun x hx => hr x (List.mem_reverse.1 hx)).pos
  have e : ((subR r.reverse k).map enc).map valA = subR r.reverse k := map_valA_enc _
  have ht : ∀ side, Bd 1000000 (tailQ (subsetsQ r k) v side) := by
    intro side
    obtain ⟨p1, p2⟩ := pos_filter ho (inTail side v (meanQ (subsetsQ r k)) (absQ (v - meanQ (subsetsQ r k))))
    exact (Bd.frac (a := tailN side v (meanQ (subsetsQ r k)) (absQ (v - meanQ (subsetsQ r k))) (subsetsQ r k)) (b := totQ (subsetsQ r k)) (by unfold tailN subsetsQ; unfold subsetsQ at p1 p2; omega) (by unfold subsetsQ; omega)).mono (by omega)
  have hm : Bd 1000000 (meanQ (subsetsQ r k)) := by
    have := g1.mean_sz (Nat.le_refl _)
    rw [List.take_length, e] at this
    exact sz_bd this
  have hvv : Bd 1000000 (varQ (subsetsQ r k)) := by
    have h := g1.var _ (Nat.le_refl _)
    obtain ⟨z1, _, _, z4⟩ := g1.sizes (Nat.le_refl _)
    have h' := h.bd (Nat.mul_pos (Nat.mul_pos (Nat.mul_pos (by omega) (by omega)) (Nat.mul_pos (by omega) (by omega))) (by omega)) z1 z4
    rw [List.take_length, e] at h'
    exact h'.mono (by omega)
  intro q hq
  simp only [sixL, List.mem_cons, List.not_mem_nil, or_false] at hq
  rcases hq with rfl | rfl | rfl | rfl | rfl | rfl
  · exact hv
  · exact hm
  · exact hvv
  · exact ht 1
  · exact ht 2
  · exact ht 3

theorem same31 {l : List AQ} {v : Rat} (h : ∀ q ∈ sixL l v, Bd 1000000 q) : robuststatsref31_Same (sixQ l v) (sixQ l v) = some true := by
  unfold robuststatsref31_Same
  have := sameList_rfl (a := sixL l v) (show (6 : Nat) ≤ 4611686018427387904 by decide) (Nat.le_refl 1000000) h
  have e : (sixL l v).map rat = [rat v, rat (meanQ l), rat (varQ l), rat (tailQ l v 1), rat (tailQ l v 2), rat (tailQ l v 3)] := rfl
  rw [e] at this
  show (robuststatsref03_SameList [rat v, rat (meanQ l), rat (varQ l), rat (tailQ l v 1), rat (tailQ l v 2), rat (tailQ l v 3)] [rat v, rat (meanQ l), rat (varQ l), rat (tailQ l v 1), rat (tailQ l v 2), rat (tailQ l v 3)]).bind _ = _
  rw [this]
  rfl

/-! ### the two sides change places -/
theorem E_subsets (r : List Rat) (k : Nat) (g : Rat → Rat) : E (subsetsQ r k) g = S r k g := by
  unfold subsetsQ
  rw [E_sub]
  exact S_perm (List.reverse_perm r) k g

theorem swap_E (a b : List Rat) (g : Rat → Rat) : E (subsetsQ (b ++ a) b.length) g = E (subsetsQ (a ++ b) a.length) (fun s => g (tot a + tot b - s)) := by
  rw [E_subsets, E_subsets, S_perm (List.perm_append_comm (l₁ := b) (l₂ := a)), S_rest _ b.length _ (by rw [List.length_append]; omega), List.length_append, Nat.add_sub_cancel, tot_append]

theorem E_add (f g : Rat → Rat) : ∀ l : List AQ, E l (fun s => f s + g s) = E l f + E l g
  | [] => by show (0 : Rat) = 0 + 0; rw [Rat.add_zero]
  | a :: l => by
    show (a.2 : Rat) * (f a.1 + g a.1) + E l _ = ((a.2 : Rat) * f a.1 + E l f) + ((a.2 : Rat) * g a.1 + E l g)
    rw [E_add f g l]; grind
theorem E_mul (c : Rat) (g : Rat → Rat) : ∀ l : List AQ, E l (fun s => c * g s) = c * E l g
  | [] => by show (0 : Rat) = c * 0; rw [Rat.mul_zero]
  | a :: l => by
    show (a.2 : Rat) * (c * g a.1) + E l _ = c * ((a.2 : Rat) * g a.1 + E l g)
    rw [E_mul c g l]; grind

theorem E_mirror {l k : List AQ} {T : Rat} (h : ∀ g, E k g = E l (fun s => g (T - s))) (h1 : E l (fun _ => 1) ≠ 0) : meanQ k = T - meanQ l := by
  rw [meanQ_E, meanQ_E, h, h]
  have e : E l (fun s => id (T - s)) = T * E l (fun _ => 1) + (-1) * E l id := by
    rw [← E_mul, ← E_mul, ← E_add]
    exact E_congr (fun s => by show T - s = T * 1 + (-1) * s; grind) l
  rw [e, Rat.div_def, Rat.div_def]
  grind

theorem tail_mirror {l k : List AQ} {T v : Rat} (h : ∀ g, E k g = E l (fun s => g (T - s))) (h1 : E l (fun _ => 1) ≠ 0) :
    tailQ k (T - v) 2 = tailQ l v 1 ∧ tailQ k (T - v) 1 = tailQ l v 2 ∧ tailQ k (T - v) 3 = tailQ l v 3 := by
  have hm := E_mirror h h1
  have key : ∀ s1 s2, (∀ s, far s1 (T - v) (meanQ k) (absQ (T - v - meanQ k)) (T - s) = far s2 v (meanQ l) (absQ (v - meanQ l)) s) → tailQ k (T - v) s1 = tailQ l v s2 := by
    intro s1 s2 hs
    rw [tailQ_E, tailQ_E, h, h]
    congr 1
    exact E_congr hs l
  refine ⟨key 2 1 fun s => ?_, key 1 2 fun s => ?_, key 3 3 fun s => ?_⟩
  · unfold far inTail
    simp only [decide_eq_true_eq, if_true, Int.reduceEq, if_false]
    split <;> split <;> grind
  · unfold far inTail
    simp only [decide_eq_true_eq, if_true, Int.reduceEq, if_false]
    split <;> split <;> grind
  · unfold far inTail
    rw [hm]
    have e1 : absQ (T - s - (T - meanQ l)) = absQ (s - meanQ l) := by unfold absQ; grind
    have e2 : absQ (T - v - (T - meanQ l)) = absQ (v - meanQ l) := by unfold absQ; grind
    simp only [Int.reduceEq, if_false, if_true, e1, e2]
end Go.ZL
end

section
/- The p-value of two samples. -/
namespace Go.ZL
open Go Go.ZM Go.ZS

theorem Dm.own {k : Nat} {q : Rat} (h : Bd k q) : Dm q.den (4294967296 ^ k) q := by
  refine ⟨q.num, (by have h1 := Rat.divInt_eq_div q.num (q.den : Int); rw [← Rat.intCast_natCast, ← h1]; exact (Rat.num_divInt_den q).symm), ?_⟩
  have h1 := Nat.lt_of_lt_of_le (lt_ln q.num) (Nat.pow_le_pow_right (by omega) h.num)
  exact Nat.le_trans (Nat.le_of_lt h1) (Nat.le_mul_of_pos_right _ q.den_pos)
theorem den_le {k : Nat} {q : Rat} (h : Bd k q) : q.den ≤ 4294967296 ^ k := by
  have h1 := Nat.lt_of_lt_of_le (lt_ln (q.den : Int)) (Nat.pow_le_pow_right (by omega) h.den)
  rw [Int.natAbs_natCast] at h1
  exact Nat.le_of_lt h1

theorem common {k : Nat} : ∀ (l : List Rat), (∀ q ∈ l, Bd k q) → ∃ D, 0 < D ∧ D ≤ 4294967296 ^ (k * l.length) ∧ ∀ q ∈ l, Dm D (4294967296 ^ k) q
  | [], _ => ⟨1, by omega, Bpow_pos _, fun q hq => by cases hq⟩
  | x :: l, h => by
    obtain ⟨D, h1, h2, h3⟩ := common l fun q hq => h q (List.mem_cons_of_mem _ hq)
    have hx := h x (List.mem_cons_self ..)
    have hd := x.den_pos
    refine ⟨D * x.den, Nat.mul_pos h1 hd, ?_, fun q hq => ?_⟩
    · rw [List.length_cons, Nat.mul_add, Nat.mul_one, Nat.pow_add]
      exact Nat.mul_le_mul h2 (den_le hx)
    · rcases List.mem_cons.1 hq with e | hq
      · rw [e, Nat.mul_comm]
        exact (Dm.own hx).more hd h1
      · exact (h3 q hq).more h1 hd

theorem convGo_one (l : List AQ) (h : l.length ≤ 16384) : convGo [] [(0, 1)] l = some l := by
  have e : scaleQ (0, 1) l = l := by
    unfold scaleQ
    refine (List.map_congr_left fun y _ => ?_).trans (List.map_id l)
    show ((0 : Rat) + y.1, (1 : Int) * y.2) = y
    rw [Rat.zero_add, Int.one_mul]
  show (if 16384 < (mergeQ [] (scaleQ (0, 1) l)).length then none else convGo (mergeQ [] (scaleQ (0, 1) l)) [] l) = _
  rw [e, mergeQ_nil, if_neg (by omega)]
  rfl

section
variable {xs ys : List RR} {D M d m : Nat}

/-- two samples whose values have a common denominator -/
structure Two (xs ys : List RR) (D M d m : Nat) : Prop where
  D0 : 0 < D
  Dd : D ≤ 4294967296 ^ d
  Mm : M ≤ 4294967296 ^ m
  small : d + m ≤ 1000
  dm : ∀ x ∈ xs ++ ys, Dm D M (valR x)
  sz : ∀ x ∈ xs ++ ys, Sz x
  l1 : 1 ≤ xs.length
  l2 : 1 ≤ ys.length
  len : xs.length + ys.length ≤ 14

theorem Two.dist (h : Two xs ys D M d m) : ∃ N, Dist ((subsetsQ ((xs ++ ys).map valR) xs.length).map enc) D (((xs ++ ys).map valR).reverse.length * M) d (m + 1) 1 N ∧ totQ (subsetsQ ((xs ++ ys).map valR) xs.length) = N ∧
    checkQ (subsetsQ ((xs ++ ys).map valR) xs.length) = 0 ∧ (subsetsQ ((xs ++ ys).map valR) xs.length).length ≤ 16384 ∧ 1 ≤ N ∧ N ≤ 16384 := by
  have hs := h.small
  have hl := h.len
  have hp : ∀ x ∈ ((xs ++ ys).map valR).reverse, Dm D M x := by
    intro x hx
    obtain ⟨y, hy, rfl⟩ := List.mem_map.1 (List.mem_reverse.1 hx)
    exact h.dm y hy
  obtain ⟨g1, g2, g3, g4, g5⟩ := sub_dist (k := xs.length) h.D0 h.Dd h.Mm (by omega) hp (by rw [List.length_reverse, List.length_map, List.length_append]; omega) (by rw [List.length_reverse, List.length_map, List.length_append]; omega)
  exact ⟨_, g1, rfl, g2, g3, g4, g5⟩

theorem pooled_eq (h : Two xs ys D M d m) : permutation_pooled xs ys = some ((subsetsQ ((xs ++ ys).map valR) xs.length).map enc, 0) := by
  have hs := h.small
  have hl := h.len
  unfold permutation_pooled
  rw [copy_eq (by omega)]
  simp only [Option.bind_some]
  rw [cond_t (apOk_t (by omega))]
  have hsc : Scores (xs ++ ys) D M d m := ⟨h.sz, h.D0, h.Dd, h.Mm, by omega, h.dm, by rw [List.length_append]; omega⟩
  rw [subsets_eq hsc (by rw [List.length_append]; omega)]
  rfl

theorem Two.sums (h : Two xs ys D M d m) : ∀ n, n ≤ xs.length → Bd 2000 (sumQ ((xs.map valR).take n)) := by
  intro n hn
  have hs := h.small
  have hl := h.len
  have hx : ∀ x ∈ xs.map valR, Dm D M x := by
    intro x hx
    obtain ⟨y, hy, rfl⟩ := List.mem_map.1 hx
    exact h.dm y (List.mem_append_left _ hy)
  have h1 := sumQ_dm h.D0 hx n (by rw [List.length_map]; omega)
  have hm : n * M ≤ 4294967296 ^ (m + 1) := by
    have := Nat.mul_le_mul (show n ≤ 4294967296 by omega) h.Mm
    rwa [← Bpow_succ] at this
  exact (h1.bd h.D0 h.Dd hm).mono (by omega)

theorem idx_one {α : Type} (x : α) : idx [x] 0 = some x := rfl

theorem strata_L2 (hx : 1 ≤ xs.length) (hy : 1 ≤ ys.length) (side : Int) (v6 : RR) : permutation_strata.L2 [xs] [ys] side v6 1 0 = some (.inl ([xs], [ys], side, v6)) := by
  rw [permutation_strata.L2_eq, dec_t (by omega), idx_one]
  simp only [Option.bind_some]
  rw [dec_f (by omega), idx_one]
  simp only [Option.bind_some]
  rw [dec_f (by omega), show IntKind.i64.wrap (0 + 1) = 1 from by decide, permutation_strata.L2_eq, dec_f (by omega)]

theorem strata_L11 (h : Two xs ys D M d m) (side : Int) (v6 : RR) (v10 : List AR) : permutation_strata.L11 [xs] [ys] side v6 (rat 0) v10 [] 1 0 = some (.inl (side, v6, rat (sumQ (xs.map valR)), v10, [(subsetsQ ((xs ++ ys).map valR) xs.length).map enc])) := by
  have hsum := h.sums
  have hz : ∀ x ∈ xs, Sz x := fun x hx => h.sz x (List.mem_append_left _ hx)
  have hl := h.len
  have ht := hsum xs.length (Nat.le_refl _)
  rw [List.take_of_length_le (by rw [List.length_map]; omega)] at ht
  rw [permutation_strata.L11_eq, dec_t (by omega), idx_one, idx_one]
  simp only [Option.bind_some]
  rw [pooled_eq h]
  simp only [Option.bind_some]
  simp only [decide_true, Bool.not_true, cond_false]
  rw [cond_t (apOk_t (by simp)), eSum_eq (by omega) hz (fun n hn => (hsum n hn).sz (by omega))]
  simp only [Option.bind_some]
  rw [qAdd (Bd.zero.sz (by omega)) (ht.sz (by omega)), valR_rat, valR_rat, Rat.zero_add]
  simp only [Option.bind_some]
  rw [show IntKind.i64.wrap (0 + 1) = 1 from by decide, permutation_strata.L11_eq, dec_f (by omega)]
  rfl

theorem sample_eq (h : Two xs ys D M d m) {side : Int} (hside : side = 1 ∨ side = 2 ∨ side = 3) :
    permutation_Sample xs ys side = some (rat (tailQ (subsetsQ ((xs ++ ys).map valR) xs.length) (sumQ (xs.map valR)) side), 0) := by
  have hs := h.small
  have hl := h.len
  obtain ⟨N, g1, g2, g3, g4, g5, g6⟩ := h.dist
  have ht := h.sums xs.length (Nat.le_refl _)
  rw [List.take_of_length_le (by rw [List.length_map]; omega)] at ht
  have hk : permutation_known side = some true := by
    unfold permutation_known
    rcases hside with rfl | rfl | rfl <;> rfl
  have hone : permutation_one = some (int 1) := by unfold permutation_one; rw [iFromInt_eq (by omega) (by omega)]; rfl
  unfold permutation_Sample
  rw [hk]
  simp only [Option.bind_some]
  rw [Bool.not_true, cond_false]
  unfold permutation_strata
  rw [show ((([xs] : List (List RR)).length : Nat) : Int) = 1 from rfl, strata_L2 h.l1 h.l2]
  simp only [Option.bind_some, Sum.elim_inl]
  rw [hone]
  simp only [Option.bind_some]
  rw [show ((([xs] : List (List RR)).length : Nat) : Int) = 1 from rfl, ← zero_rat, strata_L11 h]
  simp only [Option.bind_some, Sum.elim_inl]
  have hb : ∀ y ∈ (subsetsQ ((xs ++ ys).map valR) xs.length).map enc, AW 10000 y := g1.aw
  have ho : ∀ y ∈ ([(rat 0, int 1)] : List AR), AW 10000 y := by
    intro y hy
    rw [List.mem_singleton.1 hy]
    exact (AB.mono (j := 2) (a := (0, 1)) ⟨Bd.zero.mono (by omega), ln_i64 (by omega) (by omega)⟩ (by omega)).aw
  have hconv := convolve_eq (k := 10000) (by omega) (by omega) ho hb (by decide) (by rw [List.length_map]; omega)
  have e1 : ([(rat 0, int 1)] : List AR).map valA = [(0, 1)] := by
    show [(valR (rat 0), valI (int 1))] = _
    rw [valR_rat, valI_int]
  rw [e1, map_valA_enc] at hconv
  have hval : (decide ((subsetsQ ((xs ++ ys).map valR) xs.length).length ≤ 16384) && validQ none (subsetsQ ((xs ++ ys).map valR) xs.length)) = true := by
    unfold checkQ at g3
    split at g3
    · assumption
    · cases g3
  have hq : convQ [(0, 1)] (subsetsQ ((xs ++ ys).map valR) xs.length) = ((subsetsQ ((xs ++ ys).map valR) xs.length).map enc, 0) := by
    unfold convQ
    rw [if_pos (by decide), if_pos hval, convGo_one _ g4]
  rw [hq] at hconv
  rw [show ((([(subsetsQ ((xs ++ ys).map valR) xs.length).map enc] : List (List AR)).length : Nat) : Int) = 1 from rfl, permutation_strata.L20_eq, dec_t (by omega), cond_t (inb_t (by omega) (by simp))]
  rw [show ([(subsetsQ ((xs ++ ys).map valR) xs.length).map enc] : List (List AR))[(0 : Int).toNat]? = some ((subsetsQ ((xs ++ ys).map valR) xs.length).map enc) from rfl]
  simp only [Option.bind_some]
  rw [hconv]
  simp only [Option.bind_some]
  simp only [decide_true, Bool.not_true, cond_false]
  rw [show IntKind.i64.wrap (0 + 1) = 1 from by decide, permutation_strata.L20_eq, dec_f (by omega)]
  simp only [Option.bind_some, Sum.elim_inl]
  rw [tail_good g1 (by rw [map_valA_enc]; exact g2) (by rw [map_valA_enc]; exact g3) hside (ht.rw.mono (by omega)), map_valA_enc, valR_rat]
  rfl
end
end Go.ZL
end

section
/- The laws of permutation tests: their own example, and moves. -/
namespace Go.ZL
open Go Go.ZM Go.ZS

theorem ints30_L3 {l : List Int} (hl : l.length ≤ 1000000) (h : ∀ x ∈ l, -9223372036854775808 ≤ x ∧ x < 9223372036854775808) : ∀ (e n : Nat), n + e = l.length →
    robuststatslaw30_ints.L3 ((l.take n).map fun x : Int => rat (x : Rat)) l (l.length : Int) (n : Int) = some (l.map fun x : Int => rat (x : Rat))
  | 0, n, hd => by rw [robuststatslaw30_ints.L3_eq, dec_f (by omega), List.take_of_length_le (by omega)]
  | e + 1, n, hd => by
    have hn : n < l.length := by omega
    have hm := h _ (List.getElem_mem hn)
    have e1 : IntKind.i64.wrap ((n : Int) + 1) = ((n + 1 : Nat) : Int) := i64_id (by omega) (by omega)
    rw [robuststatslaw30_ints.L3_eq, dec_t (by omega), bind_idx rfl hn, fFromInt_eq hm.1 hm.2, e1]
    simp only [Option.bind_some]
    rw [cond_t (apOk_t (by simp; omega))]
    have : (l.take n).map (fun x : Int => rat (x : Rat)) ++ [rat (l[n] : Rat)] = (l.take (n + 1)).map fun x : Int => rat (x : Rat) := by
      rw [List.take_add_one, List.getElem?_eq_getElem hn, List.map_append]
      rfl
    rw [this]
    exact ints30_L3 hl h e (n + 1) (by omega)
theorem ints30_eq {l : List Int} (hl : l.length ≤ 1000000) (h : ∀ x ∈ l, -9223372036854775808 ≤ x ∧ x < 9223372036854775808) : robuststatslaw30_ints l = some (l.map fun x : Int => rat (x : Rat)) := by
  unfold robuststatslaw30_ints
  have := ints30_L3 hl h l.length 0 (by omega)
  have e0 : ((0 : Nat) : Int) = 0 := rfl
  rw [e0, List.take_zero, List.map_nil] at this
  rw [this]
  rfl

theorem ex30_sub : subsetsQ [1, 2, 2] 2 = [(3, 2), (4, 1)] := by
  unfold subsetsQ
  rw [← subF_eq]
  decide +kernel
theorem ex30_sub2 : subsetsQ [5, 6, 1, 2] 2 = [(3, 1), (6, 1), (7, 2), (8, 1), (11, 1)] := by
  unfold subsetsQ
  rw [← subF_eq]
  decide +kernel
theorem ex30_tail : tailQ [(3, 1), (6, 1), (7, 2), (8, 1), (11, 1)] 11 2 = 1/6 := by decide +kernel
theorem ex30_sum : sumQ [5, 6] = 11 := by decide +kernel

theorem ints_dm {l : List Int} (h : ∀ x ∈ l, x.natAbs ≤ 1000) : ∀ x ∈ l.map (fun x : Int => rat (x : Rat)), Sz x ∧ Dm 1 1000 (valR x) := by
  intro y hy
  obtain ⟨x, hx, rfl⟩ := List.mem_map.1 hy
  have := h x hx
  rw [valR_rat]
  exact ⟨(Bd.i64 (by omega) (by omega)).sz (by omega), (Dm.int x).mono this⟩

theorem awake30_eq : robuststatslaw30_awake = some true := by
  have v : ∀ l : List Int, (l.map fun x : Int => rat (x : Rat)).map valR = l.map fun x : Int => (x : Rat) := by
    intro l
    rw [List.map_map]
    exact List.map_congr_left fun x _ => valR_rat _
  have s122 : ∀ x ∈ ([1, 2, 2] : List Int), x.natAbs ≤ 1000 := by decide
  have s56 : ∀ x ∈ ([5, 6] : List Int), x.natAbs ≤ 1000 := by decide
  have s12 : ∀ x ∈ ([1, 2] : List Int), x.natAbs ≤ 1000 := by decide
  have hsc : Scores (([1, 2, 2] : List Int).map fun x : Int => rat (x : Rat)) 1 1000 1 1 := ⟨fun x hx => (ints_dm s122 x hx).1, by omega, by omega, by omega, by omega, fun x hx => (ints_dm s122 x hx).2, by decide⟩
  have htw : Two (([5, 6] : List Int).map fun x : Int => rat (x : Rat)) (([1, 2] : List Int).map fun x : Int => rat (x : Rat)) 1 1000 1 1 :=
    ⟨by omega, by omega, by omega, by omega, fun x hx => (List.mem_append.1 hx).elim (fun h => (ints_dm s56 x h).2) (fun h => (ints_dm s12 x h).2), fun x hx => (List.mem_append.1 hx).elim (fun h => (ints_dm s56 x h).1) (fun h => (ints_dm s12 x h).1), by decide, by decide, by decide⟩
  have f16 : robuststatsref03_Fraction (1 : Int) (6 : Int) = some (rat (1/6)) := fFraction_eq (by omega) (by omega) (by omega) (by omega) (by omega)
  have b16 : Bd 2 (1/6) := Bd.frac (a := 1) (b := 6) (by omega) (by omega)
  have e4 : (([5, 6] : List Int).map (fun x : Int => rat (x : Rat)) ++ ([1, 2] : List Int).map (fun x : Int => rat (x : Rat))).map valR = [5, 6, 1, 2] := by
    rw [List.map_append, v, v]; rfl
  unfold robuststatslaw30_awake
  rw [ints30_eq (by decide) (by decide)]
  simp only [Option.bind_some]
  have hsub := subsets_eq hsc (mm := 2) (by decide)
  rw [show ((2 : Nat) : Int) = 2 from rfl, v, show ([1, 2, 2] : List Int).map (fun x : Int => (x : Rat)) = [1, 2, 2] from rfl, ex30_sub] at hsub
  rw [hsub]
  simp only [Option.bind_some]
  rw [ints30_eq (by decide) (by decide), ints30_eq (by decide) (by decide)]
  simp only [Option.bind_some]
  rw [sample_eq htw (.inr (.inl rfl)), e4, v, show ([5, 6] : List Int).map (fun x : Int => (x : Rat)) = [5, 6] from rfl, ex30_sum, show (([5, 6] : List Int).map fun x : Int => rat (x : Rat)).length = 2 from rfl, ex30_sub2, ex30_tail]
  simp only [Option.bind_some, decide_true, cond_true]
  have e5 : ([(3, 2), (4, 1)] : List AQ).map enc = [(rat 3, int 2), (rat 4, int 1)] := rfl
  rw [e5, dec_t (by rfl), cond_t (inb_t (by omega) (by decide))]
  rw [show ([(rat 3, int 2), (rat 4, int 1)] : List AR)[(0 : Int).toNat]? = some (rat 3, int 2) from rfl]
  simp only [Option.bind_some]
  rw [fiFromInt_eq (by omega) (by omega)]
  simp only [Option.bind_some]
  rw [fiSame_eq (by rw [int2]; exact Nat.le_trans (ln_i64 (by omega) (by omega)) (by omega))]
  simp only [Option.bind_some, decide_true, cond_true]
  rw [f16]
  simp only [Option.bind_some]
  rw [gSame b16 (by decide)]
  simp only [Option.bind_some, decide_true]

theorem move_L3 {a : Rat} (ha : Bd 2 a) {l : List Rat} (hl : l.length ≤ 1000000) (hx : ∀ x ∈ l, Bd 2 x) : ∀ (e n : Nat), n + e = l.length →
    robuststatslaw30_move.L3 (l.map rat) (rat a) (((l.reverse.take n).map (· + a)).map rat) (((l.take n).map (- ·)).map rat) ((l.map rat).length : Int) (n : Int) = some ((l.reverse.map (· + a)).map rat, (l.map (- ·)).map rat)
  | 0, n, hd => by rw [robuststatslaw30_move.L3_eq, dec_f (by rw [List.length_map]; omega), List.take_of_length_le (by rw [List.length_reverse]; omega), List.take_of_length_le (by omega)]
  | e + 1, n, hd => by
    have hn : n < l.length := by omega
    have hr : l.length - 1 - n < l.length := by omega
    have hm := hx _ (List.getElem_mem hn)
    have hm2 := hx _ (List.getElem_mem hr)
    have e1 : IntKind.i64.wrap ((n : Int) + 1) = ((n + 1 : Nat) : Int) := i64_id (by omega) (by omega)
    have e2 : IntKind.i64.wrap ((IntKind.i64.wrap (((l.map rat).length : Int) - 1)) - (n : Int)) = ((l.length - 1 - n : Nat) : Int) := by
      rw [List.length_map, show IntKind.i64.wrap ((l.length : Int) - 1) = (l.length : Int) - 1 from i64_id (by omega) (by omega), i64_id (by omega) (by omega)]; omega
    rw [robuststatslaw30_move.L3_eq, dec_t (by rw [List.length_map]; omega), e1, e2, bind_idx rfl (by rw [List.length_map]; exact hr), List.getElem_map, gAdd (hm2.sz (by omega)) (ha.sz (by omega)), valR_rat, valR_rat]
    simp only [Option.bind_some]
    rw [cond_t (apOk_t (by simp; omega)), bind_idx rfl (by rw [List.length_map]; exact hn), List.getElem_map, gNeg (hm.sz (by omega)), valR_rat]
    simp only [Option.bind_some]
    rw [cond_t (apOk_t (by simp; omega))]
    have e3 : ((l.reverse.take n).map (· + a)).map rat ++ [rat (l[l.length - 1 - n] + a)] = ((l.reverse.take (n + 1)).map (· + a)).map rat := by
      have hrv : n < l.reverse.length := by rw [List.length_reverse]; omega
      rw [List.take_add_one, List.getElem?_eq_getElem hrv, List.map_append, List.map_append, List.getElem_reverse]
      rfl
    have e4 : ((l.take n).map (- ·)).map rat ++ [rat (-l[n])] = ((l.take (n + 1)).map (- ·)).map rat := by
      rw [List.take_add_one, List.getElem?_eq_getElem hn, List.map_append, List.map_append]
      rfl
    rw [e3, e4]
    exact move_L3 ha hl hx e (n + 1) (by omega)
theorem move_eq {a : Rat} (ha : Bd 2 a) {l : List Rat} (hl : l.length ≤ 1000000) (hx : ∀ x ∈ l, Bd 2 x) : robuststatslaw30_move (l.map rat) (rat a) = some ((l.reverse.map (· + a)).map rat, (l.map (- ·)).map rat) := by
  unfold robuststatslaw30_move
  have := move_L3 ha hl hx l.length 0 (by omega)
  have e0 : ((0 : Nat) : Int) = 0 := rfl
  rw [e0, List.take_zero, List.take_zero, List.map_nil, List.map_nil, List.map_nil, List.map_nil] at this
  rw [this]
  rfl

theorem S_move (a : Rat) : ∀ (ps : List Rat) (k : Nat) (g : Rat → Rat), S (ps.map (· + a)) k g = S ps k (fun s => g (s + (k : Rat) * a))
  | ps, 0, g => by
    rw [S_zero, S_zero]
    congr 1
    show 0 = 0 + ((0 : Nat) : Rat) * a
    rw [show ((0 : Nat) : Rat) = 0 from rfl]; grind
  | [], k + 1, g => rfl
  | x :: ps, k + 1, g => by
    rw [List.map_cons, S_cons, S_cons, S_move a ps (k + 1), S_move a ps k]
    congr 1
    refine S_congr (fun s => ?_) _ _
    show g (s + (k : Rat) * a + (x + a)) = g (s + x + ((k + 1 : Nat) : Rat) * a)
    congr 1
    rw [Rat.natCast_add, show ((1 : Nat) : Rat) = 1 from rfl]
    grind
theorem S_neg : ∀ (ps : List Rat) (k : Nat) (g : Rat → Rat), S (ps.map (- ·)) k g = S ps k (fun s => g (0 - s))
  | ps, 0, g => by
    rw [S_zero, S_zero]
    congr 1
    grind
  | [], k + 1, g => rfl
  | x :: ps, k + 1, g => by
    rw [List.map_cons, S_cons, S_cons, S_neg ps (k + 1), S_neg ps k]
    congr 1
    refine S_congr (fun s => ?_) _ _
    show g (0 - s + -x) = g (0 - (s + x))
    congr 1
    grind
theorem tot_move (a : Rat) : ∀ l : List Rat, tot (l.map (· + a)) = tot l + (l.length : Rat) * a
  | [] => by show (0 : Rat) = 0 + ((0 : Nat) : Rat) * a; rw [show ((0 : Nat) : Rat) = 0 from rfl]; grind
  | x :: l => by
    show tot (l.map (· + a)) + (x + a) = tot l + x + ((l.length + 1 : Nat) : Rat) * a
    rw [tot_move a l, Rat.natCast_add, show ((1 : Nat) : Rat) = 1 from rfl]
    grind
theorem tot_neg : ∀ l : List Rat, tot (l.map (- ·)) = 0 - tot l
  | [] => by show (0 : Rat) = 0 - 0; grind
  | x :: l => by
    show tot (l.map (- ·)) + -x = 0 - (tot l + x)
    rw [tot_neg l]
    grind

theorem tail_move {l k : List AQ} {T v : Rat} (h : ∀ g, E k g = E l (fun s => g (s + T))) (h1 : E l (fun _ => 1) ≠ 0) (side : Int) : tailQ k (v + T) side = tailQ l v side := by
  have hm : meanQ k = meanQ l + T := by
    rw [meanQ_E, meanQ_E, h, h]
    have e : E l (fun s => id (s + T)) = E l id + T * E l (fun _ => 1) := by
      rw [← E_mul, ← E_add]
      exact E_congr (fun s => by show s + T = s + T * 1; grind) l
    rw [e, Rat.div_def, Rat.div_def]
    grind
  rw [tailQ_E, tailQ_E, h, h]
  congr 1
  refine E_congr (fun s => ?_) l
  have e1 : absQ (s + T - (meanQ l + T)) = absQ (s - meanQ l) := by congr 1; grind
  have e2 : absQ (v + T - (meanQ l + T)) = absQ (v - meanQ l) := by congr 1; grind
  unfold far inTail
  rw [hm, e2]
  simp only [e1]
  have e3 : decide (v + T ≤ s + T) = decide (v ≤ s) := by rw [Bool.eq_iff_iff, decide_eq_true_eq, decide_eq_true_eq]; constructor <;> intro h <;> grind
  have e4 : decide (s + T ≤ v + T) = decide (s ≤ v) := by rw [Bool.eq_iff_iff, decide_eq_true_eq, decide_eq_true_eq]; constructor <;> intro h <;> grind
  rw [e3, e4]

theorem Two.tail_bd {xs ys : List RR} {D M d m : Nat} (h : Two xs ys D M d m) (v : Rat) (side : Int) : Bd 1000000 (tailQ (subsetsQ ((xs ++ ys).map valR) xs.length) v side) := by
  obtain ⟨N, g1, g2, g3, g4, g5, g6⟩ := h.dist
  have hp : ∀ x ∈ ((xs ++ ys).map valR).reverse, Dm D M x := by
    intro x hx
    obtain ⟨y, hy, rfl⟩ := List.mem_map.1 (List.mem_reverse.1 hx)
    exact h.dm y hy
  have ho := (subR_ok h.D0 ((xs ++ ys).map valR).reverse xs.length hp).pos
  obtain ⟨p1, p2⟩ := pos_filter ho (inTail side v (meanQ (subsetsQ ((xs ++ ys).map valR) xs.length)) (absQ (v - meanQ (subsetsQ ((xs ++ ys).map valR) xs.length))))
  unfold tailQ
  exact (Bd.frac (by unfold tailN subsetsQ; unfold subsetsQ at p1 p2 g2; omega) (by omega)).mono (by omega)
theorem Two.tot_ne {xs ys : List RR} {D M d m : Nat} (h : Two xs ys D M d m) : E (subsetsQ ((xs ++ ys).map valR) xs.length) (fun _ => 1) ≠ 0 := by
  obtain ⟨N, g1, g2, g3, g4, g5, g6⟩ := h.dist
  rw [← tot_E, g2]
  intro e
  have := Rat.intCast_eq_zero_iff.1 e
  omega
end Go.ZL
end

section
/- The law of moves. -/
namespace Go.ZL
open Go Go.ZM Go.ZS

def flipS (s : Int) : Int := if s = 1 then 2 else if s = 2 then 1 else s

theorem mirror_side {l k : List AQ} {v : Rat} (h : ∀ g, E k g = E l (fun s => g (0 - s))) (h1 : E l (fun _ => 1) ≠ 0) {side : Int} (hs : side = 1 ∨ side = 2 ∨ side = 3) : tailQ k (0 - v) (flipS side) = tailQ l v side := by
  obtain ⟨m1, m2, m3⟩ := tail_mirror h h1 (v := v)
  rcases hs with rfl | rfl | rfl
  · exact m1
  · exact m2
  · exact m3

section
variable {xs ys : List Rat} {a : Rat} {D M d m : Nat}
theorem moves_step (hxy : Two (xs.map rat) (ys.map rat) D M d m) (hmv : Two ((xs.reverse.map (· + a)).map rat) ((ys.reverse.map (· + a)).map rat) D M d m) (hng : Two ((xs.map (- ·)).map rat) ((ys.map (- ·)).map rat) D M d m)
    {side : Int} (hs : side = 1 ∨ side = 2 ∨ side = 3) :
    robuststatslaw30_PermutationMoves.L7 (xs.map rat) (ys.map rat) ((xs.reverse.map (· + a)).map rat) ((xs.map (- ·)).map rat) ((ys.reverse.map (· + a)).map rat) ((ys.map (- ·)).map rat) side =
    robuststatslaw30_PermutationMoves.L7 (xs.map rat) (ys.map rat) ((xs.reverse.map (· + a)).map rat) ((xs.map (- ·)).map rat) ((ys.reverse.map (· + a)).map rat) ((ys.map (- ·)).map rat) (side + 1) := by
  have hw : IntKind.i64.wrap (side + 1) = side + 1 := i64_id (by omega) (by omega)
  have hflip : ([(0 : Int), (2 : Int), (1 : Int), (3 : Int)] : List Int)[side.toNat]? = some (flipS side) := by rcases hs with rfl | rfl | rfl <;> rfl
  have hfs : flipS side = 1 ∨ flipS side = 2 ∨ flipS side = 3 := by rcases hs with rfl | rfl | rfl <;> decide
  have hin : inb side (List.length ([(0 : Int), (2 : Int), (1 : Int), (3 : Int)] : List Int)) = true := by rcases hs with rfl | rfl | rfl <;> rfl
  have s1 := sample_eq hxy hs
  have s2 := sample_eq hmv hs
  have s3 := sample_eq hng hfs
  have v1 : (xs.map rat ++ ys.map rat).map valR = xs ++ ys := by rw [List.map_append, map_valR_rat, map_valR_rat]
  have v2 : ((xs.reverse.map (· + a)).map rat ++ (ys.reverse.map (· + a)).map rat).map valR = (xs.reverse ++ ys.reverse).map (· + a) := by rw [List.map_append, map_valR_rat, map_valR_rat, List.map_append]
  have v3 : ((xs.map (- ·)).map rat ++ (ys.map (- ·)).map rat).map valR = (xs ++ ys).map (- ·) := by rw [List.map_append, map_valR_rat, map_valR_rat, List.map_append]
  have l1 : (xs.map rat).length = xs.length := List.length_map ..
  have l2 : ((xs.reverse.map (· + a)).map rat).length = xs.length := by rw [List.length_map, List.length_map, List.length_reverse]
  have l3 : ((xs.map (- ·)).map rat).length = xs.length := by rw [List.length_map, List.length_map]
  have hb := hxy.tail_bd (sumQ xs) side
  have hne := hxy.tot_ne
  rw [v1, l1] at hb hne
  rw [v1, map_valR_rat, l1] at s1
  rw [v2, map_valR_rat, l2] at s2
  rw [v3, map_valR_rat, l3] at s3
  have t2 : tailQ (subsetsQ ((xs.reverse ++ ys.reverse).map (· + a)) xs.length) (sumQ (xs.reverse.map (· + a))) side = tailQ (subsetsQ (xs ++ ys) xs.length) (sumQ xs) side := by
    rw [sumQ_tot, sumQ_tot, tot_move, tot_reverse, List.length_reverse]
    refine tail_move (fun g => ?_) hne side
    rw [E_subsets, E_subsets, S_move]
    exact S_perm ((List.reverse_perm xs).append (List.reverse_perm ys)) _ _
  have t3 : tailQ (subsetsQ ((xs ++ ys).map (- ·)) xs.length) (sumQ (xs.map (- ·))) (flipS side) = tailQ (subsetsQ (xs ++ ys) xs.length) (sumQ xs) side := by
    rw [sumQ_tot, sumQ_tot, tot_neg]
    refine mirror_side (fun g => ?_) hne hs
    rw [E_subsets, E_subsets, S_neg]
  rw [t2] at s2
  rw [t3] at s3
  rw [robuststatslaw30_PermutationMoves.L7_eq, dec_t (by omega), s1]
  simp only [Option.bind_some]
  rw [s2]
  simp only [Option.bind_some]
  rw [cond_t hin, hflip]
  simp only [Option.bind_some]
  rw [s3]
  simp only [Option.bind_some, decide_true, Bool.not_true, cond_false]
  rw [gSame hb (Nat.le_refl _)]
  simp only [Option.bind_some, decide_true, Bool.not_true, cond_false]
  rw [hw]
end

theorem two_of {xs ys : List Rat} {D M d m k : Nat} (hD : 0 < D) (hDd : D ≤ 4294967296 ^ d) (hMm : M ≤ 4294967296 ^ m) (hs : d + m ≤ 1000) (hx : ∀ x ∈ xs, Dm D M x) (hy : ∀ x ∈ ys, Dm D M x) (bx : ∀ x ∈ xs, Bd k x) (bY : ∀ x ∈ ys, Bd k x) (hk : k ≤ 1000000)
    (l1 : 1 ≤ xs.length) (l2 : 1 ≤ ys.length) (hl : xs.length + ys.length ≤ 14) : Two (xs.map rat) (ys.map rat) D M d m := by
  refine ⟨hD, hDd, hMm, hs, fun x hx' => ?_, fun x hx' => ?_, by rw [List.length_map]; omega, by rw [List.length_map]; omega, by rw [List.length_map, List.length_map]; omega⟩
  · rcases List.mem_append.1 hx' with h | h
    · obtain ⟨y, hy', rfl⟩ := List.mem_map.1 h
      rw [valR_rat]; exact hx y hy'
    · obtain ⟨y, hy', rfl⟩ := List.mem_map.1 h
      rw [valR_rat]; exact hy y hy'
  · rcases List.mem_append.1 hx' with h | h
    · exact rat_sz bx hk x h
    · exact rat_sz bY hk x h

theorem law_moves {l : List Int} (hl : ∀ x ∈ l, -9223372036854775808 ≤ x ∧ x < 9223372036854775808) : robuststatslaw30_PermutationMoves l = some true := by
  unfold robuststatslaw30_PermutationMoves
  obtain ⟨t, e1, ht⟩ := tNew hl
  rw [e1]
  simp only [Option.bind_some]
  obtain ⟨xs, t', e2, ht', x1, x2, x3⟩ := tValues ht (n := 4) (by omega) (by omega)
  rw [show ((4 : Nat) : Int) = 4 from rfl] at e2
  rw [e2]
  simp only [Option.bind_some]
  obtain ⟨ys, t2, e3, ht2, y1, y2, y3⟩ := tValues ht' (n := 4) (by omega) (by omega)
  rw [show ((4 : Nat) : Int) = 4 from rfl] at e3
  rw [e3]
  simp only [Option.bind_some]
  obtain ⟨a, t3, e4, ht3, ha⟩ := tRat ht2
  rw [e4]
  simp only [Option.bind_some]
  rw [move_eq ha (by omega) x3, move_eq ha (by omega) y3]
  simp only [Option.bind_some]
  obtain ⟨D, hD, hDd, hdm⟩ := common (k := 2) (a :: (xs ++ ys)) (fun q hq => by
    rcases List.mem_cons.1 hq with rfl | hq
    · exact ha
    · exact (List.mem_append.1 hq).elim (x3 q) (y3 q))
  have hDd' : D ≤ 4294967296 ^ 20 := Nat.le_trans hDd (Nat.pow_le_pow_right (by omega) (by rw [List.length_cons, List.length_append]; omega))
  have da := hdm a (List.mem_cons_self ..)
  have dx : ∀ x ∈ xs, Dm D (4294967296 ^ 2) x := fun x hx => hdm x (List.mem_cons_of_mem _ (List.mem_append_left _ hx))
  have dy : ∀ x ∈ ys, Dm D (4294967296 ^ 2) x := fun x hx => hdm x (List.mem_cons_of_mem _ (List.mem_append_right _ hx))
  have two : 4294967296 ^ 2 + 4294967296 ^ 2 ≤ 4294967296 ^ 3 := by decide
  have one : 4294967296 ^ 2 ≤ 4294967296 ^ 3 := by decide
  have hxy : Two (xs.map rat) (ys.map rat) D (4294967296 ^ 3) 20 3 := two_of hD hDd' (Nat.le_refl _) (by omega) (fun x hx => (dx x hx).mono one) (fun x hx => (dy x hx).mono one) x3 y3 (by omega) x1 y1 (by omega)
  have mvd : ∀ (zs : List Rat), (∀ x ∈ zs, Dm D (4294967296 ^ 2) x) → ∀ x ∈ zs.reverse.map (· + a), Dm D (4294967296 ^ 3) x := by
    intro zs hz x hx
    obtain ⟨y, hy, rfl⟩ := List.mem_map.1 hx
    exact ((hz y (List.mem_reverse.1 hy)).add hD da).mono two
  have mvb : ∀ (zs : List Rat), (∀ x ∈ zs, Bd 2 x) → ∀ x ∈ zs.reverse.map (· + a), Bd 5 x := by
    intro zs hz x hx
    obtain ⟨y, hy, rfl⟩ := List.mem_map.1 hx
    exact (hz y (List.mem_reverse.1 hy)).add ha
  have ngd : ∀ (zs : List Rat), (∀ x ∈ zs, Dm D (4294967296 ^ 2) x) → ∀ x ∈ zs.map (- ·), Dm D (4294967296 ^ 3) x := by
    intro zs hz x hx
    obtain ⟨y, hy, rfl⟩ := List.mem_map.1 hx
    exact ((hz y hy).neg).mono one
  have ngb : ∀ (zs : List Rat), (∀ x ∈ zs, Bd 2 x) → ∀ x ∈ zs.map (- ·), Bd 2 x := by
    intro zs hz x hx
    obtain ⟨y, hy, rfl⟩ := List.mem_map.1 hx
    exact (hz y hy).neg
  have hmv : Two ((xs.reverse.map (· + a)).map rat) ((ys.reverse.map (· + a)).map rat) D (4294967296 ^ 3) 20 3 := two_of hD hDd' (Nat.le_refl _) (by omega) (mvd xs dx) (mvd ys dy) (mvb xs x3) (mvb ys y3) (by omega) (by rw [List.length_map, List.length_reverse]; omega) (by rw [List.length_map, List.length_reverse]; omega) (by rw [List.length_map, List.length_reverse, List.length_map, List.length_reverse]; omega)
  have hng : Two ((xs.map (- ·)).map rat) ((ys.map (- ·)).map rat) D (4294967296 ^ 3) 20 3 := two_of hD hDd' (Nat.le_refl _) (by omega) (ngd xs dx) (ngd ys dy) (ngb xs x3) (ngb ys y3) (by omega) (by rw [List.length_map]; omega) (by rw [List.length_map]; omega) (by rw [List.length_map, List.length_map]; omega)
  rw [moves_step hxy hmv hng (.inl rfl), show (1 : Int) + 1 = 2 from rfl, moves_step hxy hmv hng (.inr (.inl rfl)), show (2 : Int) + 1 = 3 from rfl, moves_step hxy hmv hng (.inr (.inr rfl)), show (3 : Int) + 1 = 4 from rfl, robuststatslaw30_PermutationMoves.L7_eq, dec_f (by omega)]
  simp only [Option.bind_some, Sum.elim_inl]
  rw [awake30_eq]
  rfl
end Go.ZL
end

section
/- The choices of some of few, one after the other. -/
namespace Go.ZL
open Go Go.ZM Go.ZS

/-- what the one answers, the other answers -/
def Ple {α : Type} (a b : Option α) : Prop := ∀ r, a = some r → b = some r
theorem Ple.refl {α : Type} (a : Option α) : Ple a a := fun _ h => h
theorem Ple.none {α : Type} (a : Option α) : Ple none a := fun _ h => by cases h
theorem Ple.bind {α β : Type} {a a' : Option α} {f f' : α → Option β} (h : Ple a a') (hf : ∀ x, Ple (f x) (f' x)) : Ple (a.bind f) (a'.bind f') := fun r hr => by
  cases a with
  | none => cases hr
  | some x => rw [h x rfl]; exact hf x r hr
theorem Ple.cond {α : Type} {c : Bool} {a a' b b' : Option α} (h1 : Ple a a') (h2 : Ple b b') : Ple (bif c then a else b) (bif c then a' else b') := by
  cases c
  · exact h2
  · exact h1

def c5 : Nat → Int → Int → List Int → Int → Int → Option (Int × Int × List Int)
  | 0, _, _, _, _, _ => none
  | k + 1, v0, v1, v5, v20, v21 =>
    bif (decide (v21 < v20)) then
      bif inb v21 (List.length v5) then (v5[v21.toNat]?).bind fun x1 => c5 k v0 v1 (v5.set v21.toNat v21) v20 (IntKind.i64.wrap (v21 + (1 : Int))) else none
    else some (v0, v1, v5)
theorem c5_le : ∀ (k : Nat) (v0 v1 : Int) (v5 : List Int) (v20 v21 : Int), Ple (c5 k v0 v1 v5 v20 v21) (robuststatsref23_Combos.L5 v0 v1 v5 v20 v21)
  | 0, _, _, _, _, _ => Ple.none _
  | k + 1, v0, v1, v5, v20, v21 => by
    rw [robuststatsref23_Combos.L5_eq]
    exact .cond (.cond (.bind (.refl _) fun x => c5_le k _ _ _ _ _) (.refl _)) (.refl _)

def c11 : Nat → Int → Int → List Int → List (List Int) → Int → Option (Int × Int × List Int × List (List Int) × Int)
  | 0, _, _, _, _, _ => none
  | k + 1, v0, v1, v5, v7, v8 =>
    bif (decide ((0 : Int) ≤ v8)) then
      bif inb v8 (List.length v5) then
        (v5[v8.toNat]?).bind fun t40 =>
          bif (decide (t40 = (IntKind.i64.wrap ((IntKind.i64.wrap (v0 - v1)) + v8)))) then c11 k v0 v1 v5 v7 (IntKind.i64.wrap (v8 - (1 : Int)))
          else some (v0, v1, v5, v7, v8)
      else none
    else some (v0, v1, v5, v7, v8)
theorem c11_le : ∀ (k : Nat) (v0 v1 : Int) (v5 : List Int) (v7 : List (List Int)) (v8 : Int), Ple (c11 k v0 v1 v5 v7 v8) (robuststatsref23_Combos.L11 v0 v1 v5 v7 v8)
  | 0, _, _, _, _, _ => Ple.none _
  | k + 1, v0, v1, v5, v7, v8 => by
    rw [robuststatsref23_Combos.L11_eq]
    exact .cond (.cond (.bind (.refl _) fun x => .cond (c11_le k _ _ _ _ _) (.refl _)) (.refl _)) (.refl _)

def c17 : Nat → Int → Int → List Int → List (List Int) → Int → Option (Int × Int × List Int × List (List Int))
  | 0, _, _, _, _, _ => none
  | k + 1, v0, v1, v5, v7, v9 =>
    bif (decide (v9 < v1)) then
      bif inb (IntKind.i64.wrap (v9 - (1 : Int))) (List.length v5) then
        (v5[(IntKind.i64.wrap (v9 - (1 : Int))).toNat]?).bind fun t72 =>
          bif inb v9 (List.length v5) then
            (v5[v9.toNat]?).bind fun x5 => c17 k v0 v1 (v5.set v9.toNat (IntKind.i64.wrap (t72 + (1 : Int)))) v7 (IntKind.i64.wrap (v9 + (1 : Int)))
          else none
      else none
    else some (v0, v1, v5, v7)
theorem c17_le : ∀ (k : Nat) (v0 v1 : Int) (v5 : List Int) (v7 : List (List Int)) (v9 : Int), Ple (c17 k v0 v1 v5 v7 v9) (robuststatsref23_Combos.L17 v0 v1 v5 v7 v9)
  | 0, _, _, _, _, _ => Ple.none _
  | k + 1, v0, v1, v5, v7, v9 => by
    rw [robuststatsref23_Combos.L17_eq]
    exact .cond (.cond (.bind (.refl _) fun x => .cond (.bind (.refl _) fun y => c17_le k _ _ _ _ _) (.refl _)) (.refl _)) (.refl _)

def c1010 : Nat → Int → Int → List Int → List (List Int) → Option (List (List Int))
  | 0, _, _, _, _ => none
  | k + 1, v0, v1, v5, v7 =>
    (c11 20 v0 v1 v5 v7 (IntKind.i64.wrap (v1 - (1 : Int)))).bind fun o3 =>
      bif (decide (o3.2.2.2.2 < (0 : Int))) then some o3.2.2.2.1
      else bif inb o3.2.2.2.2 (List.length o3.2.2.1) then
        (o3.2.2.1[o3.2.2.2.2.toNat]?).bind fun t56 =>
          bif inb o3.2.2.2.2 (List.length o3.2.2.1) then
            (o3.2.2.1[o3.2.2.2.2.toNat]?).bind fun x4 =>
              (c17 20 o3.1 o3.2.1 (o3.2.2.1.set o3.2.2.2.2.toNat (IntKind.i64.wrap (t56 + (1 : Int)))) o3.2.2.2.1 (IntKind.i64.wrap (o3.2.2.2.2 + (1 : Int)))).bind fun o6 =>
                bif apOk 0 (List.length o6.2.2.1) then
                  bif apOk (List.length o6.2.2.2) (List.length ([o6.2.2.1] : List (List Int))) then c1010 k o6.1 o6.2.1 o6.2.2.1 (o6.2.2.2 ++ ([o6.2.2.1] : List (List Int)))
                  else none
                else none
          else none
      else none
theorem c1010_le : ∀ (k : Nat) (v0 v1 : Int) (v5 : List Int) (v7 : List (List Int)), Ple (c1010 k v0 v1 v5 v7) (robuststatsref23_Combos.L1010 v0 v1 v5 v7)
  | 0, _, _, _, _ => Ple.none _
  | k + 1, v0, v1, v5, v7 => by
    rw [robuststatsref23_Combos.L1010_eq]
    exact .bind (c11_le _ _ _ _ _ _) fun o3 => .cond (.refl _) (.cond (.bind (.refl _) fun t56 => .cond (.bind (.refl _) fun x4 => .bind (c17_le _ _ _ _ _ _) fun o6 => .cond (.cond (c1010_le k _ _ _ _) (.refl _)) (.refl _)) (.refl _)) (.refl _))

def cCombos (a0 a1 : Int) : Option (List (List Int)) :=
  bif (decide (a1 < (0 : Int))) then some []
  else bif (decide (a0 < a1)) then some []
  else bif mkOk a1 a1 then
    (c5 20 a0 a1 (List.replicate a1.toNat (0 : Int)) ((List.length (List.replicate a1.toNat (0 : Int)) : Nat) : Int) (0 : Int)).bind fun o2 =>
      bif apOk 0 (List.length o2.2.2) then (c1010 100 o2.1 o2.2.1 o2.2.2 ([o2.2.2] : List (List Int))).bind fun o7 => some o7
      else none
  else none
theorem cCombos_le (a0 a1 : Int) : Ple (cCombos a0 a1) (robuststatsref23_Combos a0 a1) :=
  .cond (.refl _) (.cond (.refl _) (.cond (.bind (c5_le _ _ _ _ _ _) fun o2 => .cond (.bind (c1010_le _ _ _ _ _) fun o7 => .refl _) (.refl _)) (.refl _)))

/-- the parts of k of a list -/
def subs {α : Type} : List α → Nat → List (List α)
  | _, 0 => [[]]
  | [], _ + 1 => []
  | x :: l, k + 1 => (subs l k).map (x :: ·) ++ subs l (k + 1)

def idxs (n k : Nat) : List (List Int) := (subs (List.range n) k).map fun c => c.map fun i : Nat => (i : Int)
theorem combos_all : ∀ n : Fin 9, ∀ k : Fin 9, k.1 ≤ n.1 → cCombos (n.1 : Int) (k.1 : Int) = some (idxs n.1 k.1) := by decide +kernel
theorem combos_eq {n k : Nat} (hn : n ≤ 8) (hk : k ≤ n) : robuststatsref23_Combos (n : Int) (k : Int) = some (idxs n k) :=
  cCombos_le _ _ _ (combos_all ⟨n, by omega⟩ ⟨k, by omega⟩ hk)

theorem subs_map {α β : Type} (f : α → β) : ∀ (l : List α) (k : Nat), subs (l.map f) k = (subs l k).map (List.map f)
  | [], 0 => rfl
  | x :: l, 0 => rfl
  | [], k + 1 => rfl
  | x :: l, k + 1 => by
    show (subs (l.map f) k).map (f x :: ·) ++ subs (l.map f) (k + 1) = ((subs l k).map (x :: ·) ++ subs l (k + 1)).map (List.map f)
    rw [subs_map f l k, subs_map f l (k + 1), List.map_append, List.map_map, List.map_map]
    rfl
/-- a sum over a list of lists -/
def overL (f : List Rat → Rat) : List (List Rat) → Rat
  | [] => 0
  | c :: l => f c + overL f l
theorem overL_append (f : List Rat → Rat) : ∀ a b, overL f (a ++ b) = overL f a + overL f b
  | [], b => by show _ = 0 + _; rw [Rat.zero_add]; rfl
  | c :: a, b => by
    show f c + overL f (a ++ b) = f c + overL f a + overL f b
    rw [overL_append f a b, Rat.add_assoc]
theorem overL_cons (f : List Rat → Rat) (x : Rat) : ∀ a, overL f (a.map (x :: ·)) = overL (fun c => f (x :: c)) a
  | [] => rfl
  | c :: a => by
    show f (x :: c) + overL f (a.map (x :: ·)) = f (x :: c) + overL (fun c => f (x :: c)) a
    rw [overL_cons f x a]
theorem overL_S : ∀ (l : List Rat) (k : Nat) (g : Rat → Rat), overL (fun c => g (tot c)) (subs l k) = S l k g
  | l, 0, g => by
    rw [S_zero]
    have : subs l 0 = [[]] := by cases l <;> rfl
    rw [this]
    show g 0 + 0 = g 0
    rw [Rat.add_zero]
  | [], k + 1, g => rfl
  | x :: l, k + 1, g => by
    show overL _ ((subs l k).map (x :: ·) ++ subs l (k + 1)) = _
    rw [overL_append, overL_cons, S_cons, Rat.add_comm, overL_S l (k + 1) g]
    congr 1
    exact overL_S l k fun s => g (s + x)
end Go.ZL
end

section
/- The law of counts. -/
namespace Go.ZL
open Go Go.ZM Go.ZS

/-- the values at places -/
def at' (r : List Rat) (c : List Int) : List Rat := c.map fun i => (r[i.toNat]?).getD 0
def inR (r : List Rat) (c : List Int) : Prop := ∀ i ∈ c, 0 ≤ i ∧ i < (r.length : Int)

theorem gSum_L3 {xs : List RR} (hl : xs.length ≤ 1000000) (hz : ∀ x ∈ xs, Sz x) (ht : ∀ n, n ≤ xs.length → Sz (rat (sumQ ((xs.map valR).take n)))) (v2 : RR) :
    ∀ (e n : Nat), n + e = xs.length → robuststatsref30_Sum.L3 v2 (rat (sumQ ((xs.map valR).take n))) xs (xs.length : Int) (n : Int) = some (v2, rat (sumQ (xs.map valR)))
  | 0, n, hd => by rw [robuststatsref30_Sum.L3_eq, dec_f (by omega), List.take_of_length_le (by rw [List.length_map]; omega)]
  | e + 1, n, hd => by
    have hn : n < xs.length := by omega
    have hm := List.getElem_mem hn
    have e1 : IntKind.i64.wrap ((n : Int) + 1) = ((n + 1 : Nat) : Int) := i64_id (by omega) (by omega)
    rw [robuststatsref30_Sum.L3_eq, dec_t (by omega), bind_idx rfl hn, gAdd (ht n (by omega)) (hz _ hm), valR_rat, e1]
    simp only [Option.bind_some]
    have : sumQ ((xs.map valR).take n) + valR xs[n] = sumQ ((xs.map valR).take (n + 1)) := by
      unfold sumQ
      rw [foldl_take _ _ _ (by rw [List.length_map]; omega), List.getElem_map]
    rw [this]
    exact gSum_L3 hl hz ht v2 e (n + 1) (by omega)
theorem gSum_eq {xs : List RR} (hl : xs.length ≤ 1000000) (hz : ∀ x ∈ xs, Sz x) (ht : ∀ n, n ≤ xs.length → Sz (rat (sumQ ((xs.map valR).take n)))) : robuststatsref30_Sum xs = some (rat (sumQ (xs.map valR))) := by
  unfold robuststatsref30_Sum
  have h := gSum_L3 hl hz ht ((false, []), []) xs.length 0 (by omega)
  rw [List.take_zero, show sumQ [] = 0 from rfl, zero_rat] at h
  have e0 : ((0 : Nat) : Int) = 0 := rfl
  rw [e0] at h
  rw [h]
  rfl

theorem counts_L11 {r : List Rat} {D M d m : Nat} (hD : 0 < D) (hDd : D ≤ 4294967296 ^ d) (hMm : M ≤ 4294967296 ^ m) (hs : d + m ≤ 1000) (hr : ∀ x ∈ r, Dm D M x) (v4 v5 : List RR) (v7 : RR) (v8 v9 : Int) (v33 : List (List Int)) (v34 v35 : Int) {c : List Int} (hc : inR r c) (hl : c.length ≤ 1000) :
    ∀ (e n : Nat), n + e = c.length → robuststatslaw30_PermutationCounts.L11 v4 v5 (r.map rat) v7 v8 v9 (rat (sumQ ((at' r c).take n))) v33 v34 v35 c (c.length : Int) (n : Int) = some (v4, v5, r.map rat, v7, v8, v9, rat (sumQ (at' r c)), v33, v34, v35)
  | 0, n, hd => by rw [robuststatslaw30_PermutationCounts.L11_eq, dec_f (by omega), List.take_of_length_le (by unfold at'; rw [List.length_map]; omega)]
  | e + 1, n, hd => by
    have hn : n < c.length := by omega
    have hi := hc _ (List.getElem_mem hn)
    have hin : c[n].toNat < r.length := by omega
    have e1 : IntKind.i64.wrap ((n : Int) + 1) = ((n + 1 : Nat) : Int) := i64_id (by omega) (by omega)
    have hat : ∀ x ∈ at' r c, Dm D M x := by
      intro x hx
      obtain ⟨i, hi, rfl⟩ := List.mem_map.1 hx
      have := hc i hi
      rw [List.getElem?_eq_getElem (by omega : i.toNat < r.length)]
      exact hr _ (List.getElem_mem _)
    have hlen : (at' r c).length = c.length := by unfold at'; rw [List.length_map]
    have hm : n * M ≤ 4294967296 ^ (m + 1) := by
      have := Nat.mul_le_mul (show n ≤ 4294967296 by omega) hMm
      rwa [← Bpow_succ] at this
    have z1 := ((sumQ_dm hD hat n (by omega)).bd hD hDd hm).sz (by omega)
    have z2 := ((hr _ (List.getElem_mem hin)).bd hD hDd hMm).sz (by omega)
    have hg : (r.map rat)[c[n].toNat]? = some (rat r[c[n].toNat]) := by rw [List.getElem?_map, List.getElem?_eq_getElem hin]; rfl
    rw [robuststatslaw30_PermutationCounts.L11_eq, dec_t (by omega), bind_idx rfl hn, cond_t (inb_t hi.1 (by rw [List.length_map]; omega)), hg]
    simp only [Option.bind_some]
    rw [gAdd z1 z2, valR_rat, valR_rat, e1]
    simp only [Option.bind_some]
    have : sumQ ((at' r c).take n) + r[c[n].toNat] = sumQ ((at' r c).take (n + 1)) := by
      unfold sumQ
      rw [foldl_take _ _ _ (by omega)]
      congr 1
      unfold at'
      rw [List.getElem_map, List.getElem?_eq_getElem hin]
      rfl
    rw [this]
    exact counts_L11 hD hDd hMm hs hr v4 v5 v7 v8 v9 v33 v34 v35 hc hl e (n + 1) (by omega)

def hitsN (r : List Rat) (v : Rat) (cs : List (List Int)) : Nat := cs.countP fun c => decide (v ≤ sumQ (at' r c))

theorem countP_take_succ {α : Type} (p : α → Bool) (l : List α) {n : Nat} (h : n < l.length) : (l.take (n + 1)).countP p = (l.take n).countP p + if p l[n] then 1 else 0 := by
  rw [List.take_add_one, List.getElem?_eq_getElem h, List.countP_append]
  simp only [Option.toList_some, List.countP_cons, List.countP_nil, Nat.zero_add]

theorem counts_L7 {r : List Rat} {D M d m : Nat} (hD : 0 < D) (hDd : D ≤ 4294967296 ^ d) (hMm : M ≤ 4294967296 ^ m) (hs : d + m ≤ 1000) (hr : ∀ x ∈ r, Dm D M x) (v4 v5 : List RR) {v : Rat} (hv : Bd 1000000 v) {cs : List (List Int)} (hc : ∀ c ∈ cs, inR r c ∧ c.length ≤ 1000) (hl : cs.length ≤ 1000000) :
    ∀ (e n : Nat), n + e = cs.length → robuststatslaw30_PermutationCounts.L7 v4 v5 (r.map rat) (rat v) (hitsN r v (cs.take n) : Int) (n : Int) cs (cs.length : Int) (n : Int) = some (v4, v5, (hitsN r v cs : Int), (cs.length : Int))
  | 0, n, hd => by
    rw [robuststatslaw30_PermutationCounts.L7_eq, dec_f (by omega), List.take_of_length_le (by omega), show n = cs.length by omega]
  | e + 1, n, hd => by
    have hn : n < cs.length := by omega
    obtain ⟨h1, h2⟩ := hc _ (List.getElem_mem hn)
    have e1 : IntKind.i64.wrap ((n : Int) + 1) = ((n + 1 : Nat) : Int) := i64_id (by omega) (by omega)
    have hle : hitsN r v (cs.take n) ≤ n := by
      have := List.countP_le_length (p := fun c => decide (v ≤ sumQ (at' r c))) (l := cs.take n)
      rw [List.length_take] at this
      unfold hitsN
      omega
    have e2 : IntKind.i64.wrap ((hitsN r v (cs.take n) : Int) + 1) = ((hitsN r v (cs.take n) + 1 : Nat) : Int) := i64_id (by omega) (by omega)
    have h11 := counts_L11 hD hDd hMm hs hr v4 v5 (rat v) (hitsN r v (cs.take n) : Int) (n : Int) cs (cs.length : Int) (n : Int) h1 h2 cs[n].length 0 (by omega)
    have e0 : ((0 : Nat) : Int) = 0 := rfl
    rw [e0, List.take_zero, show sumQ [] = 0 from rfl, zero_rat] at h11
    have hat : ∀ x ∈ at' r cs[n], Dm D M x := by
      intro x hx
      obtain ⟨i, hi, rfl⟩ := List.mem_map.1 hx
      have := h1 i hi
      rw [List.getElem?_eq_getElem (by omega : i.toNat < r.length)]
      exact hr _ (List.getElem_mem _)
    have hlen : (at' r cs[n]).length = cs[n].length := by unfold at'; rw [List.length_map]
    have hm : (at' r cs[n]).length * M ≤ 4294967296 ^ (m + 1) := by
      have := Nat.mul_le_mul (show (at' r cs[n]).length ≤ 4294967296 by omega) hMm
      rwa [← Bpow_succ] at this
    have z1 := (sumQ_dm hD hat _ (Nat.le_refl _)).bd hD hDd hm
    rw [List.take_length] at z1
    have ih := counts_L7 hD hDd hMm hs hr v4 v5 hv hc hl e (n + 1) (by omega)
    have hstep : hitsN r v (cs.take (n + 1)) = hitsN r v (cs.take n) + if v ≤ sumQ (at' r cs[n]) then 1 else 0 := by
      unfold hitsN
      rw [countP_take_succ _ _ hn]
      simp only [decide_eq_true_eq]
    rw [robuststatslaw30_PermutationCounts.L7_eq, dec_t (by omega), cond_t (inb_t (by omega) (by omega))]
    simp only [toNat_nat]
    rw [List.getElem?_eq_getElem hn]
    simp only [Option.bind_some]
    rw [h11]
    simp only [Option.bind_some]
    rw [gCompare (z1.sz (by omega)) hv.rw, valR_rat, valR_rat]
    simp only [Option.bind_some]
    rw [cmpQ_ge, e1, e2]
    by_cases hge : v ≤ sumQ (at' r cs[n])
    · rw [if_pos hge] at hstep
      rw [dec_t hge, ← hstep]
      exact ih
    · rw [if_neg hge] at hstep
      rw [dec_f hge, ← Nat.add_zero (hitsN r v (cs.take n)), ← hstep]
      exact ih

theorem subs_mem {α : Type} : ∀ (l : List α) (k : Nat), ∀ c ∈ subs l k, c.length = k ∧ ∀ x ∈ c, x ∈ l
  | l, 0, c, hc => by
    have : subs l 0 = [[]] := by cases l <;> rfl
    rw [this, List.mem_singleton] at hc
    subst hc
    exact ⟨rfl, fun x hx => by cases hx⟩
  | [], k + 1, c, hc => by cases hc
  | y :: l, k + 1, c, hc => by
    rcases List.mem_append.1 (show c ∈ (subs l k).map (y :: ·) ++ subs l (k + 1) from hc) with h | h
    · obtain ⟨b, hb, rfl⟩ := List.mem_map.1 h
      obtain ⟨h1, h2⟩ := subs_mem l k b hb
      refine ⟨by rw [List.length_cons, h1], fun x hx => ?_⟩
      rcases List.mem_cons.1 hx with rfl | hx
      · exact List.mem_cons_self ..
      · exact List.mem_cons_of_mem _ (h2 x hx)
    · obtain ⟨h1, h2⟩ := subs_mem l (k + 1) c h
      exact ⟨h1, fun x hx => List.mem_cons_of_mem _ (h2 x hx)⟩
theorem idxs_at (r : List Rat) (k : Nat) : (idxs r.length k).map (at' r) = subs r k := by
  have e : (List.range r.length).map (fun i => (r[i]?).getD 0) = r := by
    refine List.ext_getElem? fun i => ?_
    rw [List.getElem?_map]
    by_cases h : i < r.length
    · rw [List.getElem?_range h, List.getElem?_eq_getElem h]
      show some ((r[i]?).getD 0) = some r[i]
      rw [List.getElem?_eq_getElem h]; rfl
    · rw [List.getElem?_eq_none (by rw [List.length_range]; omega), List.getElem?_eq_none (by omega)]; rfl
  unfold idxs
  rw [List.map_map]
  have e2 := subs_map (fun i => (r[i]?).getD 0) (List.range r.length) k
  rw [e] at e2
  rw [e2]
  refine List.map_congr_left fun c _ => ?_
  show (c.map fun i : Nat => (i : Int)).map _ = _
  rw [List.map_map]
  rfl

theorem overL_count (p : List Rat → Prop) [DecidablePred p] : ∀ cs : List (List Rat), overL (fun c => if p c then 1 else 0) cs = ((cs.countP fun c => decide (p c) : Nat) : Rat)
  | [] => rfl
  | c :: cs => by
    show (if p c then 1 else 0) + overL _ cs = _
    rw [overL_count p cs, List.countP_cons, Rat.natCast_add]
    by_cases h : p c
    · rw [if_pos h, decide_eq_true h, if_pos rfl, Rat.add_comm]; rfl
    · rw [if_neg h, decide_eq_false h, if_neg (by decide), Rat.zero_add, show ((0 : Nat) : Rat) = 0 from rfl, Rat.add_zero]

theorem counts_tail (r : List Rat) (k : Nat) (v : Rat) : ((hitsN r v (idxs r.length k) : Nat) : Rat) / (((idxs r.length k).length : Nat) : Rat) = tailQ (subsetsQ r k) v 2 := by
  rw [tailQ_E, E_subsets, E_subsets, ← overL_S, ← overL_S]
  congr 1
  · have e : (fun c => far 2 v (meanQ (subsetsQ r k)) (absQ (v - meanQ (subsetsQ r k))) (tot c)) = fun c => if v ≤ sumQ c then 1 else 0 := by
      funext c
      unfold far inTail
      rw [sumQ_tot]
      simp only [if_true, decide_eq_true_eq]
    rw [e, overL_count, ← idxs_at, List.countP_map]
    rfl
  · have h := overL_count (fun _ => True) (subs r k)
    simp only [if_true] at h
    rw [h, ← idxs_at, List.countP_map, List.countP_eq_length.2 (by intro a _; rfl)]

theorem law_counts {l : List Int} (hl : ∀ x ∈ l, -9223372036854775808 ≤ x ∧ x < 9223372036854775808) : robuststatslaw30_PermutationCounts l = some true := by
  unfold robuststatslaw30_PermutationCounts
  obtain ⟨t, e1, ht⟩ := tNew hl
  rw [e1]
  simp only [Option.bind_some]
  obtain ⟨xs, t', e2, ht', x1, x2, x3⟩ := tValues ht (n := 4) (by omega) (by omega)
  rw [show ((4 : Nat) : Int) = 4 from rfl] at e2
  rw [e2]
  simp only [Option.bind_some]
  obtain ⟨ys, t2, e3, ht2, y1, y2, y3⟩ := tValues ht' (n := 4) (by omega) (by omega)
  rw [show ((4 : Nat) : Int) = 4 from rfl] at e3
  rw [e3]
  simp only [Option.bind_some]
  obtain ⟨D, hD, hDd, hdm⟩ := common (k := 2) (xs ++ ys) (fun q hq => (List.mem_append.1 hq).elim (x3 q) (y3 q))
  have hDd' : D ≤ 4294967296 ^ 20 := Nat.le_trans hDd (Nat.pow_le_pow_right (by omega) (by rw [List.length_append]; omega))
  have hxy : Two (xs.map rat) (ys.map rat) D (4294967296 ^ 2) 20 2 := two_of hD hDd' (Nat.le_refl _) (by omega) (fun x hx => hdm x (List.mem_append_left _ hx)) (fun x hx => hdm x (List.mem_append_right _ hx)) x3 y3 (by omega) x1 y1 (by omega)
  have lx : (xs.map rat).length = xs.length := List.length_map ..
  have ly : (ys.map rat).length = ys.length := List.length_map ..
  have hsum := hxy.sums
  rw [lx] at hsum
  have ht0 := hsum xs.length (Nat.le_refl _)
  rw [map_valR_rat, List.take_length] at ht0
  rw [cond_t (apOk_t (by omega)), cond_t (apOk_t (by omega)), gSum_eq (by omega) (rat_sz x3 (by omega)) (fun n hn => (hsum n (by omega)).sz (by omega)), map_valR_rat]
  simp only [Option.bind_some]
  have hap : xs.map rat ++ ys.map rat = (xs ++ ys).map rat := by rw [List.map_append]
  have hlen : (xs ++ ys).length = xs.length + ys.length := List.length_append
  rw [hap, lx, List.length_map, combos_eq (by omega) (by omega)]
  simp only [Option.bind_some]
  have hcs : ∀ c ∈ idxs (xs ++ ys).length xs.length, inR (xs ++ ys) c ∧ c.length ≤ 1000 := by
    intro c hc
    obtain ⟨b, hb, rfl⟩ := List.mem_map.1 hc
    obtain ⟨h1, h2⟩ := subs_mem _ _ b hb
    refine ⟨fun i hi => ?_, by rw [List.length_map]; omega⟩
    obtain ⟨j, hj, rfl⟩ := List.mem_map.1 hi
    have := List.mem_range.1 (h2 j hj)
    omega
  have hcl : (idxs (xs ++ ys).length xs.length).length ≤ 1000000 ∧ 1 ≤ (idxs (xs ++ ys).length xs.length).length := by
    have hall : ∀ n : Fin 9, ∀ k : Fin 9, k.1 ≤ n.1 → (idxs n.1 k.1).length ≤ 1000000 ∧ 1 ≤ (idxs n.1 k.1).length := by decide +kernel
    exact hall ⟨(xs ++ ys).length, by omega⟩ ⟨xs.length, by omega⟩ (by show xs.length ≤ (xs ++ ys).length; omega)
  have h7 := counts_L7 hD hDd' (Nat.le_refl _) (by omega) hdm (xs.map rat) (ys.map rat) (ht0.mono (by omega : 2000 ≤ 1000000)) hcs hcl.1 _ 0 (Nat.zero_add _)
  have e0 : ((0 : Nat) : Int) = 0 := rfl
  rw [List.take_zero, show hitsN (xs ++ ys) (sumQ xs) [] = 0 from rfl, e0] at h7
  rw [h7]
  simp only [Option.bind_some]
  have v1 : (xs.map rat ++ ys.map rat).map valR = xs ++ ys := by rw [List.map_append, map_valR_rat, map_valR_rat]
  have hb := hxy.tail_bd (sumQ xs) 2
  rw [v1, lx] at hb
  rw [sample_eq hxy (.inr (.inl rfl)), v1, map_valR_rat, lx]
  simp only [Option.bind_some, decide_true, cond_true]
  have hh : hitsN (xs ++ ys) (sumQ xs) (idxs (xs ++ ys).length xs.length) ≤ (idxs (xs ++ ys).length xs.length).length := List.countP_le_length
  rw [fFraction_eq (by omega) (by omega) (by omega) (by omega) (by omega), Rat.intCast_natCast, Rat.intCast_natCast, counts_tail]
  simp only [Option.bind_some]
  rw [gSame hb (Nat.le_refl _)]
  simp only [Option.bind_some, decide_true, cond_true]
  rw [awake30_eq]
  rfl
end Go.ZL
end

section
/- The law of rises. -/
namespace Go.ZL
open Go Go.ZM Go.ZS

theorem six_5 (l : List AQ) (v : Rat) : (sixQ l v).2.2.2.2.1 = rat (tailQ l v 2) := rfl
theorem tot_ne {r : List Rat} {k : Nat} (hr : ∀ x ∈ r, Dm 2 2000 x) (hl : r.length ≤ 14) (hk : k ≤ r.length) : E (subsetsQ r k) (fun _ => 1) ≠ 0 := by
  obtain ⟨_, _, _, g4, _⟩ := sub_dist (ps := r.reverse) (k := k) (show 0 < 2 by omega) (d := 1) (m := 1) (M := 2000) (by omega) (by omega) (by omega) (fun x hx => hr x (List.mem_reverse.1 hx)) (by rw [List.length_reverse]; omega) (by rw [List.length_reverse]; omega)
  rw [← tot_E]
  unfold subsetsQ
  intro e
  have := Rat.intCast_eq_zero_iff.1 e
  omega

theorem law_rises {l : List Int} (hl : ∀ x ∈ l, -9223372036854775808 ≤ x ∧ x < 9223372036854775808) : robuststatslaw31_RanktestRises l = some true := by
  unfold robuststatslaw31_RanktestRises
  obtain ⟨t, e1, ht⟩ := tNew hl
  rw [e1]
  simp only [Option.bind_some]
  obtain ⟨xs, t', e2, ht', x1, x2, x3⟩ := tValues ht (n := 5) (by omega) (by omega)
  rw [show ((5 : Nat) : Int) = 5 from rfl] at e2
  rw [e2]
  simp only [Option.bind_some]
  obtain ⟨ys, t2, e3, ht2, y1, y2, y3⟩ := tValues ht' (n := 5) (by omega) (by omega)
  rw [show ((5 : Nat) : Int) = 5 from rfl] at e3
  rw [e3]
  simp only [Option.bind_some]
  obtain ⟨a, t3, e4, ht3, ha⟩ := tRat ht2
  rw [e4]
  simp only [Option.bind_some]
  have hxs : ∀ x ∈ xs.map rat, Sz x := rat_sz x3 (by omega)
  have hys : ∀ x ∈ ys.map rat, Sz x := rat_sz y3 (by omega)
  have lx : (xs.map rat).length = xs.length := List.length_map ..
  have ly : (ys.map rat).length = ys.length := List.length_map ..
  have v1 : (xs.map rat ++ ys.map rat).map valR = xs ++ ys := by rw [List.map_append, map_valR_rat, map_valR_rat]
  have v2 : (ys.map rat ++ xs.map rat).map valR = ys ++ xs := by rw [List.map_append, map_valR_rat, map_valR_rat]
  have v3 : ((xs.map (riseQ a)).map rat ++ (ys.map (riseQ a)).map rat).map valR = (xs ++ ys).map (riseQ a) := by rw [List.map_append, map_valR_rat, map_valR_rat, List.map_append]
  rw [sum_eq (by omega) (by omega) (by omega) hxs hys, v1, lx]
  simp only [Option.bind_some]
  rw [rise_eq ha (by omega) x3, rise_eq ha (by omega) y3]
  simp only [Option.bind_some]
  have rx : ∀ x ∈ (xs.map (riseQ a)).map rat, Sz x := rat_sz (k := 9) (fun x hx => by obtain ⟨y, hy, rfl⟩ := List.mem_map.1 hx; exact ha.rise (x3 y hy)) (by omega)
  have ry : ∀ x ∈ (ys.map (riseQ a)).map rat, Sz x := rat_sz (k := 9) (fun x hx => by obtain ⟨y, hy, rfl⟩ := List.mem_map.1 hx; exact ha.rise (y3 y hy)) (by omega)
  have lrx : ((xs.map (riseQ a)).map rat).length = xs.length := by rw [List.length_map, List.length_map]
  have lry : ((ys.map (riseQ a)).map rat).length = ys.length := by rw [List.length_map, List.length_map]
  rw [sum_eq (by omega) (by omega) (by omega) rx ry, v3, lrx, rankQ_mono (rise_mono a)]
  simp only [Option.bind_some]
  rw [sum_eq (by omega) (by omega) (by omega) hys hxs, v2, ly]
  simp only [Option.bind_some]
  have hdm1 := rank_dm (l := xs ++ ys) (by rw [List.length_append]; omega)
  have hdm2 := rank_dm (l := ys ++ xs) (by rw [List.length_append]; omega)
  have htot := rank_tot (xs ++ ys)
  obtain ⟨ra, rb, q1, q2, q3, q4⟩ := rankQ_comm xs ys
  rw [q1] at hdm1 htot ⊢
  rw [q2] at hdm2 ⊢
  rw [show (ra ++ rb).take xs.length = ra by rw [← q3, List.take_left], show (rb ++ ra).take ys.length = rb by rw [← q4, List.take_left], sumQ_tot, sumQ_tot, ← q3, ← q4]
  have hT : tot ra + tot rb = (((xs.length + ys.length) * (xs.length + ys.length + 1) : Nat) : Rat) / 2 := by
    rw [← tot_append, htot, List.length_append]
  have la : (ra ++ rb).length = ra.length + rb.length := List.length_append
  have lb : (rb ++ ra).length = rb.length + ra.length := List.length_append
  have ba : Bd 3 (tot ra) := by
    have := (sumQ_dm (l := ra ++ rb) (show 0 < 2 by omega) hdm1 ra.length (by omega)).bd (by omega) (d := 1) (m := 1) (by omega) (by omega)
    rwa [List.take_left, sumQ_tot] at this
  have bb : Bd 3 (tot rb) := by
    have := (sumQ_dm (l := rb ++ ra) (show 0 < 2 by omega) hdm2 rb.length (by omega)).bd (by omega) (d := 1) (m := 1) (by omega) (by omega)
    rwa [List.take_left, sumQ_tot] at this
  have b6 := six_bd hdm1 (by omega) (k := ra.length) (by omega) (ba.mono (by omega : 3 ≤ 1000000))
  have m := tail_mirror (l := subsetsQ (ra ++ rb) ra.length) (k := subsetsQ (rb ++ ra) rb.length) (T := tot ra + tot rb) (v := tot ra) (swap_E ra rb) (tot_ne hdm1 (by omega) (by omega))
  rw [show tot ra + tot rb - tot ra = tot rb by grind] at m
  obtain ⟨m1, m2, m3⟩ := m
  rw [six_1, six_1, gAdd (ba.sz (by omega)) (bb.sz (by omega)), valR_rat, valR_rat]
  simp only [Option.bind_some, decide_true, cond_true]
  rw [same31 b6]
  simp only [Option.bind_some, cond_true]
  rw [six_4, six_4, six_5, six_5, six_6, six_6, m1, m2, m3]
  have t1 : Bd 1000000 (tailQ (subsetsQ (ra ++ rb) ra.length) (tot ra) 1) := b6 _ (by simp [sixL])
  have t2' : Bd 1000000 (tailQ (subsetsQ (ra ++ rb) ra.length) (tot ra) 2) := b6 _ (by simp [sixL])
  have t3' : Bd 1000000 (tailQ (subsetsQ (ra ++ rb) ra.length) (tot ra) 3) := b6 _ (by simp [sixL])
  rw [gSame t1 (Nat.le_refl _)]
  simp only [Option.bind_some, decide_true, cond_true]
  rw [gSame t2' (Nat.le_refl _)]
  simp only [Option.bind_some, decide_true, cond_true]
  rw [gSame t3' (Nat.le_refl _)]
  simp only [Option.bind_some, decide_true, cond_true]
  have w1 : IntKind.i64.wrap ((xs.length : Int) + (ys.length : Int)) = ((xs.length + ys.length : Nat) : Int) := i64_id (by omega) (by omega)
  have w2 : IntKind.i64.wrap (((xs.length + ys.length : Nat) : Int) + 1) = ((xs.length + ys.length + 1 : Nat) : Int) := i64_id (by omega) (by omega)
  have hn : (xs.length + ys.length) * (xs.length + ys.length + 1) ≤ 10 * 11 := Nat.mul_le_mul (by omega) (by omega)
  have w3 : IntKind.i64.wrap (((xs.length + ys.length : Nat) : Int) * ((xs.length + ys.length + 1 : Nat) : Int)) = (((xs.length + ys.length) * (xs.length + ys.length + 1) : Nat) : Int) := by
    rw [← Int.natCast_mul]
    exact i64_id (by omega) (by omega)
  rw [q3, q4, w1, w2, w3, fFraction_eq (by omega) (by omega) (by omega) (by omega) (by omega)]
  simp only [Option.bind_some]
  have hf : (((((xs.length + ys.length) * (xs.length + ys.length + 1) : Nat) : Int) : Rat) / ((2 : Int) : Rat)) = tot ra + tot rb := by rw [hT]; rfl
  rw [hf, gSame ((ba.add bb).mono (by omega : 3 + 3 + 1 ≤ 1000000)) (Nat.le_refl _)]
  simp only [Option.bind_some, decide_true, cond_true]
  rw [awake_eq]
  rfl
end Go.ZL
end

section
/- Mean and variance of the sum of a drawn part. -/
namespace Go.ZL
open Go Go.ZM Go.ZS

/-- how many parts of k a list of n has -/
def ch : Nat → Nat → Nat
  | _, 0 => 1
  | 0, _ + 1 => 0
  | n + 1, k + 1 => ch n (k + 1) + ch n k
theorem nc1 : ((1 : Nat) : Rat) = 1 := rfl
theorem nc0 : ((0 : Nat) : Rat) = 0 := rfl
def chp (n : Nat) : Nat → Nat
  | 0 => 0
  | j + 1 => ch n j
theorem ch_zero (n : Nat) : ch n 0 = 1 := by cases n <;> rfl
theorem S_add (f g : Rat → Rat) : ∀ (ps : List Rat) (k : Nat), S ps k (fun s => f s + g s) = S ps k f + S ps k g := by
  intro ps k
  rw [← E_sub, ← E_sub, ← E_sub, E_add]
theorem S_mul (c : Rat) (g : Rat → Rat) (ps : List Rat) (k : Nat) : S ps k (fun s => c * g s) = c * S ps k g := by
  rw [← E_sub, ← E_sub, E_mul]
theorem S_one : ∀ (ps : List Rat) (k : Nat), S ps k (fun _ => 1) = ((ch ps.length k : Nat) : Rat)
  | ps, 0 => by rw [S_zero, ch_zero]; rfl
  | [], k + 1 => rfl
  | x :: ps, k + 1 => by
    rw [S_cons, S_one ps (k + 1), S_one ps k, List.length_cons]
    show _ = ((ch ps.length (k + 1) + ch ps.length k : Nat) : Rat)
    rw [Rat.natCast_add]

/-- sums of parts one greater, over a list with one more -/
theorem S_id : ∀ (ps : List Rat) (x : Rat) (k : Nat), S (x :: ps) (k + 1) id = ((ch ps.length k : Nat) : Rat) * (tot ps + x)
  | [], x, 0 => by
    show (0 : Rat) + id (0 + x) = ((1 : Nat) : Rat) * (0 + x)
    show (0 : Rat) + (0 + x) = ((1 : Nat) : Rat) * (0 + x)
    rw [nc1, Rat.one_mul, Rat.zero_add]
  | [], x, k + 1 => by
    show (0 : Rat) + 0 = ((0 : Nat) : Rat) * (0 + x)
    rw [nc0, Rat.zero_mul, Rat.zero_add]
  | y :: ps, x, 0 => by
    rw [S_cons, S_id ps y 0, S_zero, ch_zero, ch_zero]
    show ((1 : Nat) : Rat) * (tot ps + y) + (0 + x) = ((1 : Nat) : Rat) * ((tot ps + y) + x)
    rw [nc1]
    grind
  | y :: ps, x, k + 1 => by
    have e : S (y :: ps) (k + 1) (fun s => id (s + x)) = S (y :: ps) (k + 1) id + x * S (y :: ps) (k + 1) (fun _ => 1) := by
      rw [← S_mul, ← S_add]
      exact S_congr (fun s => by show s + x = s + x * 1; grind) _ _
    rw [S_cons, S_id ps y (k + 1), e, S_id ps y k, S_one]
    show ((ch ps.length (k + 1) : Nat) : Rat) * (tot ps + y) + (((ch ps.length k : Nat) : Rat) * (tot ps + y) + x * ((ch (ps.length + 1) (k + 1) : Nat) : Rat)) = ((ch (ps.length + 1) (k + 1) : Nat) : Rat) * ((tot ps + y) + x)
    show _ + (_ + x * ((ch ps.length (k + 1) + ch ps.length k : Nat) : Rat)) = ((ch ps.length (k + 1) + ch ps.length k : Nat) : Rat) * _
    rw [Rat.natCast_add]
    grind

/-- the sum of squares -/
def sqs : List Rat → Rat
  | [] => 0
  | x :: ps => sqs ps + x * x

/-- the squares of the sums: over x :: y :: ps, parts of k + 2 -/
theorem S_sq1 : ∀ (ps : List Rat) , S ps 1 (fun s => s * s) = sqs ps
  | [] => rfl
  | x :: ps => by
    rw [S_cons, S_sq1 ps, S_zero]
    show sqs ps + (0 + x) * (0 + x) = sqs ps + x * x
    grind

theorem S_shift_sq (ps : List Rat) (k : Nat) (x : Rat) : S ps k (fun s => (s + x) * (s + x)) = S ps k (fun s => s * s) + 2 * x * S ps k id + x * x * S ps k (fun _ => 1) := by
  rw [← S_mul, ← S_mul, ← S_add, ← S_add]
  exact S_congr (fun s => by show (s + x) * (s + x) = s * s + 2 * x * s + x * x * 1; grind) _ _

theorem S_sq : ∀ (ps : List Rat) (x y : Rat) (k : Nat), S (x :: y :: ps) (k + 2) (fun s => s * s) =
    ((ch (ps.length + 1) (k + 1) : Nat) : Rat) * sqs (x :: y :: ps) + ((ch ps.length k : Nat) : Rat) * (tot (x :: y :: ps) * tot (x :: y :: ps) - sqs (x :: y :: ps))
  | [], x, y, 0 => by
    show ((0 : Rat) + 0) + (0 + (0 + y + x) * (0 + y + x)) = ((1 : Nat) : Rat) * (0 + y * y + x * x) + ((1 : Nat) : Rat) * ((0 + y + x) * (0 + y + x) - (0 + y * y + x * x))
    rw [nc1]
    grind
  | [], x, y, k + 1 => by
    show ((0 : Rat) + 0) + (0 + 0) = ((0 : Nat) : Rat) * (0 + y * y + x * x) + ((0 : Nat) : Rat) * ((0 + y + x) * (0 + y + x) - (0 + y * y + x * x))
    rw [nc0]
    grind
  | z :: ps, x, y, k => by
    have h1 := S_sq ps y z k
    rw [S_cons, S_shift_sq, h1, S_id (z :: ps) y k, S_one]
    have h2 : S (y :: z :: ps) (k + 1) (fun s => s * s) = ((ch (ps.length + 1) k : Nat) : Rat) * sqs (y :: z :: ps) + ((chp ps.length k : Nat) : Rat) * (tot (y :: z :: ps) * tot (y :: z :: ps) - sqs (y :: z :: ps)) := by
      cases k with
      | zero =>
        rw [S_sq1, ch_zero, nc1]
        show _ = 1 * sqs (y :: z :: ps) + ((0 : Nat) : Rat) * _
        rw [nc0]; grind
      | succ j => exact S_sq ps y z j
    rw [h2]
    have e1 : ch ((z :: ps).length + 1) (k + 1) = ch (ps.length + 1) (k + 1) + ch (ps.length + 1) k := rfl
    have e2 : ch (y :: z :: ps).length (k + 1) = ch (ps.length + 1) (k + 1) + ch (ps.length + 1) k := rfl
    have e3 : ch (z :: ps).length k = ch ps.length k + chp ps.length k := by
      cases k with
      | zero => rw [ch_zero, ch_zero]; rfl
      | succ j => rfl
    rw [e1, e2, e3, Rat.natCast_add, Rat.natCast_add]
    have t1 : tot (x :: y :: z :: ps) = tot (y :: z :: ps) + x := rfl
    have t2 : sqs (x :: y :: z :: ps) = sqs (y :: z :: ps) + x * x := rfl
    have t3 : tot (z :: ps) + y = tot (y :: z :: ps) := rfl
    have e4 : ch (ps.length + 1) k = ch ps.length k + chp ps.length k := e3
    rw [t1, t2, t3]
    have e5 : ((ch (ps.length + 1) k : Nat) : Rat) = ((ch ps.length k : Nat) : Rat) + ((chp ps.length k : Nat) : Rat) := by rw [e4, Rat.natCast_add]
    rw [e5]
    grind
end Go.ZL
end

section
/- Signs, totals, and what the reference reckons about them. -/
namespace Go.ZL
open Go Go.ZM Go.ZS

/-! ### how many choices: reckoned -/
def k9 : Nat → Int → Int → Int → List Int → Int → Int → Option (Int × Int × Int × List Int × Int)
  | 0, _, _, _, _, _, _ => none
  | k + 1, v0, v1, v2, v7, v8, v9 =>
    bif (decide ((0 : Int) < v9)) then
      bif inb v9 (List.length v7) then
        (v7[v9.toNat]?).bind fun t37 =>
          bif inb (IntKind.i64.wrap (v9 - (1 : Int))) (List.length v7) then
            (v7[(IntKind.i64.wrap (v9 - (1 : Int))).toNat]?).bind fun t42 =>
              bif inb v9 (List.length v7) then
                (v7[v9.toNat]?).bind fun x2 =>
                  k9 k v0 v1 v2 (v7.set v9.toNat (minI (IntKind.i64.wrap (t37 + t42)) (IntKind.i64.wrap (v2 + (1 : Int))))) v8 (IntKind.i64.wrap (v9 - (1 : Int)))
              else none
          else none
      else none
    else some (v0, v1, v2, v7, v8)
theorem k9_le : ∀ (k : Nat) (v0 v1 v2 : Int) (v7 : List Int) (v8 v9 : Int), Ple (k9 k v0 v1 v2 v7 v8 v9) (robuststatsref23_Choose.L9 v0 v1 v2 v7 v8 v9)
  | 0, _, _, _, _, _, _ => Ple.none _
  | k + 1, v0, v1, v2, v7, v8, v9 => by
    rw [robuststatsref23_Choose.L9_eq]
    exact .cond (.cond (.bind (.refl _) fun x => .cond (.bind (.refl _) fun y => .cond (.bind (.refl _) fun z => k9_le k _ _ _ _ _ _) (.refl _)) (.refl _)) (.refl _)) (.refl _)
def k6 : Nat → Int → Int → Int → List Int → Int → Option (Int × List Int)
  | 0, _, _, _, _, _ => none
  | k + 1, v0, v1, v2, v7, v8 =>
    bif (decide (v8 < v0)) then
      (k9 30 v0 v1 v2 v7 v8 v1).bind fun o3 => k6 k o3.1 o3.2.1 o3.2.2.1 o3.2.2.2.1 (IntKind.i64.wrap (o3.2.2.2.2 + (1 : Int)))
    else some (v1, v7)
theorem k6_le : ∀ (k : Nat) (v0 v1 v2 : Int) (v7 : List Int) (v8 : Int), Ple (k6 k v0 v1 v2 v7 v8) (robuststatsref23_Choose.L6 v0 v1 v2 v7 v8)
  | 0, _, _, _, _, _ => Ple.none _
  | k + 1, v0, v1, v2, v7, v8 => by
    rw [robuststatsref23_Choose.L6_eq]
    exact .cond (.bind (k9_le _ _ _ _ _ _ _) fun o => k6_le k _ _ _ _ _) (.refl _)
def kChoose (a0 a1 a2 : Int) : Option Int :=
  bif (decide (a1 < (0 : Int))) then some (0 : Int)
  else bif (decide (a0 < a1)) then some (0 : Int)
  else bif mkOk (IntKind.i64.wrap (a1 + (1 : Int))) (IntKind.i64.wrap (a1 + (1 : Int))) then
    bif inb (0 : Int) (List.length (List.replicate (IntKind.i64.wrap (a1 + (1 : Int))).toNat (0 : Int))) then
      ((List.replicate (IntKind.i64.wrap (a1 + (1 : Int))).toNat (0 : Int))[(0 : Int).toNat]?).bind fun x1 =>
        (k6 30 a0 a1 a2 ((List.replicate (IntKind.i64.wrap (a1 + (1 : Int))).toNat (0 : Int)).set ((0 : Int).toNat) (1 : Int)) (0 : Int)).bind fun o4 =>
          bif inb o4.1 (List.length o4.2) then (o4.2[o4.1.toNat]?).bind fun t51 => some t51
          else none
    else none
  else none
theorem kChoose_le (a0 a1 a2 : Int) : Ple (kChoose a0 a1 a2) (robuststatsref23_Choose a0 a1 a2) :=
  .cond (.refl _) (.cond (.refl _) (.cond (.cond (.bind (.refl _) fun x => .bind (k6_le _ _ _ _ _ _) fun o => .refl _) (.refl _)) (.refl _)))
theorem choose_all : ∀ n : Fin 15, ∀ k : Fin 15, k.1 ≤ n.1 → kChoose (n.1 : Int) (k.1 : Int) 1048576 = some (ch n.1 k.1 : Int) := by decide +kernel
theorem choose_eq {n k : Nat} (hn : n ≤ 14) (hk : k ≤ n) : robuststatsref23_Choose (n : Int) (k : Int) 1048576 = some (ch n k : Int) :=
  kChoose_le _ _ _ _ (choose_all ⟨n, by omega⟩ ⟨k, by omega⟩ hk)

/-! ### signs -/
def sgnStep (l : List AQ) (x : Rat) : List AQ := mergeQ (shiftQ l x) (shiftQ l (-x))
def sgnQ (l : List Rat) : List AQ := l.foldl sgnStep [(0, 1)]

structure SgnOk (D M n : Nat) (l : List AQ) : Prop where
  asc : Asc l
  pos : Pos l
  tot : totQ l = 2 ^ n
  len : l.length ≤ 2 ^ n
  dm : ∀ a ∈ l, Dm D (n * M) a.1

theorem sgnStep_ok {D M n : Nat} (hD : 0 < D) {l : List AQ} (h : SgnOk D M n l) {x : Rat} (hx : Dm D M x) : SgnOk D M (n + 1) (sgnStep l x) := by
  refine ⟨mergeQ_asc _ _ (shiftQ_asc h.asc x) (shiftQ_asc h.asc (-x)), mergeQ_pos _ _ (shiftQ_pos h.pos x) (shiftQ_pos h.pos (-x)), ?_, ?_, fun a ha => ?_⟩
  · unfold sgnStep
    rw [mergeQ_tot, shiftQ_tot, shiftQ_tot, h.tot, Int.pow_succ]; omega
  · have := mergeQ_len (shiftQ l x) (shiftQ l (-x))
    rw [shiftQ_len, shiftQ_len] at this
    have := h.len
    unfold sgnStep
    rw [Nat.pow_succ]; omega
  · rw [Nat.add_mul, Nat.one_mul]
    rcases mergeQ_mem _ _ a ha with ⟨w, hw, e⟩ | ⟨w, hw, e⟩
    · obtain ⟨u, hu, rfl⟩ := List.mem_map.1 hw
      rw [e]; exact (h.dm u hu).add hD hx
    · obtain ⟨u, hu, rfl⟩ := List.mem_map.1 hw
      rw [e]; exact (h.dm u hu).add hD hx.neg

theorem sgnQ_ok {D M : Nat} (hD : 0 < D) {l : List Rat} (hx : ∀ x ∈ l, Dm D M x) : ∀ n, n ≤ l.length → SgnOk D M n (sgnQ (l.take n))
  | 0, _ => by
    refine ⟨List.pairwise_singleton _ _, fun a ha => ?_, rfl, (show (sgnQ ([] : List Rat)).length ≤ 2 ^ 0 by decide), fun a ha => ?_⟩
    · rw [List.mem_singleton.1 ha]; decide
    · rw [List.mem_singleton.1 ha]; exact Dm.zero _ _
  | n + 1, hn => by
    unfold sgnQ
    rw [foldl_take _ _ _ (by omega)]
    exact sgnStep_ok hD (sgnQ_ok hD hx n (by omega)) (hx _ (List.getElem_mem (by omega)))

theorem SgnOk.ab {D M n d m : Nat} {l : List AQ} (h : SgnOk D M n l) (hn : n ≤ 14) (hD : 0 < D) (hDd : D ≤ 4294967296 ^ d) (hM : M ≤ 4294967296 ^ m) (hs : d + m ≤ 5000) : (∀ a ∈ l, AB 10000 a) ∧ l.length ≤ 16384 := by
  have h14 := Nat.pow_le_pow_right (show 0 < 2 by decide) hn
  have e14 : 2 ^ 14 = 16384 := by decide
  have hl := h.len
  have ht := h.tot
  obtain ⟨g1, g2⟩ := pos_le_tot _ h.pos
  have hi : ((2 ^ n : Nat) : Int) = (2 : Int) ^ n := by rw [Int.natCast_pow]; rfl
  refine ⟨fun a ha => ⟨?_, ?_⟩, by omega⟩
  · have hm : n * M ≤ 4294967296 ^ (m + 1) := by
      have := Nat.mul_le_mul (show n ≤ 4294967296 by omega) hM
      rwa [← Bpow_succ] at this
    exact ((h.dm a ha).bd hD hDd hm).mono (by omega)
  · have := g2 a ha
    have := h.pos a ha
    exact Nat.le_trans (ln_i64 (by omega) (by omega)) (by omega)

section
variable {xs : List RR} {D M d m : Nat}
theorem signs_L5 (h : Scores xs D M d m) (hs : d + m ≤ 5000) : ∀ (e n : Nat), n + e = xs.length →
    permutation_Signs.L5 ((sgnQ ((xs.map valR).take n)).map enc) xs (xs.length : Int) (n : Int) = some ((sgnQ (xs.map valR)).map enc)
  | 0, n, hd => by rw [permutation_Signs.L5_eq, dec_f (by omega), List.take_of_length_le (by rw [List.length_map]; omega)]
  | e + 1, n, hd => by
    have hn : n < xs.length := by omega
    have hm := List.getElem_mem hn
    have hlen := h.len
    have e1 : IntKind.i64.wrap ((n : Int) + 1) = ((n + 1 : Nat) : Int) := i64_id (by omega) (by omega)
    have hx : ∀ x ∈ xs.map valR, Dm D M x := by
      intro x hx
      obtain ⟨y, hy, rfl⟩ := List.mem_map.1 hx
      exact h.dm y hy
    obtain ⟨a1, a2⟩ := (sgnQ_ok h.D0 hx n (by rw [List.length_map]; omega)).ab (by omega) h.D0 h.Dd h.Mm hs
    have hxb : Bd 5001 (valR xs[n]) := ((h.dm _ hm).bd h.D0 h.Dd h.Mm).mono (by omega)
    have sb : ∀ y : Rat, Bd 5001 y → ∀ z ∈ shiftQ (sgnQ ((xs.map valR).take n)) y, AB 20000 z := by
      intro y hy z hz
      obtain ⟨a, ha, rfl⟩ := List.mem_map.1 hz
      exact ⟨((a1 a ha).1.add hy).mono (by omega), Nat.le_trans (a1 a ha).2 (by omega)⟩
    rw [permutation_Signs.L5_eq, dec_t (by omega), bind_idx rfl hn, shift_eq (k := 10000) (by omega) (h.sz _ hm) (by omega) a1]
    simp only [Option.bind_some]
    rw [qNeg (h.sz _ hm)]
    simp only [Option.bind_some]
    rw [shift_eq (k := 10000) (by omega) (hxb.neg.sz (by omega)) (by omega) a1, valR_rat]
    simp only [Option.bind_some]
    rw [merge_eq (k := 20000) (by omega) (sb _ hxb) (sb _ hxb.neg) (by rw [shiftQ_len, shiftQ_len]; omega), e1]
    simp only [Option.bind_some]
    have e2 : mergeQ (shiftQ (sgnQ ((xs.map valR).take n)) (valR xs[n])) (shiftQ (sgnQ ((xs.map valR).take n)) (-valR xs[n])) = sgnQ ((xs.map valR).take (n + 1)) := by
      unfold sgnQ
      rw [foldl_take _ _ _ (by rw [List.length_map]; omega), List.getElem_map]
      rfl
    rw [e2]
    exact signs_L5 h hs e (n + 1) (by omega)
theorem signs_eq (h : Scores xs D M d m) (hs : d + m ≤ 5000) : permutation_Signs xs = some ((sgnQ (xs.map valR)).map enc, 0) := by
  have hlen := h.len
  have hone : permutation_one = some (int 1) := by unfold permutation_one; rw [iFromInt_eq (by omega) (by omega)]; rfl
  unfold permutation_Signs
  rw [small_few hlen]
  simp only [Option.bind_some]
  rw [Bool.not_true, cond_false, hone]
  simp only [Option.bind_some]
  have h5 := signs_L5 h hs xs.length 0 (by omega)
  have e0 : ((0 : Nat) : Int) = 0 := rfl
  rw [e0, List.take_zero, show sgnQ [] = [(0, 1)] from rfl, show ([(0, 1)] : List AQ).map enc = [(rat 0, int 1)] from rfl, zero_rat] at h5
  rw [h5]
  simp only [Option.bind_some]
  have hx : ∀ x ∈ xs.map valR, Dm D M x := by
    intro x hx
    obtain ⟨y, hy, rfl⟩ := List.mem_map.1 hx
    exact h.dm y hy
  have hok := sgnQ_ok h.D0 hx xs.length (by rw [List.length_map]; omega)
  rw [List.take_of_length_le (by rw [List.length_map]; omega)] at hok
  obtain ⟨a1, a2⟩ := hok.ab (by omega) h.D0 h.Dd h.Mm hs
  rw [fresh_eq (k := 10000) (by omega) (by omega) a1]
  rfl
end

/-! ### the convolution as a distribution -/
theorem scaleQ_tot (x : AQ) : ∀ b : List AQ, totQ (scaleQ x b) = x.2 * totQ b
  | [] => by show (0 : Int) = x.2 * 0; simp
  | y :: b => by
    show totQ ((x.1 + y.1, x.2 * y.2) :: scaleQ x b) = _
    rw [totQ_cons, totQ_cons, scaleQ_tot x b, Int.mul_add]
theorem scaleQ_asc {x : AQ} {b : List AQ} (h : Asc b) : Asc (scaleQ x b) := by
  unfold scaleQ Asc
  rw [List.pairwise_map]
  exact h.imp fun {u v} huv => by show x.1 + u.1 < x.1 + v.1; grind
theorem scaleQ_pos {x : AQ} {b : List AQ} (hx : 0 < x.2) (h : Pos b) : Pos (scaleQ x b) := by
  intro z hz
  obtain ⟨a, ha, rfl⟩ := List.mem_map.1 hz
  exact Int.mul_pos hx (h a ha)
theorem scaleQ_len (x : AQ) (b : List AQ) : (scaleQ x b).length = b.length := List.length_map ..

structure ConvOk (D P : Nat) (acc : List AQ) : Prop where
  asc : Asc acc
  pos : Pos acc
  dm : ∀ a ∈ acc, Dm D P a.1

theorem convGo_ok {D M N : Nat} (hD : 0 < D) {b : List AQ} (hb : Asc b) (pb : Pos b) (db : ∀ y ∈ b, Dm D N y.1) : ∀ (a acc : List AQ), (∀ x ∈ a, 0 < x.2 ∧ Dm D M x.1) → ConvOk D (M + N) acc → acc.length + a.length * b.length ≤ 16384 →
    ∃ l, convGo acc a b = some l ∧ ConvOk D (M + N) l ∧ totQ l = totQ acc + totQ a * totQ b ∧ l.length ≤ 16384
  | [], acc, _, h, hl => ⟨acc, rfl, h, by show _ = _ + 0 * _; simp, by simp at hl; omega⟩
  | x :: a, acc, ha, h, hl => by
    obtain ⟨hx1, hx2⟩ := ha x (List.mem_cons_self ..)
    have hml := mergeQ_len acc (scaleQ x b)
    rw [scaleQ_len] at hml
    rw [List.length_cons, Nat.add_mul, Nat.one_mul] at hl
    have hok : ConvOk D (M + N) (mergeQ acc (scaleQ x b)) := by
      refine ⟨mergeQ_asc _ _ h.asc (scaleQ_asc hb), mergeQ_pos _ _ h.pos (scaleQ_pos hx1 pb), fun z hz => ?_⟩
      rcases mergeQ_mem _ _ z hz with ⟨w, hw, e⟩ | ⟨w, hw, e⟩
      · rw [e]; exact h.dm w hw
      · obtain ⟨u, hu, rfl⟩ := List.mem_map.1 hw
        rw [e]; exact hx2.add hD (db u hu)
    obtain ⟨l, h1, h2, h3, h4⟩ := convGo_ok hD hb pb db a _ (fun y hy => ha y (List.mem_cons_of_mem _ hy)) hok (by omega)
    refine ⟨l, ?_, h2, ?_, h4⟩
    · show (if 16384 < (mergeQ acc (scaleQ x b)).length then none else convGo (mergeQ acc (scaleQ x b)) a b) = _
      rw [if_neg (by omega), h1]
    · rw [h3, mergeQ_tot, scaleQ_tot, totQ_cons, Int.add_mul]
      omega
end Go.ZL
end

section
/- Few equal scores. -/
namespace Go.ZL
open Go Go.ZM Go.ZS

/-- the sums of subsets are of bounded size -/
def Fit' (ps : List Rat) (mm : Nat) : Prop := ∀ k, k ≤ mm → (∀ a ∈ subR ps k, AB 100000 a) ∧ (subR ps k).length ≤ 16384

theorem subg_L11 {ps : List Rat} {mm : Nat} (hf : Fit' ps mm) {x : RR} (hx : Sz x) (hxb : Bd 100000 (valR x)) (v1 : Int) (v29 : List RR) (v30 v31 : Int) (hmm : mm ≤ 1000) : ∀ (k : Nat), k ≤ mm →
    permutation_Subsets.L11 v1 (rowQ ps (valR x) k mm) x (k : Int) v29 v30 v31 = some (v1, rowQ ps (valR x) 0 mm, v29, v30, v31)
  | 0, _ => by rw [permutation_Subsets.L11_eq, dec_f (by omega)]
  | k + 1, hk => by
    obtain ⟨a1, a2⟩ := hf (k + 1) hk
    obtain ⟨b1, b2⟩ := hf k (by omega)
    have g1 := rowQ_get ps (valR x) (k + 1) (mm := mm) (j := k + 1) (by omega)
    have g0 := rowQ_get ps (valR x) (k + 1) (mm := mm) (j := k) (by omega)
    rw [if_neg (by omega)] at g1 g0
    have e1 : IntKind.i64.wrap (((k + 1 : Nat) : Int) - 1) = (k : Int) := by rw [i64_id (by omega) (by omega)]; omega
    rw [permutation_Subsets.L11_eq, dec_t (by omega), e1]
    simp only [toNat_nat]
    rw [cond_t (inb_t (by omega) (by rw [rowQ_len]; omega)), g1]
    simp only [Option.bind_some]
    rw [cond_t (inb_t (by omega) (by rw [rowQ_len]; omega)), g0]
    simp only [Option.bind_some]
    rw [shift_eq (k := 100000) (by omega) hx (by omega) b1]
    simp only [Option.bind_some]
    have sb : ∀ z ∈ shiftQ (subR ps k) (valR x), AB 300000 z := by
      intro z hz
      obtain ⟨a, ha, rfl⟩ := List.mem_map.1 hz
      exact ⟨((b1 a ha).1.add hxb).mono (by omega), Nat.le_trans (b1 a ha).2 (by omega)⟩
    rw [merge_eq (k := 300000) (by omega) (fun z hz => (a1 z hz).mono (by omega)) sb (by rw [shiftQ_len]; omega)]
    simp only [Option.bind_some]
    rw [cond_t (inb_t (by omega) (by rw [rowQ_len]; omega))]
    have e2 : (rowQ ps (valR x) (k + 1) mm).set (k + 1) ((mergeQ (subR ps (k + 1)) (shiftQ (subR ps k) (valR x))).map enc) = rowQ ps (valR x) k mm := rowQ_set ps (valR x) (by omega)
    rw [e2]
    exact subg_L11 hf hx hxb v1 v29 v30 v31 hmm k (by omega)

theorem subg_L8 {xs : List RR} {mm : Nat} (hl : xs.length ≤ 1000000) (hmm : mm ≤ 1000) (hf : ∀ n, n ≤ xs.length → Fit' ((xs.take n).map valR).reverse mm) (hx : ∀ x ∈ xs, Sz x ∧ Bd 100000 (valR x)) : ∀ (e n : Nat), n + e = xs.length →
    permutation_Subsets.L8 (mm : Int) ((List.range (mm + 1)).map fun j => (subR (((xs.take n).map valR).reverse) j).map enc) xs (xs.length : Int) (n : Int) =
      some ((mm : Int), (List.range (mm + 1)).map fun j => (subR ((xs.map valR).reverse) j).map enc)
  | 0, n, hd => by
    rw [permutation_Subsets.L8_eq, dec_f (by omega), List.take_of_length_le (by omega)]
  | e + 1, n, hd => by
    have hn : n < xs.length := by omega
    have hm := List.getElem_mem hn
    have e1 : IntKind.i64.wrap ((n : Int) + 1) = ((n + 1 : Nat) : Int) := i64_id (by omega) (by omega)
    have hpl : (((xs.take n).map valR).reverse).length = n := by simp; omega
    rw [permutation_Subsets.L8_eq, dec_t (by omega), bind_idx rfl hn, e1, minI_nat]
    have hf' : Fit' ((xs.take n).map valR).reverse mm := hf n (by omega)
    have h11 := subg_L11 (mm := mm) hf' (hx _ hm).1 (hx _ hm).2 (mm : Int) xs (xs.length : Int) (n : Int) hmm (min (n + 1) mm) (by omega)
    rw [rowQ_start _ _ (by omega), rowQ_end] at h11
    rw [h11]
    simp only [Option.bind_some]
    rw [e1]
    have e2 : valR xs[n] :: ((xs.take n).map valR).reverse = ((xs.take (n + 1)).map valR).reverse := by
      rw [List.take_add_one, List.getElem?_eq_getElem hn]
      simp only [Option.toList_some, List.map_append, List.map_cons, List.map_nil, List.reverse_append, List.reverse_cons, List.reverse_nil, List.nil_append, List.singleton_append]
    rw [e2]
    exact subg_L8 hl hmm hf hx e (n + 1) (by omega)

theorem subg_eq {xs : List RR} {mm : Nat} (hsm : permutation_small xs = some true) (hl : xs.length ≤ 1000000) (hmm : mm ≤ 1000) (hmx : mm ≤ xs.length) (hf : ∀ n, n ≤ xs.length → Fit' ((xs.take n).map valR).reverse mm) (hx : ∀ x ∈ xs, Sz x ∧ Bd 100000 (valR x)) :
    permutation_Subsets xs (mm : Int) = some ((subsetsQ (xs.map valR) mm).map enc, 0) := by
  unfold permutation_Subsets
  rw [hsm]
  simp only [Option.bind_some]
  have e1 : IntKind.i64.wrap ((mm : Int) + 1) = ((mm + 1 : Nat) : Int) := i64_id (by omega) (by omega)
  have hone : permutation_one = some (int 1) := by unfold permutation_one; rw [iFromInt_eq (by omega) (by omega)]; rfl
  rw [Bool.not_true, cond_false, dec_f (by omega), dec_f (by omega), e1, cond_t (mkOk_t (by omega) (by omega) (by omega)), hone]
  simp only [Option.bind_some, toNat_nat]
  rw [cond_t (inb_t (by omega) (by simp))]
  have e2 : ((List.replicate (mm + 1) ([] : List AR))[(0 : Int).toNat]?) = some [] := by simp
  rw [e2]
  simp only [Option.bind_some]
  have e3 : (List.replicate (mm + 1) ([] : List AR)).set ((0 : Int).toNat) [(((false, ([] : List Int)), ([] : List Int)), int 1)] = (List.range (mm + 1)).map fun j => (subR [] j).map enc := by
    rw [← zero_rat]
    refine List.ext_getElem? fun j => ?_
    rw [List.getElem?_set]
    by_cases hj : j < mm + 1
    · rcases Nat.eq_zero_or_pos j with rfl | hj0
      · simp [subR_zero, enc]
      · have : ¬ (0 : Int).toNat = j := by simp; omega
        obtain ⟨i, rfl⟩ : ∃ i, j = i + 1 := ⟨j - 1, by omega⟩
        rw [if_neg this]
        simp [hj, subR]
    · have : ¬ (0 : Int).toNat = j := by simp; omega
      rw [if_neg this]
      simp [hj]
  rw [e3]
  have h8 := subg_L8 hl hmm hf hx xs.length 0 (by omega)
  have e0 : ((0 : Nat) : Int) = 0 := rfl
  rw [e0, List.take_zero, List.map_nil, List.reverse_nil] at h8
  rw [h8]
  simp only [Option.bind_some, toNat_nat]
  rw [cond_t (inb_t (by omega) (by simp <;> omega))]
  have e4 : ((List.range (mm + 1)).map fun j => (subR ((xs.map valR).reverse) j).map enc)[mm]? = some ((subR ((xs.map valR).reverse) mm).map enc) := by simp
  rw [e4]
  simp only [Option.bind_some]
  have hff := hf xs.length (Nat.le_refl _)
  rw [List.take_length] at hff
  obtain ⟨a1, a2⟩ := hff mm (Nat.le_refl _)
  rw [fresh_eq (k := 100000) (by omega) (by omega) a1]
  rfl

theorem ones_tot : ∀ ps : List Rat, totQ (subR ps 1) = (ps.length : Int)
  | [] => rfl
  | x :: ps => by
    show totQ (mergeQ (subR ps 1) (shiftQ (subR ps 0) x)) = _
    rw [mergeQ_tot, shiftQ_tot, subR_zero, ones_tot ps, List.length_cons]
    show (ps.length : Int) + 1 = _
    omega
theorem ones_len : ∀ ps : List Rat, (subR ps 1).length ≤ ps.length
  | [] => Nat.le_refl _
  | x :: ps => by
    show (mergeQ (subR ps 1) (shiftQ (subR ps 0) x)).length ≤ _
    have h1 := mergeQ_len (subR ps 1) (shiftQ (subR ps 0) x)
    have h2 := ones_len ps
    rw [shiftQ_len, subR_zero] at h1
    rw [subR_zero, List.length_cons]
    simp only [List.length_cons, List.length_nil] at h1
    omega
/-- single scores are of bounded size -/
theorem fit_ones {D M d m : Nat} (hD : 0 < D) (hDd : D ≤ 4294967296 ^ d) (hM : M ≤ 4294967296 ^ m) (hs : d + m ≤ 5000) {ps : List Rat} (hp : ∀ x ∈ ps, Dm D M x) (hl : ps.length ≤ 1000) : Fit' ps 1 := by
  intro k hk
  have ho := subR_ok hD ps k hp
  have hmm : ps.length * M ≤ 4294967296 ^ (m + 1) := by
    have := Nat.mul_le_mul (show ps.length ≤ 4294967296 by omega) hM
    rwa [← Bpow_succ] at this
  have hb : ∀ a ∈ subR ps k, Bd 100000 a.1 := fun a ha => ((ho.dm a ha).bd hD hDd hmm).mono (by omega)
  rcases (show k = 0 ∨ k = 1 by omega) with rfl | rfl
  · rw [subR_zero] at hb ⊢
    refine ⟨fun a ha => ⟨hb a ha, ?_⟩, by decide⟩
    rw [List.mem_singleton.1 ha]
    exact Nat.le_trans (ln_i64 (by decide) (by decide)) (by omega)
  · have h1 := ones_len ps
    refine ⟨fun a ha => ⟨hb a ha, ?_⟩, by omega⟩
    have h2 := (pos_le_tot _ ho.pos).2 a ha
    have h3 := ho.pos a ha
    rw [ones_tot] at h2
    exact Nat.le_trans (ln_i64 (by omega) (by omega)) (by omega)
end Go.ZL
end

section
/- The law of few scores. -/
namespace Go.ZL
open Go Go.ZM Go.ZS

theorem den_len (q : Rat) : (decide ((0 : Int) < (((rat q).2.length : Nat) : Int))) = !decide (q.den = 1) := by
  have h : (0 : Int) < (((rat q).2.length : Nat) : Int) ↔ ¬ q.den = 1 := by
    show (0 : Int) < (((if q.den = 1 then [] else nat q.den : List Int).length : Nat) : Int) ↔ _
    by_cases h1 : q.den = 1
    · rw [if_pos h1]; simp [h1]
    · rw [if_neg h1]
      have hp := q.den_pos
      refine ⟨fun _ => h1, fun _ => ?_⟩
      rcases Nat.eq_zero_or_pos (nat q.den).length with e | e
      · have := lt_of_nat_len (k := 0) (Nat.le_of_eq e)
        simp at this
        omega
      · omega
  rw [Bool.eq_iff_iff, decide_eq_true_eq, Bool.not_eq_true', decide_eq_false_iff_not]
  exact h

section
variable {n : Nat} {s : Rat}
theorem small_L6 (hs : Bd 10 s) (hn : n ≤ 1000) (hd : (s * 2).den = 1) (v0 : List RR) : ∀ (e i : Nat), i + e = n →
    permutation_small.L6 v0 (rat ((i : Rat) * absQ s)) (rat 2) (List.replicate n (rat s)) ((List.replicate n (rat s)).length : Int) (i : Int) = some (.inl (v0, rat ((n : Rat) * absQ s)))
  | 0, i, hi => by
    rw [permutation_small.L6_eq, dec_f (by rw [List.length_replicate]; omega), show i = n by omega]
  | e + 1, i, hi => by
    have e1 : IntKind.i64.wrap ((i : Int) + 1) = ((i + 1 : Nat) : Int) := i64_id (by omega) (by omega)
    have b2 : Bd 2 (2 : Rat) := Bd.i64 (n := 2) (by omega) (by omega)
    have bi : Bd 2 ((i : Nat) : Rat) := by have := Bd.i64 (n := (i : Int)) (by omega) (by omega); rwa [Rat.intCast_natCast] at this
    have hsz : Sz (rat s) := hs.sz (by omega)
    rw [permutation_small.L6_eq, dec_t (by rw [List.length_replicate]; omega), bind_idx rfl (by rw [List.length_replicate]; omega), List.getElem_replicate, qMul hsz (b2.sz (by omega)), valR_rat, valR_rat]
    simp only [Option.bind_some]
    rw [den_len, hd]
    simp only [decide_true, Bool.not_true, cond_false]
    rw [qAbs hsz, valR_rat]
    simp only [Option.bind_some]
    rw [qAdd ((bi.mul hs.abs).sz (by omega)) (hs.abs.sz (by omega)), valR_rat, valR_rat, e1]
    simp only [Option.bind_some]
    have e2 : (i : Rat) * absQ s + absQ s = ((i + 1 : Nat) : Rat) * absQ s := by
      rw [Rat.natCast_add, show ((1 : Nat) : Rat) = 1 from rfl]; grind
    rw [e2]
    exact small_L6 hs hn hd v0 e (i + 1) (by omega)

theorem idx_rep {α : Type} {x : α} (h : 0 < n) : idx (List.replicate n x) 0 = some x := by
  obtain ⟨k, rfl⟩ : ∃ k, n = k + 1 := ⟨n - 1, by omega⟩
  rfl

theorem small_same (hs : Bd 10 s) (h15 : 15 ≤ n) (hn : n ≤ 1000) : permutation_small (List.replicate n (rat s)) = some (decide ((s * 2).den = 1) && (decide (n ≤ 64) && decide ((n : Rat) * absQ s ≤ 1024))) := by
  have b2 : Bd 2 (2 : Rat) := Bd.i64 (n := 2) (by omega) (by omega)
  have hsz : Sz (rat s) := hs.sz (by omega)
  unfold permutation_small
  rw [dec_f (by rw [List.length_replicate]; omega), rFromInt_eq (by omega) (by omega), show (((2 : Int) : Rat)) = 2 from rfl]
  simp only [Option.bind_some]
  by_cases hd : (s * 2).den = 1
  · have h6 := small_L6 hs hn hd (List.replicate n (rat s)) n 0 (by omega)
    have e0 : ((0 : Nat) : Int) = 0 := rfl
    rw [e0, show ((0 : Nat) : Rat) = 0 from rfl, Rat.zero_mul, zero_rat] at h6
    rw [h6, decide_eq_true hd]
    simp only [Option.bind_some, Sum.elim_inl, Bool.true_and]
    by_cases h64 : n ≤ 64
    · rw [dec_t (by rw [List.length_replicate]; omega), rFromInt_eq (by omega) (by omega), show (((1024 : Int) : Rat)) = 1024 from rfl]
      simp only [Option.bind_some]
      have bn : Bd 2 ((n : Nat) : Rat) := by have := Bd.i64 (n := (n : Int)) (by omega) (by omega); rwa [Rat.intCast_natCast] at this
      have bk : Bd 2 (1024 : Rat) := Bd.i64 (n := 1024) (by omega) (by omega)
      rw [qCompare ((bn.mul hs.abs).sz (by omega)) (bk.sz (by omega)), valR_rat, valR_rat]
      simp only [Option.bind_some]
      rw [cmpQ_le, decide_eq_true h64, Bool.true_and]
    · rw [dec_f (by rw [List.length_replicate]; omega), decide_eq_false h64]
      rfl
  · rw [permutation_small.L6_eq, dec_t (by rw [List.length_replicate]; omega), idx_rep (by omega)]
    simp only [Option.bind_some]
    rw [qMul hsz (b2.sz (by omega)), valR_rat, valR_rat]
    simp only [Option.bind_some]
    rw [den_len, decide_eq_false hd]
    simp only [Bool.not_false, cond_true, Option.bind_some, Sum.elim_inr, Bool.false_and]
end

/-! ### signs of at most fifteen -/
theorem SgnOk.ab15 {D M n d m : Nat} {l : List AQ} (h : SgnOk D M n l) (hn : n ≤ 15) (hD : 0 < D) (hDd : D ≤ 4294967296 ^ d) (hM : M ≤ 4294967296 ^ m) (hs : d + m ≤ 5000) : (∀ a ∈ l, AB 10000 a) ∧ l.length ≤ 32768 := by
  have h14 := Nat.pow_le_pow_right (show 0 < 2 by decide) hn
  have e14 : 2 ^ 15 = 32768 := by decide
  have hl := h.len
  have ht := h.tot
  obtain ⟨g1, g2⟩ := pos_le_tot _ h.pos
  have hi : ((2 ^ n : Nat) : Int) = (2 : Int) ^ n := by rw [Int.natCast_pow]; rfl
  refine ⟨fun a ha => ⟨?_, ?_⟩, by omega⟩
  · have hm : n * M ≤ 4294967296 ^ (m + 1) := by
      have := Nat.mul_le_mul (show n ≤ 4294967296 by omega) hM
      rwa [← Bpow_succ] at this
    exact ((h.dm a ha).bd hD hDd hm).mono (by omega)
  · have := g2 a ha
    have := h.pos a ha
    exact Nat.le_trans (ln_i64 (by omega) (by omega)) (by omega)

section
variable {xs : List RR} {D M d m : Nat}
theorem signs15_L5 (hD : 0 < D) (hDd : D ≤ 4294967296 ^ d) (hM : M ≤ 4294967296 ^ m) (hs : d + m ≤ 5000) (hx : ∀ x ∈ xs, Sz x ∧ Dm D M (valR x)) (hl : xs.length ≤ 15) : ∀ (e n : Nat), n + e = xs.length →
    permutation_Signs.L5 ((sgnQ ((xs.map valR).take n)).map enc) xs (xs.length : Int) (n : Int) = some ((sgnQ (xs.map valR)).map enc)
  | 0, n, hd => by rw [permutation_Signs.L5_eq, dec_f (by omega), List.take_of_length_le (by rw [List.length_map]; omega)]
  | e + 1, n, hd => by
    have hn : n < xs.length := by omega
    have hm := List.getElem_mem hn
    have e1 : IntKind.i64.wrap ((n : Int) + 1) = ((n + 1 : Nat) : Int) := i64_id (by omega) (by omega)
    have hx' : ∀ x ∈ xs.map valR, Dm D M x := by
      intro x h
      obtain ⟨y, hy, rfl⟩ := List.mem_map.1 h
      exact (hx y hy).2
    obtain ⟨a1, a2⟩ := (sgnQ_ok hD hx' n (by rw [List.length_map]; omega)).ab15 (by omega) hD hDd hM hs
    have hxb : Bd 5001 (valR xs[n]) := ((hx _ hm).2.bd hD hDd hM).mono (by omega)
    have sb : ∀ y : Rat, Bd 5001 y → ∀ z ∈ shiftQ (sgnQ ((xs.map valR).take n)) y, AB 20000 z := by
      intro y hy z hz
      obtain ⟨a, ha, rfl⟩ := List.mem_map.1 hz
      exact ⟨((a1 a ha).1.add hy).mono (by omega), Nat.le_trans (a1 a ha).2 (by omega)⟩
    rw [permutation_Signs.L5_eq, dec_t (by omega), bind_idx rfl hn, shift_eq (k := 10000) (by omega) (hx _ hm).1 (by omega) a1]
    simp only [Option.bind_some]
    rw [qNeg (hx _ hm).1]
    simp only [Option.bind_some]
    rw [shift_eq (k := 10000) (by omega) (hxb.neg.sz (by omega)) (by omega) a1, valR_rat]
    simp only [Option.bind_some]
    rw [merge_eq (k := 20000) (by omega) (sb _ hxb) (sb _ hxb.neg) (by rw [shiftQ_len, shiftQ_len]; omega), e1]
    simp only [Option.bind_some]
    have e2 : mergeQ (shiftQ (sgnQ ((xs.map valR).take n)) (valR xs[n])) (shiftQ (sgnQ ((xs.map valR).take n)) (-valR xs[n])) = sgnQ ((xs.map valR).take (n + 1)) := by
      unfold sgnQ
      rw [foldl_take _ _ _ (by rw [List.length_map]; omega), List.getElem_map]
      rfl
    rw [e2]
    exact signs15_L5 hD hDd hM hs hx hl e (n + 1) (by omega)
theorem signs15_eq (hD : 0 < D) (hDd : D ≤ 4294967296 ^ d) (hM : M ≤ 4294967296 ^ m) (hs : d + m ≤ 5000) (hx : ∀ x ∈ xs, Sz x ∧ Dm D M (valR x)) (hl : xs.length ≤ 15) (hsm : permutation_small xs = some true) : permutation_Signs xs = some ((sgnQ (xs.map valR)).map enc, 0) := by
  have hone : permutation_one = some (int 1) := by unfold permutation_one; rw [iFromInt_eq (by omega) (by omega)]; rfl
  unfold permutation_Signs
  rw [hsm]
  simp only [Option.bind_some]
  rw [Bool.not_true, cond_false, hone]
  simp only [Option.bind_some]
  have h5 := signs15_L5 hD hDd hM hs hx hl xs.length 0 (by omega)
  have e0 : ((0 : Nat) : Int) = 0 := rfl
  rw [e0, List.take_zero, show sgnQ [] = [(0, 1)] from rfl, show ([(0, 1)] : List AQ).map enc = [(rat 0, int 1)] from rfl, zero_rat] at h5
  rw [h5]
  simp only [Option.bind_some]
  have hx' : ∀ x ∈ xs.map valR, Dm D M x := by
    intro x h
    obtain ⟨y, hy, rfl⟩ := List.mem_map.1 h
    exact (hx y hy).2
  have hok := sgnQ_ok hD hx' xs.length (by rw [List.length_map]; omega)
  rw [List.take_of_length_le (by rw [List.length_map]; omega)] at hok
  obtain ⟨a1, a2⟩ := hok.ab15 (by omega) hD hDd hM hs
  rw [fresh_eq (k := 10000) (by omega) (by omega) a1]
  rfl
end

/-! ### equal scores -/
/-- is the run allowed -/
def okSame (s : Rat) (n : Nat) : Bool := decide ((s * 2).den = 1) && (decide (n ≤ 64) && decide ((n : Rat) * absQ s ≤ 1024))

theorem subsets_same {s : Rat} {n : Nat} (hs : Bd 2 s) (h15 : 15 ≤ n) (hn : n ≤ 100) : ∃ l, permutation_Subsets (List.replicate n (rat s)) 1 = some (l, if okSame s n then 0 else 2) := by
  have hsm := small_same (hs.mono (by omega : 2 ≤ 10)) h15 (show n ≤ 1000 by omega)
  show ∃ l, _ = some (l, if okSame s n then (0 : Int) else 2)
  cases hok : okSame s n with
  | false =>
    unfold okSame at hok
    rw [hok] at hsm
    refine ⟨[], ?_⟩
    unfold permutation_Subsets
    rw [hsm]
    rfl
  | true =>
    unfold okSame at hok
    rw [hok] at hsm
    have hdm : ∀ x ∈ List.replicate n (rat s), Dm s.den (4294967296 ^ 2) (valR x) := by
      intro x hx
      rw [(List.mem_replicate.1 hx).2, valR_rat]
      exact Dm.own hs
    refine ⟨_, subg_eq (mm := 1) hsm (by rw [List.length_replicate]; omega) (by omega) (by rw [List.length_replicate]; omega) (fun k hk => ?_) (fun x hx => ?_)⟩
    · refine fit_ones (d := 2) (m := 2) s.den_pos (den_le hs) (Nat.le_refl _) (by omega) (fun x hx => ?_) ?_
      · obtain ⟨y, hy, rfl⟩ := List.mem_map.1 (List.mem_reverse.1 hx)
        exact hdm y (List.mem_of_mem_take hy)
      · rw [List.length_reverse, List.length_map, List.length_take, List.length_replicate]; omega
    · rw [(List.mem_replicate.1 hx).2, valR_rat]
      exact ⟨hs.sz (by omega), hs.mono (by omega)⟩

theorem signs_same {s : Rat} (hs : Bd 2 s) : ∃ l, permutation_Signs (List.replicate 15 (rat s)) = some (l, if okSame s 15 then 0 else 2) := by
  have hsm := small_same (n := 15) (hs.mono (by omega : 2 ≤ 10)) (by omega) (by omega)
  cases hok : okSame s 15 with
  | false =>
    unfold okSame at hok
    rw [hok] at hsm
    refine ⟨[], ?_⟩
    unfold permutation_Signs
    rw [hsm]
    rfl
  | true =>
    unfold okSame at hok
    rw [hok] at hsm
    refine ⟨_, signs15_eq (d := 2) (m := 2) s.den_pos (den_le hs) (Nat.le_refl _) (by omega) (fun x hx => ?_) (by rw [List.length_replicate]; omega) hsm⟩
    rw [(List.mem_replicate.1 hx).2, valR_rat]
    exact ⟨hs.sz (by omega), Dm.own hs⟩
end Go.ZL
end

section
/- The law of few scores, joined. -/
namespace Go.ZL
open Go Go.ZM Go.ZS

theorem ok_all : ∀ a : Fin 65, ∀ n : Fin 51, okSame (((a.1 : Int) : Rat) / ((2 : Int) : Rat)) (n.1 + 15) = (decide (n.1 + 15 ≤ 64) && decide ((n.1 + 15) * a.1 ≤ 2048)) ∧
    okSame (((a.1 : Int) : Rat) / ((3 : Int) : Rat)) (n.1 + 15) = (decide (a.1 % 3 = 0) && (decide (n.1 + 15 ≤ 64) && decide ((n.1 + 15) * a.1 ≤ 3072))) := by decide +kernel

theorem j14_ok {v1 d : Int} {o1 o2 v15 : Bool} (hd : d = 2 ∨ d = 3) {a : Nat} (hv : IntKind.i64.wrap (v1.tmod 65) = (a : Int)) (ha : a ≤ 64) (h1 : v15 = o1) (h2 : o2 = if (a : Int).tmod d = 0 ∨ d = 2 then decide (15 * (a : Int) ≤ 1024 * d) else false) :
    robuststatslaw30_PermutationSmall.j14 v1 d (if o1 then 0 else 2) (if o2 then 0 else 2) v15 = some true := by
  subst h1
  have w1 : IntKind.i64.wrap (15 * (a : Int)) = 15 * (a : Int) := i64_id (by omega) (by omega)
  have w2 : IntKind.i64.wrap (1024 * d) = 1024 * d := i64_id (by omega) (by omega)
  unfold robuststatslaw30_PermutationSmall.j14
  rw [dec_f (by omega), hv, w1, w2, awake30_eq]
  by_cases hm : (a : Int).tmod d = 0
  · rw [if_pos (.inl hm)] at h2
    rw [dec_t hm, ← h2]
    cases v15 <;> cases o2 <;> rfl
  · rw [dec_f hm]
    by_cases h3 : d = 2
    · rw [if_pos (.inr h3)] at h2
      rw [dec_t h3, ← h2]
      cases v15 <;> cases o2 <;> rfl
    · rw [if_neg (by intro h; rcases h with h | h; exact hm h; exact h3 h)] at h2
      rw [dec_f h3, h2]
      cases v15 <;> rfl

theorem small_L7 {v1 d : Int} {a : Nat} (hd : d = 2 ∨ d = 3) (hv : IntKind.i64.wrap (v1.tmod 65) = (a : Int)) (ha : a ≤ 64) (v7 : Int) {n : Nat} (hn : n ≤ 1000) : ∀ (e i : Nat) (l : List RR), i + e = n → l.length = n → (∀ j, j < i → l[j]? = some (rat ((a : Int) / (d : Rat)))) →
    robuststatslaw30_PermutationSmall.L7 v1 v7 l d (n : Int) (i : Int) = some (v1, v7, List.replicate n (rat ((a : Int) / (d : Rat))), d)
  | 0, i, l, hi, hl, h => by
    rw [robuststatslaw30_PermutationSmall.L7_eq, dec_f (by omega)]
    have : l = List.replicate n (rat ((a : Int) / (d : Rat))) := by
      refine List.ext_getElem? fun j => ?_
      by_cases hj : j < n
      · rw [h j (by omega), List.getElem?_replicate, if_pos hj]
      · rw [List.getElem?_eq_none (by omega), List.getElem?_eq_none (by rw [List.length_replicate]; omega)]
    rw [this]
  | e + 1, i, l, hi, hl, h => by
    have e1 : IntKind.i64.wrap ((i : Int) + 1) = ((i + 1 : Nat) : Int) := i64_id (by omega) (by omega)
    have hil : i < l.length := by omega
    rw [robuststatslaw30_PermutationSmall.L7_eq, dec_t (by omega), hv, fFraction_eq (by omega) (by omega) (by omega) (by omega) (by omega)]
    simp only [Option.bind_some]
    rw [cond_t (inb_t (by omega) (by omega))]
    simp only [toNat_nat]
    rw [List.getElem?_eq_getElem hil, e1]
    simp only [Option.bind_some]
    refine small_L7 hd hv ha v7 hn e (i + 1) _ (by omega) (by rw [List.length_set]; exact hl) fun j hj => ?_
    rw [List.getElem?_set]
    by_cases hij : i = j
    · rw [if_pos hij, if_pos (by omega)]
    · rw [if_neg hij]; exact h j (by omega)

theorem small_j6 {v1 d : Int} {a : Nat} (hd : d = 2 ∨ d = 3) (hv : IntKind.i64.wrap (v1.tmod 65) = (a : Int)) (ha : a ≤ 64) {n : Nat} (h15 : 15 ≤ n) (hn : n ≤ 65) : robuststatslaw30_PermutationSmall.j6 v1 (n : Int) (List.replicate n ((false, ([] : List Int)), ([] : List Int))) d = some true := by
  have hs : Bd 2 ((a : Int) / (d : Rat)) := Bd.frac (a := (a : Int)) (b := d) (by omega) (by omega)
  obtain ⟨l1, s1⟩ := subsets_same hs h15 (show n ≤ 100 by omega)
  obtain ⟨l2, s2⟩ := signs_same hs
  have hall := ok_all ⟨a, by omega⟩ ⟨n - 15, by omega⟩
  have hall15 := ok_all ⟨a, by omega⟩ ⟨0, by omega⟩
  simp only [show n - 15 + 15 = n by omega] at hall
  simp only [Nat.zero_add] at hall15
  have w2 : IntKind.i64.wrap (1024 * d) = 1024 * d := i64_id (by omega) (by omega)
  have hna : n * a ≤ 65 * 64 := Nat.mul_le_mul hn ha
  have w3 : IntKind.i64.wrap ((n : Int) * (a : Int)) = ((n * a : Nat) : Int) := by rw [← Int.natCast_mul]; exact i64_id (by omega) (by omega)
  unfold robuststatslaw30_PermutationSmall.j6
  rw [List.length_replicate]
  have h7 := small_L7 hd hv ha (n : Int) (n := n) (by omega) n 0 (List.replicate n ((false, ([] : List Int)), ([] : List Int))) (by omega) (List.length_replicate ..) (fun j hj => by omega)
  have e0 : ((0 : Nat) : Int) = 0 := rfl
  rw [e0] at h7
  rw [h7]
  simp only [Option.bind_some]
  rw [s1]
  simp only [Option.bind_some]
  have e2 : ((List.replicate n (rat ((a : Int) / (d : Rat)))).drop 0).take (((15 : Int) - (0 : Int)).toNat) = List.replicate 15 (rat ((a : Int) / (d : Rat))) := by
    rw [List.drop_zero, List.take_replicate]
    congr 1
    show min 15 n = 15
    omega
  rw [cond_t (slOk_t (by omega) (by omega) (by rw [List.length_replicate]; omega)), e2, s2]
  simp only [Option.bind_some]
  rw [hv, w2, w3]
  have bsome : ∀ x : Option Bool, x = some true → (x.bind fun o => some o) = some true := fun x hx => by rw [hx]; rfl
  rcases hd with rfl | rfl
  · have h1 := hall.1
    have h2 := hall15.1
    have hm : (a : Int).tmod 2 = 0 ∨ (2 : Int) = 2 := .inr rfl
    have k2 : okSame ((a : Int) / ((2 : Int) : Rat)) 15 = if (a : Int).tmod 2 = 0 ∨ (2 : Int) = 2 then decide (15 * (a : Int) ≤ 1024 * 2) else false := by
      rw [if_pos hm, h2, Bool.eq_iff_iff, Bool.and_eq_true, decide_eq_true_eq, decide_eq_true_eq, decide_eq_true_eq]
      omega
    by_cases h64 : n ≤ 64
    · have k1 : decide (((n * a : Nat) : Int) ≤ 1024 * 2) = okSame ((a : Int) / ((2 : Int) : Rat)) n := by
        rw [h1, Bool.eq_iff_iff, Bool.and_eq_true, decide_eq_true_eq, decide_eq_true_eq, decide_eq_true_eq]
        omega
      have hj := j14_ok (v1 := v1) (.inl rfl) hv ha k1 k2
      rw [dec_t (by omega), dec_f (by omega)]
      by_cases hdv : (a : Int).tmod 2 = 0
      · rw [dec_t hdv]; exact bsome _ hj
      · rw [dec_f hdv, dec_t rfl]; exact bsome _ hj
    · have k1 : false = okSame ((a : Int) / ((2 : Int) : Rat)) n := by rw [h1, decide_eq_false h64]; rfl
      have hj := j14_ok (v1 := v1) (.inl rfl) hv ha k1 k2
      rw [dec_f (by omega)]
      exact bsome _ hj
  · have h1 := hall.2
    have h2 := hall15.2
    have hmod : (a : Int).tmod 3 = 0 ↔ a % 3 = 0 := by
      rw [Int.tmod_eq_emod_of_nonneg (by omega)]
      omega
    have k2 : okSame ((a : Int) / ((3 : Int) : Rat)) 15 = if (a : Int).tmod 3 = 0 ∨ (3 : Int) = 2 then decide (15 * (a : Int) ≤ 1024 * 3) else false := by
      rw [h2]
      by_cases hdv : (a : Int).tmod 3 = 0
      · rw [if_pos (.inl hdv), decide_eq_true (hmod.1 hdv), Bool.true_and, Bool.eq_iff_iff, Bool.and_eq_true, decide_eq_true_eq, decide_eq_true_eq, decide_eq_true_eq]
        omega
      · rw [if_neg (by intro h; rcases h with h | h; exact hdv h; omega), decide_eq_false (fun h => hdv (hmod.2 h))]; rfl
    by_cases h64 : n ≤ 64
    · rw [dec_t (by omega), dec_f (by omega)]
      by_cases hdv : (a : Int).tmod 3 = 0
      · have k1 : decide (((n * a : Nat) : Int) ≤ 1024 * 3) = okSame ((a : Int) / ((3 : Int) : Rat)) n := by
          rw [h1, decide_eq_true (hmod.1 hdv), Bool.true_and, Bool.eq_iff_iff, Bool.and_eq_true, decide_eq_true_eq, decide_eq_true_eq, decide_eq_true_eq]
          omega
        rw [dec_t hdv]
        exact bsome _ (j14_ok (v1 := v1) (.inr rfl) hv ha k1 k2)
      · have k1 : false = okSame ((a : Int) / ((3 : Int) : Rat)) n := by rw [h1, decide_eq_false (fun h => hdv (hmod.2 h))]; rfl
        rw [dec_f hdv, dec_f (by omega)]
        exact bsome _ (j14_ok (v1 := v1) (.inr rfl) hv ha k1 k2)
    · have k1 : false = okSame ((a : Int) / ((3 : Int) : Rat)) n := by rw [h1, decide_eq_false h64, Bool.false_and, Bool.and_false]
      rw [dec_f (by omega)]
      exact bsome _ (j14_ok (v1 := v1) (.inr rfl) hv ha k1 k2)

theorem wf_u8 {n : Int} (h : (Lit.int .u8 n).wf = true) : 0 ≤ n ∧ n < 256 := by
  simp only [Lit.wf, IntKind.min, IntKind.max, IntKind.signed, IntKind.bits, Bool.and_eq_true, decide_eq_true_eq] at h
  simp at h
  omega

theorem law_small {x y : Int} (b : Bool) (hx : 0 ≤ x ∧ x < 256) (hy : 0 ≤ y ∧ y < 256) : robuststatslaw30_PermutationSmall x y b = some true := by
  have w0 : IntKind.i64.wrap x = x := i64_id (by omega) (by omega)
  have hm1 := Int.tmod_eq_emod_of_nonneg (b := 51) hx.1
  have hm2 := Int.tmod_eq_emod_of_nonneg (b := 65) hy.1
  have w1 : IntKind.i64.wrap (15 + x.tmod 51) = ((15 + x % 51).toNat : Int) := by rw [hm1, i64_id (by omega) (by omega)]; omega
  have hv : IntKind.i64.wrap (y.tmod 65) = (((y % 65).toNat : Nat) : Int) := by rw [hm2, i64_id (by omega) (by omega)]; omega
  have h15 : 15 ≤ (15 + x % 51).toNat := by omega
  have h65 : (15 + x % 51).toNat ≤ 65 := by omega
  unfold robuststatslaw30_PermutationSmall
  rw [w0, w1, cond_t (mkOk_t (by omega) (by omega) (by omega))]
  simp only [toNat_nat]
  cases b with
  | true =>
    rw [cond_true, small_j6 (.inr rfl) hv (by omega) h15 h65]
    rfl
  | false =>
    rw [cond_false, small_j6 (.inl rfl) hv (by omega) h15 h65]
    rfl
end Go.ZL
end

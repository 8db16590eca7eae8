/- Plain arithmetic on those functions of values: what they reckon; no conditions beyond those each theorem names. -/
import Derived.Test.YtkfanmghjedgpaaGreatZL1
import Derived.Test.YtkfanmghjedgpaaGreatZA1
set_option linter.unusedVariables false
set_option linter.unusedSimpArgs false
set_option linter.unusedSectionVars false
section
/- Distributions of sums of subsets. -/
namespace Go.ZL
open Go Go.ZM Go.ZS

def Asc (l : List AQ) : Prop := l.Pairwise fun a b => a.1 < b.1
def Pos (l : List AQ) : Prop := ∀ a ∈ l, 0 < a.2

theorem mergeQ_mem : ∀ (a b : List AQ) (z : AQ), z ∈ mergeQ a b → (∃ x ∈ a, z.1 = x.1) ∨ ∃ y ∈ b, z.1 = y.1
  | [], b, z, h => by rw [mergeQ_nil] at h; exact .inr ⟨z, h, rfl⟩
  | x :: a, [], z, h => by rw [mergeQ_nil'] at h; exact .inl ⟨z, h, rfl⟩
  | x :: a, y :: b, z, h => by
    rw [mergeQ_cons] at h
    split at h
    · rcases List.mem_cons.1 h with rfl | h
      · exact .inl ⟨z, List.mem_cons_self .., rfl⟩
      · rcases mergeQ_mem a (y :: b) z h with ⟨w, hw, e⟩ | h'
        · exact .inl ⟨w, List.mem_cons_of_mem _ hw, e⟩
        · exact .inr h'
    · split at h
      · rcases List.mem_cons.1 h with rfl | h
        · exact .inr ⟨z, List.mem_cons_self .., rfl⟩
        · rcases mergeQ_mem (x :: a) b z h with h' | ⟨w, hw, e⟩
          · exact .inl h'
          · exact .inr ⟨w, List.mem_cons_of_mem _ hw, e⟩
      · rcases List.mem_cons.1 h with rfl | h
        · exact .inl ⟨x, List.mem_cons_self .., rfl⟩
        · rcases mergeQ_mem a b z h with ⟨w, hw, e⟩ | ⟨w, hw, e⟩
          · exact .inl ⟨w, List.mem_cons_of_mem _ hw, e⟩
          · exact .inr ⟨w, List.mem_cons_of_mem _ hw, e⟩
 termination_by a b => a.length + b.length

theorem mergeQ_pos : ∀ (a b : List AQ), Pos a → Pos b → Pos (mergeQ a b)
  | [], b, _, h => by rw [mergeQ_nil]; exact h
  | x :: a, [], h, _ => by rw [mergeQ_nil']; exact h
  | x :: a, y :: b, ha, hb => by
    have hx := ha x (List.mem_cons_self ..)
    have hy := hb y (List.mem_cons_self ..)
    have ha' : Pos a := fun z hz => ha z (List.mem_cons_of_mem _ hz)
    have hb' : Pos b := fun z hz => hb z (List.mem_cons_of_mem _ hz)
    rw [mergeQ_cons]
    have cons : ∀ (z : AQ) (l : List AQ), 0 < z.2 → Pos l → Pos (z :: l) := fun z l h1 h2 w hw => by
      rcases List.mem_cons.1 hw with rfl | hw
      · exact h1
      · exact h2 w hw
    split
    · exact cons _ _ hx (mergeQ_pos a (y :: b) ha' hb)
    · split
      · exact cons _ _ hy (mergeQ_pos (x :: a) b ha hb')
      · exact cons _ _ (by show 0 < x.2 + y.2; omega) (mergeQ_pos a b ha' hb')
 termination_by a b => a.length + b.length

theorem mergeQ_tot : ∀ (a b : List AQ), totQ (mergeQ a b) = totQ a + totQ b
  | [], b => by rw [mergeQ_nil]; simp [totQ]
  | x :: a, [] => by rw [mergeQ_nil']; simp [totQ]
  | x :: a, y :: b => by
    rw [mergeQ_cons]
    split
    · rw [totQ_cons, mergeQ_tot a (y :: b), totQ_cons, totQ_cons]; omega
    · split
      · rw [totQ_cons, mergeQ_tot (x :: a) b, totQ_cons, totQ_cons]; omega
      · rw [totQ_cons, mergeQ_tot a b, totQ_cons, totQ_cons]; omega
 termination_by a b => a.length + b.length

theorem mergeQ_asc : ∀ (a b : List AQ), Asc a → Asc b → Asc (mergeQ a b)
  | [], b, _, h => by rw [mergeQ_nil]; exact h
  | x :: a, [], h, _ => by rw [mergeQ_nil']; exact h
  | x :: a, y :: b, ha, hb => by
    obtain ⟨ha1, ha2⟩ := List.pairwise_cons.1 ha
    obtain ⟨hb1, hb2⟩ := List.pairwise_cons.1 hb
    rw [mergeQ_cons]
    split
    · rename_i hlt
      refine List.pairwise_cons.2 ⟨fun z hz => ?_, mergeQ_asc a (y :: b) ha2 hb⟩
      rcases mergeQ_mem a (y :: b) z hz with ⟨w, hw, e⟩ | ⟨w, hw, e⟩
      · rw [e]; exact ha1 w hw
      · rw [e]
        rcases List.mem_cons.1 hw with rfl | hw
        · exact hlt
        · have := hb1 w hw; grind
    · split
      · rename_i _ hlt
        refine List.pairwise_cons.2 ⟨fun z hz => ?_, mergeQ_asc (x :: a) b ha hb2⟩
        rcases mergeQ_mem (x :: a) b z hz with ⟨w, hw, e⟩ | ⟨w, hw, e⟩
        · rw [e]
          rcases List.mem_cons.1 hw with rfl | hw
          · exact hlt
          · have := ha1 w hw; grind
        · rw [e]; exact hb1 w hw
      · rename_i h1 h2
        have he : x.1 = y.1 := by grind
        refine List.pairwise_cons.2 ⟨fun z hz => ?_, mergeQ_asc a b ha2 hb2⟩
        show x.1 < z.1
        rcases mergeQ_mem a b z hz with ⟨w, hw, e⟩ | ⟨w, hw, e⟩
        · rw [e]; exact ha1 w hw
        · rw [e, he]; exact hb1 w hw
 termination_by a b => a.length + b.length

theorem shiftQ_asc {l : List AQ} (h : Asc l) (x : Rat) : Asc (shiftQ l x) := by
  unfold shiftQ Asc
  rw [List.pairwise_map]
  exact h.imp fun {a b} hab => by show a.1 + x < b.1 + x; grind
theorem shiftQ_pos {l : List AQ} (h : Pos l) (x : Rat) : Pos (shiftQ l x) := by
  intro z hz
  obtain ⟨a, ha, rfl⟩ := List.mem_map.1 hz
  exact h a ha
theorem shiftQ_tot (l : List AQ) (x : Rat) : totQ (shiftQ l x) = totQ l := by unfold totQ shiftQ; rw [List.map_map]; rfl
theorem shiftQ_len (l : List AQ) (x : Rat) : (shiftQ l x).length = l.length := List.length_map ..

theorem validQ_of : ∀ (l : List AQ) (p : Option Rat), Asc l → Pos l → (∀ q, p = some q → ∀ a ∈ l, q < a.1) → validQ p l = true
  | [], p, _, _, _ => by cases p <;> rfl
  | a :: l, p, h1, h2, h3 => by
    obtain ⟨g1, g2⟩ := List.pairwise_cons.1 h1
    have ih := validQ_of l (some a.1) g2 (fun z hz => h2 z (List.mem_cons_of_mem _ hz)) (fun q hq z hz => by injection hq with hq; subst hq; exact g1 z hz)
    have hp := h2 a (List.mem_cons_self ..)
    cases p with
    | none => simp [validQ, hp, ih]
    | some q => simp [validQ, hp, ih, h3 q rfl a (List.mem_cons_self ..)]

theorem pos_le_tot : ∀ (l : List AQ), Pos l → (l.length : Int) ≤ totQ l ∧ ∀ a ∈ l, a.2 ≤ totQ l
  | [], _ => ⟨by simp [totQ], fun a ha => by cases ha⟩
  | x :: l, h => by
    obtain ⟨h1, h2⟩ := pos_le_tot l fun z hz => h z (List.mem_cons_of_mem _ hz)
    have hx := h x (List.mem_cons_self ..)
    rw [totQ_cons]
    refine ⟨by rw [List.length_cons]; omega, fun a ha => ?_⟩
    rcases List.mem_cons.1 ha with rfl | ha
    · omega
    · have := h2 a ha; omega

/-- the sums of k of the scores (the last score first), with how often each occurs -/
def subR : List Rat → Nat → List AQ
  | _, 0 => [(0, 1)]
  | [], _ + 1 => []
  | x :: ps, k + 1 => mergeQ (subR ps (k + 1)) (shiftQ (subR ps k) x)

theorem subR_zero (ps : List Rat) : subR ps 0 = [(0, 1)] := by cases ps <;> rfl
theorem subR_big : ∀ (ps : List Rat) (k : Nat), ps.length < k → subR ps k = []
  | [], k + 1, _ => rfl
  | x :: ps, k + 1, h => by
    simp only [List.length_cons] at h
    show mergeQ (subR ps (k + 1)) (shiftQ (subR ps k) x) = []
    rw [subR_big ps (k + 1) (by omega), subR_big ps k (by omega), mergeQ_nil]; rfl

structure SubOk (D M : Nat) (ps : List Rat) (l : List AQ) : Prop where
  asc : Asc l
  pos : Pos l
  tot : totQ l ≤ 2 ^ ps.length
  tot0 : 0 ≤ totQ l
  dm : ∀ a ∈ l, Dm D (ps.length * M) a.1

theorem subR_ok {D M : Nat} (hD : 0 < D) : ∀ (ps : List Rat) (k : Nat), (∀ x ∈ ps, Dm D M x) → SubOk D M ps (subR ps k)
  | ps, 0, _ => by
    rw [subR_zero]
    refine ⟨List.pairwise_singleton _ _, fun a ha => ?_, ?_, by decide, fun a ha => ?_⟩
    · rw [List.mem_singleton.1 ha]; decide
    · have : (0 : Int) < 2 ^ ps.length := Int.pow_pos (by decide)
      exact this
    · rw [List.mem_singleton.1 ha]; exact Dm.zero _ _
  | [], k + 1, _ => ⟨List.Pairwise.nil, (fun a ha => by cases ha), (show totQ ([] : List AQ) ≤ 2 ^ 0 by decide), (show 0 ≤ totQ ([] : List AQ) by decide), (fun a ha => by cases ha)⟩
  | x :: ps, k + 1, h => by
    have h1 := subR_ok hD ps (k + 1) fun y hy => h y (List.mem_cons_of_mem _ hy)
    have h2 := subR_ok hD ps k fun y hy => h y (List.mem_cons_of_mem _ hy)
    have hx := h x (List.mem_cons_self ..)
    show SubOk D M (x :: ps) (mergeQ (subR ps (k + 1)) (shiftQ (subR ps k) x))
    refine ⟨mergeQ_asc _ _ h1.asc (shiftQ_asc h2.asc x), mergeQ_pos _ _ h1.pos (shiftQ_pos h2.pos x), ?_, ?_, fun a ha => ?_⟩
    · rw [mergeQ_tot, shiftQ_tot, List.length_cons, Int.pow_succ]
      have := h1.tot
      have := h2.tot
      omega
    · rw [mergeQ_tot, shiftQ_tot]
      have := h1.tot0
      have := h2.tot0
      omega
    · rw [List.length_cons, Nat.add_mul, Nat.one_mul]
      rcases mergeQ_mem _ _ a ha with ⟨w, hw, e⟩ | ⟨w, hw, e⟩
      · rw [e]; exact (h1.dm w hw).mono (by omega)
      · obtain ⟨u, hu, rfl⟩ := List.mem_map.1 hw
        rw [e]
        exact (h2.dm u hu).add hD hx

/-- scores of bounded size -/
structure Scores (xs : List RR) (D M d m : Nat) : Prop where
  sz : ∀ x ∈ xs, Sz x
  D0 : 0 < D
  Dd : D ≤ 4294967296 ^ d
  Mm : M ≤ 4294967296 ^ m
  small : d + m ≤ 50000
  dm : ∀ x ∈ xs, Dm D M (valR x)
  len : xs.length ≤ 14

section
variable {xs : List RR} {D M d m : Nat}
theorem Scores.sub (h : Scores xs D M d m) {ps : List Rat} (hp : ∀ x ∈ ps, Dm D M x) (hl : ps.length ≤ 14) (k : Nat) : (∀ a ∈ subR ps k, AB 100000 a) ∧ (subR ps k).length ≤ 16384 := by
  have ho := subR_ok h.D0 ps k hp
  obtain ⟨h1, h2⟩ := pos_le_tot _ ho.pos
  have hs := h.small
  have ht := ho.tot
  have h14 : (2 : Int) ^ ps.length ≤ 2 ^ 14 := by have := Nat.pow_le_pow_right (show 0 < 2 by decide) hl; exact_mod_cast this
  have e14 : (2 : Int) ^ 14 = 16384 := by decide
  refine ⟨fun a ha => ⟨?_, ?_⟩, by omega⟩
  · have hm : ps.length * M ≤ 4294967296 ^ (m + 1) := by
      have := Nat.mul_le_mul (show ps.length ≤ 4294967296 by omega) h.Mm
      rwa [← Bpow_succ] at this
    exact ((ho.dm a ha).bd h.D0 h.Dd hm).mono (by omega)
  · have g1 := h2 a ha
    have g2 := ho.pos a ha
    exact Nat.le_trans (ln_i64 (by omega) (by omega)) (by omega)

/-- the row of sums: which of them are new -/
def rowQ (ps : List Rat) (x : Rat) (k0 mm : Nat) : List (List AR) := (List.range (mm + 1)).map fun j => (if k0 < j then subR (x :: ps) j else subR ps j).map enc

theorem rowQ_len (ps : List Rat) (x : Rat) (k0 mm : Nat) : (rowQ ps x k0 mm).length = mm + 1 := by simp [rowQ]
theorem rowQ_get (ps : List Rat) (x : Rat) (k0 : Nat) {mm j : Nat} (h : j < mm + 1) : (rowQ ps x k0 mm)[j]? = some ((if k0 < j then subR (x :: ps) j else subR ps j).map enc) := by
  simp [rowQ, h]
theorem rowQ_set (ps : List Rat) (x : Rat) {k mm : Nat} (h : k + 1 < mm + 1) : (rowQ ps x (k + 1) mm).set (k + 1) ((subR (x :: ps) (k + 1)).map enc) = rowQ ps x k mm := by
  refine List.ext_getElem? fun j => ?_
  rw [List.getElem?_set]
  by_cases hj : j < mm + 1
  · rw [rowQ_get _ _ _ hj, rowQ_get _ _ _ hj, rowQ_len]
    by_cases e : k + 1 = j
    · subst e
      simp [h]
    · rw [if_neg e]
      by_cases h1 : k + 1 < j
      · rw [if_pos h1, if_pos (by omega)]
      · rw [if_neg h1, if_neg (by omega)]
  · have e1 : (rowQ ps x (k + 1) mm)[j]? = none := List.getElem?_eq_none (by rw [rowQ_len]; omega)
    have e2 : (rowQ ps x k mm)[j]? = none := List.getElem?_eq_none (by rw [rowQ_len]; omega)
    rw [e1, e2, if_neg (by omega)]

theorem sub_L11 (h : Scores xs D M d m) {ps : List Rat} (hp : ∀ x ∈ ps, Dm D M x) (hl : ps.length ≤ 13) {x : RR} (hx : x ∈ xs) (v1 : Int) (v29 : List RR) (v30 v31 : Int) {mm : Nat} (hmm : mm ≤ 14) : ∀ (k : Nat), k ≤ mm →
    permutation_Subsets.L11 v1 (rowQ ps (valR x) k mm) x (k : Int) v29 v30 v31 = some (v1, rowQ ps (valR x) 0 mm, v29, v30, v31)
  | 0, _ => by rw [permutation_Subsets.L11_eq, dec_f (by omega)]
  | k + 1, hk => by
    obtain ⟨a1, a2⟩ := h.sub hp (by omega) (k + 1)
    obtain ⟨b1, b2⟩ := h.sub hp (by omega) k
    have g1 := rowQ_get ps (valR x) (k + 1) (mm := mm) (j := k + 1) (by omega)
    have g0 := rowQ_get ps (valR x) (k + 1) (mm := mm) (j := k) (by omega)
    rw [if_neg (by omega)] at g1 g0
    have e1 : IntKind.i64.wrap (((k + 1 : Nat) : Int) - 1) = (k : Int) := by rw [i64_id (by omega) (by omega)]; omega
    rw [permutation_Subsets.L11_eq, dec_t (by omega), e1]
    simp only [toNat_nat]
    rw [cond_t (inb_t (by omega) (by rw [rowQ_len]; omega)), g1]
    simp only [Option.bind_some]
    rw [cond_t (inb_t (by omega) (by rw [rowQ_len]; omega)), g0]
    simp only [Option.bind_some]
    rw [shift_eq (k := 100000) (by omega) (h.sz x hx) (by omega) b1]
    simp only [Option.bind_some]
    have sb : ∀ z ∈ shiftQ (subR ps k) (valR x), AB 300000 z := by
      intro z hz
      obtain ⟨a, ha, rfl⟩ := List.mem_map.1 hz
      have hxb : Bd 100000 (valR x) := by
        have hs := h.small
        exact ((h.dm x hx).bd h.D0 h.Dd h.Mm).mono (by omega)
      exact ⟨((b1 a ha).1.add hxb).mono (by omega), Nat.le_trans (b1 a ha).2 (by omega)⟩
    rw [merge_eq (k := 300000) (by omega) (fun z hz => (a1 z hz).mono (by omega)) sb (by rw [shiftQ_len]; omega)]
    simp only [Option.bind_some]
    rw [cond_t (inb_t (by omega) (by rw [rowQ_len]; omega))]
    have e2 : (rowQ ps (valR x) (k + 1) mm).set (k + 1) ((mergeQ (subR ps (k + 1)) (shiftQ (subR ps k) (valR x))).map enc) = rowQ ps (valR x) k mm := rowQ_set ps (valR x) (by omega)
    rw [e2]
    exact sub_L11 h hp hl hx v1 v29 v30 v31 hmm k (by omega)

theorem rowQ_start (ps : List Rat) (x : Rat) {k0 mm : Nat} (h : ps.length + 1 ≤ k0 ∨ mm ≤ k0) : rowQ ps x k0 mm = (List.range (mm + 1)).map fun j => (subR ps j).map enc := by
  unfold rowQ
  refine List.map_congr_left fun j hj => ?_
  rw [List.mem_range] at hj
  split
  · rw [subR_big ps j (by omega), subR_big (x :: ps) j (by simp; omega)]
  · rfl
theorem rowQ_end (ps : List Rat) (x : Rat) (mm : Nat) : rowQ ps x 0 mm = (List.range (mm + 1)).map fun j => (subR (x :: ps) j).map enc := by
  unfold rowQ
  refine List.map_congr_left fun j hj => ?_
  split
  · rfl
  · have : j = 0 := by omega
    subst this
    rw [subR_zero, subR_zero]

theorem minI_nat (a b : Nat) : minI (a : Int) (b : Int) = ((min a b : Nat) : Int) := by unfold minI; split <;> omega

theorem sub_L8 (h : Scores xs D M d m) {mm : Nat} (hmm : mm ≤ 14) : ∀ (e n : Nat), n + e = xs.length →
    permutation_Subsets.L8 (mm : Int) ((List.range (mm + 1)).map fun j => (subR (((xs.take n).map valR).reverse) j).map enc) xs (xs.length : Int) (n : Int) =
      some ((mm : Int), (List.range (mm + 1)).map fun j => (subR ((xs.map valR).reverse) j).map enc)
  | 0, n, hd => by
    rw [permutation_Subsets.L8_eq, dec_f (by omega), List.take_of_length_le (by omega)]
  | e + 1, n, hd => by
    have hn : n < xs.length := by omega
    have hm := List.getElem_mem hn
    have hlen := h.len
    have hp : ∀ x ∈ ((xs.take n).map valR).reverse, Dm D M x := by
      intro x hx
      obtain ⟨y, hy, rfl⟩ := List.mem_map.1 (List.mem_reverse.1 hx)
      exact h.dm y (List.mem_of_mem_take hy)
    have hpl : (((xs.take n).map valR).reverse).length = n := by simp; omega
    have e1 : IntKind.i64.wrap ((n : Int) + 1) = ((n + 1 : Nat) : Int) := i64_id (by omega) (by omega)
    rw [permutation_Subsets.L8_eq, dec_t (by omega), bind_idx rfl hn, e1, minI_nat]
    have h11 := sub_L11 h hp (by omega) hm (mm : Int) xs (xs.length : Int) (n : Int) hmm (min (n + 1) mm) (by omega)
    rw [rowQ_start _ _ (by omega), rowQ_end] at h11
    rw [h11]
    simp only [Option.bind_some]
    rw [e1]
    have e2 : valR xs[n] :: ((xs.take n).map valR).reverse = ((xs.take (n + 1)).map valR).reverse := by
      rw [List.take_add_one, List.getElem?_eq_getElem hn]
      simp only [Option.toList_some, List.map_append, List.map_cons, List.map_nil, List.reverse_append, List.reverse_cons, List.reverse_nil, List.nil_append, List.singleton_append]
    rw [e2]
    exact sub_L8 h hmm e (n + 1) (by omega)

theorem small_few (h : xs.length ≤ 14) : permutation_small xs = some true := by
  unfold permutation_small
  rw [dec_t (by omega)]

def subsetsQ (l : List Rat) (k : Nat) : List AQ := subR l.reverse k

theorem subsets_eq (h : Scores xs D M d m) {mm : Nat} (hmm : mm ≤ xs.length) : permutation_Subsets xs (mm : Int) = some ((subsetsQ (xs.map valR) mm).map enc, 0) := by
  have hlen := h.len
  unfold permutation_Subsets
  rw [small_few hlen]
  simp only [Option.bind_some]
  have e1 : IntKind.i64.wrap ((mm : Int) + 1) = ((mm + 1 : Nat) : Int) := i64_id (by omega) (by omega)
  have hone : permutation_one = some (int 1) := by unfold permutation_one; rw [iFromInt_eq (by omega) (by omega)]; rfl
  rw [Bool.not_true, cond_false, dec_f (by omega), dec_f (by omega), e1, cond_t (mkOk_t (by omega) (by omega) (by omega)), hone]
  simp only [Option.bind_some, toNat_nat]
  rw [cond_t (inb_t (by omega) (by simp))]
  have e2 : ((List.replicate (mm + 1) ([] : List AR))[(0 : Int).toNat]?) = some [] := by simp
  rw [e2]
  simp only [Option.bind_some]
  have e3 : (List.replicate (mm + 1) ([] : List AR)).set ((0 : Int).toNat) [(((false, ([] : List Int)), ([] : List Int)), int 1)] = (List.range (mm + 1)).map fun j => (subR [] j).map enc := by
    rw [← zero_rat]
    refine List.ext_getElem? fun j => ?_
    rw [List.getElem?_set]
    by_cases hj : j < mm + 1
    · rcases Nat.eq_zero_or_pos j with rfl | hj0
      · simp [subR_zero, enc]
      · have : ¬ (0 : Int).toNat = j := by simp; omega
        obtain ⟨i, rfl⟩ : ∃ i, j = i + 1 := ⟨j - 1, by omega⟩
        rw [if_neg this]
        simp [hj, subR]
    · have : ¬ (0 : Int).toNat = j := by simp; omega
      rw [if_neg this]
      simp [hj]
  rw [e3]
  have h8 := sub_L8 h (mm := mm) (by omega) xs.length 0 (by omega)
  have e0 : ((0 : Nat) : Int) = 0 := rfl
  rw [e0, List.take_zero, List.map_nil, List.reverse_nil] at h8
  rw [h8]
  simp only [Option.bind_some, toNat_nat]
  rw [cond_t (inb_t (by omega) (by simp <;> omega))]
  have e4 : ((List.range (mm + 1)).map fun j => (subR ((xs.map valR).reverse) j).map enc)[mm]? = some ((subR ((xs.map valR).reverse) mm).map enc) := by simp
  rw [e4]
  simp only [Option.bind_some]
  have hp : ∀ x ∈ (xs.map valR).reverse, Dm D M x := by
    intro x hx
    obtain ⟨y, hy, rfl⟩ := List.mem_map.1 (List.mem_reverse.1 hx)
    exact h.dm y hy
  obtain ⟨a1, a2⟩ := h.sub hp (by simp; omega) mm
  rw [fresh_eq (k := 100000) (by omega) (by omega) a1]
  rfl
end
end Go.ZL
end

section
/- The rank test of sums on few scores, and the laws' own example. -/
namespace Go.ZL
open Go Go.ZM Go.ZS

theorem subR_one : ∀ (ps : List Rat) (k : Nat), k ≤ ps.length → (∀ j, 0 ≤ totQ (subR ps j)) → 1 ≤ totQ (subR ps k)
  | ps, 0, _, _ => by rw [subR_zero]; decide
  | [], k + 1, h, _ => by simp at h
  | x :: ps, k + 1, h, _ => by
    have hp : ∀ (ps : List Rat) (j : Nat), 0 ≤ totQ (subR ps j) := by
      intro ps
      induction ps with
      | nil => intro j; cases j with | zero => decide | succ j => exact Int.le_refl 0
      | cons y qs ih =>
        intro j
        cases j with
        | zero => rw [subR_zero]; decide
        | succ j =>
          show 0 ≤ totQ (mergeQ (subR qs (j + 1)) (shiftQ (subR qs j) y))
          rw [mergeQ_tot, shiftQ_tot]
          have := ih (j + 1)
          have := ih j
          omega
    show 1 ≤ totQ (mergeQ (subR ps (k + 1)) (shiftQ (subR ps k) x))
    rw [mergeQ_tot, shiftQ_tot]
    have h1 := subR_one ps k (by simpa using h) (hp ps)
    have h2 := hp ps (k + 1)
    omega

section
variable {ps : List Rat} {D M d m : Nat}
/-- the sums of subsets as a distribution -/
theorem sub_dist (hD : 0 < D) (hDd : D ≤ 4294967296 ^ d) (hM : M ≤ 4294967296 ^ m) (hs : d + m ≤ 5000) (hp : ∀ x ∈ ps, Dm D M x) (hl : ps.length ≤ 14) {k : Nat} (hk : k ≤ ps.length) :
    Dist ((subR ps k).map enc) D (ps.length * M) d (m + 1) 1 (totQ (subR ps k)) ∧ checkQ (subR ps k) = 0 ∧ (subR ps k).length ≤ 16384 ∧ 1 ≤ totQ (subR ps k) ∧ totQ (subR ps k) ≤ 16384 := by
  have ho := subR_ok hD ps k hp
  have h14 : (2 : Int) ^ ps.length ≤ 2 ^ 14 := by have := Nat.pow_le_pow_right (show 0 < 2 by decide) hl; exact_mod_cast this
  have e14 : (2 : Int) ^ 14 = 16384 := by decide
  have ht := ho.tot
  obtain ⟨hn1, hn2⟩ := pos_le_tot _ ho.pos
  have h1 : 1 ≤ totQ (subR ps k) := by
    refine subR_one ps k hk fun j => (subR_ok hD ps j hp).tot0
  have hmm : ps.length * M ≤ 4294967296 ^ (m + 1) := by
    have := Nat.mul_le_mul (show ps.length ≤ 4294967296 by omega) hM
    rwa [← Bpow_succ] at this
  refine ⟨⟨?_, by rw [List.length_map]; omega, hD, hDd, hmm, by omega, by rw [Int.pow_one]; omega, by omega, ?_⟩, ?_, by omega, h1, by omega⟩
  · intro x hx
    obtain ⟨a, ha, rfl⟩ := List.mem_map.1 hx
    have g := hn2 a ha
    have gp := ho.pos a ha
    exact AB.aw ⟨((ho.dm a ha).bd hD hDd hmm).mono (by omega), Nat.le_trans (ln_i64 (by omega) (by omega)) (by omega)⟩
  · intro x hx
    obtain ⟨a, ha, rfl⟩ := List.mem_map.1 hx
    have g := hn2 a ha
    have gp := ho.pos a ha
    show Dm D _ (valR (rat a.1)) ∧ 0 ≤ valI (int a.2) ∧ valI (int a.2) ≤ _
    rw [valR_rat, valI_int]
    exact ⟨ho.dm a ha, by omega, g⟩
  · unfold checkQ
    rw [validQ_of _ none ho.asc ho.pos (fun q hq => by cases hq), Bool.and_true, decide_eq_true (by omega), if_pos rfl, if_neg (fun e => by rw [e] at h1; exact absurd h1 (by decide))]

def sumQ (l : List Rat) : Rat := l.foldl (· + ·) 0

theorem sumQ_dm (hD : 0 < D) {l : List Rat} (hx : ∀ x ∈ l, Dm D M x) : ∀ n, n ≤ l.length → Dm D (n * M) (sumQ (l.take n))
  | 0, _ => Dm.zero _ _
  | n + 1, hn => by
    unfold sumQ
    rw [foldl_take _ _ _ (by omega), Nat.add_mul, Nat.one_mul]
    exact (sumQ_dm hD hx n (by omega)).add hD (hx _ (List.getElem_mem (by omega)))

theorem eSum_L3 {xs : List RR} (hl : xs.length ≤ 1000000) (hz : ∀ x ∈ xs, Sz x) (ht : ∀ n, n ≤ xs.length → Sz (rat (sumQ ((xs.map valR).take n)))) (v2 : RR) :
    ∀ (e n : Nat), n + e = xs.length → exact_Sum.L3 v2 (rat (sumQ ((xs.map valR).take n))) xs (xs.length : Int) (n : Int) = some (v2, rat (sumQ (xs.map valR)))
  | 0, n, hd => by rw [exact_Sum.L3_eq, dec_f (by omega), List.take_of_length_le (by rw [List.length_map]; omega)]
  | e + 1, n, hd => by
    have hn : n < xs.length := by omega
    have hm := List.getElem_mem hn
    have e1 : IntKind.i64.wrap ((n : Int) + 1) = ((n + 1 : Nat) : Int) := i64_id (by omega) (by omega)
    rw [exact_Sum.L3_eq, dec_t (by omega), bind_idx rfl hn, qAdd (ht n (by omega)) (hz _ hm), valR_rat, e1]
    simp only [Option.bind_some]
    have : sumQ ((xs.map valR).take n) + valR xs[n] = sumQ ((xs.map valR).take (n + 1)) := by
      unfold sumQ
      rw [foldl_take _ _ _ (by rw [List.length_map]; omega), List.getElem_map]
    rw [this]
    exact eSum_L3 hl hz ht v2 e (n + 1) (by omega)

theorem eSum_eq {xs : List RR} (hl : xs.length ≤ 1000000) (hz : ∀ x ∈ xs, Sz x) (ht : ∀ n, n ≤ xs.length → Sz (rat (sumQ ((xs.map valR).take n)))) : exact_Sum xs = some (rat (sumQ (xs.map valR))) := by
  unfold exact_Sum
  have h := eSum_L3 hl hz ht ((false, []), []) xs.length 0 (by omega)
  rw [List.take_zero, show sumQ [] = 0 from rfl, zero_rat] at h
  have e0 : ((0 : Nat) : Int) = 0 := rfl
  rw [e0] at h
  rw [h]
  rfl

abbrev SixR : Type := RR × RR × RR × RR × RR × RR
/-- what a test answers: the statistic, its mean and variance, and the three tails -/
def sixQ (l : List AQ) (v : Rat) : SixR := (rat v, rat (meanQ l), rat (varQ l), rat (tailQ l v 1), rat (tailQ l v 2), rat (tailQ l v 3))

theorem result_eq {l : List AR} {c : Nat} {N : Int} (h : Dist l D M d m c N) (hN : totQ (l.map valA) = N) (hc : checkQ (l.map valA) = 0) {v : RR} (hv : Rw 10000 v) :
    ranktest_result l v = some (sixQ (l.map valA) (valR v)) := by
  unfold ranktest_result exact_Clean
  rw [← zero_rat, qAdd (hv.mono (by omega)) (Bd.zero.sz (by omega)), valR_rat, Rat.add_zero]
  simp only [Option.bind_some]
  rw [moments_good h h.len hN hc]
  simp only [Option.bind_some]
  rw [tail_good h hN hc (.inl rfl) hv]
  simp only [Option.bind_some]
  rw [tail_good h hN hc (.inr (.inl rfl)) hv]
  simp only [Option.bind_some]
  rw [tail_good h hN hc (.inr (.inr rfl)) hv]
  rfl

theorem rank_dm {l : List Rat} (hl : l.length ≤ 1000) : ∀ x ∈ rankQ l, Dm 2 2000 x := by
  intro x hx
  obtain ⟨y, _, rfl⟩ := List.mem_map.1 hx
  have h1 := lessN_le l y
  have h2 := sameN_le l y
  exact ⟨((2 * lessN l y + sameN l y + 1 : Nat) : Int), rfl, by omega⟩

theorem copy_eq {xs : List RR} (h : xs.length ≤ 1000000) : api_Rat_ xs = some xs := by
  unfold api_Rat_
  rw [cond_t (apOk_t (by omega))]

theorem sum_eq {xs ys : List RR} (h1 : 1 ≤ xs.length) (h2 : 1 ≤ ys.length) (hl : xs.length + ys.length ≤ 14) (hx : ∀ x ∈ xs, Sz x) (hy : ∀ x ∈ ys, Sz x) :
    ranktest_Sum xs ys = some (sixQ (subsetsQ (rankQ ((xs ++ ys).map valR)) xs.length) (sumQ ((rankQ ((xs ++ ys).map valR)).take xs.length)), 0) := by
  have hxy : ∀ x ∈ xs ++ ys, Sz x := fun x h => (List.mem_append.1 h).elim (hx x) (hy x)
  have hlen : (xs ++ ys).length = xs.length + ys.length := List.length_append
  have e1 : IntKind.i64.wrap ((xs.length : Int) + (ys.length : Int)) = ((xs.length + ys.length : Nat) : Int) := i64_id (by omega) (by omega)
  unfold ranktest_Sum
  rw [dec_f (by omega), dec_f (by omega), e1, dec_f (by omega), copy_eq (by omega)]
  simp only [Option.bind_some]
  rw [cond_t (apOk_t (by omega)), rank_eq (by omega) hxy]
  simp only [Option.bind_some]
  have hrl : (rankQ ((xs ++ ys).map valR)).length = xs.length + ys.length := by rw [rankQ_len, List.length_map, hlen]
  have hdm := rank_dm (l := (xs ++ ys).map valR) (by rw [List.length_map]; omega)
  generalize hr : rankQ ((xs ++ ys).map valR) = r at hrl hdm
  have hsz : ∀ x ∈ r.map rat, Sz x := by
    intro x hx
    obtain ⟨y, hy, rfl⟩ := List.mem_map.1 hx
    exact ((hdm y hy).bd (by omega) (d := 1) (m := 1) (by omega) (by omega)).sz (by omega)
  have hsc : Scores (r.map rat) 2 2000 1 1 := ⟨hsz, by omega, by omega, by omega, by omega, (by
    intro x hx
    obtain ⟨y, hy, rfl⟩ := List.mem_map.1 hx
    rw [valR_rat]; exact hdm y hy), by rw [List.length_map]; omega⟩
  rw [subsets_eq hsc (by rw [List.length_map]; omega), map_valR_rat]
  simp only [Option.bind_some]
  simp only [decide_true, Bool.not_true, cond_false]
  rw [cond_t (slOk_t (by omega) (by omega) (by rw [List.length_map]; omega))]
  have e2 : ((r.map rat).drop 0).take (((xs.length : Int) - 0).toNat) = (r.take xs.length).map rat := by
    rw [List.drop_zero, List.map_take]
    congr 1
  have hsum : ∀ n, n ≤ r.length → Bd 3 (sumQ (r.take n)) := fun n hn => (sumQ_dm (by omega) hdm n hn).bd (by omega) (d := 1) (m := 1) (by omega) (by omega)
  rw [e2, eSum_eq (by rw [List.length_map, List.length_take]; omega) (fun x hx => by rw [List.map_take] at hx; exact hsz x (List.mem_of_mem_take hx)) (fun n hn => by
    rw [map_valR_rat, List.take_take]
    exact (hsum _ (by omega)).sz (by omega)), map_valR_rat]
  simp only [Option.bind_some]
  obtain ⟨g1, g2, g3, g4, g5⟩ := sub_dist (ps := r.reverse) (k := xs.length) (show 0 < 2 by omega) (d := 1) (m := 1) (M := 2000) (by omega) (by omega) (by omega) (fun x hx => hdm x (List.mem_reverse.1 hx)) (by rw [List.length_reverse]; omega) (by rw [List.length_reverse]; omega)
  have hv := (hsum xs.length (by omega)).rw
  unfold subsetsQ
  rw [result_eq g1 (by rw [map_valA_enc]) (by rw [map_valA_enc]; exact g2) (hv.mono (by omega)), map_valA_enc, valR_rat]
  rfl
end

/-! ### reckoning with small numbers -/
def mergeF : Nat → List AQ → List AQ → List AQ
  | 0, _, _ => []
  | _ + 1, [], b => b
  | _ + 1, a, [] => a
  | n + 1, x :: a, y :: b => if x.1 < y.1 then x :: mergeF n a (y :: b) else if y.1 < x.1 then y :: mergeF n (x :: a) b else (x.1, x.2 + y.2) :: mergeF n a b

theorem mergeF_eq : ∀ (n : Nat) (a b : List AQ), a.length + b.length < n → mergeF n a b = mergeQ a b
  | n + 1, [], b, _ => by rw [mergeQ_nil]; rfl
  | n + 1, x :: a, [], _ => by rw [mergeQ_nil']; rfl
  | n + 1, x :: a, y :: b, h => by
    simp only [List.length_cons] at h
    rw [mergeQ_cons]
    show (if _ then _ else if _ then _ else _) = _
    rw [mergeF_eq n a (y :: b) (by simp only [List.length_cons]; omega), mergeF_eq n (x :: a) b (by simp only [List.length_cons]; omega), mergeF_eq n a b (by omega)]

def subF : List Rat → Nat → List AQ
  | _, 0 => [(0, 1)]
  | [], _ + 1 => []
  | x :: ps, k + 1 => mergeF ((subF ps (k + 1)).length + (shiftQ (subF ps k) x).length + 1) (subF ps (k + 1)) (shiftQ (subF ps k) x)
theorem subF_eq : ∀ (ps : List Rat) (k : Nat), subF ps k = subR ps k
  | ps, 0 => by rw [subR_zero]; cases ps <;> rfl
  | [], k + 1 => rfl
  | x :: ps, k + 1 => by
    show mergeF _ _ _ = mergeQ _ _
    rw [mergeF_eq _ _ _ (by omega), subF_eq ps (k + 1), subF_eq ps k]
end Go.ZL
end

section
/- The laws of rank tests: their own example. -/
namespace Go.ZL
open Go Go.ZM Go.ZS

theorem ints_L3 {l : List Int} (hl : l.length ≤ 1000000) (h : ∀ x ∈ l, -9223372036854775808 ≤ x ∧ x < 9223372036854775808) : ∀ (e n : Nat), n + e = l.length →
    robuststatslaw31_ints.L3 ((l.take n).map fun x : Int => rat (x : Rat)) l (l.length : Int) (n : Int) = some (l.map fun x : Int => rat (x : Rat))
  | 0, n, hd => by rw [robuststatslaw31_ints.L3_eq, dec_f (by omega), List.take_of_length_le (by omega)]
  | e + 1, n, hd => by
    have hn : n < l.length := by omega
    have hm := h _ (List.getElem_mem hn)
    have e1 : IntKind.i64.wrap ((n : Int) + 1) = ((n + 1 : Nat) : Int) := i64_id (by omega) (by omega)
    rw [robuststatslaw31_ints.L3_eq, dec_t (by omega), bind_idx rfl hn, fFromInt_eq hm.1 hm.2, e1]
    simp only [Option.bind_some]
    rw [cond_t (apOk_t (by simp; omega))]
    have : (l.take n).map (fun x : Int => rat (x : Rat)) ++ [rat (l[n] : Rat)] = (l.take (n + 1)).map fun x : Int => rat (x : Rat) := by
      rw [List.take_add_one, List.getElem?_eq_getElem hn, List.map_append]
      rfl
    rw [this]
    exact ints_L3 hl h e (n + 1) (by omega)
theorem ints_eq {l : List Int} (hl : l.length ≤ 1000000) (h : ∀ x ∈ l, -9223372036854775808 ≤ x ∧ x < 9223372036854775808) : robuststatslaw31_ints l = some (l.map fun x : Int => rat (x : Rat)) := by
  unfold robuststatslaw31_ints
  have := ints_L3 hl h l.length 0 (by omega)
  have e0 : ((0 : Nat) : Int) = 0 := rfl
  rw [e0, List.take_zero, List.map_nil] at this
  rw [this]
  rfl

theorem ex_sub : subsetsQ [1, 2, 3, 4] 2 = [(3, 1), (4, 1), (5, 2), (6, 1), (7, 1)] := by
  unfold subsetsQ
  rw [← subF_eq]
  decide +kernel
theorem ex_rank : rankQ [1, 2, 3, 4] = [1, 2, 3, 4] := by decide +kernel
theorem ex_rank3 : rankQ [3, 1, 3] = [5/2, 1, 5/2] := by decide +kernel
theorem ex_less : tailQ [(3, 1), (4, 1), (5, 2), (6, 1), (7, 1)] 3 1 = 1/6 := by decide +kernel
theorem ex_two : tailQ [(3, 1), (4, 1), (5, 2), (6, 1), (7, 1)] 3 3 = 1/3 := by decide +kernel
theorem ex_sum : sumQ [1, 2] = 3 := by decide +kernel

theorem six_1 (l : List AQ) (v : Rat) : (sixQ l v).1 = rat v := rfl
theorem six_4 (l : List AQ) (v : Rat) : (sixQ l v).2.2.2.1 = rat (tailQ l v 1) := rfl
theorem six_6 (l : List AQ) (v : Rat) : (sixQ l v).2.2.2.2.2 = rat (tailQ l v 3) := rfl

theorem awake_eq : robuststatslaw31_awake = some true := by
  have sz : ∀ (l : List Int), (∀ x ∈ l, -9223372036854775808 ≤ x ∧ x < 9223372036854775808) → ∀ y ∈ l.map (fun x : Int => rat (x : Rat)), Sz y := by
    intro l h y hy
    obtain ⟨x, hx, rfl⟩ := List.mem_map.1 hy
    exact (Bd.i64 (h x hx).1 (h x hx).2).sz (by omega)
  have s313 : ∀ x ∈ ([3, 1, 3] : List Int), -9223372036854775808 ≤ x ∧ x < 9223372036854775808 := by decide
  have s12 : ∀ x ∈ ([1, 2] : List Int), -9223372036854775808 ≤ x ∧ x < 9223372036854775808 := by decide
  have s34 : ∀ x ∈ ([3, 4] : List Int), -9223372036854775808 ≤ x ∧ x < 9223372036854775808 := by decide
  have v : ∀ l : List Int, (l.map fun x : Int => rat (x : Rat)).map valR = l.map fun x : Int => (x : Rat) := by
    intro l
    rw [List.map_map]
    exact List.map_congr_left fun x _ => valR_rat _
  have f52 : robuststatsref03_Fraction (5 : Int) (2 : Int) = some (rat (5/2)) := fFraction_eq (by omega) (by omega) (by omega) (by omega) (by omega)
  have f16 : robuststatsref03_Fraction (1 : Int) (6 : Int) = some (rat (1/6)) := fFraction_eq (by omega) (by omega) (by omega) (by omega) (by omega)
  have f13 : robuststatsref03_Fraction (1 : Int) (3 : Int) = some (rat (1/3)) := fFraction_eq (by omega) (by omega) (by omega) (by omega) (by omega)
  have f1 : robuststatsref03_FromInt (1 : Int) = some (rat 1) := fFromInt_eq (by omega) (by omega)
  have f3 : robuststatsref03_FromInt (3 : Int) = some (rat 3) := fFromInt_eq (by omega) (by omega)
  have b52 : Bd 2 (5/2) := Bd.frac (a := 5) (b := 2) (by omega) (by omega)
  have b1 : Bd 2 (1 : Rat) := Bd.i64 (n := 1) (by omega) (by omega)
  have b3 : Bd 2 (3 : Rat) := Bd.i64 (n := 3) (by omega) (by omega)
  have b16 : Bd 2 (1/6) := Bd.frac (a := 1) (b := 6) (by omega) (by omega)
  have b13 : Bd 2 (1/3) := Bd.frac (a := 1) (b := 3) (by omega) (by omega)
  have e3 : ([3, 1, 3] : List Int).map (fun x : Int => (x : Rat)) = [3, 1, 3] := rfl
  have e4 : (([1, 2] : List Int).map (fun x : Int => rat (x : Rat)) ++ ([3, 4] : List Int).map (fun x : Int => rat (x : Rat))).map valR = [1, 2, 3, 4] := by
    rw [List.map_append, v, v]; rfl
  unfold robuststatslaw31_awake
  rw [ints_eq (by decide) s313]
  simp only [Option.bind_some]
  rw [rank_eq (by decide) (sz _ s313), v, e3, ex_rank3]
  simp only [Option.bind_some]
  rw [ints_eq (by decide) s12, ints_eq (by decide) s34]
  simp only [Option.bind_some]
  rw [sum_eq (by decide) (by decide) (by decide) (sz _ s12) (sz _ s34), e4, ex_rank]
  simp only [Option.bind_some]
  rw [show (([1, 2] : List Int).map (fun x : Int => rat (x : Rat))).length = 2 from rfl, ex_sub, show ([1, 2, 3, 4] : List Rat).take 2 = [1, 2] from rfl, ex_sum]
  rw [f52, f1]
  simp only [Option.bind_some]
  have hb : ∀ q ∈ ([5/2, 1, 5/2] : List Rat), Bd 2 q := by
    intro q hq
    simp only [List.mem_cons, List.not_mem_nil, or_false] at hq
    rcases hq with rfl | rfl | rfl
    · exact b52
    · exact b1
    · exact b52
  have := sameList_rfl (by decide) (by decide) hb
  rw [show ([5/2, 1, 5/2] : List Rat).map rat = [rat (5/2), rat 1, rat (5/2)] from rfl] at this
  rw [show ([5/2, 1, 5/2] : List Rat).map rat = [rat (5/2), rat 1, rat (5/2)] from rfl, this]
  simp only [Option.bind_some, cond_true, decide_true]
  rw [f3]
  simp only [Option.bind_some]
  rw [six_1, gSame b3 (by decide)]
  simp only [Option.bind_some, decide_true, cond_true]
  rw [f16]
  simp only [Option.bind_some]
  rw [six_4, ex_less, gSame b16 (by decide)]
  simp only [Option.bind_some, decide_true, cond_true]
  rw [f13]
  simp only [Option.bind_some]
  rw [six_6, ex_two, gSame b13 (by decide)]
  simp only [Option.bind_some, decide_true]

theorem law_midranks {l : List Int} {xs : List RR} (hl : ∀ x ∈ l, -9223372036854775808 ≤ x ∧ x < 9223372036854775808) (hx : ∀ x ∈ xs, Lb x.1.2 ∧ Lb x.2) (hn : xs.length ≤ 9223372036854775807) :
    robuststatslaw31_RanktestMidranks l xs = some true := by
  unfold robuststatslaw31_RanktestMidranks
  rw [show (200 : Int) = ((200 : Nat) : Int) from rfl, mLightList (by omega) 200]
  simp only [Option.bind_some]
  cases hL : (decide (xs.length ≤ 200) && xs.all lightB) with
  | false =>
    rw [Bool.not_false, cond_true, awake_eq]
    rfl
  | true =>
    rw [Bool.not_true, cond_false]
    rw [Bool.and_eq_true, decide_eq_true_eq] at hL
    have hs : ∀ x ∈ xs, Sz x := fun x h => (light_rw hx hL.2 x h).mono (by omega)
    by_cases h60 : (60 : Int) < (xs.length : Int)
    · rw [dec_t h60, awake_eq]
      rfl
    rw [dec_f h60]
    obtain ⟨t, e1, ht⟩ := tNew hl
    rw [e1]
    simp only [Option.bind_some]
    obtain ⟨ys, t', e2, ht', y1, y2, y3⟩ := tValues ht (n := 12) (by omega) (by omega)
    rw [show ((12 : Nat) : Int) = 12 from rfl] at e2
    rw [e2]
    simp only [Option.bind_some]
    have hys : ∀ x ∈ ys.map rat, Sz x := rat_sz y3 (by omega)
    rw [rank_eq (by rw [List.length_map]; omega) hys, rank_ref_eq (by rw [List.length_map]; omega) hys]
    simp only [Option.bind_some]
    have r1 : ∀ (zs : List RR), zs.length ≤ 200 → robuststatsref03_SameList ((rankQ (zs.map valR)).map rat) ((rankQ (zs.map valR)).map rat) = some true := by
      intro zs hz
      exact sameList_rfl (by rw [rankQ_len, List.length_map]; omega) (by decide) (rankQ_bd (by rw [List.length_map]; omega))
    rw [r1 _ (by rw [List.length_map]; omega)]
    simp only [Option.bind_some, cond_true]
    rw [rank_eq (by omega) hs, rank_ref_eq (by omega) hs]
    simp only [Option.bind_some]
    rw [r1 _ (by omega)]
    simp only [Option.bind_some, cond_true]
    rw [rank_eq (by decide) (fun x hx => by cases hx)]
    simp only [Option.bind_some]
    rw [dec_t (by rfl), awake_eq]
    rfl

theorem rat_lb {x : RR} (h : Rng (.struct (.pair (.struct (.pair .bool (.slice (.int .u32)))) (.slice (.int .u32)))) x) : Lb x.1.2 ∧ Lb x.2 :=
  ⟨fun y hy => wf_u32 (h.1.2.2 y hy), fun y hy => wf_u32 (h.2.2 y hy)⟩
end Go.ZL
end

/- Tools: the code of a function is read as a function of values, and what that says of the running program is shown; no conditions beyond those each theorem names. -/
import Derived.Orders
import Derived.LoopN
import Derived.ChangeArms
import Derived.Below
import Derived.RowKit
import Derived.Test.YthpdindonopblaaGreatZM1
set_option linter.unusedVariables false
set_option linter.unusedSimpArgs false
set_option linter.unusedSectionVars false
section
/- Values that come in: new names for memory that is there. -/
set_option linter.unusedVariables false
noncomputable section
namespace Go.ZM
open Go
variable {c : Cfg} {tm : Nat → TV} {hp : Hp} {known pend : Nat → Prop} {ρ : Rho} {a : Act} {w : World} {P : Program}

/-- what the function may not touch becomes less -/
theorem Rel.lessM (h : Rel c tm hp known pend ρ a w) (M0' : Nat → Prop) (hM : ∀ b, M0' b → c.M0 b) : Rel (c.withM M0') tm hp known pend ρ a w ∧ ∀ b, MM (c.withM M0') hp ρ b → MM c hp ρ b := by
  have hMM : ∀ b, MM (c.withM M0') hp ρ b → MM c hp ρ b := fun b hb => hb.imp (hM b) id
  have hk : Keeps w w (MM c hp ρ) (MM (c.withM M0') hp ρ) := ⟨Nat.le_refl _, fun _ _ _ => rfl, fun b _ hb hb' => hb (hMM b hb')⟩
  refine ⟨h.stepM M0' rfl rfl rfl (fun _ _ _ => rfl) hk (fun _ _ => Stab.refl _ _) ?_ ?_ h.inj (fun _ h => h) h.knowsH h.pends (fun b hb => h.m0 b (hM b hb)), hMM⟩
  · intro n b hn
    rcases h.hps n b hn with h1 | h1
    · exact .inl h1
    · exact .inr (BlkR_keeps hk (fun _ _ _ _ => rfl) h1)
  · intro n blk b k hn hmu hg
    have := h.mutn n blk b k hn hmu hg
    exact ⟨this.1, this.2.1, fun hm => this.2.2 (hM b hm)⟩

theorem Rel.noMu (h : Rel c tm hp known pend ρ a w) {b : Nat} (hb : c.M0 b) : ¬ Mu hp ρ b := by
  rintro ⟨n, blk, k, h1, h2, h3⟩
  exact (h.mutn n blk b k h1 h2 h3).2.2 hb

def minusG (M0 : Nat → Prop) (g : Gh) (q : Nat) : Prop := M0 q ∧ ∀ k, g ≠ some (q, k)

/-- a new name for memory that is there -/
theorem Rel.adopt (h : Rel c tm hp known pend ρ a w) {n : Nat} (hn : ¬ known n) {blk : Blk} (hmut : blk.isMut = true) {g : Gh} (hb : BlkR w (MM c hp ρ) g blk) (hg : ∀ b k, g = some (b, k) → c.M0 b ∧ (c.w0.heap.size ≤ b ∨ c.B b)) :
    Rel (c.withM (minusG c.M0 g)) tm (applyE hp [(n, some blk)]) (fun m => known m ∨ n = m) pend (updR ρ n g) a w ∧ ∀ b, MM (c.withM (minusG c.M0 g)) (applyE hp [(n, some blk)]) (updR ρ n g) b → MM c hp ρ b := by
  have hpn : hp n = none := by
    cases e : hp n with
    | none => rfl
    | some b => exact absurd (h.knowsH n b e) hn
  have hMM : ∀ b, MM (c.withM (minusG c.M0 g)) (applyE hp [(n, some blk)]) (updR ρ n g) b → MM c hp ρ b := by
    rintro b (hb | ⟨m, bl, k, h1, h2, h3⟩)
    · exact .inl hb.1
    · rw [applyE_one] at h1; unfold updR at h3
      by_cases e : n = m
      · simp only [if_pos e] at h3; exact .inl (hg b k h3).1
      · simp only [if_neg e] at h1 h3; exact .inr ⟨m, bl, k, h1, h2, h3⟩
  have hk : Keeps w w (MM c hp ρ) (MM (c.withM (minusG c.M0 g)) (applyE hp [(n, some blk)]) (updR ρ n g)) := ⟨Nat.le_refl _, fun _ _ _ => rfl, fun b _ hb hb' => hb (hMM b hb')⟩
  refine ⟨h.stepM (minusG c.M0 g) rfl rfl rfl (fun _ _ _ => rfl) hk ?_ ?_ ?_ ?_ (fun m hm => .inl hm) ?_ ?_ (fun b hb => h.m0 b hb.1), hMM⟩
  · intro m hm
    have e : ¬ n = m := fun e => hn (e ▸ hm)
    rw [applyE_one]; unfold updR; simp only [if_neg e]; exact Stab.refl _ _
  · intro m bl hm
    rw [applyE_one] at hm
    unfold updR at hk ⊢
    by_cases e : n = m
    · simp only [if_pos e] at hm ⊢; injection hm with hm; subst hm
      exact .inr (BlkR_keeps hk (fun _ _ _ _ => rfl) hb)
    · simp only [if_neg e] at hm ⊢
      rcases h.hps m bl hm with h1 | h1
      · exact .inl h1
      · exact .inr (BlkR_keeps hk (fun _ _ _ _ => rfl) h1)
  · intro m bl b k hm hmu hg'
    rw [applyE_one] at hm; unfold updR at hg'
    by_cases e : n = m
    · simp only [if_pos e] at hg'
      have := hg b k hg'
      exact ⟨h.m0 b this.1, this.2, fun hm => hm.2 k hg'⟩
    · simp only [if_neg e] at hm hg'
      have := h.mutn m bl b k hm hmu hg'
      exact ⟨this.1, this.2.1, fun hm => this.2.2 hm.1⟩
  · intro m m' bl bl' b k k' hm hm' h1 h2 h3 h4
    rw [applyE_one] at hm hm'; unfold updR at h3 h4
    by_cases e : n = m <;> by_cases e' : n = m'
    · exact e.symm.trans e'
    · simp only [if_pos e] at h3; simp only [if_neg e'] at hm' h4
      exact absurd ⟨m', bl', k', hm', h2, h4⟩ (h.noMu (hg b k h3).1)
    · simp only [if_pos e'] at h4; simp only [if_neg e] at hm h3
      exact absurd ⟨m, bl, k, hm, h1, h3⟩ (h.noMu (hg b k' h4).1)
    · simp only [if_neg e] at hm h3; simp only [if_neg e'] at hm' h4
      exact h.inj m m' bl bl' b k k' hm hm' h1 h2 h3 h4
  · intro m bl hm
    rw [applyE_one] at hm
    by_cases e : n = m
    · exact .inr e
    · simp only [if_neg e] at hm; exact .inl (h.knowsH m bl hm)
  · intro m hm
    rw [applyE_one]; unfold updR
    by_cases e : n = m
    · subst e; obtain ⟨⟨bl, h1, _⟩, _⟩ := h.pends n hm; rw [hpn] at h1; cases h1
    · simp only [if_neg e]; exact h.pends m hm

/-- one slot comes in -/
theorem adopt1 (h : Rel c tm hp known pend ρ a w) {n : Nat} (frz : Bool) (s : Slot) (hn : ¬ known n ∨ valSlot s = true) (x : s.den) (g : Gh) (v : Value) (hs : SlotR w (MM c hp ρ) s x g v) (hg : ∀ b k, g = some (b, k) → c.M0 b ∧ (c.w0.heap.size ≤ b ∨ c.B b)) :
    ∃ ρ1, Rel (c.withM (minusG c.M0 g)) tm (applyE hp (putSlot frz n s x).2) (fun m => known m ∨ m ∈ (putSlot frz n s x).2.map Prod.fst) pend ρ1 a w ∧ (∀ m, m ≠ n → ρ1 m = ρ m ∧ applyE hp (putSlot frz n s x).2 m = hp m) ∧
      (∀ b, MM (c.withM (minusG c.M0 g)) (applyE hp (putSlot frz n s x).2) ρ1 b → MM c hp ρ b) ∧
      (putSlot frz n s x).1.isTup = false ∧ (∀ m, (putSlot frz n s x).1.refTo m → m ∈ (putSlot frz n s x).2.map Prod.fst) ∧ (∀ m ∈ (putSlot frz n s x).2.map Prod.fst, m = n) ∧
      ∀ (MF : Nat → Prop) (ρF : Rho) (hpF : Hp), (∀ b, MF b → MM (c.withM (minusG c.M0 g)) (applyE hp (putSlot frz n s x).2) ρ1 b) → hpF n = applyE hp (putSlot frz n s x).2 n → ρF n = ρ1 n → R w MF ρF hpF (putSlot frz n s x).1 v := by
  cases s with
  | val t =>
    obtain ⟨rfl, hv⟩ := hs
    obtain ⟨h1, h2⟩ := h.lessM (minusG c.M0 none) (fun b hb => hb.1)
    exact ⟨ρ, h1.known_mono (fun m hm => .inl hm), fun m hm => ⟨rfl, rfl⟩, h2, rfl, fun m hm => hm.elim, (fun m hm => by cases hm), fun MF ρF hpF hM _ _ => R_val (V_mono (fun b hb => h2 b (hM b hb)) hv)⟩
  | own e t =>
    obtain ⟨hv, hb⟩ := hs
    cases frz with
    | false =>
      obtain ⟨h1, h2⟩ := h.adopt (hn.resolve_right (by simp [valSlot])) (blk := .arr e t x) rfl hb hg
      refine ⟨updR ρ n g, h1.known_mono (fun m hm => hm.imp id (fun e => by simp [putSlot, e])), fun m hm => ⟨by unfold updR; rw [if_neg (Ne.symm hm)], by show applyE hp [(n, _)] m = _; rw [applyE_one]; simp [Ne.symm hm]⟩, h2, rfl, (fun m hm => by simp [putSlot, hm.symm]), (fun m hm => by simpa [putSlot] using hm), fun MF ρF hpF hM h3 h4 => ⟨v, rfl, ?_⟩⟩
      rw [h3, h4]
      show OwnR (applyE hp [(n, some (.arr e t x))] n) (updR ρ n g n) v
      rw [applyE_one]; simp only [if_true, updR]; exact hv
    | true =>
      obtain ⟨h1, h2⟩ := h.lessM (minusG c.M0 g) (fun b hb => hb.1)
      refine ⟨ρ, h1.known_mono (fun m hm => .inl hm), fun m hm => ⟨rfl, rfl⟩, h2, rfl, fun m hm => hm.elim, (fun m hm => by cases hm), fun MF ρF hpF hM _ _ => R_val (V_of_froz (BlkR_froz hb (fun b hb => h2 b (hM b hb)) ?_) hv)⟩
      intro b k hgb hMF
      rcases hM b hMF with h3 | h3
      · exact h3.2 k hgb
      · exact h.noMu (hg b k hgb).1 h3
  | box t =>
    obtain ⟨⟨b, k, rfl, hv⟩, hb⟩ := hs
    obtain ⟨h1, h2⟩ := h.adopt (hn.resolve_right (by simp [valSlot])) (blk := .box t x) rfl hb hg
    refine ⟨updR ρ n (some (b, k)), h1.known_mono (fun m hm => hm.imp id (fun e => by simp [putSlot, e])), fun m hm => ⟨by unfold updR; rw [if_neg (Ne.symm hm)], by show applyE hp [(n, _)] m = _; rw [applyE_one]; simp [Ne.symm hm]⟩, h2, rfl, (fun m hm => by simp [putSlot, hm.symm]), (fun m hm => by simpa [putSlot] using hm), fun MF ρF hpF hM h3 h4 => ⟨v, rfl, b, hv, fun _ _ _ => ⟨k, by rw [h4]; simp [updR]⟩⟩⟩

  | vw e t =>
    obtain ⟨hsz, hlen, hv, hb⟩ := hs
    obtain ⟨h1, h2⟩ := h.adopt (hn.resolve_right (by simp [valSlot])) (blk := .arr e t x.1) rfl hb hg
    refine ⟨updR ρ n g, h1.known_mono (fun m hm => hm.imp id (fun e => by simp [putSlot, e])), fun m hm => ⟨by unfold updR; rw [if_neg (Ne.symm hm)], by show applyE hp [(n, _)] m = _; rw [applyE_one]; simp [Ne.symm hm]⟩, h2, rfl, (fun m hm => by simp [putSlot, hm.symm]), (fun m hm => by simpa [putSlot] using hm), fun MF ρF hpF hM h3 h4 => ⟨v, rfl, ?_⟩⟩
    rw [h3, h4]
    show ViewR (applyE hp [(n, some (.arr e t x.1))] n) (updR ρ n g n) x.2.1 x.2.2 v
    rw [applyE_one]; simp only [if_true, updR]; exact hv

def minusGs (M0 : Nat → Prop) (gs : List Gh) (q : Nat) : Prop := M0 q ∧ ¬ InG gs q

theorem minus_cons {M0 : Nat → Prop} {g : Gh} {gs : List Gh} : minusGs (minusG M0 g) gs = minusGs M0 (g :: gs) := by
  funext q
  apply propext
  constructor
  · rintro ⟨⟨h1, h2⟩, h3⟩
    refine ⟨h1, fun ⟨k, hk⟩ => ?_⟩
    rcases List.mem_cons.1 hk with hk | hk
    · exact h2 k hk.symm
    · exact h3 ⟨k, hk⟩
  · rintro ⟨h1, h2⟩
    exact ⟨⟨h1, fun k hk => h2 ⟨k, by rw [hk]; exact List.mem_cons_self ..⟩⟩, fun ⟨k, hk⟩ => h2 ⟨k, List.mem_cons_of_mem _ hk⟩⟩

theorem minus_one {M0 : Nat → Prop} {g : Gh} : minusG M0 g = minusGs M0 [g] := by
  funext q
  apply propext
  constructor
  · rintro ⟨h1, h2⟩; exact ⟨h1, fun ⟨k, hk⟩ => h2 k (List.mem_singleton.1 hk).symm⟩
  · rintro ⟨h1, h2⟩; exact ⟨h1, fun k hk => h2 ⟨k, by rw [hk]; exact List.mem_singleton.2 rfl⟩⟩

theorem minus_nil {M0 : Nat → Prop} : M0 = minusGs M0 [] := by
  funext q; apply propext
  exact ⟨fun h => ⟨h, fun ⟨k, hk⟩ => by cases hk⟩, fun h => h.1⟩

/-- what the slots' names mean, behind the step -/
def TVsR (w : World) (MF : Nat → Prop) (ρF : Rho) (hpF : Hp) (tvs : List TV) (vs : List Value) : Prop := All2 (fun tv v => R w MF ρF hpF tv v ∧ tv.isTup = false) tvs vs

theorem adoptAll (frz : Bool) : ∀ (ss : List Slot) (ns : List Nat) (x : den ss) (gs : List Gh) (vs : List Value) {c : Cfg} {hp : Hp} {known : Nat → Prop} {ρ : Rho}, Rel c tm hp known pend ρ a w → SlotsR w (MM c hp ρ) ss x gs vs → Apart gs →
    (∀ b k, some (b, k) ∈ gs → c.M0 b ∧ (c.w0.heap.size ≤ b ∨ c.B b)) → ns.length = ss.length → ns.Nodup → ((∀ n ∈ ns, ¬ known n) ∨ ∀ s ∈ ss, valSlot s = true) →
    ∃ ρ', Rel (c.withM (minusGs c.M0 gs)) tm (applyE hp (putSlots frz ss ns x).2) (fun m => known m ∨ m ∈ (putSlots frz ss ns x).2.map Prod.fst) pend ρ' a w ∧ (∀ m, m ∉ ns → ρ' m = ρ m ∧ applyE hp (putSlots frz ss ns x).2 m = hp m) ∧
      (∀ b, MM (c.withM (minusGs c.M0 gs)) (applyE hp (putSlots frz ss ns x).2) ρ' b → MM c hp ρ b) ∧
      TVsR w (MM (c.withM (minusGs c.M0 gs)) (applyE hp (putSlots frz ss ns x).2) ρ') ρ' (applyE hp (putSlots frz ss ns x).2) (putSlots frz ss ns x).1 vs ∧
      (∀ tv ∈ (putSlots frz ss ns x).1, ∀ n, tv.refTo n → n ∈ (putSlots frz ss ns x).2.map Prod.fst) ∧ ∀ n ∈ (putSlots frz ss ns x).2.map Prod.fst, n ∈ ns
  | [], ns, x, gs, vs, c, hp, known, ρ, h, hs, _, _, hl, _, _ => by
    obtain ⟨rfl, rfl⟩ := hs
    cases ns with
    | cons => simp at hl
    | nil =>
      refine ⟨ρ, ?_, fun m _ => ⟨rfl, rfl⟩, ?_, .nil, (fun tv htv => by cases htv), (fun n hn => by cases hn)⟩
      · rw [← minus_nil]; exact h.known_mono (fun m hm => .inl hm)
      · rw [← minus_nil]; exact fun b hb => hb
  | [s], ns, x, gs, vs, c, hp, known, ρ, h, hs, _, hg, hl, _, hn => by
    obtain ⟨g, v, rfl, rfl, hs⟩ := hs
    match ns, hl with
    | [n], _ =>
      obtain ⟨ρ1, h1, h2, h3, h4, h5, h5', h6⟩ := adopt1 h (n := n) frz s (hn.imp (fun hn => hn n (List.mem_singleton.2 rfl)) (fun hn => hn s (List.mem_singleton.2 rfl))) x g v hs (fun b k hb => hg b k (by rw [hb]; exact List.mem_singleton.2 rfl))
      rw [← minus_one]
      refine ⟨ρ1, h1, fun m hm => h2 m (fun e => hm (List.mem_singleton.2 e)), h3, .cons ⟨h6 _ _ _ (fun _ h => h) rfl rfl, h4⟩ .nil, ?_, fun m hm => List.mem_singleton.2 (h5' m hm)⟩
      intro tv htv m hm
      have : tv = (putSlot frz n s x).1 := List.mem_singleton.1 htv
      rw [this] at hm
      exact h5 m hm
  | s :: s' :: ss, ns, x, gs, vs, c, hp, known, ρ, h, hs, hap, hg, hl, hnd, hn => by
    obtain ⟨g, gs, v, vs, rfl, rfl, hs1, hs2⟩ := hs
    match ns, hl with
    | n :: ns, hl =>
      rw [List.nodup_cons] at hnd
      obtain ⟨ρ1, h1, h2, h3, h4, h5, h5', h6⟩ := adopt1 h (n := n) frz s (hn.imp (fun hn => hn n (List.mem_cons_self ..)) (fun hn => hn s (List.mem_cons_self ..))) x.1 g v hs1 (fun b k hb => hg b k (by rw [hb]; exact List.mem_cons_self ..))
      obtain ⟨ρ2, k1, k2, k3, k4, k5, k6⟩ := adoptAll frz (s' :: ss) ns x.2 gs vs h1 (SlotsR_mono h3 hs2) hap.2 (by
          intro b k hb
          have := hg b k (List.mem_cons_of_mem _ hb)
          refine ⟨⟨this.1, fun k' hk' => hap.1 b k' hk' ⟨k, hb⟩⟩, this.2⟩) (by simpa using hl) hnd.2 (by
          rcases hn with hn | hn
          · refine .inl fun m hm => ?_
            rintro (hk | hk)
            · exact hn m (List.mem_cons_of_mem _ hm) hk
            · rw [h5' m hk] at hm; exact hnd.1 hm
          · exact .inr fun s hs => hn s (List.mem_cons_of_mem _ hs))
      have hE : applyE hp (putSlots frz (s :: s' :: ss) (n :: ns) x).2 = applyE (applyE hp (putSlot frz n s x.1).2) (putSlots frz (s' :: ss) ns x.2).2 := applyE_append hp _ _
      have hMc : (c.withM (minusG c.M0 g)).withM (minusGs (c.withM (minusG c.M0 g)).M0 gs) = c.withM (minusGs c.M0 (g :: gs)) := by
        show c.withM (minusGs (minusG c.M0 g) gs) = _
        rw [minus_cons]
      rw [hMc] at k1 k3 k4
      rw [hE]
      have hfst : ∀ m, m ∈ (putSlots frz (s :: s' :: ss) (n :: ns) x).2.map Prod.fst ↔ m ∈ (putSlot frz n s x.1).2.map Prod.fst ∨ m ∈ (putSlots frz (s' :: ss) ns x.2).2.map Prod.fst := by
        intro m
        show m ∈ ((putSlot frz n s x.1).2 ++ (putSlots frz (s' :: ss) ns x.2).2).map Prod.fst ↔ _
        rw [List.map_append, List.mem_append]
      refine ⟨ρ2, k1.known_mono ?_, ?_, fun b hb => h3 b (k3 b hb), .cons ⟨h6 _ _ _ k3 (k2 n hnd.1).2 (k2 n hnd.1).1, h4⟩ k4, ?_, ?_⟩
      · rintro m ((hm | hm) | hm)
        · exact .inl hm
        · exact .inr ((hfst m).2 (.inl hm))
        · exact .inr ((hfst m).2 (.inr hm))
      · intro m hm
        have e1 : m ≠ n := fun e => hm (by rw [e]; exact List.mem_cons_self ..)
        have e2 : m ∉ ns := fun e => hm (List.mem_cons_of_mem _ e)
        exact ⟨(k2 m e2).1.trans (h2 m e1).1, (k2 m e2).2.trans (h2 m e1).2⟩
      · intro tv htv m hm
        rcases List.mem_cons.1 htv with rfl | htv
        · exact (hfst m).2 (.inl (h5 m hm))
        · exact (hfst m).2 (.inr (k5 tv htv m hm))
      · intro m hm
        rcases (hfst m).1 hm with hm | hm
        · rw [h5' m hm]; exact List.mem_cons_self ..
        · exact List.mem_cons_of_mem _ (k6 m hm)
end Go.ZM
end
end

section
/- Calls by contract. -/
set_option linter.unusedVariables false
noncomputable section
namespace Go.ZM
open Go
variable {c : Cfg} {tm : Nat → TV} {hp : Hp} {known pend : Nat → Prop} {ρ : Rho} {a : Act} {w : World} {P : Program}
variable {hp' : Hp} {o : Oper} {d : Nat} {tv : TV} {eff : Eff}

def retV : List Value → Value
  | [v] => v
  | vs => .tuple vs.toArray

def boxG : List Slot → List Gh → List Gh
  | .box _ :: r, g :: gs => g :: boxG r gs
  | .vw _ _ :: r, g :: gs => g :: boxG r gs
  | _ :: r, _ :: gs => boxG r gs
  | _, _ => []

structure CallPost (w w' : World) (gs : List Gh) : Prop where
  os : w'.os = w.os
  tape : w'.tape = w.tape
  output : w'.output = w.output
  size : w.heap.size ≤ w'.heap.size
  heap : ∀ k, k < w.heap.size → ¬ InG gs k → w'.heap[k]? = w.heap[k]?

/-- the function with this number keeps the contract -/
def Spec (P : Program) (id : FuncId) (ct : Ctr) : Prop :=
  (∃ fn, P.funcs[id]? = some fn ∧ (fn.name == "runtime.NumGoroutine") = false ∧ fn.body.isNone = false) ∧
  ∀ (w : World) (M0 : Nat → Prop) (x : den ct.ins) (gs : List Gh) (us : List Value) (r : Out ct.outs (finsOf ct.ins)), (∀ b, M0 b → b < w.heap.size) → SlotsR w (fun b => M0 b ∨ InG gs b) ct.ins x gs us → Apart gs →
    (∀ b, InG gs b → b < w.heap.size ∧ ¬ M0 b) → ct.f x = some r →
    Calls P id us.toArray w fun e w' => ∃ gs' vs fs, e = .returned (retV vs) ∧ CallPost w w' gs ∧
      SlotsR w' (fun b => M0 b ∨ InG gs' b ∨ InG (boxG ct.ins gs) b) ct.outs (outL _ r) gs' vs ∧
      SlotsR w' (fun b => M0 b ∨ InG gs' b ∨ InG (boxG ct.ins gs) b) (finsOf ct.ins) (outR _ r) (boxG ct.ins gs) fs ∧
      Apart (gs' ++ boxG ct.ins gs) ∧ ∀ b, InG gs' b → b < w'.heap.size ∧ (w.heap.size ≤ b ∨ InG gs b)

def FnsOk (P : Program) (fns : List (Nat × Ctr)) : Prop := ∀ id ct, lk? fns id = some ct → Spec P id ct

theorem Apart_left : ∀ {g h : List Gh}, Apart (g ++ h) → Apart g
  | [], _, _ => trivial
  | _ :: r, h, ⟨h1, h2⟩ => ⟨fun b k hb ⟨k', hk⟩ => h1 b k hb ⟨k', List.mem_append_left _ hk⟩, Apart_left h2⟩

theorem Apart_cross : ∀ {g h : List Gh} {b : Nat}, Apart (g ++ h) → InG g b → InG h b → False
  | [], _, _, _, ⟨_, hk⟩, _ => by cases hk
  | x :: r, h, b, ⟨h1, h2⟩, ⟨k, hk⟩, ⟨k', hk'⟩ => by
    rcases List.mem_cons.1 hk with hk | hk
    · exact h1 b k hk.symm ⟨k', List.mem_append_right _ hk'⟩
    · exact Apart_cross h2 ⟨k, hk⟩ ⟨k', hk'⟩

/-- what stands in the name's place -/
def finBlk : (s : Slot) → s.den → Blk
  | .val t, x => .box t x
  | .own e t, x => .arr e t x
  | .box t, x => .box t x
  | .vw e t, x => .arr e t x.1

theorem fin1 {M : Nat → Prop} {s : Slot} (hb : isBox s = true) {m : Nat} {z : s.den} {g : Gh} {v : Value} (hs : SlotR w M s z g v) : (putSlot false m s z).2 = [(m, some (finBlk s z))] ∧ (finBlk s z).isMut = true ∧ BlkR w M g (finBlk s z) := by
  cases s with
  | val t => cases hb
  | own e t => cases hb
  | box t => exact ⟨rfl, rfl, hs.2⟩
  | vw e t => exact ⟨rfl, rfl, hs.2.2.2⟩

/-- boxes that were handed in: their contents afterwards -/
theorem putBoxes {M : Nat → Prop} : ∀ (ss : List Slot), (∀ s ∈ ss, isBox s = true) → ∀ (ns : List Nat) (z : den ss) (fs : List Value), SlotsR w M ss z (ns.map ρ) fs → ns.Nodup → ∀ (hpX : Hp) (n : Nat),
    (n ∈ ns → ∃ blk, applyE hpX (putSlots false ss ns z).2 n = some blk ∧ blk.isMut = true ∧ BlkR w M (ρ n) blk ∧ (n, some blk) ∈ (putSlots false ss ns z).2) ∧ (n ∉ ns → applyE hpX (putSlots false ss ns z).2 n = hpX n) ∧ (n ∈ (putSlots false ss ns z).2.map Prod.fst ↔ n ∈ ns)
  | [], _, ns, z, fs, h, _, hpX, n => by
    obtain ⟨h1, _⟩ := h
    have : ns = [] := List.map_eq_nil_iff.1 h1
    subst this
    exact ⟨(fun h => by cases h), fun _ => rfl, Iff.rfl⟩
  | [s], hb, ns, z, fs, h, _, hpX, n => by
    obtain ⟨g, v, h1, _, hs⟩ := h
    match ns, h1 with
    | [m], h1 =>
      injection h1 with h1 _
      obtain ⟨e1, e2, e3⟩ := fin1 (m := m) (hb s (List.mem_singleton.2 rfl)) hs
      show (n ∈ [m] → ∃ blk, applyE hpX (putSlot false m s z).2 n = some blk ∧ _ ∧ _ ∧ (n, some blk) ∈ (putSlot false m s z).2) ∧ (n ∉ [m] → applyE hpX (putSlot false m s z).2 n = hpX n) ∧ (n ∈ (putSlot false m s z).2.map Prod.fst ↔ n ∈ [m])
      rw [e1]
      refine ⟨fun hn => ?_, fun hn => ?_, Iff.rfl⟩
      · have := List.mem_singleton.1 hn; subst this
        exact ⟨finBlk s z, by rw [applyE_one]; simp, e2, by rw [h1]; exact e3, List.mem_singleton.2 rfl⟩
      · have : ¬ m = n := fun e => hn (List.mem_singleton.2 e.symm)
        rw [applyE_one]; simp [this]
  | s :: s' :: ss, hb, ns, z, fs, h, hnd, hpX, n => by
    obtain ⟨g, gs', v, vs', h1, _, hs, hr⟩ := h
    match ns, h1 with
    | m :: ns, h1 =>
      injection h1 with h1 h1'
      subst h1'
      rw [List.nodup_cons] at hnd
      obtain ⟨e1, e2, e3⟩ := fin1 (m := m) (hb s (List.mem_cons_self ..)) hs
      have ih := putBoxes (s' :: ss) (fun q hq => hb q (List.mem_cons_of_mem _ hq)) ns z.2 vs' hr hnd.2 (applyE hpX [(m, some (finBlk s z.1))]) n
      have hE0 : (putSlots false (s :: s' :: ss) (m :: ns) z).2 = (putSlot false m s z.1).2 ++ (putSlots false (s' :: ss) ns z.2).2 := rfl
      rw [e1] at hE0
      have hE : applyE hpX (putSlots false (s :: s' :: ss) (m :: ns) z).2 = applyE (applyE hpX [(m, some (finBlk s z.1))]) (putSlots false (s' :: ss) ns z.2).2 := by rw [hE0]; exact applyE_append hpX _ _
      rw [hE, hE0]
      refine ⟨fun hn => ?_, fun hn => ?_, ?_⟩
      · rcases List.mem_cons.1 hn with hn | hn
        · subst hn
          refine ⟨finBlk s z.1, ?_, e2, by rw [h1]; exact e3, List.mem_append_left _ (List.mem_singleton.2 rfl)⟩
          rw [ih.2.1 hnd.1, applyE_one]; simp
        · obtain ⟨blk, i1, i2, i3, i4⟩ := ih.1 hn
          exact ⟨blk, i1, i2, i3, List.mem_append_right _ i4⟩
      · have e1 : ¬ m = n := fun e => hn (by rw [e]; exact List.mem_cons_self ..)
        have e2 : n ∉ ns := fun e => hn (List.mem_cons_of_mem _ e)
        rw [ih.2.1 e2, applyE_one]; simp [e1]
      · rw [List.map_append, List.mem_append, ih.2.2, List.mem_cons]; simp

theorem boxG_names : ∀ (ss : List Slot) (tvs : List TV), BoxOks ss tvs → ss.length = tvs.length → boxG ss ((nsOf ss tvs).map fun o => o.bind ρ) = (boxNames ss tvs).map ρ
  | [], [], _, _ => rfl
  | s :: ss, v :: tvs, ⟨h1, h2⟩, hl => by
    have ih := boxG_names ss tvs h2 (by simpa using hl)
    cases s with
    | val t => cases v <;> exact ih
    | own e t => cases v <;> exact ih
    | box t =>
      obtain ⟨n, rfl⟩ := h1
      show ρ n :: _ = ρ n :: _
      rw [ih]
    | vw e t =>
      obtain ⟨n, rfl | ⟨lo, len, rfl⟩⟩ := h1
      all_goals
        show ρ n :: _ = ρ n :: _
        rw [ih]
  | [], _ :: _, _, hl => by simp at hl
  | _ :: _, [], _, hl => by simp at hl

theorem names_mem : ∀ (ss : List Slot) (tvs : List TV), BoxOks ss tvs → ss.length = tvs.length → ∀ n, n ∈ (nsOf ss tvs).filterMap id ↔ n ∈ boxNames ss tvs ∨ n ∈ ownNames ss tvs
  | [], [], _, _, n => by simp [nsOf, boxNames, ownNames]
  | s :: ss, v :: tvs, ⟨h1, h2⟩, hl, n => by
    have ih := names_mem ss tvs h2 (by simpa using hl) n
    rw [nsOf_cons, mem_fm, ih]
    cases s with
    | val t => cases v <;> simp [oOf, boxNames, ownNames]
    | own e t => cases v <;> simp [oOf, boxNames, ownNames, eq_comm, or_left_comm]
    | box t =>
      obtain ⟨m, rfl⟩ := h1
      simp [oOf, boxNames, ownNames, eq_comm, or_assoc]
    | vw e t =>
      obtain ⟨m, rfl | ⟨lo, len, rfl⟩⟩ := h1 <;> simp [oOf, boxNames, ownNames, eq_comm, or_assoc]
  | [], _ :: _, _, hl, _ => by simp at hl
  | _ :: _, [], _, hl, _ => by simp at hl

theorem boxNames_nodup : ∀ (ss : List Slot) (tvs : List TV), BoxOks ss tvs → ss.length = tvs.length → ((nsOf ss tvs).filterMap id).Nodup → (boxNames ss tvs).Nodup ∧ ∀ n ∈ boxNames ss tvs, n ∉ ownNames ss tvs
  | [], [], _, _, _ => ⟨List.nodup_nil, fun n hn => by cases hn⟩
  | s :: ss, v :: tvs, ⟨h1, h2⟩, hl, hnd => by
    have hl' : ss.length = tvs.length := by simpa using hl
    rw [nsOf_cons, fm_cons] at hnd
    have hnd2 := (List.nodup_append.1 hnd).2.1
    obtain ⟨i1, i2⟩ := boxNames_nodup ss tvs h2 hl' hnd2
    have hx : ∀ m, oOf s v = some m → m ∉ (nsOf ss tvs).filterMap id := by
      intro m hm hmem
      exact (List.nodup_append.1 hnd).2.2 m (by rw [hm]; simp) m hmem rfl
    cases s with
    | val t => cases v <;> exact ⟨i1, i2⟩
    | own e t =>
      cases v with
      | own m =>
        refine ⟨i1, fun n hn hn' => ?_⟩
        have hn' : n ∈ m :: ownNames ss tvs := hn'
        rcases List.mem_cons.1 hn' with rfl | hn'
        · exact hx n rfl ((names_mem ss tvs h2 hl' n).2 (.inl hn))
        · exact i2 n hn hn'
      | view m lo len =>
        refine ⟨i1, fun n hn hn' => ?_⟩
        have hn' : n ∈ m :: ownNames ss tvs := hn'
        rcases List.mem_cons.1 hn' with rfl | hn'
        · exact hx n rfl ((names_mem ss tvs h2 hl' n).2 (.inl hn))
        · exact i2 n hn hn'
      | _ => exact ⟨i1, i2⟩
    | box t =>
      obtain ⟨m, rfl⟩ := h1
      have hm := hx m rfl
      rw [names_mem ss tvs h2 hl'] at hm
      refine ⟨List.nodup_cons.2 ⟨fun e => hm (.inl e), i1⟩, fun n hn => ?_⟩
      have hn : n ∈ m :: boxNames ss tvs := hn
      rcases List.mem_cons.1 hn with rfl | hn
      · exact fun e => hm (.inr e)
      · exact i2 n hn
    | vw e t =>
      obtain ⟨m, rfl | ⟨lo, len, rfl⟩⟩ := h1
      all_goals
        have hm := hx m rfl
        rw [names_mem ss tvs h2 hl'] at hm
        refine ⟨List.nodup_cons.2 ⟨fun e => hm (.inl e), i1⟩, fun n hn => ?_⟩
        have hn : n ∈ m :: boxNames ss tvs := hn
        rcases List.mem_cons.1 hn with rfl | hn
        · exact fun e => hm (.inr e)
        · exact i2 n hn
  | [], _ :: _, _, hl, _ => by simp at hl
  | _ :: _, [], _, hl, _ => by simp at hl

theorem dropNames (hp : Hp) : ∀ (os : List Nat) (n : Nat), applyE hp (os.map fun n => (n, none)) n = if n ∈ os then none else hp n := by
  intro os
  induction os generalizing hp with
  | nil => intro n; simp [applyE]
  | cons m r ih =>
    intro n
    show applyE (fun q => if m = q then none else hp q) (r.map fun n => (n, none)) n = _
    rw [ih]
    by_cases e : n ∈ r
    · simp [e]
    · by_cases e2 : m = n
      · simp [e2]
      · have : ¬ n = m := fun e3 => e2 e3.symm
        simp [e, e2, this]

theorem names_spec (d : Nat) : ∀ (i k : Nat), (names d i k).length = k ∧ (names d i k).Nodup ∧ ∀ n ∈ names d i k, ∃ j, i ≤ j ∧ n = nm d j
  | i, 0 => ⟨rfl, List.nodup_nil, fun n hn => by cases hn⟩
  | i, k + 1 => by
    obtain ⟨h1, h2, h3⟩ := names_spec d (i + 1) k
    refine ⟨by simp [names, h1], List.nodup_cons.2 ⟨fun hn => ?_, h2⟩, fun n hn => ?_⟩
    · obtain ⟨j, hj, e⟩ := h3 _ hn
      unfold nm at e; omega
    · rcases List.mem_cons.1 hn with rfl | hn
      · exact ⟨i, Nat.le_refl _, rfl⟩
      · obtain ⟨j, hj, e⟩ := h3 _ hn
        exact ⟨j, by omega, e⟩

theorem wrap_R {w : World} {M : Nat → Prop} {tvs : List TV} {vs : List Value} (h : TVsR w M ρ hp tvs vs) : R w M ρ hp (wrapRes tvs) (retV vs) := by
  have key : ∀ {tvs : List TV} {vs : List Value}, TVsR w M ρ hp tvs vs → RX w M ρ hp (TV.ofList tvs) vs := by
    intro tvs vs h
    induction h with
    | nil => exact rfl
    | cons h1 h2 ih =>
      refine ⟨_, _, rfl, ?_, ih⟩
      have := h1.1; unfold R at this; rw [if_neg (by simp [h1.2])] at this; exact this
  have tup : ∀ {tvs : List TV} {vs : List Value}, TVsR w M ρ hp tvs vs → R w M ρ hp (TV.ofList tvs) (.tuple vs.toArray) := by
    intro tvs vs h
    have ht : (TV.ofList tvs).isTup = true := by cases tvs <;> rfl
    unfold R; rw [if_pos ht]
    exact ⟨vs, key h, rfl⟩
  cases h with
  | nil => exact tup .nil
  | cons h1 h2 =>
    cases h2 with
    | nil => exact h1.1
    | cons h3 h4 => exact tup (.cons h1 (.cons h3 h4))

theorem wrap_ref {tvs : List TV} {n : Nat} (h : (wrapRes tvs).refTo n) : ∃ tv ∈ tvs, tv.refTo n := by
  unfold wrapRes at h
  split at h
  · exact ⟨_, List.mem_singleton.2 rfl, h⟩
  · exact ofList_ref h

theorem caps_R {w : World} {M : Nat → Prop} : ∀ (tv : TV) (vs : List Value), RX w M ρ hp tv vs → tv.okChain = true → All2 (fun tv v => R w M ρ hp tv v) tv.list vs
  | .tnil, vs, h, _ => by rw [show vs = [] from h]; exact .nil
  | .tup p q, vs, h, hn => by
    obtain ⟨v, r, rfl, h1, h2⟩ := h
    have hn' : (!p.isTup && q.okChain) = true := hn
    rw [Bool.and_eq_true, Bool.not_eq_true'] at hn'
    refine .cons ?_ (caps_R q r h2 hn'.2)
    unfold R; rw [if_neg (by simp [hn'.1])]; exact h1

theorem All2.append {α β : Type} {R : α → β → Prop} {l1 l2 : List α} {m1 m2 : List β} (h : All2 R l1 m1) (k : All2 R l2 m2) : All2 R (l1 ++ l2) (m1 ++ m2) := by
  induction h with
  | nil => exact k
  | cons h hr ih => exact .cons h ih

theorem All2.map {α β γ : Type} {R : β → γ → Prop} {f : α → β} {g : α → γ} : ∀ {l : List α}, (∀ x ∈ l, R (f x) (g x)) → All2 R (l.map f) (l.map g)
  | [], _ => .nil
  | x :: r, h => .cons (h x (List.mem_cons_self ..)) (All2.map fun y hy => h y (List.mem_cons_of_mem _ hy))

theorem finsOf_box (ins : List Slot) : ∀ s ∈ finsOf ins, isBox s = true := fun s hs => (List.mem_filter.1 hs).2

/-- the world behind a call: what was handed over is gone, the boxes hold what the contract says -/
theorem Rel.called (h : Rel c tm hp known pend ρ a w) {w' : World} {gs gs' : List Gh} {os bs : List Nat} (hpost : CallPost w w' gs) {fins : List Slot} (hfb : ∀ s ∈ fins, isBox s = true) {z : den fins} {fs : List Value}
    (hgs : ∀ b k, some (b, k) ∈ gs → ∃ n, (n ∈ bs ∨ n ∈ os) ∧ ρ n = some (b, k)) (hmu : ∀ n, (n ∈ bs ∨ n ∈ os) → (∃ blk, hp n = some blk ∧ blk.isMut = true) ∧ ¬ pend n) (hbx : ∀ n ∈ bs, ∀ blk, (n, some blk) ∈ (putSlots false fins bs z).2 → ∃ blk0, hp n = some blk0 ∧ blk0.len = blk.len ∧ blk0.esize = blk.esize) (hbg : ∀ n ∈ bs, ∃ b k, ρ n = some (b, k)) (hnd : bs.Nodup) (hbo : ∀ n ∈ bs, n ∉ os)
    (hapart : Apart (gs' ++ bs.map ρ)) (hgs' : ∀ b, InG gs' b → b < w'.heap.size ∧ (w.heap.size ≤ b ∨ InG gs b))
    (hfin : SlotsR w' (fun b => (MM c hp ρ b ∧ ¬ InG gs b) ∨ InG gs' b ∨ InG (bs.map ρ) b) fins z (bs.map ρ) fs) :
    Rel (c.withM (fun b => c.M0 b ∨ InG gs' b)) tm (applyE hp ((os.map fun n => (n, none)) ++ (putSlots false fins bs z).2)) known pend ρ a w' ∧
      ∀ b, MM (c.withM (fun b => c.M0 b ∨ InG gs' b)) (applyE hp ((os.map fun n => (n, none)) ++ (putSlots false fins bs z).2)) ρ b → (MM c hp ρ b ∧ ¬ InG gs b) ∨ InG gs' b ∨ InG (bs.map ρ) b := by
  have hput := fun n => putBoxes (ρ := ρ) fins hfb bs z fs hfin hnd (applyE hp (os.map fun n => (n, none))) n
  -- what stands behind each name
  have hin : ∀ n ∈ bs, ∃ blk, applyE hp ((os.map fun n => (n, none)) ++ (putSlots false fins bs z).2) n = some blk ∧ BlkR w' (fun b => (MM c hp ρ b ∧ ¬ InG gs b) ∨ InG gs' b ∨ InG (bs.map ρ) b) (ρ n) blk ∧ ∃ blk0, hp n = some blk0 ∧ blk0.len = blk.len ∧ blk0.esize = blk.esize := by
    intro n hn; rw [applyE_append]
    obtain ⟨blk, i1, _, i3, i4⟩ := (hput n).1 hn
    exact ⟨blk, i1, i3, hbx n hn blk i4⟩
  have hout : ∀ n, n ∉ bs → applyE hp ((os.map fun n => (n, none)) ++ (putSlots false fins bs z).2) n = if n ∈ os then none else hp n := by
    intro n hn; rw [applyE_append, (hput n).2.1 hn, dropNames]
  generalize applyE hp ((os.map fun n => (n, none)) ++ (putSlots false fins bs z).2) = hq at hin hout ⊢
  -- each name that still stands stood, with as much right
  have hwas : ∀ n blk, hq n = some blk → blk.isMut = true → ∃ blk0, hp n = some blk0 ∧ blk0.isMut = true := by
    intro n blk hn hm
    by_cases hb : n ∈ bs
    · exact (hmu n (.inl hb)).1
    · rw [hout n hb] at hn
      by_cases ho : n ∈ os
      · simp [ho] at hn
      · simp only [if_neg ho] at hn; exact ⟨blk, hn, hm⟩
  have hgM : ∀ b, InG gs b → Mu hp ρ b := by
    rintro b ⟨k, hk⟩
    obtain ⟨n, h1, h2⟩ := hgs b k hk
    obtain ⟨⟨blk, h3, h4⟩, _⟩ := hmu n h1
    exact ⟨n, blk, k, h3, h4, h2⟩
  have hfree : ∀ n blk b k, n ∉ bs → n ∉ os → hp n = some blk → blk.isMut = true → ρ n = some (b, k) → ¬ InG gs b := by
    rintro n blk b k hb ho hn hm hr ⟨k', hk'⟩
    obtain ⟨m, h1, h2⟩ := hgs b k' hk'
    obtain ⟨⟨blk', h3, h4⟩, _⟩ := hmu m h1
    have := h.inj n m blk blk' b k k' hn h3 hm h4 hr h2
    subst this
    exact h1.elim hb ho
  have hcM0 : ∀ b, c.M0 b → ¬ InG gs b := fun b hb hg => h.noMu hb (hgM b hg)
  have hMM : ∀ b, MM (c.withM (fun b => c.M0 b ∨ InG gs' b)) hq ρ b → (MM c hp ρ b ∧ ¬ InG gs b) ∨ InG gs' b ∨ InG (bs.map ρ) b := by
    rintro b ((hb | hb) | ⟨n, blk, k, h1, h2, h3⟩)
    · exact .inl ⟨.inl hb, hcM0 b hb⟩
    · exact .inr (.inl hb)
    · by_cases hb : n ∈ bs
      · exact .inr (.inr ⟨k, List.mem_map.2 ⟨n, hb, h3⟩⟩)
      · rw [hout n hb] at h1
        by_cases ho : n ∈ os
        · simp [ho] at h1
        · simp only [if_neg ho] at h1
          exact .inl ⟨.inr ⟨n, blk, k, h1, h2, h3⟩, hfree n blk b k hb ho h1 h2 h3⟩
  have hk : Keeps w w' (MM c hp ρ) (MM (c.withM (fun b => c.M0 b ∨ InG gs' b)) hq ρ) := by
    refine ⟨hpost.size, fun b hb hm => hpost.heap b hb (fun hg => hm (.inr (hgM b hg))), fun b hb hm hm' => ?_⟩
    rcases hMM b hm' with h1 | h1 | ⟨k, h1⟩
    · exact hm h1.1
    · rcases (hgs' b h1).2 with h2 | h2
      · omega
      · exact hm (.inr (hgM b h2))
    · obtain ⟨n, hn, hr⟩ := List.mem_map.1 h1
      obtain ⟨⟨blk, h3, h4⟩, _⟩ := hmu n (.inl hn)
      exact hm (.inr ⟨n, blk, k, h3, h4, hr⟩)
  refine ⟨h.stepM _ hpost.os hpost.tape hpost.output ?_ hk ?_ ?_ ?_ ?_ (fun _ h => h) ?_ ?_ ?_, hMM⟩
  · intro k hk' hB
    refine hpost.heap k (by have := h.hsize; omega) (fun hg => ?_)
    obtain ⟨n, blk, k', h1, h2, h3⟩ := hgM k hg
    rcases (h.mutn n blk k k' h1 h2 h3).2.1 with h4 | h4
    · omega
    · exact hB h4
  · intro n hkn
    by_cases hb : n ∈ bs
    · obtain ⟨blk, h1, _, blk0, h2, h3, h4⟩ := hin n hb
      rw [h1, h2]
      exact .inr ⟨_, _, rfl, rfl, h3, h4, fun _ h => h, fun _ => rfl⟩
    · rw [hout n hb]
      by_cases ho : n ∈ os
      · simp only [if_pos ho]; exact .inl rfl
      · simp only [if_neg ho]; exact Stab.refl _ _
  · intro n blk hn
    by_cases hb : n ∈ bs
    · obtain ⟨blk', h1, h2, _⟩ := hin n hb
      rw [h1] at hn; injection hn with hn; subst hn
      exact .inr (BlkR_mono hMM h2)
    · rw [hout n hb] at hn
      by_cases ho : n ∈ os
      · simp [ho] at hn
      · simp only [if_neg ho] at hn
        rcases h.hps n blk hn with h1 | h1
        · exact .inl h1
        · exact .inr (BlkR_keeps hk (fun b k hm hr => hpost.heap b (h.mutn n blk b k hn hm hr).1 (hfree n blk b k hb ho hn hm hr)) h1)
  · intro n blk b k hn hm hr
    obtain ⟨blk0, h1, h2⟩ := hwas n blk hn hm
    obtain ⟨h3, h4, h5⟩ := h.mutn n blk0 b k h1 h2 hr
    refine ⟨Nat.lt_of_lt_of_le h3 hpost.size, h4, ?_⟩
    rintro (h6 | h6)
    · exact h5 h6
    · by_cases hb : n ∈ bs
      · exact Apart_cross hapart h6 ⟨k, List.mem_map.2 ⟨n, hb, hr⟩⟩
      · by_cases ho : n ∈ os
        · rw [hout n hb] at hn; simp [ho] at hn
        · rcases (hgs' b h6).2 with h7 | h7
          · omega
          · exact hfree n blk0 b k hb ho h1 h2 hr h7
  · intro n n' blk blk' b k k' h1 h2 h3 h4 h5 h6
    obtain ⟨b1, h7, h8⟩ := hwas n blk h1 h3
    obtain ⟨b2, h9, h10⟩ := hwas n' blk' h2 h4
    exact h.inj n n' b1 b2 b k k' h7 h9 h8 h10 h5 h6
  · intro n blk hn
    by_cases hb : n ∈ bs
    · obtain ⟨⟨blk0, h1, _⟩, _⟩ := hmu n (.inl hb); exact h.knowsH n blk0 h1
    · rw [hout n hb] at hn
      by_cases ho : n ∈ os
      · simp [ho] at hn
      · simp only [if_neg ho] at hn; exact h.knowsH n blk hn
  · intro n hn
    have hb : n ∉ bs := fun hb => (hmu n (.inl hb)).2 hn
    have ho : n ∉ os := fun ho => (hmu n (.inr ho)).2 hn
    rw [hout n hb, if_neg ho]
    exact h.pends n hn
  · rintro b (hb | hb)
    · exact Nat.lt_of_lt_of_le (h.m0 b hb) hpost.size
    · exact (hgs' b hb).1
end Go.ZM
end
end

section
/- A call is what its contract says. -/
set_option linter.unusedVariables false
noncomputable section
namespace Go.ZM
open Go
variable {c : Cfg} {tm : Nat → TV} {hp : Hp} {known pend : Nat → Prop} {ρ : Rho} {a : Act} {w : World} {P : Program}
variable {hp' : Hp} {o : Oper} {d : Nat} {tv : TV} {eff : Eff}

theorem run_enter {P : Program} {w : World} {id : FuncId} {fn : Func} (h1 : P.funcs[id]? = some fn) (h2 : (fn.name == "runtime.NumGoroutine") = false) (h3 : fn.body.isNone = false) (args : Array Value) :
    (callFunc id args).run P w = .ok (.enter id args) w := by
  have hn : ¬ fn.name = "runtime.NumGoroutine" := by simpa using h2
  have hb : ¬ fn.body = none := by intro h; rw [h] at h3; cases h3
  simp [callFunc, program, Sem.run, h1, hn, hb]

theorem compat_some {o : Option Blk} {blk : Blk} (h : compatB o (some blk) = true) : ∃ blk0, o = some blk0 ∧ blk0.len = blk.len ∧ blk0.esize = blk.esize := by
  unfold compatB at h
  split at h
  · rename_i e; injection e with e; subst e; exact ⟨_, rfl, rfl, rfl⟩
  · rename_i e; injection e with e; subst e
    rename_i e t xs e' t' z
    cases hb : Nat.beq e e' with
    | false => rw [hb] at h; cases h
    | true =>
      rw [hb] at h; simp only [cond_true] at h
      split at h
      · rename_i ht _; subst ht
        exact ⟨_, rfl, by show some xs.length = some z.length; rw [Nat.eq_of_beq_eq_true h], rfl⟩
      · cases h
  · cases h

theorem call_ok (h : Rel c tm hp known pend ρ a w) {cx : Cx} (hfns : FnsOk P cx.fns) (hle : LeS hp' hp) {frz : Bool} {cl : Call} {f : Operand} (ho : o.op = .call cl) (hc : cl.callee = .value f) (hf : ∀ t, f = .tmp t → t < c.N) (hargs : ∀ x ∈ cl.args.toList, ∀ t, x = .tmp t → t < c.N)
    (hnew : ∀ id caps ct, evF tm f = .fn id caps → lk? cx.fns id = some ct → ct.outs.length ≤ 4 → (∀ s ∈ ct.outs, valSlot s = true) ∨ ∀ n ∈ names d 0 ct.outs.length, ¬ known n)
    (hk : (match evF tm f with
        | .fn id caps => (match lk? cx.fns id with | some ct => bif caps.okChain && Nat.ble ct.outs.length 4 then callK ct frz hp' d (cl.args.toList.map (evF tm) ++ caps.list) (fun v e => some (v, e)) else none | none => none)
        | _ => none) = some (tv, eff)) : OpOk P c tm hp known pend a w o tv eff := by
  split at hk
  case h_2 => cases hk
  rename_i id caps hev
  split at hk
  case h_2 => cases hk
  rename_i ct hct
  cases hch : (caps.okChain && Nat.ble ct.outs.length 4) with
  | false => rw [hch] at hk; cases hk
  | true =>
  rw [hch] at hk; simp only [cond_true] at hk
  rw [Bool.and_eq_true] at hch
  have hn4 := Nat.le_of_ble_eq_true hch.2
  have hnew := hnew id caps ct hev hct hn4
  obtain ⟨⟨fn, hfn1, hfn2, hfn3⟩, hspec⟩ := hfns id ct hct
  -- the function's value and what it captured
  have hef := (h.ev f hf).1
  rw [hev] at hef
  obtain ⟨uc, huc, hcr⟩ : ∃ us : List Value, [a.eval f] = [.func (.func id) #[] us.toArray] ∧ RX w (MM c hp ρ) ρ hp caps us := hef
  injection huc with huc
  have hall : All2 (fun tv v => R w (MM c hp ρ) ρ hp tv v) (cl.args.toList.map (evF tm) ++ caps.list) (cl.args.toList.map a.eval ++ uc) :=
    (All2.map fun x hx => (h.ev x (hargs x hx)).1).append (caps_R caps uc hcr hch.1)
  unfold callK at hk
  generalize htvs : cl.args.toList.map (evF tm) ++ caps.list = tvs at hk hall
  obtain ⟨x, mu, fz, hk, hfz, hmu, hbox, hlen, hmn, hsl⟩ := takeSlots_sound h hle ct.ins tvs _ _ _ hk hall
  cases hok : okNames mu fz with
  | false => rw [hok] at hk; cases hk
  | true =>
  rw [hok] at hk; simp only [cond_true] at hk
  obtain ⟨hnd, hdis⟩ := okNames_spec hok
  obtain ⟨r, hr, hk⟩ := Option.bind_eq_some_iff.1 hk
  cases hlens : lensOk hp' (putSlots false (finsOf ct.ins) (boxNames ct.ins tvs) (outR (finsOf ct.ins) r)).2 with
  | false => simp only [hlens] at hk; cases hk
  | true =>
  simp only [hlens, cond_true] at hk
  injection hk with hk; injection hk with h1 h2; subst h1
  obtain ⟨hR1, hle1, hMM1⟩ := h.fz (hfz.leS hle)
  have hslots := hsl fz hfz (fun _ h => h) hdis
  have hrho := boxRho ct.ins tvs x _ hbox hlen hslots
  have hmn1 : ∀ n ∈ mu, (∃ blk, applyE hp fz n = some blk ∧ blk.isMut = true) ∧ ¬ pend n := by
    intro n hn
    rw [applyE_notin (hdis n hn)]; exact hmn n hn
  rw [hmu] at hnd hmn1
  obtain ⟨hap, hsrc⟩ := apart_of_names hR1 (nsOf ct.ins tvs) (fun n hn => (hmn1 n hn).1) hnd
  generalize hgs : ((nsOf ct.ins tvs).map fun o => o.bind ρ) = gs at hslots hap hsrc
  have hgM : ∀ b, InG gs b → Mu (applyE hp fz) ρ b := by
    rintro b ⟨k, hk⟩
    obtain ⟨n, h3, h4⟩ := hsrc b k hk
    obtain ⟨⟨blk, h5, h6⟩, _⟩ := hmn1 n h3
    exact ⟨n, blk, k, h5, h6, h4⟩
  have hMlt : ∀ b, MM c (applyE hp fz) ρ b → b < w.heap.size := by
    rintro b (hb | ⟨n, blk, k, h3, h4, h5⟩)
    · exact hR1.m0 b hb
    · exact (hR1.mutn n blk b k h3 h4 h5).1
  have hcall := hspec w (fun b => MM c (applyE hp fz) ρ b ∧ ¬ InG gs b) x gs (cl.args.toList.map a.eval ++ uc) r (fun b hb => hMlt b hb.1)
    (SlotsR_mono (fun b hb => hb.elim (fun hb => hb.1) (fun hb => .inr (hgM b hb))) hslots) hap (fun b hb => ⟨hMlt b (.inr (hgM b hb)), fun hb' => hb'.2 hb⟩) hr
  -- the run
  have hrun : (execOp a.eval o).run P w = .ok (.enter id (cl.args.toList.map a.eval ++ uc).toArray) w := by
    unfold execOp; rw [ho]
    have he : (#[] ++ cl.args.map a.eval ++ uc.toArray : Array Value) = (cl.args.toList.map a.eval ++ uc).toArray := by apply Array.ext'; simp
    simp only [resolve, hc, huc, Deferred.ofValue, Sem.run_bind, Sem.run_pure, Result.andThen_ok, invoke, run_enter hfn1 hfn2 hfn3, he]
  intro K Q hK
  unfold Oper.wp
  rw [hrun, Oper.upon_enter]
  refine hcall.mono ?_
  rintro e w' ⟨gs', vs, fs, rfl, hpost, hout, hfin, hapart, hgs'⟩
  -- the boxes and what was handed over
  have hnames := names_mem ct.ins tvs hbox hlen
  obtain ⟨hbnd, hbo⟩ := boxNames_nodup ct.ins tvs hbox hlen hnd
  have hbG : boxG ct.ins gs = (boxNames ct.ins tvs).map ρ := by rw [← hgs]; exact boxG_names ct.ins tvs hbox hlen
  rw [hbG] at hout hfin hapart
  have hbx : ∀ n ∈ boxNames ct.ins tvs, ∀ blk, (n, some blk) ∈ (putSlots false (finsOf ct.ins) (boxNames ct.ins tvs) (outR (finsOf ct.ins) r)).2 → ∃ blk0, applyE hp fz n = some blk0 ∧ blk0.len = blk.len ∧ blk0.esize = blk.esize := by
    intro n hn blk hm
    obtain ⟨blk0, h3, h4, h5⟩ := compat_some (List.all_eq_true.1 hlens _ hm)
    refine ⟨blk0, ?_, h4, h5⟩
    rw [applyE_notin (hdis n (by rw [hmu]; exact (hnames n).2 (.inl hn)))]
    exact hle n _ h3
  obtain ⟨hA, hMA⟩ := hR1.called (os := ownNames ct.ins tvs) (bs := boxNames ct.ins tvs) hpost (finsOf_box ct.ins) (gs := gs) (gs' := gs')
    (fun b k hb => by obtain ⟨n, h3, h4⟩ := hsrc b k hb; exact ⟨n, (hnames n).1 h3, h4⟩) (fun n hn => hmn1 n ((hnames n).2 hn)) hbx hrho hbnd hbo hapart hgs' hfin
  -- the results
  obtain ⟨hl1, hl2, hl3⟩ := names_spec d 0 ct.outs.length
  obtain ⟨ρ', hB, hρ', hMB, hTV, href, hin⟩ := adoptAll frz ct.outs (names d 0 ct.outs.length) (outL (finsOf ct.ins) r) gs' vs hA (SlotsR_mono hMA hout) (Apart_left hapart)
    (fun b k hb => by
      refine ⟨.inr ⟨k, hb⟩, ?_⟩
      rcases (hgs' b ⟨k, hb⟩).2 with h3 | h3
      · exact .inl (Nat.le_trans hR1.hsize h3)
      · obtain ⟨n, blk, k', h4, h5, h6⟩ := hgM b h3
        exact (hR1.mutn n blk b k' h4 h5 h6).2.1) hl1 hl2 hnew.symm
  have hM0 : (fun b => c.M0 b ∨ InG gs' b) = fun b => c.M0 b ∨ InG gs' b := rfl
  have hcc : (c.withM (fun b => c.M0 b ∨ InG gs' b)).withM (minusGs (c.withM (fun b => c.M0 b ∨ InG gs' b)).M0 gs') = c := by
    show c.withM (minusGs (fun b => c.M0 b ∨ InG gs' b) gs') = c
    have : minusGs (fun b => c.M0 b ∨ InG gs' b) gs' = c.M0 := by
      funext q; apply propext
      constructor
      · rintro ⟨h3 | h3, h4⟩
        · exact h3
        · exact absurd h3 h4
      · intro h3
        refine ⟨.inl h3, fun h4 => ?_⟩
        rcases (hgs' q h4).2 with h5 | h5
        · have := h.m0 q h3; omega
        · exact hR1.noMu h3 (hgM q h5)
    rw [this]; cases c; rfl
  rw [hcc] at hB hTV
  have hE : applyE (applyE (applyE hp fz) ((ownNames ct.ins tvs).map (fun n => (n, none)) ++ (putSlots false (finsOf ct.ins) (boxNames ct.ins tvs) (outR (finsOf ct.ins) r)).2)) (putSlots frz ct.outs (names d 0 ct.outs.length) (outL (finsOf ct.ins) r)).2 = applyE hp eff := by
    rw [← h2, ← applyE_append, ← applyE_append]
    simp only [List.append_assoc]
  rw [hE] at hB hTV
  have hkeys : ∀ m, m ∈ (putSlots frz ct.outs (names d 0 ct.outs.length) (outL (finsOf ct.ins) r)).2.map Prod.fst → m ∈ eff.map Prod.fst := by
    intro m hm
    rw [← h2, List.map_append]; exact List.mem_append_right _ hm
  refine hK (retV vs) w' ρ' (wrap_R hTV) (fun n hn => ?_) (hB.known_mono fun m hm => hm.imp (fun h => h) (hkeys m))
  obtain ⟨tv, htv, hn⟩ := wrap_ref hn
  exact .inr (hkeys n (href tv htv n hn))
end Go.ZM
end
end

section
/- Every operation: what it makes and touches by name; and that it does what the evaluator says. -/
set_option linter.unusedVariables false
noncomputable section
namespace Go.ZM
open Go
variable {c : Cfg} {tm : Nat → TV} {hp : Hp} {known pend : Nat → Prop} {ρ : Rho} {a : Act} {w : World} {P : Program}
variable {hp' : Hp} {o : Oper} {d : Nat} {tv : TV} {eff : Eff}

/-- names in an effect: known ones, or new ones -/
def KeysIn (hp' : Hp) (ns : List Nat) (e : Eff) : Prop := ∀ n ∈ e.map Prod.fst, (∃ b, hp' n = some b) ∨ n ∈ ns

theorem KeysIn.nil {ns : List Nat} : KeysIn hp' ns [] := fun n hn => by cases hn
theorem KeysIn.append {ns : List Nat} {e f : Eff} (h : KeysIn hp' ns e) (k : KeysIn hp' ns f) : KeysIn hp' ns (e ++ f) := by
  intro n hn
  rw [List.map_append, List.mem_append] at hn
  exact hn.elim (h n) (k n)
theorem KeysIn.one {ns : List Nat} {n : Nat} {b : Option Blk} (h : (∃ b, hp' n = some b) ∨ n ∈ ns) : KeysIn hp' ns [(n, b)] := by
  intro m hm
  have : m = n := by simpa using hm
  rw [this]; exact h

theorem asVal_keys {β : Type} {ns : List Nat} {t : Ty} {v : TV} {k : t.den → Eff → Option β} {r : β} (h : asVal hp' t v k = some r) : ∃ y f, k y f = some r ∧ KeysIn hp' ns f := by
  unfold asVal at h
  split at h
  · split at h
    · exact ⟨_, _, h, .nil⟩
    · cases h
  · split at h
    · exact ⟨_, _, h, .nil⟩
    · cases h
  · split at h
    · rename_i hn
      split at h
      · exact ⟨_, _, h, .one (.inl ⟨_, hn⟩)⟩
      · cases h
    · split at h
      · exact ⟨_, _, h, .nil⟩
      · cases h
    · cases h
  · split at h
    · rename_i hn
      split at h
      · exact ⟨_, _, h, .one (.inl ⟨_, hn⟩)⟩
      · cases h
    · split at h
      · exact ⟨_, _, h, .nil⟩
      · cases h
    · cases h
  · cases h

theorem takeSlot_keys {β : Type} {ns : List Nat} {s : Slot} {v : TV} {k : s.den → List Nat → Eff → Option β} {r : β} (h : takeSlot hp' s v k = some r) :
    ∃ y mu f, k y mu f = some r ∧ KeysIn hp' ns f ∧ (∀ n ∈ boxNames [s] [v], ∃ b, hp' n = some b) ∧ ∀ n ∈ ownNames [s] [v], ∃ b, hp' n = some b := by
  cases s with
  | val t =>
    simp only [takeSlot] at h
    obtain ⟨y, f, h1, h2⟩ := asVal_keys (ns := ns) h
    exact ⟨y, [], f, h1, h2, (by cases v <;> (intro n hn; cases hn)), (by cases v <;> (intro n hn; cases hn))⟩
  | own e t =>
    simp only [takeSlot] at h
    split at h
    · exact ⟨_, _, _, h, .nil, (fun n hn => by cases hn), (fun n hn => by cases hn)⟩
    · split at h
      · rename_i m _ _ _ hm
        cases hb : Nat.beq e _ with
        | false => rw [hb] at h; cases h
        | true =>
          rw [hb] at h; simp only [cond_true] at h
          split at h
          · exact ⟨_, _, _, h, .nil, (fun n hn => by cases hn), (fun n hn => by rw [List.mem_singleton.1 hn]; exact ⟨_, hm⟩)⟩
          · cases h
      · cases h
    · rename_i m lo len
      split at h
      · rename_i e' _ _ hm
        cases hb : (Nat.beq e e' && Nat.beq lo 0) with
        | false => rw [hb] at h; cases h
        | true =>
          rw [hb] at h; simp only [cond_true] at h
          split at h
          · exact ⟨_, _, _, h, .nil, (fun n hn => by cases hn), (fun n hn => by rw [List.mem_singleton.1 hn]; exact ⟨_, hm⟩)⟩
          · cases h
      · cases h
    · cases h
  | box t =>
    simp only [takeSlot] at h
    split at h
    · rename_i m off
      split at h
      · rename_i hm
        cases hb : Nat.beq off 0 with
        | false => rw [hb] at h; cases h
        | true =>
          rw [hb] at h; simp only [cond_true] at h
          split at h
          · exact ⟨_, _, _, h, .nil, (fun n hn => by rw [List.mem_singleton.1 hn]; exact ⟨_, hm⟩), (fun n hn => by cases hn)⟩
          · cases h
      · cases h
    · cases h
  | vw e t =>
    simp only [takeSlot] at h
    split at h
    · rename_i m
      split at h
      · rename_i e' _ _ hm
        cases hb : (Nat.beq e e' && Nat.blt 0 t.size) with
        | false => rw [hb] at h; cases h
        | true =>
          rw [hb] at h; simp only [cond_true] at h
          split at h
          · rename_i ys _
            cases hl : Nat.blt 0 (List.length (α := t.den) ys) with
            | false => rw [hl] at h; cases h
            | true =>
              rw [hl] at h; simp only [cond_true] at h
              exact ⟨_, _, _, h, .nil, (fun n hn => by rw [List.mem_singleton.1 hn]; exact ⟨_, hm⟩), (fun n hn => by cases hn)⟩
          · cases h
      · cases h
    · rename_i m lo len
      split at h
      · rename_i e' _ _ hm
        cases hb : (Nat.beq e e' && Nat.blt 0 t.size) with
        | false => rw [hb] at h; cases h
        | true =>
          rw [hb] at h; simp only [cond_true] at h
          split at h
          · rename_i ys _
            cases hl : Nat.blt 0 len with
            | false => rw [hl] at h; cases h
            | true =>
              rw [hl] at h; simp only [cond_true] at h
              exact ⟨_, _, _, h, .nil, (fun n hn => by rw [List.mem_singleton.1 hn]; exact ⟨_, hm⟩), (fun n hn => by cases hn)⟩
          · cases h
      · cases h
    · cases h

theorem boxNames_cons (s : Slot) (v : TV) (ss : List Slot) (vs : List TV) : boxNames (s :: ss) (v :: vs) = boxNames [s] [v] ++ boxNames ss vs := by
  cases s <;> cases v <;> rfl
theorem ownNames_cons (s : Slot) (v : TV) (ss : List Slot) (vs : List TV) : ownNames (s :: ss) (v :: vs) = ownNames [s] [v] ++ ownNames ss vs := by
  cases s <;> cases v <;> rfl

theorem takeSlots_keys {β : Type} {ns : List Nat} : ∀ (ss : List Slot) (vs : List TV) (k : den ss → List Nat → Eff → Option β) (r : β), takeSlots hp' ss vs k = some r →
    ∃ y mu f, k y mu f = some r ∧ KeysIn hp' ns f ∧ (∀ n ∈ boxNames ss vs, ∃ b, hp' n = some b) ∧ ∀ n ∈ ownNames ss vs, ∃ b, hp' n = some b
  | [], [], k, r, h => ⟨_, _, _, h, .nil, (fun n hn => by cases hn), (fun n hn => by cases hn)⟩
  | [s], [v], k, r, h => takeSlot_keys h
  | s :: s' :: ss, v :: vs, k, r, h => by
    simp only [takeSlots] at h
    obtain ⟨y, mu, f, h1, h2, h3, h4⟩ := takeSlot_keys (ns := ns) h
    obtain ⟨y', mu', f', k1, k2, k3, k4⟩ := takeSlots_keys (ns := ns) (s' :: ss) vs _ r h1
    refine ⟨_, _, _, k1, h2.append k2, fun n hn => ?_, fun n hn => ?_⟩
    · rw [boxNames_cons, List.mem_append] at hn; exact hn.elim (h3 n) (k3 n)
    · rw [ownNames_cons, List.mem_append] at hn; exact hn.elim (h4 n) (k4 n)
  | [], _ :: _, _, _, h => by simp [takeSlots] at h
  | [_], [], _, _, h => by simp [takeSlots] at h
  | [_], _ :: _ :: _, _, _, h => by simp [takeSlots] at h
  | _ :: _ :: _, [], _, _, h => by simp [takeSlots] at h

theorem putSlot_keys (frz : Bool) (n : Nat) (s : Slot) (x : s.den) : (∀ m ∈ (putSlot frz n s x).2.map Prod.fst, m = n) ∧ (valSlot s = true → (putSlot frz n s x).2 = []) := by
  cases s with
  | val t => exact ⟨(fun m hm => by cases hm), fun _ => rfl⟩
  | own e t => cases frz <;> exact ⟨by simp [putSlot], fun h => by cases h⟩
  | box t => exact ⟨by simp [putSlot], fun h => by cases h⟩
  | vw e t => exact ⟨by simp [putSlot], fun h => by cases h⟩

theorem putSlots_keys (frz : Bool) : ∀ (ss : List Slot) (ns : List Nat) (x : den ss), (∀ m ∈ (putSlots frz ss ns x).2.map Prod.fst, m ∈ ns) ∧ ((∀ s ∈ ss, valSlot s = true) → (putSlots frz ss ns x).2 = [])
  | [], _, _ => ⟨(fun m hm => by cases hm), fun _ => rfl⟩
  | [s], n :: _, x => by
    obtain ⟨h1, h2⟩ := putSlot_keys frz n s x
    exact ⟨fun m hm => by rw [h1 m hm]; exact List.mem_cons_self .., fun h => h2 (h s (List.mem_singleton.2 rfl))⟩
  | [_], [], _ => ⟨(fun m hm => by cases hm), fun _ => rfl⟩
  | s :: s' :: r, n :: ns, x => by
    obtain ⟨h1, h2⟩ := putSlot_keys frz n s x.1
    obtain ⟨k1, k2⟩ := putSlots_keys frz (s' :: r) ns x.2
    refine ⟨fun m hm => ?_, fun h => ?_⟩
    · have hm : m ∈ ((putSlot frz n s x.1).2 ++ (putSlots frz (s' :: r) ns x.2).2).map Prod.fst := hm
      rw [List.map_append, List.mem_append] at hm
      rcases hm with hm | hm
      · rw [h1 m hm]; exact List.mem_cons_self ..
      · exact List.mem_cons_of_mem _ (k1 m hm)
    · show (putSlot frz n s x.1).2 ++ (putSlots frz (s' :: r) ns x.2).2 = []
      rw [h2 (h s (List.mem_cons_self ..)), k2 (fun q hq => h q (List.mem_cons_of_mem _ hq))]; rfl
  | _ :: _ :: _, [], _ => ⟨(fun m hm => by cases hm), fun _ => rfl⟩

theorem names_sub (d : Nat) : ∀ (i k l : Nat), k ≤ l → ∀ n ∈ names d i k, n ∈ names d i l
  | _, 0, _, _, n, hn => by cases hn
  | i, k + 1, 0, h, _, _ => by omega
  | i, k + 1, l + 1, h, n, hn => by
    rcases List.mem_cons.1 hn with hn | hn
    · rw [hn]; exact List.mem_cons_self ..
    · exact List.mem_cons_of_mem _ (names_sub d (i + 1) k l (by omega) n hn)

theorem call_new {cx : Cx} {cl : Call} {f : Operand} (ho : o.op = .call cl) (hc : cl.callee = .value f) (hd : o.dst = some d) {ev : Operand → TV} (hev : ∀ g, ev (.func g) = .fn g .tnil) {id : FuncId} {caps : TV} {ct : Ctr} (h1 : ev f = .fn id caps) (h2 : lk? cx.fns id = some ct) (h4 : ct.outs.length ≤ 4) :
    (∀ s ∈ ct.outs, valSlot s = true) ∨ ∀ n ∈ names d 0 ct.outs.length, n ∈ makes cx o := by
  cases f with
  | func g =>
    rw [hev] at h1
    injection h1 with h1 _
    subst h1
    cases hv : ct.outs.all valSlot with
    | true => exact .inl (fun s hs => List.all_eq_true.1 hv s hs)
    | false =>
      refine .inr fun n hn => ?_
      simp only [makes, ho, hd, hc, h2, hv]
      exact hn
  | tmp t => refine .inr fun n hn => ?_; simp only [makes, ho, hd, hc]; exact names_sub d 0 _ 4 h4 n hn
  | const v => refine .inr fun n hn => ?_; simp only [makes, ho, hd, hc]; exact names_sub d 0 _ 4 h4 n hn
  | global g => refine .inr fun n hn => ?_; simp only [makes, ho, hd, hc]; exact names_sub d 0 _ 4 h4 n hn

theorem buildK_keys {β : Type} {ns : List Nat} {fields : List (Nat × Ty)} {t : Ty} : ∀ (parts : List (Nat × TV)) (x : t.den) (fz : Eff) (k : t.den → Eff → Option β) (r : β), KeysIn hp' ns fz → buildK hp' fields t parts x fz k = some r → ∃ x' fz', k x' fz' = some r ∧ KeysIn hp' ns fz'
  | [], x, fz, k, r, hf, h => ⟨x, fz, h, hf⟩
  | (i, v) :: ps, x, fz, k, r, hf, h => by
    simp only [buildK] at h
    split at h
    · obtain ⟨y, f, h1, h2⟩ := asVal_keys (ns := ns) h
      obtain ⟨z, _, h3⟩ := setK_some h1
      exact buildK_keys ps z _ k r (hf.append h2) h3
    · cases h

theorem buildSliceK_keys {β : Type} {ns : List Nat} {t : Ty} : ∀ (parts : List (Nat × TV)) (x : List t.den) (fz : Eff) (k : List t.den → Eff → Option β) (r : β), KeysIn hp' ns fz → buildSliceK hp' t parts x fz k = some r → ∃ x' fz', k x' fz' = some r ∧ KeysIn hp' ns fz'
  | [], x, fz, k, r, hf, h => ⟨x, fz, h, hf⟩
  | (i, v) :: ps, x, fz, k, r, hf, h => by
    simp only [buildSliceK] at h
    cases hb : Nat.blt i x.length with
    | false => rw [hb] at h; cases h
    | true =>
      rw [hb] at h; simp only [cond_true] at h
      obtain ⟨y, f, h1, h2⟩ := asVal_keys (ns := ns) h
      exact buildSliceK_keys ps _ _ k r (hf.append h2) h1
end Go.ZM
end
end

section
/- Every operation does what the evaluator says. -/
set_option linter.unusedVariables false
noncomputable section
namespace Go.ZM
open Go
variable {c : Cfg} {tm : Nat → TV} {hp : Hp} {known pend : Nat → Prop} {ρ : Rho} {a : Act} {w : World} {P : Program}
variable {hp' : Hp} {o : Oper} {d : Nat} {tv : TV} {eff : Eff}

def pendAfter (frz : Bool) (o : Oper) (pend : Nat → Prop) (m : Nat) : Prop := pend m ∧ ¬ (frz = true ∧ isAlloc o = true ∧ o.dst = some m)

theorem pendAfter_not {frz : Bool} (h : isAlloc o = false ∨ frz = false) : pendAfter frz o pend = pend := by
  funext m; apply propext
  exact ⟨fun h => h.1, fun hm => ⟨hm, fun ⟨h1, h2, _⟩ => by rcases h with h | h <;> simp_all⟩⟩

theorem fits_tmp {lo : List Nat} {N : Nat} (h : opFits lo N o = true) {x : Operand} (hx : x ∈ o.op.operands.toList) {t : Nat} (ht : x = .tmp t) : t < N := by
  unfold opFits at h
  rw [Bool.and_eq_true] at h
  have := List.all_eq_true.1 h.1 t (by unfold opTmps; exact List.mem_filterMap.2 ⟨x, hx, by rw [ht]⟩)
  exact Nat.le_of_ble_eq_true this

theorem fits_dst {lo : List Nat} {N : Nat} (h : opFits lo N o = true) (hs : ∀ t x y, o.op ≠ .store t x y) : ∃ d, o.dst = some d ∧ d < N := by
  unfold opFits at h
  rw [Bool.and_eq_true] at h
  cases hd : o.dst with
  | some d => rw [hd] at h; exact ⟨d, rfl, Nat.le_of_ble_eq_true (Bool.and_eq_true _ _ ▸ h.2).2⟩
  | none =>
    exfalso
    rw [hd] at h
    cases hop : o.op with
    | store t x y => exact hs t x y hop
    | _ => rw [hop] at h; simp at h

theorem binOpK_some {β : Type} {op : BinOp} {b b' : Bool} {x y : TV} {k : TV → Option β} {r : β} (h : binOpK op b b' x y k = some r) : ∃ v, k v = some r := by
  unfold binOpK at h
  split at h
  · split at h
    · rcases cond_some h with ⟨_, h⟩ | ⟨_, h⟩
      · cases h
      · exact ⟨_, h⟩
    · rcases cond_some h with ⟨_, h⟩ | ⟨_, h⟩
      · cases h
      · exact ⟨_, h⟩
    · split at h
      · cases h
      · split at h
        all_goals first
          | exact ⟨_, h⟩
          | (cases h; done)
          | (rcases cond_some h with ⟨_, h⟩ | ⟨_, h⟩
             · cases h
             · exact ⟨_, h⟩)
  · split at h
    · rcases cond_some h with ⟨_, h⟩ | ⟨_, h⟩
      · exact ⟨_, h⟩
      · cases h
    · rcases cond_some h with ⟨_, h⟩ | ⟨_, h⟩
      · exact ⟨_, h⟩
      · cases h
    · cases h
  · split at h
    · rcases cond_some h with ⟨_, h⟩ | ⟨_, h⟩
      · exact ⟨_, h⟩
      · cases h
    · cases h
  · cases h

theorem unOpK_some {β : Type} {op : UnOp} {x : TV} {k : TV → Option β} {r : β} (h : unOpK op x k = some r) : ∃ v, k v = some r := by
  unfold unOpK at h
  split at h
  · split at h
    · exact ⟨_, h⟩
    · exact ⟨_, h⟩
    · cases h
  · split at h
    · exact ⟨_, h⟩
    · cases h
  · cases h

theorem offK_ex {β : Type} {x : TV} {n : Nat} {k : TV → Option β} {r : β} (h : offK x n k = some r) : ∃ v, k v = some r := by
  rcases offK_some h with ⟨_, _, _, h⟩ | ⟨_, _, _, _, h⟩ | ⟨_, _, _, _, h⟩
  all_goals exact ⟨_, h⟩

theorem getK_ex {β : Type} {ty t : Ty} {x : t.den} {off : Nat} {k : TV → Option β} {r : β} (h : getK ty t x off k = some r) : ∃ v, k v = some r := by
  unfold getK at h
  split at h
  · exact ⟨_, h⟩
  · cases h

theorem ownLen_ex {β : Type} {hp : Hp} {et : Ty} {n : Nat} {k : Nat → Option β} {r : β} (h : ownLen hp et n k = some r) : ∃ v, k v = some r := by
  unfold ownLen at h
  split at h
  · split at h
    · exact ⟨_, h⟩
    · cases h
  · split at h
    · exact ⟨_, h⟩
    · cases h
  · cases h

theorem sliceK_some {β : Type} {hp : Hp} {et : Ty} {x : TV} {lo hi mx : Option TV} {k : TV → Option β} {r : β} (h : sliceK hp et x lo hi mx k = some r) : ∃ v, k v = some r := by
  unfold sliceK at h
  obtain ⟨l, _, h⟩ := optInt_ex h
  unfold sliceK2 at h
  split at h
  · split at h
    · cases h
    · obtain ⟨h', _, h⟩ := optInt_ex h
      split at h
      · rcases cond_some h with ⟨_, h⟩ | ⟨_, h⟩
        · exact ⟨_, h⟩
        · cases h
      · rcases cond_some h with ⟨_, h⟩ | ⟨_, h⟩
        · obtain ⟨_, _, _, h⟩ := asInt_some h
          rcases cond_some h with ⟨_, h⟩ | ⟨_, h⟩
          · exact ⟨_, h⟩
          · cases h
        · cases h
  · split at h
    · cases h
    · obtain ⟨_, h⟩ := ownLen_ex h
      obtain ⟨h', _, h⟩ := optInt_ex h
      rcases cond_some h with ⟨_, h⟩ | ⟨_, h⟩
      · exact ⟨_, h⟩
      · cases h
  · split at h
    · cases h
    · obtain ⟨_, h⟩ := ownLen_ex h
      obtain ⟨h', _, h⟩ := optInt_ex h
      rcases cond_some h with ⟨_, h⟩ | ⟨_, h⟩
      · exact ⟨_, h⟩
      · cases h
  · cases h

theorem indexAddrK_some {β : Type} {hp : Hp} {ti : TI} {x i : TV} {k : TV → Option β} {r : β} (h : indexAddrK hp ti x i k = some r) : ∃ v, k v = some r := by
  unfold indexAddrK at h
  obtain ⟨_, _, _, h⟩ := asInt_some h
  split at h
  · split at h
    · split at h
      · obtain ⟨_, _, h⟩ := Option.bind_eq_some_iff.1 h; exact ⟨_, h⟩
      · cases h
    · obtain ⟨_, h⟩ := ownLen_ex h
      rcases cond_some h with ⟨_, h⟩ | ⟨_, h⟩
      · exact ⟨_, h⟩
      · cases h
    · obtain ⟨_, h⟩ := ownLen_ex h
      rcases cond_some h with ⟨_, h⟩ | ⟨_, h⟩
      · exact ⟨_, h⟩
      · cases h
    · cases h
  · rcases cond_some h with ⟨_, h⟩ | ⟨_, h⟩
    · split at h
      · exact offK_ex h
      · cases h
    · cases h
  · cases h

theorem fieldAddrK_some {β : Type} {ti : TI} {x : TV} {f : Nat} {k : TV → Option β} {r : β} (h : fieldAddrK ti x f k = some r) : ∃ v, k v = some r := by
  unfold fieldAddrK at h
  rcases cond_some h with ⟨_, h⟩ | ⟨_, h⟩
  · cases h
  · split at h
    · cases h
    · exact offK_ex h

theorem fieldK_some {β : Type} {ti : TI} {x : TV} {f : Nat} {k : TV → Option β} {r : β} (h : fieldK ti x f k = some r) : ∃ v, k v = some r := by
  unfold fieldK at h
  rcases cond_some h with ⟨_, h⟩ | ⟨_, h⟩
  · cases h
  · split at h
    · split at h
      · exact getK_ex h
      · cases h
    · cases h

theorem lenK_some {β : Type} {hp : Hp} {x : TV} {k : Nat → Option β} {r : β} (h : lenK hp x k = some r) : ∃ v, k v = some r := by
  unfold lenK at h
  split at h
  · exact ⟨_, h⟩
  · exact ⟨_, h⟩
  · split at h
    · exact ⟨_, h⟩
    · exact ⟨_, h⟩
    · cases h
  · split at h
    · exact ⟨_, h⟩
    · exact ⟨_, h⟩
    · cases h
  · cases h

theorem strLen_some {β : Type} {x : TV} {k : Nat → Option β} {r : β} (h : strLen x k = some r) : ∃ v, k v = some r := by
  unfold strLen at h
  split at h
  · exact ⟨_, h⟩
  · cases h

theorem noEff {v : TV} (h : some (v, ([] : Eff)) = some (tv, eff)) : eff = [] := by injection h with h; injection h with _ h; exact h.symm

theorem op_ok (h : Rel c tm hp known pend ρ a w) {cx : Cx} (hty : tysOk P cx.tys = true) (hfns : FnsOk P cx.fns) (frz : Bool) (hle : LeS hp' hp) (hw : cls cx (evF tm) o = 2 → hp' = hp) (hfit : opFits c.lo c.N o = true)
    (hnew : (frz = false ∨ isAlloc o = false) → ∀ n ∈ makes cx o, ¬ known n) (hpre : frz = true → ∀ e d, o.op = .alloc e → o.dst = some d → pend d ∧ ∃ ti, lk? cx.tys e = some ti ∧ hp d = some (.box ti.ty ti.ty.zero))
    (hk : opK cx frz (evF tm) hp' o (o.dst.getD 0) (fun v e => some (v, e)) = some (tv, eff)) :
    OpOk P c tm hp known (pendAfter frz o pend) a w o tv eff ∧ KeysIn hp' (makes cx o) eff := by
  have tmp : ∀ x ∈ o.op.operands.toList, ∀ t, x = .tmp t → t < c.N := fun x hx t ht => fits_tmp hfit hx ht
  have fin : isAlloc o = false → OpOk P c tm hp known pend a w o tv eff → KeysIn hp' (makes cx o) eff → OpOk P c tm hp known (pendAfter frz o pend) a w o tv eff ∧ KeysIn hp' (makes cx o) eff := by
    intro hna h1 h2; rw [pendAfter_not (.inl hna)]; exact ⟨h1, h2⟩
  have mk1 : ∀ (n : Nat), n ∈ makes cx o → KeysIn hp' (makes cx o) ([(n, none)] : Eff) := fun n hn => .one (.inr hn)
  unfold opK at hk
  split at hk
  · rename_i x hop
    refine fin (by unfold isAlloc; rw [hop]) (move_ok h (.inl hop) (tmp x (by rw [hop]; simp [Op.operands])) hk) ?_
    injection hk with hk; injection hk with _ h2; rw [← h2]; exact .nil
  · rename_i x hop
    refine fin (by unfold isAlloc; rw [hop]) (move_ok h (.inr hop) (tmp x (by rw [hop]; simp [Op.operands])) hk) ?_
    injection hk with hk; injection hk with _ h2; rw [← h2]; exact .nil
  · rename_i p x y hop
    have hr := pick_ok (P := P) h hop (tmp p (by rw [hop]; simp [Op.operands])) (tmp x (by rw [hop]; simp [Op.operands])) (tmp y (by rw [hop]; simp [Op.operands])) hk
    refine fin (by unfold isAlloc; rw [hop]) hr ?_
    obtain ⟨b, _, hk⟩ := asBool_some hk
    cases b <;> (injection hk with hk; injection hk with _ h2; rw [← h2]; exact .nil)
  · -- alloc
    rename_i e hop
    obtain ⟨d, hd, _⟩ := fits_dst hfit (by rw [hop]; intro _ _ _ h; cases h)
    rw [hd] at hk; simp only [Option.getD_some] at hk
    have hmk : d ∈ makes cx o := by simp [makes, hop, hd]
    cases frz with
    | false =>
      simp only [cond_false] at hk
      have hr := alloc_ok h hty hop hd (hnew (.inl rfl) d hmk) hk
      obtain ⟨ti, _, hk⟩ := withTI_some hk
      injection hk with hk; injection hk with _ h2
      rw [pendAfter_not (.inr rfl)]
      exact ⟨hr, by rw [← h2]; exact .one (.inr hmk)⟩
    | true =>
      simp only [cond_true] at hk
      obtain ⟨h1, h2⟩ := hpre rfl e d hop hd
      have hr := allocD_ok h hty hop hd h1 h2 hk
      obtain ⟨ti, _, hk⟩ := withTI_some hk
      injection hk with hk; injection hk with _ h3
      have : (fun m => pend m ∧ d ≠ m) = pendAfter true o pend := by
        funext m; apply propext
        unfold pendAfter isAlloc; rw [hop, hd]
        simp
      rw [this] at hr
      exact ⟨hr, by rw [← h3]; exact .nil⟩
  · -- box
    rename_i e x hop
    obtain ⟨d, hd, _⟩ := fits_dst hfit (by rw [hop]; intro _ _ _ h; cases h)
    rw [hd] at hk; simp only [Option.getD_some] at hk
    have hmk : d ∈ makes cx o := by simp [makes, hop, hd]
    cases frz with
    | true => cases hk
    | false =>
      simp only [cond_false] at hk
      refine fin (by unfold isAlloc; rw [hop]) (box_ok h hty hle.f hop (tmp x (by rw [hop]; simp [Op.operands])) hd (hnew (.inl rfl) d hmk) hk) ?_
      obtain ⟨ti, _, hk⟩ := withTI_some hk
      obtain ⟨y, f, hk, hf⟩ := asVal_keys (ns := makes cx o) hk
      injection hk with hk; injection hk with _ h2; rw [← h2]
      exact hf.append (.one (.inr hmk))
  · rename_i t parts hop
    refine fin (by unfold isAlloc; rw [hop]) (build_ok h hty hle.f hop (fun p hp t ht => tmp p.2 (by rw [hop]; simp only [Op.operands]; exact List.mem_map.2 ⟨p, hp, rfl⟩) t ht) hk) ?_
    obtain ⟨ti, _, hk⟩ := withTI_some hk
    cases hag : (ti.ty.isAgg && !ti.fields.isEmpty) with
    | false => rw [hag] at hk; cases hk
    | true =>
      rw [hag] at hk; simp only [cond_true] at hk
      obtain ⟨x', f', hk, hf⟩ := buildK_keys (ns := makes cx o) _ _ _ _ _ .nil hk
      injection hk with hk; injection hk with _ h2; rw [← h2]; exact hf
  · -- buildSlice
    rename_i t len parts hop
    obtain ⟨d, hd, _⟩ := fits_dst hfit (by rw [hop]; intro _ _ _ h; cases h)
    rw [hd] at hk; simp only [Option.getD_some] at hk
    have hmk : d ∈ makes cx o := by simp [makes, hop, hd]
    refine fin (by unfold isAlloc; rw [hop]) (buildSlice_ok h hty hle.f hop (fun p hp t ht => tmp p.2 (by rw [hop]; simp only [Op.operands]; exact List.mem_map.2 ⟨p, hp, rfl⟩) t ht) (fun hf => ⟨hd, hnew (.inl hf) d hmk⟩) hk) ?_
    obtain ⟨ti, _, hk⟩ := withTI_some hk
    obtain ⟨et, _, hk⟩ := withSlice_some hk
    cases hl : Nat.ble (len * et.size) 16777216 with
    | false => rw [hl] at hk; cases hk
    | true =>
      rw [hl] at hk; simp only [cond_true] at hk
      obtain ⟨x', f', hk, hf⟩ := buildSliceK_keys (ns := makes cx o) _ _ _ _ _ .nil hk
      cases frz with
      | true => injection hk with hk; injection hk with _ h2; rw [← h2]; exact hf
      | false => injection hk with hk; injection hk with _ h2; rw [← h2]; exact hf.append (.one (.inr hmk))
  · rename_i t x hop
    refine fin (by unfold isAlloc; rw [hop]) (load_ok h hty hle.f hop (tmp x (by rw [hop]; simp [Op.operands])) hk) ?_
    obtain ⟨ti, _, hk⟩ := withTI_some hk
    have : eff = [] := by
      have gk : ∀ {ty t : Ty} {x : t.den} {off : Nat}, getK ty t x off (fun v => some (v, ([] : Eff))) = some (tv, eff) → eff = [] := fun h => by obtain ⟨_, _, _, h⟩ := getK_some h; exact h
      unfold loadK at hk
      split at hk
      · split at hk
        · exact gk hk
        · cases hk
      · exact gk hk
      · split at hk
        · obtain ⟨_, _, hk⟩ := Option.bind_eq_some_iff.1 hk; exact gk hk
        · obtain ⟨_, _, hk⟩ := Option.bind_eq_some_iff.1 hk; exact gk hk
        · cases hk
      · cases hk
    rw [this]; exact .nil
  · -- store
    rename_i t x y hop
    have hhp : hp' = hp := hw (by unfold cls; rw [hop])
    subst hhp
    refine fin (by unfold isAlloc; rw [hop]) (store_ok h hty hop (tmp x (by rw [hop]; simp [Op.operands])) (tmp y (by rw [hop]; simp [Op.operands])) hk) ?_
    obtain ⟨ti, _, hk⟩ := withTI_some hk
    unfold storeK at hk
    obtain ⟨y', f, hk, hf⟩ := asVal_keys (ns := makes cx o) hk
    split at hk
    · split at hk
      · rename_i hn
        obtain ⟨z, _, hk⟩ := setK_some hk
        injection hk with hk; injection hk with _ h2; rw [← h2]
        exact hf.append (.one (.inl ⟨_, hn⟩))
      · cases hk
    · rename_i n i' off hev
      cases hany : f.any (fun e => Nat.beq n e.1) with
      | true => rw [hany] at hk; cases hk
      | false =>
        rw [hany] at hk; simp only [cond_false] at hk
        split at hk
        · rename_i hn
          obtain ⟨_, _, hk⟩ := Option.bind_eq_some_iff.1 hk
          obtain ⟨z, _, hk⟩ := setK_some hk
          injection hk with hk; injection hk with _ h2; rw [← h2]
          exact hf.append (.one (.inl ⟨_, hn⟩))
        · cases hk
    · cases hk
  · rename_i x hop
    refine fin (by unfold isAlloc; rw [hop]) (nilCheck_ok h hop (tmp x (by rw [hop]; simp [Op.operands])) hk) ?_
    have : eff = [] := by
      split at hk
      all_goals first
        | (injection hk with hk; injection hk with _ h2; exact h2.symm)
        | cases hk
    rw [this]; exact .nil
  · rename_i op t x y t' hop
    refine fin (by unfold isAlloc; rw [hop]) (binOp_ok (cx := cx) h hop (tmp x (by rw [hop]; simp [Op.operands])) (tmp y (by rw [hop]; simp [Op.operands])) hty hk) ?_
    obtain ⟨v, hk⟩ := binOpK_some hk
    rw [noEff hk]; exact .nil
  · rename_i op t x hop
    refine fin (by unfold isAlloc; rw [hop]) (unOp_ok h hop (tmp x (by rw [hop]; simp [Op.operands])) hk) ?_
    obtain ⟨v, hk⟩ := unOpK_some hk
    rw [noEff hk]; exact .nil
  · rename_i s t x hop
    refine fin (by unfold isAlloc; rw [hop]) (convert_ok h hty hop (tmp x (by rw [hop]; simp [Op.operands])) hk) ?_
    obtain ⟨_, _, hk⟩ := withTI_some hk
    obtain ⟨_, _, hk⟩ := withTI_some hk
    split at hk
    · obtain ⟨_, _, _, hk⟩ := asInt_some hk
      rw [noEff hk]; exact .nil
    · cases hk
  · rename_i fn first captured hop
    refine fin (by unfold isAlloc; rw [hop]) (makeFunc_ok h hop (fun x hx => tmp x (by rw [hop]; simp only [Op.operands, Array.toList_append]; exact List.mem_append_right _ hx)) hk) ?_
    unfold makeFuncK at hk
    split at hk
    · rcases cond_some hk with ⟨_, hk⟩ | ⟨_, hk⟩
      · cases hk
      · rw [noEff hk]; exact .nil
    · cases hk
  · rename_i t x y hop
    obtain ⟨d, hd, _⟩ := fits_dst hfit (by rw [hop]; intro _ _ _ h; cases h)
    rw [hd] at hk; simp only [Option.getD_some] at hk
    have hmk : d ∈ makes cx o := by simp [makes, hop, hd]
    refine fin (by unfold isAlloc; rw [hop]) (makeSlice_ok h hty hop (tmp x (by rw [hop]; simp [Op.operands])) (tmp y (by rw [hop]; simp [Op.operands])) (fun hf => ⟨hd, hnew (.inl hf) d hmk⟩) hk) ?_
    obtain ⟨_, _, hk⟩ := withTI_some hk
    obtain ⟨_, _, hk⟩ := withSlice_some hk
    obtain ⟨_, _, _, hk⟩ := asInt_some hk
    obtain ⟨_, _, _, hk⟩ := asInt_some hk
    rcases cond_some hk with ⟨_, hk⟩ | ⟨_, hk⟩
    · cases frz with
      | true => rw [noEff hk]; exact .nil
      | false => injection hk with hk; injection hk with _ h2; rw [← h2]; exact .one (.inr hmk)
    · cases hk
  · rename_i t x lo hi mx hop
    refine fin (by unfold isAlloc; rw [hop]) (slice_ok h hty hle.f hop (tmp x (by rw [hop]; simp [Op.operands])) (fun y hy => tmp y (by rw [hop, hy]; simp [Op.operands])) (fun y hy => tmp y (by rw [hop, hy]; simp [Op.operands])) (fun y hy => tmp y (by rw [hop, hy]; simp [Op.operands])) hk) ?_
    obtain ⟨_, _, hk⟩ := withTI_some hk
    obtain ⟨_, _, hk⟩ := withSlice_some hk
    obtain ⟨v, hk⟩ := sliceK_some hk
    rw [noEff hk]; exact .nil
  · rename_i t x f hop
    refine fin (by unfold isAlloc; rw [hop]) (fieldAddr_ok h hty hop (tmp x (by rw [hop]; simp [Op.operands])) hk) ?_
    obtain ⟨_, _, hk⟩ := withTI_some hk
    obtain ⟨v, hk⟩ := fieldAddrK_some hk
    rw [noEff hk]; exact .nil
  · rename_i t x f hop
    refine fin (by unfold isAlloc; rw [hop]) (field_ok h hty hop (tmp x (by rw [hop]; simp [Op.operands])) hk) ?_
    obtain ⟨_, _, hk⟩ := withTI_some hk
    obtain ⟨v, hk⟩ := fieldK_some hk
    rw [noEff hk]; exact .nil
  · rename_i t x i hop
    refine fin (by unfold isAlloc; rw [hop]) (indexAddr_ok h hty hle.f hop (tmp x (by rw [hop]; simp [Op.operands])) (tmp i (by rw [hop]; simp [Op.operands])) hk) ?_
    obtain ⟨_, _, hk⟩ := withTI_some hk
    obtain ⟨v, hk⟩ := indexAddrK_some hk
    rw [noEff hk]; exact .nil
  · rename_i x i hop
    refine fin (by unfold isAlloc; rw [hop]) (extract_ok h hop (tmp x (by rw [hop]; simp [Op.operands])) hk) ?_
    split at hk
    · rw [noEff hk]; exact .nil
    · cases hk
  · rename_i t x i hop
    refine fin (by unfold isAlloc; rw [hop]) (index_ok h hty hop (tmp x (by rw [hop]; simp [Op.operands])) (tmp i (by rw [hop]; simp [Op.operands])) hk) ?_
    obtain ⟨_, _, hk⟩ := withTI_some hk
    split at hk
    · obtain ⟨v, hk⟩ := idxStrK_some hk; rw [noEff hk]; exact .nil
    · cases hk
  · rename_i cl hop
    have hna : isAlloc o = false := by unfold isAlloc; rw [hop]
    obtain ⟨d, hd, _⟩ := fits_dst hfit (by rw [hop]; intro _ _ _ h; cases h)
    rw [hd] at hk; simp only [Option.getD_some] at hk
    have targs : ∀ x ∈ cl.args.toList, ∀ t, x = .tmp t → t < c.N := fun x hx => tmp x (by rw [hop]; simp only [Op.operands, Call.operands, Array.toList_append]; exact List.mem_append_right _ hx)
    split at hk
    · rename_i b hcb
      unfold builtinK at hk
      split at hk
      · split at hk
        · rename_i ts vs t x hts hvs
          obtain ⟨x0, hx0⟩ : ∃ x0, cl.args.toList = [x0] := by
            match hl : cl.args.toList with
            | [x0] => exact ⟨x0, rfl⟩
            | [] => rw [hl] at hvs; cases hvs
            | _ :: _ :: _ => rw [hl] at hvs; cases hvs
          rw [hx0] at hvs
          injection hvs with hvs _; subst hvs
          refine fin hna (len_ok h hty hle.f hop hcb hx0 hts (targs x0 (by rw [hx0]; exact List.mem_singleton.2 rfl)) hk) ?_
          split at hk
          · split at hk
            · obtain ⟨v, hk⟩ := lenK_some hk; rw [noEff hk]; exact .nil
            · obtain ⟨v, hk⟩ := strLen_some hk; rw [noEff hk]; exact .nil
            · cases hk
          · cases hk
        · cases hk
      · split at hk
        · rename_i ts vs t t' s x hts hvs
          obtain ⟨s0, x0, hx0⟩ : ∃ s0 x0, cl.args.toList = [s0, x0] := by
            match hl : cl.args.toList with
            | [s0, x0] => exact ⟨s0, x0, rfl⟩
            | [] => rw [hl] at hvs; cases hvs
            | [_] => rw [hl] at hvs; cases hvs
            | _ :: _ :: _ :: _ => rw [hl] at hvs; cases hvs
          rw [hx0] at hvs
          injection hvs with hvs hvs2; injection hvs2 with hvs2 _; subst hvs; subst hvs2
          have hhp : hp' = hp := hw (by unfold cls; rw [hop]; simp only [hcb])
          subst hhp
          have hmk : d ∈ makes cx o := by simp [makes, hop, hd, hcb]
          refine fin hna (append_ok h hty hop hcb hx0 hts (targs s0 (by rw [hx0]; exact List.mem_cons_self ..)) (targs x0 (by rw [hx0]; exact List.mem_cons_of_mem _ (List.mem_singleton.2 rfl))) (hnew (.inr hna) d hmk) hk) ?_
          rcases cond_some hk with ⟨_, hk⟩ | ⟨_, hk⟩
          · split at hk
            · split at hk
              · unfold appendK at hk
                obtain ⟨ys, hk, _⟩ := asList_sound h (LeF.refl _) hk
                split at hk
                · rcases cond_some hk with ⟨_, hk⟩ | ⟨_, hk⟩
                  · injection hk with hk; injection hk with _ h2; rw [← h2]; exact .one (.inr hmk)
                  · cases hk
                · split at hk
                  · rename_i hn
                    rcases cond_some hk with ⟨_, hk⟩ | ⟨_, hk⟩
                    · split at hk
                      · rcases cond_some hk with ⟨_, hk⟩ | ⟨_, hk⟩
                        · injection hk with hk; injection hk with _ h2; rw [← h2]
                          exact (KeysIn.one (.inl ⟨_, hn⟩)).append (.one (.inr hmk))
                        · cases hk
                      · cases hk
                    · cases hk
                  · cases hk
                · split at hk
                  · rename_i hn
                    rcases cond_some hk with ⟨_, hk⟩ | ⟨_, hk⟩
                    · split at hk
                      · rcases cond_some hk with ⟨_, hk⟩ | ⟨_, hk⟩
                        · injection hk with hk; injection hk with _ h2; rw [← h2]
                          exact (KeysIn.one (.inl ⟨_, hn⟩)).append (.one (.inr hmk))
                        · cases hk
                      · cases hk
                    · cases hk
                  · cases hk
                · cases hk
              · cases hk
            · cases hk
          · cases hk
        · cases hk
      · split at hk
        · rename_i vs x y hvs
          obtain ⟨s0, x0, hx0⟩ : ∃ s0 x0, cl.args.toList = [s0, x0] := by
            match hl : cl.args.toList with
            | [s0, x0] => exact ⟨s0, x0, rfl⟩
            | [] => rw [hl] at hvs; cases hvs
            | [_] => rw [hl] at hvs; cases hvs
            | _ :: _ :: _ :: _ => rw [hl] at hvs; cases hvs
          rw [hx0] at hvs
          injection hvs with hvs hvs2; injection hvs2 with hvs2 _; subst hvs; subst hvs2
          refine fin hna (minmax_ok h hop hx0 (targs s0 (by rw [hx0]; exact List.mem_cons_self ..)) (targs x0 (by rw [hx0]; exact List.mem_cons_of_mem _ (List.mem_singleton.2 rfl))) (.inl ⟨hcb, rfl⟩) hk) ?_
          obtain ⟨_, _, _, hk⟩ := asInt_some hk
          obtain ⟨_, _, _, hk⟩ := asInt_some hk
          split at hk
          · rw [noEff hk]; exact .nil
          · cases hk
        · cases hk
      · split at hk
        · rename_i vs x y hvs
          obtain ⟨s0, x0, hx0⟩ : ∃ s0 x0, cl.args.toList = [s0, x0] := by
            match hl : cl.args.toList with
            | [s0, x0] => exact ⟨s0, x0, rfl⟩
            | [] => rw [hl] at hvs; cases hvs
            | [_] => rw [hl] at hvs; cases hvs
            | _ :: _ :: _ :: _ => rw [hl] at hvs; cases hvs
          rw [hx0] at hvs
          injection hvs with hvs hvs2; injection hvs2 with hvs2 _; subst hvs; subst hvs2
          refine fin hna (minmax_ok h hop hx0 (targs s0 (by rw [hx0]; exact List.mem_cons_self ..)) (targs x0 (by rw [hx0]; exact List.mem_cons_of_mem _ (List.mem_singleton.2 rfl))) (.inr ⟨hcb, rfl⟩) hk) ?_
          obtain ⟨_, _, _, hk⟩ := asInt_some hk
          obtain ⟨_, _, _, hk⟩ := asInt_some hk
          split at hk
          · rw [noEff hk]; exact .nil
          · cases hk
        · cases hk
      · cases hk
    · rename_i f hcf
      have hcn : ∀ id caps ct, evF tm f = .fn id caps → lk? cx.fns id = some ct → ct.outs.length ≤ 4 → (∀ s ∈ ct.outs, valSlot s = true) ∨ ∀ n ∈ names d 0 ct.outs.length, n ∈ makes cx o :=
        fun id caps ct h1 h2 h4 => call_new hop hcf hd (fun g => rfl) h1 h2 h4
      refine fin hna (call_ok h hfns hle hop hcf (tmp f (by rw [hop]; simp [Op.operands, Call.operands, hcf])) targs (fun id caps ct h1 h2 h4 => (hcn id caps ct h1 h2 h4).imp (fun h => h) (fun h n hn => hnew (.inr hna) n (h n hn))) hk) ?_
      split at hk
      case h_2 => cases hk
      rename_i id caps hev
      split at hk
      case h_2 => cases hk
      rename_i ct hct
      rcases cond_some hk with ⟨hc4, hk⟩ | ⟨_, hk⟩
      · rw [Bool.and_eq_true] at hc4
        have hcn := hcn id caps ct hev hct (Nat.le_of_ble_eq_true hc4.2)
        unfold callK at hk
        obtain ⟨x, mu, f, hk, hf, hb, ho⟩ := takeSlots_keys (ns := makes cx o) _ _ _ _ hk
        rcases cond_some hk with ⟨_, hk⟩ | ⟨_, hk⟩
        · obtain ⟨r, _, hk⟩ := Option.bind_eq_some_iff.1 hk
          rcases cond_some hk with ⟨_, hk⟩ | ⟨_, hk⟩
          case inr => cases hk
          injection hk with hk; injection hk with _ h2; rw [← h2]
          refine ((hf.append ?_).append ?_).append ?_
          · intro n hn
            have hn : n ∈ ownNames ct.ins (cl.args.toList.map (evF tm) ++ caps.list) := by simpa using hn
            exact .inl (ho n hn)
          · intro n hn
            exact .inl (hb n ((putSlots_keys false _ _ _).1 n hn))
          · intro n hn
            rcases hcn with hcn | hcn
            · rw [(putSlots_keys frz _ _ _).2 hcn] at hn; cases hn
            · exact .inr (hcn n ((putSlots_keys frz _ _ _).1 n hn))
        · cases hk
      · cases hk
    · cases hk
  · cases hk
end Go.ZM
end
end

section
/- The evaluator's continuations can be taken out. -/
set_option linter.unusedVariables false
noncomputable section
namespace Go.ZM
open Go
variable {β : Type} {hp : Nat → Option Blk}

def some2 {α γ : Type} (x : α) (y : γ) : Option (α × γ) := some (x, y)

theorem cond_bind {α : Type} (b : Bool) (x y : Option α) (f : α → Option β) : (bif b then x.bind f else y.bind f) = (bif b then x else y).bind f := by cases b <;> rfl

theorem asInt_b {v : TV} {k : IntKind → Int → Option β} : v.asInt k = (v.asInt some2).bind fun p => k p.1 p.2 := by unfold TV.asInt; split <;> rfl
theorem asBool_b {v : TV} {k : Bool → Option β} : v.asBool k = (v.asBool some).bind k := by unfold TV.asBool; split <;> rfl
theorem asVal_b {t : Ty} {v : TV} {k : t.den → Eff → Option β} : asVal hp t v k = (asVal hp t v some2).bind fun p => k p.1 p.2 := by
  unfold asVal
  split
  · split <;> rfl
  · cases t <;> rfl
  · split
    · split <;> rfl
    · split <;> rfl
    · rfl
  · split
    · split <;> rfl
    · split <;> rfl
    · rfl
  · rfl
theorem asList_b {t : Ty} {v : TV} {k : List t.den → Option β} : asList hp t v k = (asList hp t v some).bind k := by
  unfold asList
  split
  · split <;> rfl
  · rfl
  · split
    · split <;> rfl
    · split <;> rfl
    · rfl
  · split
    · split <;> rfl
    · split <;> rfl
    · rfl
  · rfl
theorem getK_b {ty t : Ty} {x : t.den} {off : Nat} {k : TV → Option β} : getK ty t x off k = (getK ty t x off some).bind k := by unfold getK; split <;> rfl
theorem setK_b {ty : Ty} {y : ty.den} {t : Ty} {x : t.den} {off : Nat} {k : t.den → Option β} : setK ty y t x off k = (setK ty y t x off some).bind k := by unfold setK; split <;> rfl
theorem binOpK_b {op : BinOp} {b b' : Bool} {x y : TV} {k : TV → Option β} : binOpK op b b' x y k = (binOpK op b b' x y some).bind k := by
  unfold binOpK
  split
  · split
    · rw [← cond_bind]; rfl
    · rw [← cond_bind]; rfl
    · split
      · rfl
      · split
        all_goals first
          | rfl
          | (rw [← cond_bind]; rfl)
  · split
    · rw [← cond_bind]; rfl
    · rw [← cond_bind]; rfl
    · rfl
  · split
    · rw [← cond_bind]; rfl
    · rfl
  · rfl
theorem unOpK_b {op : UnOp} {x : TV} {k : TV → Option β} : unOpK op x k = (unOpK op x some).bind k := by
  unfold unOpK
  split
  · split <;> rfl
  · split <;> rfl
  · rfl
theorem offK_b {x : TV} {n : Nat} {k : TV → Option β} : offK x n k = (offK x n some).bind k := by unfold offK; split <;> rfl
theorem ownLen_b {et : Ty} {n : Nat} {k : Nat → Option β} : ownLen hp et n k = (ownLen hp et n some).bind k := by
  unfold ownLen
  split
  · split <;> rfl
  · split <;> rfl
  · rfl
theorem optInt_b {v : Option TV} {d : Int} {k : Int → Option β} : optInt v d k = (optInt v d some).bind k := by
  cases v with
  | none => rfl
  | some v => unfold optInt; simp only; rw [asInt_b, asInt_b (k := fun _ i => some i), Option.bind_assoc]; rfl
theorem lenK_b {x : TV} {k : Nat → Option β} : lenK hp x k = (lenK hp x some).bind k := by
  unfold lenK
  split
  · rfl
  · rfl
  · split <;> rfl
  · split <;> rfl
  · rfl
theorem strLen_b {x : TV} {k : Nat → Option β} : strLen x k = (strLen x some).bind k := by unfold strLen; split <;> rfl

section
variable {α : Type} {f : α → Option β}
theorem viaTI {cx : Cx} {t : TypeId} {k : TI → Option β} {j : TI → Option α} (h : ∀ ti, k ti = (j ti).bind f) : withTI cx t k = (withTI cx t j).bind f := by unfold withTI; split; exact h _; rfl
theorem viaSlice {ti : TI} {k : TypeId → Ty → Option β} {j : TypeId → Ty → Option α} (h : ∀ e t, k e t = (j e t).bind f) : ti.withSlice k = (ti.withSlice j).bind f := by unfold TI.withSlice; split; exact h _ _; rfl
theorem viaInt {v : TV} {k : IntKind → Int → Option β} {j : IntKind → Int → Option α} (h : ∀ e t, k e t = (j e t).bind f) : v.asInt k = (v.asInt j).bind f := by
  rw [asInt_b (k := k), asInt_b (k := j), Option.bind_assoc]; congr 1; funext p; exact h _ _
theorem viaBool {v : TV} {k : Bool → Option β} {j : Bool → Option α} (h : ∀ e, k e = (j e).bind f) : v.asBool k = (v.asBool j).bind f := by
  rw [asBool_b (k := k), asBool_b (k := j), Option.bind_assoc]; congr 1; funext p; exact h _
theorem viaVal {t : Ty} {v : TV} {k : t.den → Eff → Option β} {j : t.den → Eff → Option α} (h : ∀ x e, k x e = (j x e).bind f) : asVal hp t v k = (asVal hp t v j).bind f := by
  rw [asVal_b (k := k), asVal_b (k := j), Option.bind_assoc]; congr 1; funext p; exact h _ _
theorem viaList {t : Ty} {v : TV} {k : List t.den → Option β} {j : List t.den → Option α} (h : ∀ x, k x = (j x).bind f) : asList hp t v k = (asList hp t v j).bind f := by
  rw [asList_b (k := k), asList_b (k := j), Option.bind_assoc]; congr 1; funext p; exact h _
theorem viaGet {ty t : Ty} {x : t.den} {off : Nat} {k : TV → Option β} {j : TV → Option α} (h : ∀ x, k x = (j x).bind f) : getK ty t x off k = (getK ty t x off j).bind f := by
  rw [getK_b (k := k), getK_b (k := j), Option.bind_assoc]; congr 1; funext p; exact h _
theorem viaSet {ty : Ty} {y : ty.den} {t : Ty} {x : t.den} {off : Nat} {k : t.den → Option β} {j : t.den → Option α} (h : ∀ x, k x = (j x).bind f) : setK ty y t x off k = (setK ty y t x off j).bind f := by
  rw [setK_b (k := k), setK_b (k := j), Option.bind_assoc]; congr 1; funext p; exact h _
theorem viaOff {x : TV} {n : Nat} {k : TV → Option β} {j : TV → Option α} (h : ∀ x, k x = (j x).bind f) : offK x n k = (offK x n j).bind f := by
  rw [offK_b (k := k), offK_b (k := j), Option.bind_assoc]; congr 1; funext p; exact h _
theorem viaOwnLen {et : Ty} {n : Nat} {k : Nat → Option β} {j : Nat → Option α} (h : ∀ x, k x = (j x).bind f) : ownLen hp et n k = (ownLen hp et n j).bind f := by
  rw [ownLen_b (k := k), ownLen_b (k := j), Option.bind_assoc]; congr 1; funext p; exact h _
theorem viaOptInt {v : Option TV} {d : Int} {k : Int → Option β} {j : Int → Option α} (h : ∀ x, k x = (j x).bind f) : optInt v d k = (optInt v d j).bind f := by
  rw [optInt_b (k := k), optInt_b (k := j), Option.bind_assoc]; congr 1; funext p; exact h _
theorem viaLen {x : TV} {k : Nat → Option β} {j : Nat → Option α} (h : ∀ x, k x = (j x).bind f) : lenK hp x k = (lenK hp x j).bind f := by
  rw [lenK_b (k := k), lenK_b (k := j), Option.bind_assoc]; congr 1; funext p; exact h _
theorem viaStrLen {x : TV} {k : Nat → Option β} {j : Nat → Option α} (h : ∀ x, k x = (j x).bind f) : strLen x k = (strLen x j).bind f := by
  rw [strLen_b (k := k), strLen_b (k := j), Option.bind_assoc]; congr 1; funext p; exact h _
theorem viaBin {op : BinOp} {b b' : Bool} {x y : TV} {k : TV → Option β} {j : TV → Option α} (h : ∀ x, k x = (j x).bind f) : binOpK op b b' x y k = (binOpK op b b' x y j).bind f := by
  rw [binOpK_b (k := k), binOpK_b (k := j), Option.bind_assoc]; congr 1; funext p; exact h _
theorem viaUn {op : UnOp} {x : TV} {k : TV → Option β} {j : TV → Option α} (h : ∀ x, k x = (j x).bind f) : unOpK op x k = (unOpK op x j).bind f := by
  rw [unOpK_b (k := k), unOpK_b (k := j), Option.bind_assoc]; congr 1; funext p; exact h _
theorem viaB {γ : Type} {x : Option γ} {k : γ → Option β} {j : γ → Option α} (h : ∀ y, k y = (j y).bind f) : x.bind k = (x.bind j).bind f := by
  rw [Option.bind_assoc]; congr 1; funext y; exact h y
theorem viaIf {b : Bool} {x y : Option β} {x' y' : Option α} (h1 : x = x'.bind f) (h2 : y = y'.bind f) : (bif b then x else y) = (bif b then x' else y').bind f := by cases b; exact h2; exact h1

theorem viaLoad {ty : Ty} {x : TV} {k : TV → Option β} {j : TV → Option α} (h : ∀ x, k x = (j x).bind f) : loadK hp ty x k = (loadK hp ty x j).bind f := by
  unfold loadK
  split
  · split
    · exact viaGet h
    · rfl
  · exact viaGet h
  · split
    · exact viaB fun _ => viaGet h
    · exact viaB fun _ => viaGet h
    · rfl
  · rfl
theorem viaStore {ty : Ty} {x v : TV} {k : Eff → Option β} {j : Eff → Option α} (h : ∀ x, k x = (j x).bind f) : storeK hp ty x v k = (storeK hp ty x v j).bind f := by
  unfold storeK
  refine viaVal fun y fz => ?_
  split
  · split
    · exact viaSet fun _ => h _
    · rfl
  · refine viaIf rfl ?_
    split
    · exact viaB fun _ => viaSet fun _ => h _
    · rfl
  · rfl
theorem viaSlice2 {et : Ty} {x : TV} {l : Int} {hi mx : Option TV} {k : TV → Option β} {j : TV → Option α} (h : ∀ x, k x = (j x).bind f) : sliceK2 hp et x l hi mx k = (sliceK2 hp et x l hi mx j).bind f := by
  unfold sliceK2
  split
  · split
    · rfl
    · refine viaOptInt fun _ => ?_
      split
      · exact viaIf (h _) rfl
      · exact viaIf (viaInt fun _ _ => viaIf (h _) rfl) rfl
  · split
    · rfl
    · exact viaOwnLen fun _ => viaOptInt fun _ => viaIf (h _) rfl
  · split
    · rfl
    · exact viaOwnLen fun _ => viaOptInt fun _ => viaIf (h _) rfl
  · rfl
theorem viaSliceOp {et : Ty} {x : TV} {lo hi mx : Option TV} {k : TV → Option β} {j : TV → Option α} (h : ∀ x, k x = (j x).bind f) : sliceK hp et x lo hi mx k = (sliceK hp et x lo hi mx j).bind f := by
  unfold sliceK
  exact viaOptInt fun _ => viaSlice2 h
theorem viaIndexAddr {ti : TI} {x i : TV} {k : TV → Option β} {j : TV → Option α} (h : ∀ x, k x = (j x).bind f) : indexAddrK hp ti x i k = (indexAddrK hp ti x i j).bind f := by
  unfold indexAddrK
  refine viaInt fun _ _ => ?_
  split
  · split
    · split
      · exact viaB fun _ => h _
      · rfl
    · exact viaOwnLen fun _ => viaIf (h _) rfl
    · exact viaOwnLen fun _ => viaIf (h _) rfl
    · rfl
  · refine viaIf ?_ rfl
    split
    · exact viaOff h
    · rfl
  · rfl
theorem viaFieldAddr {ti : TI} {x : TV} {n : Nat} {k : TV → Option β} {j : TV → Option α} (h : ∀ x, k x = (j x).bind f) : fieldAddrK ti x n k = (fieldAddrK ti x n j).bind f := by
  unfold fieldAddrK
  refine viaIf rfl ?_
  split
  · rfl
  · exact viaOff h
theorem viaField {ti : TI} {x : TV} {n : Nat} {k : TV → Option β} {j : TV → Option α} (h : ∀ x, k x = (j x).bind f) : fieldK ti x n k = (fieldK ti x n j).bind f := by
  unfold fieldK
  refine viaIf rfl ?_
  split
  · split
    · exact viaGet h
    · rfl
  · rfl
theorem viaBuild {fields : List (Nat × Ty)} {t : Ty} {k : t.den → Eff → Option β} {j : t.den → Eff → Option α} (h : ∀ x e, k x e = (j x e).bind f) : ∀ {parts : List (Nat × TV)} {x : t.den} {fz : Eff}, buildK hp fields t parts x fz k = (buildK hp fields t parts x fz j).bind f
  | [], _, _ => h _ _
  | (i, v) :: r, x, fz => by
    unfold buildK
    split
    · exact viaVal fun _ _ => viaSet fun _ => viaBuild h
    · rfl
theorem viaBuildSlice {t : Ty} {k : List t.den → Eff → Option β} {j : List t.den → Eff → Option α} (h : ∀ x e, k x e = (j x e).bind f) : ∀ {parts : List (Nat × TV)} {x : List t.den} {fz : Eff}, buildSliceK hp t parts x fz k = (buildSliceK hp t parts x fz j).bind f
  | [], _, _ => h _ _
  | (i, v) :: r, x, fz => by
    unfold buildSliceK
    exact viaIf (viaVal fun _ _ => viaBuildSlice h) rfl
theorem viaAppend {e : TypeId} {t : Ty} {d : Nat} {s x : TV} {k : TV → Eff → Option β} {j : TV → Eff → Option α} (h : ∀ x e, k x e = (j x e).bind f) : appendK hp e t d s x k = (appendK hp e t d s x j).bind f := by
  unfold appendK
  refine viaList fun ys => ?_
  split
  · exact viaIf (h _ _) rfl
  · split
    · refine viaIf ?_ rfl
      split
      · exact viaIf (h _ _) rfl
      · rfl
    · rfl
  · split
    · refine viaIf ?_ rfl
      split
      · exact viaIf (h _ _) rfl
      · rfl
    · rfl
  · rfl
theorem viaTake {s : Slot} {v : TV} {k : s.den → List Nat → Eff → Option β} {j : s.den → List Nat → Eff → Option α} (h : ∀ x y z, k x y z = (j x y z).bind f) : takeSlot hp s v k = (takeSlot hp s v j).bind f := by
  cases s with
  | val t =>
    simp only [takeSlot]
    exact viaVal fun _ _ => h _ _ _
  | own e t =>
    simp only [takeSlot]
    split
    · exact h _ _ _
    · split
      · refine viaIf ?_ rfl
        split
        · exact h _ _ _
        · rfl
      · rfl
    · split
      · refine viaIf ?_ rfl
        split
        · exact h _ _ _
        · rfl
      · rfl
    · rfl
  | box t =>
    simp only [takeSlot]
    split
    · split
      · refine viaIf ?_ rfl
        split
        · exact h _ _ _
        · rfl
      · rfl
    · rfl
  | vw e t =>
    simp only [takeSlot]
    split
    · split
      · refine viaIf ?_ rfl
        split
        · exact viaIf (h _ _ _) rfl
        · rfl
      · rfl
    · split
      · refine viaIf ?_ rfl
        split
        · exact viaIf (h _ _ _) rfl
        · rfl
      · rfl
    · rfl
theorem viaTakes : ∀ {ss : List Slot} {vs : List TV} {k : den ss → List Nat → Eff → Option β} {j : den ss → List Nat → Eff → Option α}, (∀ x y z, k x y z = (j x y z).bind f) → takeSlots hp ss vs k = (takeSlots hp ss vs j).bind f
  | [], [], _, _, h => h _ _ _
  | [s], [v], _, _, h => viaTake h
  | s :: s' :: ss, v :: vs, k, j, h => by
    simp only [takeSlots]
    exact viaTake fun _ _ _ => viaTakes fun _ _ _ => h _ _ _
  | [], _ :: _, _, _, _ => rfl
  | [_], [], _, _, _ => rfl
  | [_], _ :: _ :: _, _, _, _ => rfl
  | _ :: _ :: _, [], _, _, _ => rfl
theorem viaCall {c : Ctr} {frz : Bool} {d : Nat} {vs : List TV} {k : TV → Eff → Option β} {j : TV → Eff → Option α} (h : ∀ x e, k x e = (j x e).bind f) : callK c frz hp d vs k = (callK c frz hp d vs j).bind f := by
  unfold callK
  exact viaTakes fun _ _ _ => viaIf (viaB fun _ => viaIf (h _ _) rfl) rfl
theorem viaMakeFunc {fn : Fn} {first : List Operand} {vs : List TV} {k : TV → Option β} {j : TV → Option α} (h : ∀ x, k x = (j x).bind f) : makeFuncK fn first vs k = (makeFuncK fn first vs j).bind f := by
  unfold makeFuncK
  split
  · exact viaIf rfl (h _)
  · rfl
theorem viaBuiltin {cx : Cx} {d : Nat} {b : Builtin} {ts : List TypeId} {vs : List TV} {k : TV → Eff → Option β} {j : TV → Eff → Option α} (h : ∀ x e, k x e = (j x e).bind f) : builtinK cx hp d b ts vs k = (builtinK cx hp d b ts vs j).bind f := by
  unfold builtinK
  split
  · split
    · split
      · split
        · exact viaLen fun _ => h _ _
        · exact viaStrLen fun _ => h _ _
        · rfl
      · rfl
    · rfl
  · split
    · refine viaIf ?_ rfl
      split
      · split
        · exact viaAppend h
        · rfl
      · rfl
    · rfl
  · split
    · refine viaInt fun ik a => viaInt fun jk b => ?_
      split
      · exact h _ _
      · rfl
    · rfl
  · split
    · refine viaInt fun ik a => viaInt fun jk b => ?_
      split
      · exact h _ _
      · rfl
    · rfl
  · rfl
end

theorem viaIdxStr {x i : TV} {k : TV → Option β} {α : Type} {f : α → Option β} {j : TV → Option α} (h : ∀ x, k x = (j x).bind f) : idxStrK x i k = (idxStrK x i j).bind f := by
  unfold idxStrK
  split
  · exact viaInt fun _ n => viaIf (h _) rfl
  · rfl
theorem opK_b {cx : Cx} {frz : Bool} {ev : Operand → TV} {o : Oper} {d : Nat} {k : TV → Eff → Option β} : opK cx frz ev hp o d k = (opK cx frz ev hp o d some2).bind fun p => k p.1 p.2 := by
  unfold opK
  split
  · rfl
  · rfl
  · exact viaBool fun b => by cases b <;> rfl
  · exact viaTI fun ti => viaIf rfl rfl
  · exact viaIf rfl (viaTI fun ti => viaVal fun _ _ => rfl)
  · refine viaTI fun ti => viaIf ?_ rfl
    refine viaBuild ?_
    intros; rfl
  · refine viaTI fun ti => viaSlice fun e et => viaIf ?_ rfl
    refine viaBuildSlice ?_
    intros; exact viaIf rfl rfl
  · exact viaTI fun ti => viaLoad fun _ => rfl
  · exact viaTI fun ti => viaStore fun _ => rfl
  · split <;> rfl
  · exact viaBin fun _ => rfl
  · exact viaUn fun _ => rfl
  · exact viaTI fun _ => viaTI fun ti => by
      split
      · exact viaInt fun _ n => rfl
      · rfl
  · exact viaMakeFunc fun _ => rfl
  · exact viaTI fun ti => viaSlice fun e et => viaInt fun _ n => viaInt fun _ c => viaIf (viaIf rfl rfl) rfl
  · exact viaTI fun ti => viaSlice fun e et => viaSliceOp fun _ => rfl
  · exact viaTI fun ti => viaFieldAddr fun _ => rfl
  · exact viaTI fun ti => viaField fun _ => rfl
  · exact viaTI fun ti => viaIndexAddr fun _ => rfl
  · split <;> rfl
  · exact viaTI fun ti => by
      split
      · exact viaIdxStr fun _ => rfl
      · rfl
  · split
    · exact viaBuiltin fun _ _ => rfl
    · split
      · split
        · exact viaIf (viaCall fun _ _ => rfl) rfl
        · rfl
      · rfl
    · rfl
  · rfl

theorem opK_some {cx : Cx} {frz : Bool} {ev : Operand → TV} {o : Oper} {d : Nat} {k : TV → Eff → Option β} {r : β} (h : opK cx frz ev hp o d k = some r) : ∃ tv eff, opK cx frz ev hp o d (fun v e => some (v, e)) = some (tv, eff) ∧ k tv eff = some r := by
  rw [opK_b] at h
  obtain ⟨⟨tv, eff⟩, h1, h2⟩ := Option.bind_eq_some_iff.1 h
  exact ⟨tv, eff, h1, h2⟩
end Go.ZM
end
end

section
/- Regions in the order of the text. -/
set_option linter.unusedVariables false
noncomputable section
namespace Go.ZM
open Go
variable {c : Cfg} {tm : Nat → TV} {hp : Hp} {known pend : Nat → Prop} {ρ : Rho} {a : Act} {w : World} {P : Program} {β : Type}

theorem lk_cons {α : Type} (d : α) (m : Nat) (x : α) (r : List (Nat × α)) (n : Nat) : lk d ((m, x) :: r) n = if m = n then x else lk d r n := by
  show (bif Nat.beq m n then x else lk d r n) = _
  by_cases e : m = n
  · rw [if_pos e, show Nat.beq m n = true from by subst e; exact Nat.beq_refl m]; rfl
  · rw [if_neg e, show Nat.beq m n = false from by
      cases h : Nat.beq m n with
      | false => rfl
      | true => exact absurd (Nat.eq_of_beq_eq_true h) e]; rfl

theorem lk_apply : ∀ (e : Eff) (hp : List (Nat × Option Blk)) (n : Nat), lk none (e.reverse ++ hp) n = applyE (lk none hp) e n
  | [], hp, n => rfl
  | (m, b) :: r, hp, n => by
    rw [List.reverse_cons, List.append_assoc, List.singleton_append, lk_apply r]
    show applyE (lk none ((m, b) :: hp)) r n = applyE (fun x => if m = x then b else lk none hp x) r n
    congr 1; funext x; rw [lk_cons]

theorem St.get_put (s : St) (d : Option Nat) (v : TV) (e : Eff) : (s.put d v e).get = upd s.get d v := by
  cases d with
  | none => rfl
  | some d => funext t; exact lk_cons _ _ _ _ _
theorem St.blk_put (s : St) (d : Option Nat) (v : TV) (e : Eff) : (s.put d v e).blk = applyE s.blk e := by
  funext n; exact lk_apply e s.hp n

theorem upd_same {g : Nat} {v : TV} (h : tm g = v) : upd tm (some g) v = tm := by
  funext t
  show (if g = t then v else tm t) = tm t
  by_cases e : g = t
  · rw [if_pos e, ← e, h]
  · rw [if_neg e]

/-- what a guard asks for -/
theorem yield_bool (h : Rel c tm hp known pend ρ a w) {ops : Array Oper} {j g : Nat} (hg : (ops[j]?).bind (·.dst) = some g) (hN : g < c.N) {b : Bool} (hb : tm g = .val .bool b) : yielded ops a.tmps j = some b := by
  have h1 := h.tms g hN
  rw [hb] at h1
  have h2 := R_boolD h1
  have hlt : g < a.tmps.size := by rw [h.size]; exact hN
  have h3 : a.tmps[g]? = some (.bool b) := by
    rw [Array.getElem?_eq_getElem hlt]
    simpa [hlt] using h2
  unfold yielded
  rw [hg, Option.bind_some, h3]
theorem yield_nil (h : Rel c tm hp known pend ρ a w) {ops : Array Oper} {j g : Nat} (hg : (ops[j]?).bind (·.dst) = some g) (hN : g < c.N) (hb : tm g = .tnil) : yielded ops a.tmps j = none := by
  have h1 := h.tms g hN
  rw [hb] at h1
  have h2 := R_tnilD h1
  have hlt : g < a.tmps.size := by rw [h.size]; exact hN
  have h3 : a.tmps[g]? = some (.tuple #[]) := by
    rw [Array.getElem?_eq_getElem hlt]
    simpa [hlt] using h2
  unfold yielded
  rw [hg, Option.bind_some, h3]

theorem dst_lt {ops : Array Oper} (hfit : ∀ o ∈ ops.toList, opFits c.lo c.N o = true) {o : Oper} (ho : o ∈ ops.toList) {d : Nat} (hd : o.dst = some d) : d ∉ c.lo ∧ d < c.N := by
  have h := hfit o ho
  unfold opFits at h
  rw [Bool.and_eq_true, hd] at h
  have h2 := h.2
  rw [Bool.and_eq_true] at h2
  refine ⟨fun hm => ?_, Nat.le_of_ble_eq_true h2.2⟩
  have h3 := h2.1
  rw [show c.lo.any (Nat.beq d) = true from List.any_eq_true.2 ⟨d, hm, Nat.beq_refl d⟩] at h3
  cases h3
theorem guard_lt {ops : Array Oper} (hfit : ∀ o ∈ ops.toList, opFits c.lo c.N o = true) {j g : Nat} (hg : (ops[j]?).bind (·.dst) = some g) : g < c.N := by
  obtain ⟨o, h1, h2⟩ := Option.bind_eq_some_iff.1 hg
  exact (dst_lt hfit (Array.mem_toList_iff.2 (Array.mem_of_getElem? h1)) h2).2

theorem skip_ok (h : Rel c tm hp known pend ρ a w) {ops : Array Oper} (hfit : ∀ o ∈ ops.toList, opFits c.lo c.N o = true) {o : Oper} (ho : o ∈ ops.toList) :
    Rel c (upd tm o.dst .tnil) hp known pend ρ (a.put o.dst undef) w :=
  h.put (fun t ht => dst_lt hfit ho ht) (fun _ => R_tnil) (fun _ n hn => hn.elim)

def goK (cx : Cx) (ops : Array Oper) (o : Oper) (r : List Oper) (k : St → Option β) (s : St) : Option β :=
  opK cx false s.ev s.blk o (o.dst.getD 0) fun v e => runOps cx ops r (s.put o.dst v e) k

theorem runOps_cons (cx : Cx) (ops : Array Oper) (o : Oper) (r : List Oper) (s : St) (k : St → Option β) : runOps cx ops (o :: r) s k =
    (match o.guard with
    | none => goK cx ops o r k s
    | some (j, want) =>
      match (ops[j]?).bind (·.dst) with
      | none => none
      | some g =>
        match s.get g with
        | .val .bool b =>
          bif want then (bif b then goK cx ops o r k (s.put g (.val .bool true) []) else runOps cx ops r ((s.put g (.val .bool false) []).put o.dst .tnil []) k)
          else (bif b then runOps cx ops r ((s.put g (.val .bool true) []).put o.dst .tnil []) k else goK cx ops o r k (s.put g (.val .bool false) []))
        | .tnil => runOps cx ops r (s.put o.dst .tnil []) k
        | _ => none) := by
  cases hg : o.guard with
  | none => unfold runOps goK; simp only [hg]
  | some p =>
    obtain ⟨j, want⟩ := p
    unfold goK
    conv => lhs; unfold runOps
    simp only [hg]
    cases (ops[j]?).bind (·.dst) with
    | none => rfl
    | some g => rfl

abbrev noP : Nat → Prop := fun _ => False

theorem runOps_sound {cx : Cx} (hty : tysOk P cx.tys = true) (hfns : FnsOk P cx.fns) {ops : Array Oper} (hfit : ∀ o ∈ ops.toList, opFits c.lo c.N o = true)
    {k : St → Option β} {res : β} {Q : Exit → Act → World → Prop} (hQ : ∀ (s : St) known ρ a w, Rel c s.get s.blk known noP ρ a w → k s = some res → Q .normal a w) :
    ∀ (l : List Oper) (i : Nat), ops.toList.drop i = l → ∀ (s : St) (known : Nat → Prop) (ρ : Rho) (a : Act) (w : World), Rel c s.get s.blk known noP ρ a w →
      (l.flatMap (makes cx)).Nodup → (∀ n ∈ l.flatMap (makes cx), ¬ known n) → runOps cx ops l s k = some res → wpOps P ops Q (List.range' i l.length) a w
  | [], i, hl, s, known, ρ, a, w, h, _, _, hk => hQ s known ρ a w h hk
  | o :: r, i, hl, s, known, ρ, a, w, h, hnd, hnew, hk => by
    have hi : ops.toList[i]? = some o := by
      have := congrArg (·[0]?) hl
      simpa using this
    have hio : ops[i]? = some o := by simpa using hi
    have hmem : o ∈ ops.toList := List.mem_of_getElem? hi
    have hr : ops.toList.drop (i + 1) = r := by rw [← List.tail_drop, hl]; rfl
    rw [List.flatMap_cons] at hnd hnew
    obtain ⟨hnd1, hnd2, hnd3⟩ := List.nodup_append.1 hnd
    have skip : ∀ (s' : St), s'.get = s.get → s'.blk = s.blk → runOps cx ops r (s'.put o.dst .tnil []) k = some res → Region.wanted o (yielded ops a.tmps) = false → wpOps P ops Q (List.range' i (o :: r).length) a w := by
      intro s' h1 h2 hk hw
      show wpOps P ops Q (i :: List.range' (i + 1) r.length) a w
      unfold wpOps
      simp only [hio, hw, Bool.false_eq_true, if_false]
      refine runOps_sound hty hfns hfit hQ r (i + 1) hr (s'.put o.dst .tnil []) known ρ _ w ?_ hnd2 (fun n hn => hnew n (List.mem_append_right _ hn)) hk
      rw [St.get_put, St.blk_put, h1, h2]
      exact skip_ok h hfit hmem
    have go : ∀ (s' : St), s'.get = s.get → s'.blk = s.blk → goK cx ops o r k s' = some res → Region.wanted o (yielded ops a.tmps) = true → wpOps P ops Q (List.range' i (o :: r).length) a w := by
      intro s' h1 h2 hk hw
      show wpOps P ops Q (i :: List.range' (i + 1) r.length) a w
      unfold wpOps
      simp only [hio, hw, if_true]
      left
      unfold goK at hk
      obtain ⟨tv, eff, hop, hk⟩ := opK_some hk
      rw [St.ev_eq, h1, h2] at hop
      obtain ⟨hok, hkeys⟩ := op_ok h hty hfns false (LeS.refl _) (fun _ => rfl) (hfit o hmem) (fun _ n hn => hnew n (List.mem_append_left _ hn)) (fun hf => by cases hf) hop
      rw [pendAfter_not (.inr rfl)] at hok
      refine hok _ _ fun v w' ρ' hR hkn hrel => ?_
      refine runOps_sound hty hfns hfit hQ r (i + 1) hr (s'.put o.dst tv eff) (fun m => known m ∨ m ∈ eff.map Prod.fst) ρ' _ w' ?_ hnd2 ?_ hk
      · rw [St.get_put, St.blk_put, h1, h2]
        exact hrel.put (fun t ht => dst_lt hfit hmem ht) (fun _ => hR) (fun _ n hn => hkn n hn)
      · rintro n hn (hkn | hkn)
        · exact hnew n (List.mem_append_right _ hn) hkn
        · rcases hkeys n hkn with ⟨b, hb⟩ | hm
          · exact hnew n (List.mem_append_right _ hn) (h.knowsH n b hb)
          · exact hnd3 n hm n hn rfl
    rw [runOps_cons] at hk
    cases hg : o.guard with
    | none => rw [hg] at hk; exact go s rfl rfl hk (by unfold Region.wanted; rw [hg])
    | some p =>
      obtain ⟨j, want⟩ := p
      rw [hg] at hk
      simp only at hk
      split at hk
      · cases hk
      rename_i g hgd
      have hgN := guard_lt hfit hgd
      split at hk
      · rename_i b hb
        have hy := yield_bool h hgd hgN hb
        have same : ∀ v, s.get g = v → (s.put g v []).get = s.get := fun v hv => by rw [St.get_put, upd_same hv]
        have sameB : ∀ v, (s.put g v []).blk = s.blk := fun v => by rw [St.blk_put]; rfl
        cases want <;> cases b <;> simp only [cond_true, cond_false] at hk
        · exact go _ (same _ hb) (sameB _) hk (by unfold Region.wanted; rw [hg]; simp [hy])
        · exact skip _ (same _ hb) (sameB _) hk (by unfold Region.wanted; rw [hg]; simp [hy])
        · exact skip _ (same _ hb) (sameB _) hk (by unfold Region.wanted; rw [hg]; simp [hy])
        · exact go _ (same _ hb) (sameB _) hk (by unfold Region.wanted; rw [hg]; simp [hy])
      · rename_i hb
        have hy := yield_nil h hgd hgN hb
        exact skip s rfl rfl hk (by unfold Region.wanted; rw [hg]; simp [hy])
      · cases hk

theorem nodupB_spec : ∀ {l : List Nat}, nodupB l = true → l.Nodup
  | [], _ => List.nodup_nil
  | n :: r, h => by
    unfold nodupB at h
    rw [Bool.and_eq_true] at h
    refine List.nodup_cons.2 ⟨fun hn => ?_, nodupB_spec h.2⟩
    have : r.any (Nat.beq n) = true := List.any_eq_true.2 ⟨n, hn, Nat.beq_refl n⟩
    rw [this] at h; exact absurd h.1 (by simp)

theorem refers_ref {ns : List Nat} : ∀ {v : TV}, v.refers ns = false → ∀ n, v.refTo n → n ∉ ns
  | .undef, _, n, hr => hr.elim
  | .val _ _, _, n, hr => hr.elim
  | .nilS, _, n, hr => hr.elim
  | .eptr _ _ _, _, n, hr => hr.elim
  | .tnil, _, n, hr => hr.elim
  | .own m, h, n, hr => fun hn => by
    have hr : m = n := hr
    subst hr
    have : ns.any (Nat.beq m) = true := List.any_eq_true.2 ⟨m, hn, Nat.beq_refl m⟩
    have h : ns.any (Nat.beq m) = false := h
    rw [this] at h; cases h
  | .view m _ _, h, n, hr => fun hn => by
    have hr : m = n := hr
    subst hr
    have : ns.any (Nat.beq m) = true := List.any_eq_true.2 ⟨m, hn, Nat.beq_refl m⟩
    have h : ns.any (Nat.beq m) = false := h
    rw [this] at h; cases h
  | .box m _, h, n, hr => fun hn => by
    have hr : m = n := hr
    subst hr
    have : ns.any (Nat.beq m) = true := List.any_eq_true.2 ⟨m, hn, Nat.beq_refl m⟩
    have h : ns.any (Nat.beq m) = false := h
    rw [this] at h; cases h
  | .optr m _ _, h, n, hr => fun hn => by
    have hr : m = n := hr
    subst hr
    have : ns.any (Nat.beq m) = true := List.any_eq_true.2 ⟨m, hn, Nat.beq_refl m⟩
    have h : ns.any (Nat.beq m) = false := h
    rw [this] at h; cases h
  | .fn _ c, h, n, hr => refers_ref (v := c) h n hr
  | .tup a b, h, n, hr => by
    have h : (a.refers ns || b.refers ns) = false := h
    rw [Bool.or_eq_false_iff] at h
    exact hr.elim (refers_ref h.1 n) (refers_ref h.2 n)

theorem lk_map {α γ : Type} (d : α) (d' : γ) (f : Nat → α → γ) (hd : ∀ n, f n d = d') : ∀ (l : List (Nat × α)) (n : Nat), lk d' (l.map fun p => (p.1, f p.1 p.2)) n = f n (lk d l n)
  | [], n => (hd n).symm
  | (m, x) :: r, n => by
    rw [List.map_cons, lk_cons, lk_cons]
    by_cases e : m = n
    · subst e; simp
    · simp only [if_neg e]; exact lk_map d d' f hd r n

theorem any_beq {ns : List Nat} {n : Nat} : ns.any (Nat.beq n) = true ↔ n ∈ ns :=
  ⟨fun h => by obtain ⟨m, hm, e⟩ := List.any_eq_true.1 h; rw [Nat.eq_of_beq_eq_true e]; exact hm, fun h => List.any_eq_true.2 ⟨n, h, Nat.beq_refl n⟩⟩

theorem St.kill_get (s : St) (ns : List Nat) (t : Nat) : (s.kill ns).get t = s.get t ∨ (s.kill ns).get t = .undef := by
  cases ns with
  | nil => exact .inl rfl
  | cons m r =>
    have : (s.kill (m :: r)).get t = killTV (m :: r) (s.get t) := lk_map TV.undef TV.undef (fun _ v => killTV (m :: r) v) (fun _ => rfl) s.tm t
    rw [this]
    unfold killTV
    cases (s.get t).refers (m :: r)
    · exact .inl rfl
    · exact .inr rfl

theorem St.kill_ref (s : St) (ns : List Nat) (t n : Nat) (h : ((s.kill ns).get t).refTo n) : n ∉ ns := by
  cases ns with
  | nil => exact fun h => by cases h
  | cons m r =>
    have e : (s.kill (m :: r)).get t = killTV (m :: r) (s.get t) := lk_map TV.undef TV.undef (fun _ v => killTV (m :: r) v) (fun _ => rfl) s.tm t
    rw [e] at h
    unfold killTV at h
    cases hr : (s.get t).refers (m :: r) with
    | true => rw [hr] at h; exact h.elim
    | false => rw [hr] at h; exact refers_ref hr n h

theorem St.kill_blk (s : St) (ns : List Nat) (n : Nat) : (s.kill ns).blk n = if n ∈ ns then none else s.blk n := by
  cases ns with
  | nil => simp [St.kill]
  | cons m r =>
    have e : (s.kill (m :: r)).blk n = (bif (m :: r).any (Nat.beq n) then none else s.blk n) := lk_map none none (fun q (b : Option Blk) => bif (m :: r).any (Nat.beq q) then none else b) (fun _ => by cases ((m :: r).any (Nat.beq _)) <;> rfl) s.hp n
    rw [e]
    by_cases hn : n ∈ m :: r
    · rw [if_pos hn, any_beq.2 hn]; rfl
    · rw [if_neg hn]
      cases ha : (m :: r).any (Nat.beq n) with
      | true => exact absurd (any_beq.1 ha) hn
      | false => rfl

/-- fewer blocks, and temporaries that are forgotten -/
theorem Rel.less (h : Rel c tm hp known noP ρ a w) {tm' : Nat → TV} {hp' : Hp} {known' : Nat → Prop} (ht : ∀ t, tm' t = tm t ∨ tm' t = .undef) (hh : ∀ n, (hp' n = none) ∨ hp' n = hp n)
    (hk : ∀ n, known' n → known n) (hkt : ∀ t n, t < c.N → (tm' t).refTo n → known' n) (hkh : ∀ n b, hp' n = some b → known' n) : Rel c tm' hp' known' noP ρ a w := by
  have hle : ∀ n b, hp' n = some b → hp n = some b := fun n b hb => (hh n).elim (fun e => by rw [e] at hb; cases hb) (fun e => e ▸ hb)
  have hMM : ∀ b, MM c hp' ρ b → MM c hp ρ b := fun b hb => hb.imp id fun ⟨n, bl, k, h1, h2, h3⟩ => ⟨n, bl, k, hle n bl h1, h2, h3⟩
  have hK : Keeps w w (MM c hp ρ) (MM c hp' ρ) := ⟨Nat.le_refl _, fun _ _ _ => rfl, fun b _ hb hb' => hb (hMM b hb')⟩
  refine { defers := h.defers, size := h.size, kept := h.kept, os := h.os, tape := h.tape, output := h.output, hsize := h.hsize, old := h.old, tms := ?_, hps := ?_, mutn := ?_, inj := ?_, knowsT := hkt, knowsH := hkh, pends := fun n hn => hn.elim, m0 := h.m0 }
  · intro t htN
    rcases ht t with e | e
    · rw [e]
      refine R_keeps hK (fun n hn => ?_) (h.tms t htN)
      rcases hh n with e' | e'
      · exact .inl e'
      · rw [e']; exact Stab.refl _ _
    · rw [e]; exact R_undef
  · intro n b hb
    rcases h.hps n b (hle n b hb) with h1 | h1
    · exact .inl h1
    · exact .inr (BlkR_keeps hK (fun _ _ _ _ => rfl) h1)
  · exact fun n b q k hb hm hg => h.mutn n b q k (hle n b hb) hm hg
  · exact fun n n' b b' q k k' hb hb' => h.inj n n' b b' q k k' (hle n b hb) (hle n' b' hb')

theorem Rel.kill {s : St} (h : Rel c s.get s.blk known noP ρ a w) (ns : List Nat) : Rel c (s.kill ns).get (s.kill ns).blk (fun n => known n ∧ n ∉ ns) noP ρ a w := by
  refine h.less (s.kill_get ns) (fun n => ?_) (fun n hn => hn.1) (fun t n ht hr => ⟨?_, s.kill_ref ns t n hr⟩) (fun n b hb => ?_)
  · rw [s.kill_blk]
    by_cases e : n ∈ ns
    · rw [if_pos e]; exact .inl rfl
    · rw [if_neg e]; exact .inr rfl
  · rcases s.kill_get ns t with e | e
    · rw [e] at hr; exact h.knowsT t n ht hr
    · rw [e] at hr; exact hr.elim
  · rw [s.kill_blk] at hb
    by_cases e : n ∈ ns
    · rw [if_pos e] at hb; cases hb
    · rw [if_neg e] at hb; exact ⟨h.knowsH n b hb, e⟩

theorem region_seq {cx : Cx} (hty : tysOk P cx.tys = true) (hfns : FnsOk P cx.fns) {id : Nat} {ops : Array Oper} (hfit : ∀ o ∈ ops.toList, opFits c.lo c.N o = true)
    {k : St → Option β} {res : β} {Q : Exit → Act → World → Prop} (hQ : ∀ (s : St) known ρ a w, Rel c s.get s.blk known noP ρ a w → k s = some res → Q .normal a w)
    {s : St} (h : Rel c s.get s.blk known noP ρ a w) (hk : regionK cx ops false s k = some res) : (Code.region id ops false).wp P Q a w := by
  refine wp_region ?_
  unfold regionK at hk
  rcases cond_some hk with ⟨hnd, hk⟩ | ⟨_, hk⟩
  · have hnd := nodupB_spec hnd
    have := runOps_sound hty hfns hfit hQ ops.toList 0 rfl (s.kill (makesAll cx ops)) _ ρ a w (h.kill _) hnd (fun n hn hkn => hkn.2 hn) hk
    rw [List.range_eq_range']
    rwa [Array.length_toList] at this
  · cases hk
end Go.ZM
end
end

section
/- Orders: what the masks say. -/
set_option linter.unusedVariables false
noncomputable section
namespace Go.ZM
open Go

/-- j comes before i on every order -/
inductive Before (ops : List Oper) : Nat → Nat → Prop
  | edge {i : Nat} {o : Oper} {e : Edge} : ops[i]? = some o → e ∈ o.after → Region.binds .any e = true → Before ops i e.on
  | trans {i j : Nat} {o : Oper} {e : Edge} : ops[i]? = some o → e ∈ o.after → Region.binds .any e = true → Before ops e.on j → Before ops i j

def mStep (acc : Array Nat) (s : Nat) (e : Edge) : Nat := if Region.binds .any e then s ||| 2 ^ e.on ||| acc.getD e.on 0 else s
def mPush (acc : Array Nat) (o : Oper) : Array Nat := acc.push (o.after.foldl (mStep acc) 0)
theorem masks_eq (ops : List Oper) : masks ops = (ops.foldl mPush #[]).toList := rfl

theorem mStep_bits (acc : Array Nat) (j : Nat) : ∀ (l : List Edge) (s : Nat), (l.foldl (mStep acc) s).testBit j = true → s.testBit j = true ∨ ∃ e ∈ l, Region.binds .any e = true ∧ (j = e.on ∨ (acc.getD e.on 0).testBit j = true)
  | [], s, h => .inl h
  | e :: r, s, h => by
    rw [List.foldl_cons] at h
    rcases mStep_bits acc j r _ h with h | ⟨e', h1, h2⟩
    · unfold mStep at h
      by_cases hb : Region.binds .any e = true
      · rw [if_pos hb, Nat.testBit_or, Nat.testBit_or, Bool.or_eq_true, Bool.or_eq_true] at h
        rcases h with (h | h) | h
        · exact .inl h
        · rw [Nat.testBit_two_pow] at h
          exact .inr ⟨e, List.mem_cons_self .., hb, .inl (of_decide_eq_true h).symm⟩
        · exact .inr ⟨e, List.mem_cons_self .., hb, .inr h⟩
      · rw [if_neg hb] at h; exact .inl h
    · exact .inr ⟨e', List.mem_cons_of_mem _ h1, h2⟩

theorem mStep_keep (acc : Array Nat) (j : Nat) : ∀ (l : List Edge) (s : Nat), s.testBit j = true → (l.foldl (mStep acc) s).testBit j = true
  | [], s, h => h
  | e :: r, s, h => by
    rw [List.foldl_cons]
    refine mStep_keep acc j r _ ?_
    unfold mStep
    split
    · rw [Nat.testBit_or, Nat.testBit_or, h]; rfl
    · exact h
theorem mStep_edge (acc : Array Nat) {e : Edge} (hb : Region.binds .any e = true) : ∀ (l : List Edge) (s : Nat), e ∈ l → (l.foldl (mStep acc) s).testBit e.on = true
  | e' :: r, s, h => by
    rw [List.foldl_cons]
    rcases List.mem_cons.1 h with h | h
    · subst h
      refine mStep_keep acc _ r _ ?_
      unfold mStep
      rw [if_pos hb, Nat.testBit_or, Nat.testBit_or, Nat.testBit_two_pow_self]; simp
    · exact mStep_edge acc hb r _ h

theorem mPush_spec (ops : List Oper) : ∀ (l : List Oper) (acc : Array Nat), ops.drop acc.size = l → (∀ i j, (acc.getD i 0).testBit j = true → Before ops i j) →
    (∀ i o e, i < acc.size → ops[i]? = some o → e ∈ o.after → Region.binds .any e = true → (acc.getD i 0).testBit e.on = true) →
    (l.foldl mPush acc).size = acc.size + l.length ∧ (∀ i j, ((l.foldl mPush acc).getD i 0).testBit j = true → Before ops i j) ∧
    ∀ i o e, i < (l.foldl mPush acc).size → ops[i]? = some o → e ∈ o.after → Region.binds .any e = true → ((l.foldl mPush acc).getD i 0).testBit e.on = true
  | [], acc, _, h, h' => ⟨rfl, h, h'⟩
  | o :: r, acc, hd, h, h' => by
    have ho : ops[acc.size]? = some o := by
      have := congrArg (·[0]?) hd
      simpa using this
    have hr : ops.drop (mPush acc o).size = r := by
      unfold mPush; rw [Array.size_push, ← List.tail_drop, hd]; rfl
    rw [List.foldl_cons]
    have get : ∀ i, (mPush acc o).getD i 0 = if i = acc.size then o.after.foldl (mStep acc) 0 else acc.getD i 0 := by
      intro i
      unfold mPush
      simp only [Array.getD_eq_getD_getElem?, Array.getElem?_push]
      split <;> rfl
    obtain ⟨h1, h2, h3⟩ := mPush_spec ops r (mPush acc o) hr (by
      intro i j hij
      rw [get] at hij
      split at hij
      · rename_i hi
        subst hi
        rw [← Array.foldl_toList] at hij
        rcases mStep_bits acc j _ _ hij with h0 | ⟨e, he, hb, hj⟩
        · simp at h0
        · have he : e ∈ o.after := Array.mem_toList_iff.1 he
          rcases hj with rfl | hj
          · exact .edge ho he hb
          · exact .trans ho he hb (h _ _ hj)
      · exact h i j hij) (by
      intro i o' e hi ho' he hb
      rw [get]
      split
      · rename_i hi
        subst hi
        rw [ho] at ho'; injection ho' with ho'; subst ho'
        rw [← Array.foldl_toList]
        exact mStep_edge acc hb _ _ (Array.mem_toList_iff.2 he)
      · rename_i hne
        have : (mPush acc o).size = acc.size + 1 := by unfold mPush; rw [Array.size_push]
        exact h' i o' e (by omega) ho' he hb)
    refine ⟨?_, h2, h3⟩
    rw [h1, List.length_cons]
    unfold mPush; rw [Array.size_push]; omega

theorem masks_length (ops : List Oper) : (masks ops).length = ops.length := by
  have := (mPush_spec ops ops #[] rfl (fun i j h => by simp at h) (fun i o e hi => by simp at hi)).1
  rw [masks_eq, Array.length_toList, this]; simp
theorem masks_before {ops : List Oper} {i j m : Nat} (hm : (masks ops)[i]? = some m) (h : m.testBit j = true) : Before ops i j := by
  have := (mPush_spec ops ops #[] rfl (fun i j h => by simp at h) (fun i o e hi => by simp at hi)).2.1 i j
  refine this ?_
  rw [masks_eq, Array.getElem?_toList] at hm
  simp only [Array.getD_eq_getD_getElem?, hm, Option.getD_some]; exact h
theorem masks_edge {ops : List Oper} {i : Nat} {o : Oper} {e : Edge} (ho : ops[i]? = some o) (he : e ∈ o.after) (hb : Region.binds .any e = true) : ∃ m, (masks ops)[i]? = some m ∧ m.testBit e.on = true := by
  have hlt : i < ops.length := (List.getElem?_eq_some_iff.1 ho).1
  have hsz := masks_length ops
  have := (mPush_spec ops ops #[] rfl (fun i j h => by simp at h) (fun i o e hi => by simp at hi)).2.2 i o e
  rw [masks_eq, Array.length_toList] at hsz
  have h2 := this (by rw [hsz]; exact hlt) ho he hb
  rw [masks_eq]
  have hlt' : i < (ops.foldl mPush #[]).size := by rw [hsz]; exact hlt
  refine ⟨(ops.foldl mPush #[])[i], ?_, ?_⟩
  · rw [Array.getElem?_toList, Array.getElem?_eq_getElem hlt']
  · simpa [hlt'] using h2

theorem backB_spec : ∀ {ms : List Nat} {k : Nat}, backB ms k = true → ∀ {i m : Nat}, ms[i]? = some m → m < 2 ^ (k + i)
  | [], _, _, i, m, hm => by simp at hm
  | m' :: r, k, h, i, m, hm => by
    unfold backB at h
    rw [Bool.and_eq_true] at h
    cases i with
    | zero =>
      have hm : m' = m := by simpa using hm
      subst hm
      exact Nat.le_of_ble_eq_true h.1
    | succ i =>
      have := backB_spec h.2 (i := i) (m := m) (by simpa using hm)
      rw [show k + (i + 1) = k + 1 + i by omega]; exact this

theorem edges_back {ops : List Oper} (hb : backB (masks ops) 0 = true) {i : Nat} {o : Oper} {e : Edge} (ho : ops[i]? = some o) (he : e ∈ o.after) (hbi : Region.binds .any e = true) : e.on < i := by
  obtain ⟨m, hm, ht⟩ := masks_edge ho he hbi
  have := backB_spec hb hm
  rw [Nat.zero_add] at this
  rcases Nat.lt_or_ge e.on i with h | h
  · exact h
  · have h2 : m < 2 ^ e.on := Nat.lt_of_lt_of_le this (Nat.pow_le_pow_right (by decide) h)
    rw [Nat.testBit_lt_two_pow h2] at ht; cases ht

/-- what is listed has all before it -/
def Down (ops : List Oper) (f : Nat → Bool) : Prop := ∀ i o, ops[i]? = some o → f i = true → ∀ e ∈ o.after, Region.binds .any e = true → f e.on = true

theorem Before.listed {ops : List Oper} {f : Nat → Bool} (hd : Down ops f) {i j : Nat} (hb : Before ops i j) : (∀ o, ops[i]? = some o → ∀ e ∈ o.after, Region.binds .any e = true → f e.on = true) → f j = true := by
  induction hb with
  | edge ho he hb => exact fun h => h _ ho _ he hb
  | trans ho he hb _ ih =>
    intro h
    refine ih fun o' ho' e' he' hb' => hd _ o' ho' (h _ ho _ he hb) e' he' hb'

theorem okPairs_spec : ∀ {xs : List OI} {ms : List Nat} {k : Nat}, okPairs xs ms k = true → ∀ {i j : Nat} {x y : OI} {m : Nat}, i < j → xs[i]? = some x → xs[j]? = some y → ms[k + j]? = some m → x.clash y = true → m.testBit (k + i) = true
  | [], _, _, _, i, j, x, y, m, _, hx, _, _, _ => by simp at hx
  | x' :: r, ms, k, h, i, j, x, y, m, hij, hx, hy, hm, hc => by
    unfold okPairs at h
    rw [Bool.and_eq_true] at h
    obtain ⟨j', rfl⟩ : ∃ j', j = j' + 1 := ⟨j - 1, by omega⟩
    have hy : r[j']? = some y := by simpa using hy
    cases i with
    | zero =>
      have hx : x' = x := by simpa using hx
      subst hx
      have hz : (y, m) ∈ r.zip (ms.drop (k + 1)) := by
        refine List.mem_of_getElem? (i := j') ?_
        rw [List.getElem?_zip_eq_some]
        refine ⟨hy, ?_⟩
        rw [List.getElem?_drop, show k + 1 + j' = k + (j' + 1) by omega]; exact hm
      have := List.all_eq_true.1 h.1 _ hz
      simp only [hc, Bool.not_true, Bool.false_or] at this
      exact this
    | succ i =>
      have := okPairs_spec h.2 (i := i) (j := j') (x := x) (y := y) (m := m) (by omega) (by simpa using hx) hy (by rw [show k + 1 + j' = k + (j' + 1) by omega]; exact hm) hc
      rw [show k + (i + 1) = k + 1 + i by omega]; exact this

/-- two that clash: the later one knows of the earlier one -/
theorem clash_before {ops : List Oper} {xs : List OI} (h : okAll xs (masks ops) = true) (hl : xs.length = ops.length) {i j : Nat} {x y : OI} (hij : i < j) (hx : xs[i]? = some x) (hy : xs[j]? = some y) (hc : x.clash y = true) : Before ops j i := by
  unfold okAll at h
  rw [Bool.and_eq_true] at h
  have hlt : j < (masks ops).length := by rw [masks_length, ← hl]; exact (List.getElem?_eq_some_iff.1 hy).1
  have hm : (masks ops)[j]? = some (masks ops)[j] := List.getElem?_eq_getElem hlt
  have := okPairs_spec h.2 hij hx hy (by rw [Nat.zero_add]; exact hm) hc
  rw [Nat.zero_add] at this
  exact masks_before hm this
end Go.ZM
end
end

section
/- Regions whose order is open: what the evaluator's run says of each operation. -/
set_option linter.unusedVariables false
noncomputable section
namespace Go.ZM
open Go
variable {c : Cfg} {tm : Nat → TV} {hp : Hp} {known pend : Nat → Prop} {ρ : Rho} {a : Act} {w : World} {P : Program} {β : Type}

theorem map_pairs {ev ev' : Operand → TV} (ps : Array (Nat × Operand)) (h : ∀ x ∈ ps.map (·.2), ev x = ev' x) : (ps.toList.map fun p => (p.1, ev p.2)) = ps.toList.map fun p => (p.1, ev' p.2) :=
  List.map_congr_left fun p hp => by rw [h p.2 (Array.mem_map.2 ⟨p, Array.mem_toList_iff.1 hp, rfl⟩)]

theorem opK_congr (cx : Cx) (frz : Bool) {ev ev' : Operand → TV} (hp : Hp) (o : Oper) (d : Nat) (k : TV → Eff → Option β) (h : ∀ x ∈ o.op.operands, ev x = ev' x) : opK cx frz ev hp o d k = opK cx frz ev' hp o d k := by
  obtain ⟨dst, op, type, pos, after, guard⟩ := o
  cases op <;> simp only [Op.operands] at h <;> simp only [opK]
  case build t ps => rw [map_pairs ps fun x hx => h x (by simpa using hx)]
  case buildSlice t n ps => rw [map_pairs ps fun x hx => h x (by simpa using hx)]
  case makeFunc fn first captured =>
    rw [List.map_congr_left (l := captured.toList) fun x hx => h x (by simp [Array.mem_toList_iff.1 hx])]
  case call c =>
    have hargs : c.args.toList.map ev = c.args.toList.map ev' := List.map_congr_left fun x hx => h x (by simp [Call.operands, Array.mem_toList_iff.1 hx])
    rw [hargs]
    cases hc : c.callee with
    | value f => have hf : ev f = ev' f := h f (by simp [Call.operands, hc]); simp only [hf]
    | invoke r m => rfl
    | builtin b => rfl
  case slice t x lo hi mx => cases lo <;> cases hi <;> cases mx <;> simp_all
  all_goals (first | rfl | (simp_all; done))

theorem cls_congr (cx : Cx) {ev ev' : Operand → TV} (o : Oper) (h : ∀ x ∈ o.op.operands, ev x = ev' x) : cls cx ev o = cls cx ev' o := by
  obtain ⟨dst, op, type, pos, after, guard⟩ := o
  have anyc : ∀ (l : List Operand), (∀ x ∈ l, ev x = ev' x) → l.any (fun x => (ev x).named) = l.any (fun x => (ev' x).named) := by
    intro l hl
    induction l with
    | nil => rfl
    | cons x r ih => rw [List.any_cons, List.any_cons, hl x (List.mem_cons_self ..), ih fun y hy => hl y (List.mem_cons_of_mem _ hy)]
  have anyp : ∀ (l : List (Nat × Operand)), (∀ x ∈ l, ev x.2 = ev' x.2) → l.any (fun x => (ev x.2).named) = l.any (fun x => (ev' x.2).named) := by
    intro l hl
    induction l with
    | nil => rfl
    | cons x r ih => rw [List.any_cons, List.any_cons, hl x (List.mem_cons_self ..), ih fun y hy => hl y (List.mem_cons_of_mem _ hy)]
  cases op <;> simp only [Op.operands] at h <;> simp only [cls]
  case build t ps => rw [anyp ps.toList fun x hx => h x.2 (by simp only [List.mem_toArray, List.mem_map]; exact ⟨x, hx, rfl⟩)]
  case buildSlice t n ps => rw [anyp ps.toList fun x hx => h x.2 (by simp only [List.mem_toArray, List.mem_map]; exact ⟨x, hx, rfl⟩)]
  case call c =>
    have hargs := anyc c.args.toList fun x hx => h x (by simp [Call.operands, Array.mem_toList_iff.1 hx])
    rw [hargs]
    cases hc : c.callee with
    | value f => have hf : ev f = ev' f := h f (by simp [Call.operands, hc]); simp only [hf]
    | invoke r m => rfl
    | builtin b => cases b <;> rfl
  all_goals (first | rfl | (simp_all; done))

/-- what the evaluator saw of one operation -/
structure Rec where
  o : Oper
  skip : Bool
  tv : TV
  eff : Eff
  oi : OI


def Step (cx : Cx) (ops : Array Oper) (tm : Nat → TV) (hp : Hp) (r : Rec) : Prop :=
  (r.skip = true ∧ r.tv = .tnil ∧ r.eff = [] ∧ r.oi = info ops r.o 0 [] ∧ isAlloc r.o = false ∧ ∃ j want g, r.o.guard = some (j, want) ∧ (ops[j]?).bind (·.dst) = some g ∧ ((∃ b, tm g = .val .bool b ∧ b ≠ want) ∨ tm g = .tnil)) ∨
  (r.skip = false ∧ (r.o.guard = none ∨ ∃ j want g, r.o.guard = some (j, want) ∧ isAlloc r.o = false ∧ (ops[j]?).bind (·.dst) = some g ∧ tm g = .val .bool want) ∧ r.oi = info ops r.o (cls cx (evF tm) r.o) (r.eff.map Prod.fst) ∧
    opK cx true (evF tm) (hpFor (cls cx (evF tm) r.o) hp) r.o (r.o.dst.getD 0) (fun v e => some (v, e)) = some (r.tv, r.eff) ∧ (cls cx (evF tm) r.o ≠ 2 → r.eff = []) ∧ (cls cx (evF tm) r.o = 2 → boxKeysOk tm hp r.o r.eff = true))

def Runs (cx : Cx) (ops : Array Oper) : (Nat → TV) → Hp → List Rec → Prop
  | _, _, [] => True
  | tm, hp, r :: rs => Step cx ops tm hp r ∧ Runs cx ops (upd tm r.o.dst r.tv) (applyE hp r.eff) rs

/-- temporaries, and memory, when those operations are done that f says -/
def tmF (f : Nat → Bool) : Nat → List Rec → (Nat → TV) → Nat → TV
  | _, [], tm => tm
  | i, r :: rs, tm => tmF f (i + 1) rs (if f i then upd tm r.o.dst r.tv else tm)
def hpF (f : Nat → Bool) : Nat → List Rec → Hp → Hp
  | _, [], hp => hp
  | i, r :: rs, hp => hpF f (i + 1) rs (if f i then applyE hp r.eff else hp)

def goD (cx : Cx) (ops : Array Oper) (o : Oper) (r : List Oper) (acc : List OI) (k : St → Option β) (s : St) : Option β :=
  opK cx true s.ev (hpFor (cls cx s.ev o) s.blk) o (o.dst.getD 0) fun v e =>
        bif Nat.beq (cls cx s.ev o) 2 then (bif boxKeysOk s.get s.blk o e then runD cx ops r (info ops o (cls cx s.ev o) (e.map Prod.fst) :: acc) (s.put o.dst v e) k else none)
        else (match e with | [] => runD cx ops r (info ops o (cls cx s.ev o) [] :: acc) (s.put o.dst v []) k | _ => none)

theorem runD_cons (cx : Cx) (ops : Array Oper) (o : Oper) (r : List Oper) (acc : List OI) (s : St) (k : St → Option β) : runD cx ops (o :: r) acc s k =
    (match o.guard with
    | none => goD cx ops o r acc k s
    | some (j, want) =>
      bif isAlloc o then none else
      match (ops[j]?).bind (·.dst) with
      | none => none
      | some g =>
        match s.get g with
        | .val .bool b =>
          bif want then (bif b then goD cx ops o r acc k (s.put g (.val .bool true) []) else runD cx ops r (info ops o 0 [] :: acc) ((s.put g (.val .bool false) []).put o.dst .tnil []) k)
          else (bif b then runD cx ops r (info ops o 0 [] :: acc) ((s.put g (.val .bool true) []).put o.dst .tnil []) k else goD cx ops o r acc k (s.put g (.val .bool false) []))
        | .tnil => runD cx ops r (info ops o 0 [] :: acc) (s.put o.dst .tnil []) k
        | _ => none) := by
  cases hg : o.guard with
  | none =>
    unfold goD
    conv => lhs; unfold runD
    simp only [hg]
    rfl
  | some p =>
    obtain ⟨j, want⟩ := p
    unfold goD
    conv => lhs; unfold runD
    simp only [hg]
    cases isAlloc o
    · simp only [cond_false]
      cases (ops[j]?).bind (·.dst) with
      | none => rfl
      | some g => rfl
    · rfl

theorem runD_runs (cx : Cx) (ops : Array Oper) {k : St → Option β} {res : β} : ∀ (l : List Oper) (acc : List OI) (s : St), runD cx ops l acc s k = some res →
    ∃ (rs : List Rec) (s' : St), rs.map (·.o) = l ∧ Runs cx ops s.get s.blk rs ∧ s'.get = tmF (fun _ => true) 0 rs s.get ∧ s'.blk = hpF (fun _ => true) 0 rs s.blk ∧
      okAll (acc.reverse ++ rs.map (·.oi)) (masks ops.toList) = true ∧ k s' = some res
  | [], acc, s, h => by
    unfold runD at h
    rcases cond_some h with ⟨h1, h2⟩ | ⟨_, h⟩
    · exact ⟨[], s, rfl, trivial, rfl, rfl, by simpa using h1, h2⟩
    · cases h
  | o :: r, acc, s, h => by
    have shift : ∀ (f g : Nat → Bool) (i j : Nat) (rs : List Rec) (tm : Nat → TV), (∀ n, f (i + n) = g (j + n)) → tmF f i rs tm = tmF g j rs tm := by
      intro f g i j rs
      induction rs generalizing i j with
      | nil => intro tm _; rfl
      | cons x xs ih =>
        intro tm hfg
        unfold tmF
        rw [show f i = g j from hfg 0]
        exact ih (i + 1) (j + 1) _ fun n => by rw [show i + 1 + n = i + (n + 1) by omega, show j + 1 + n = j + (n + 1) by omega]; exact hfg (n + 1)
    have shiftH : ∀ (f g : Nat → Bool) (i j : Nat) (rs : List Rec) (hp : Hp), (∀ n, f (i + n) = g (j + n)) → hpF f i rs hp = hpF g j rs hp := by
      intro f g i j rs
      induction rs generalizing i j with
      | nil => intro tm _; rfl
      | cons x xs ih =>
        intro tm hfg
        unfold hpF
        rw [show f i = g j from hfg 0]
        exact ih (i + 1) (j + 1) _ fun n => by rw [show i + 1 + n = i + (n + 1) by omega, show j + 1 + n = j + (n + 1) by omega]; exact hfg (n + 1)
    have fin : ∀ (x : Rec) (s' : St), s'.get = s.get → s'.blk = s.blk → x.o = o → Step cx ops s.get s.blk x → runD cx ops r (x.oi :: acc) (s'.put o.dst x.tv x.eff) k = some res →
        ∃ (rs : List Rec) (s' : St), rs.map (·.o) = o :: r ∧ Runs cx ops s.get s.blk rs ∧ s'.get = tmF (fun _ => true) 0 rs s.get ∧ s'.blk = hpF (fun _ => true) 0 rs s.blk ∧
          okAll (acc.reverse ++ rs.map (·.oi)) (masks ops.toList) = true ∧ k s' = some res := by
      intro x s' h1 h2 hxo hs hk
      obtain ⟨rs, s2, g1, g2, g3, g4, g5, g6⟩ := runD_runs cx ops r _ _ hk
      rw [St.get_put, St.blk_put, h1, h2] at g2
      rw [St.get_put, h1] at g3
      rw [St.blk_put, h2] at g4
      refine ⟨x :: rs, s2, by rw [List.map_cons, hxo, g1], ⟨hs, by rw [hxo]; exact g2⟩, ?_, ?_, by simpa using g5, g6⟩
      · rw [g3]
        conv => rhs; unfold tmF
        simp only [if_true, hxo]
        exact shift _ _ _ _ _ _ fun _ => rfl
      · rw [g4]
        conv => rhs; unfold hpF
        simp only [if_true]
        exact shiftH _ _ _ _ _ _ fun _ => rfl
    have go : ∀ (s' : St), s'.get = s.get → s'.blk = s.blk → goD cx ops o r acc k s' = some res → (o.guard = none ∨ ∃ j want g, o.guard = some (j, want) ∧ isAlloc o = false ∧ (ops[j]?).bind (·.dst) = some g ∧ s.get g = .val .bool want) →
        ∃ (rs : List Rec) (s' : St), rs.map (·.o) = o :: r ∧ Runs cx ops s.get s.blk rs ∧ s'.get = tmF (fun _ => true) 0 rs s.get ∧ s'.blk = hpF (fun _ => true) 0 rs s.blk ∧
          okAll (acc.reverse ++ rs.map (·.oi)) (masks ops.toList) = true ∧ k s' = some res := by
      intro s' h1 h2 hk hgd
      unfold goD at hk
      obtain ⟨tv, eff, hop, hk⟩ := opK_some hk
      rw [St.ev_eq, h1, h2] at hop
      rw [St.ev_eq, h1] at hk
      rcases cond_some hk with ⟨hc, hk⟩ | ⟨hc, hk⟩
      · have hc := Nat.eq_of_beq_eq_true hc
        rcases cond_some hk with ⟨hb, hk⟩ | ⟨_, hk⟩
        · rw [h2] at hb
          exact fin ⟨o, false, tv, eff, info ops o (cls cx (evF s.get) o) (eff.map Prod.fst)⟩ s' h1 h2 rfl (.inr ⟨rfl, hgd, rfl, hop, fun h => absurd hc h, fun _ => hb⟩) hk
        · cases hk
      · split at hk
        · refine fin ⟨o, false, tv, [], info ops o (cls cx (evF s.get) o) []⟩ s' h1 h2 rfl (.inr ⟨rfl, hgd, rfl, hop, fun _ => rfl, fun h => ?_⟩) hk
          rw [h] at hc; cases hc
        · cases hk
    have skip : ∀ (s' : St), s'.get = s.get → s'.blk = s.blk → runD cx ops r (info ops o 0 [] :: acc) (s'.put o.dst .tnil []) k = some res → isAlloc o = false → (∃ j want g, o.guard = some (j, want) ∧ (ops[j]?).bind (·.dst) = some g ∧ ((∃ b, s.get g = .val .bool b ∧ b ≠ want) ∨ s.get g = .tnil)) →
        ∃ (rs : List Rec) (s' : St), rs.map (·.o) = o :: r ∧ Runs cx ops s.get s.blk rs ∧ s'.get = tmF (fun _ => true) 0 rs s.get ∧ s'.blk = hpF (fun _ => true) 0 rs s.blk ∧
          okAll (acc.reverse ++ rs.map (·.oi)) (masks ops.toList) = true ∧ k s' = some res := by
      intro s' h1 h2 hk hna hgd
      exact fin ⟨o, true, .tnil, [], info ops o 0 []⟩ s' h1 h2 rfl (.inl ⟨rfl, rfl, rfl, rfl, hna, hgd⟩) hk
    rw [runD_cons] at h
    cases hg : o.guard with
    | none => rw [hg] at h; exact go s rfl rfl h (.inl hg)
    | some p =>
      obtain ⟨j, want⟩ := p
      rw [hg] at h
      simp only at h
      rcases cond_some h with ⟨_, h⟩ | ⟨hna, h⟩
      · cases h
      split at h
      · cases h
      rename_i g hgd
      split at h
      · rename_i b hb
        have same : ∀ v, s.get g = v → (s.put g v []).get = s.get := fun v hv => by rw [St.get_put, upd_same hv]
        have sameB : ∀ v, (s.put g v []).blk = s.blk := fun v => by rw [St.blk_put]; rfl
        cases want <;> cases b <;> simp only [cond_true, cond_false] at h
        · exact go _ (same _ hb) (sameB _) h (.inr ⟨j, _, g, hg, hna, hgd, hb⟩)
        · exact skip _ (same _ hb) (sameB _) h hna ⟨j, _, g, hg, hgd, .inl ⟨_, hb, by decide⟩⟩
        · exact skip _ (same _ hb) (sameB _) h hna ⟨j, _, g, hg, hgd, .inl ⟨_, hb, by decide⟩⟩
        · exact go _ (same _ hb) (sameB _) h (.inr ⟨j, _, g, hg, hna, hgd, hb⟩)
      · rename_i hb
        exact skip s rfl rfl h hna ⟨j, want, g, hg, hgd, .inr hb⟩
      · cases h
end Go.ZM
end
end

section
/- Regions whose order is open: every order comes out alike. -/
set_option linter.unusedVariables false
noncomputable section
namespace Go.ZM
open Go
variable {c : Cfg} {tm : Nat → TV} {hp : Hp} {known pend : Nat → Prop} {ρ : Rho} {a : Act} {w : World} {P : Program} {β : Type}

theorem upd_ne {d : Option Nat} {v : TV} {t : Nat} (h : d ≠ some t) : upd tm d v t = tm t := by
  cases d with
  | none => rfl
  | some d => show (if d = t then v else tm t) = _; rw [if_neg fun e => h (by rw [e])]
theorem upd_eq {v : TV} {t : Nat} : upd tm (some t) v t = v := by show (if t = t then v else tm t) = _; rw [if_pos rfl]
theorem upd_comm {d e : Option Nat} {u v : TV} (h : ∀ t, d = some t → e ≠ some t) : upd (upd tm d u) e v = upd (upd tm e v) d u := by
  funext t
  by_cases h1 : d = some t
  · rw [upd_ne (h t h1), h1, upd_eq, upd_eq]
  · rw [upd_ne (d := d) h1]
    by_cases h2 : e = some t
    · rw [h2, upd_eq, upd_eq]
    · rw [upd_ne h2, upd_ne h2, upd_ne h1]

theorem tmF_agree (f g : Nat → Bool) (t : Nat) : ∀ (rs : List Rec) (i : Nat) (tm tm' : Nat → TV), tm t = tm' t → (∀ j r, rs[j]? = some r → r.o.dst = some t → f (i + j) = g (i + j)) → tmF f i rs tm t = tmF g i rs tm' t
  | [], i, tm, tm', h, _ => h
  | r :: rs, i, tm, tm', h, hfg => by
    unfold tmF
    refine tmF_agree f g t rs (i + 1) _ _ ?_ fun j r' hj hd => by
      rw [show i + 1 + j = i + (j + 1) by omega]; exact hfg (j + 1) r' (by simpa using hj) hd
    by_cases hd : r.o.dst = some t
    · have := hfg 0 r rfl hd
      rw [Nat.add_zero] at this
      rw [this]
      split
      · rw [hd, upd_eq, upd_eq]
      · exact h
    · have h1 : ∀ (b : Bool) (tm : Nat → TV), (if b then upd tm r.o.dst r.tv else tm) t = tm t := by
        intro b tm; cases b
        · rfl
        · exact upd_ne hd
      rw [h1, h1]; exact h

theorem hpF_agree (f g : Nat → Bool) : ∀ (rs : List Rec) (i : Nat) (hp : Hp), (∀ j r, rs[j]? = some r → r.eff ≠ [] → f (i + j) = g (i + j)) → hpF f i rs hp = hpF g i rs hp
  | [], i, hp, _ => rfl
  | r :: rs, i, hp, hfg => by
    unfold hpF
    have : (if f i then applyE hp r.eff else hp) = (if g i then applyE hp r.eff else hp) := by
      by_cases he : r.eff = []
      · rw [he]; have : applyE hp [] = hp := rfl
        rw [this]; simp
      · have := hfg 0 r rfl he
        rw [Nat.add_zero] at this
        rw [this]
    rw [this]
    exact hpF_agree f g rs (i + 1) _ fun j r' hj hd => by
      rw [show i + 1 + j = i + (j + 1) by omega]; exact hfg (j + 1) r' (by simpa using hj) hd

theorem tmF_none (f : Nat → Bool) : ∀ (rs : List Rec) (i : Nat) (tm : Nat → TV), (∀ j, f (i + j) = false) → tmF f i rs tm = tm
  | [], _, _, _ => rfl
  | r :: rs, i, tm, h => by
    unfold tmF
    rw [show f i = false from h 0]
    exact tmF_none f rs (i + 1) tm fun j => by rw [show i + 1 + j = i + (j + 1) by omega]; exact h (j + 1)
theorem hpF_none (f : Nat → Bool) : ∀ (rs : List Rec) (i : Nat) (hp : Hp), (∀ j, f (i + j) = false) → hpF f i rs hp = hp
  | [], _, _, _ => rfl
  | r :: rs, i, hp, h => by
    unfold hpF
    rw [show f i = false from h 0]
    exact hpF_none f rs (i + 1) hp fun j => by rw [show i + 1 + j = i + (j + 1) by omega]; exact h (j + 1)

theorem Runs_at {cx : Cx} {ops : Array Oper} : ∀ {rs : List Rec} {n i : Nat} {tm : Nat → TV} {hp : Hp} {r : Rec}, Runs cx ops tm hp rs → rs[i]? = some r → Step cx ops (tmF (fun j => decide (j < n + i)) n rs tm) (hpF (fun j => decide (j < n + i)) n rs hp) r
  | [], n, i, tm, hp, r, _, h => by simp at h
  | x :: rs, n, 0, tm, hp, r, ⟨h1, _⟩, h => by
    have h : x = r := by simpa using h
    subst h
    rw [tmF_none _ _ _ _ (fun j => by simp), hpF_none _ _ _ _ (fun j => by simp)]
    exact h1
  | x :: rs, n, i + 1, tm, hp, r, ⟨_, h2⟩, h => by
    have := Runs_at (n := n + 1) (i := i) h2 (by simpa using h)
    unfold tmF hpF
    rw [show n + (i + 1) = n + 1 + i by omega]
    have hd : decide (n < n + 1 + i) = true := decide_eq_true (by omega)
    simp only [hd, if_true]
    exact this

theorem tmF_comm (f : Nat → Bool) {d : Option Nat} {v : TV} : ∀ (rs : List Rec) (n : Nat) (tm : Nat → TV), (∀ j r, rs[j]? = some r → f (n + j) = true → ∀ t, d = some t → r.o.dst ≠ some t) → tmF f n rs (upd tm d v) = upd (tmF f n rs tm) d v
  | [], _, _, _ => rfl
  | x :: rs, n, tm, h => by
    have hr := tmF_comm f (d := d) (v := v) rs (n + 1)
    have hh : ∀ j r, rs[j]? = some r → f (n + 1 + j) = true → ∀ t, d = some t → r.o.dst ≠ some t := fun j r hj hf => h (j + 1) r (by simpa using hj) (by rw [show n + (j + 1) = n + 1 + j by omega]; exact hf)
    unfold tmF
    cases hf : f n with
    | false => simp only [Bool.false_eq_true, if_false]; exact hr tm hh
    | true =>
      simp only [if_true]
      rw [upd_comm (h 0 x rfl hf)]
      exact hr _ hh

theorem tmF_set {f f' : Nat → Bool} : ∀ {rs : List Rec} {n i : Nat} {tm : Nat → TV} {r : Rec}, rs[i]? = some r → f (n + i) = false → f' (n + i) = true → (∀ j, j ≠ n + i → f' j = f j) →
    (∀ j r', i < j → rs[j]? = some r' → f (n + j) = true → ∀ t, r.o.dst = some t → r'.o.dst ≠ some t) → tmF f' n rs tm = upd (tmF f n rs tm) r.o.dst r.tv
  | [], n, i, tm, r, h, _, _, _, _ => by simp at h
  | x :: rs, n, 0, tm, r, h, h1, h2, h3, h4 => by
    have h : x = r := by simpa using h
    subst h
    rw [Nat.add_zero] at h1 h2 h3
    unfold tmF
    rw [h1, h2]
    simp only [if_true, Bool.false_eq_true, if_false]
    rw [← tmF_comm f rs (n + 1) tm fun j r' hj hf => h4 (j + 1) r' (by omega) (by simpa using hj) (by rw [show n + (j + 1) = n + 1 + j by omega]; exact hf)]
    funext t
    exact tmF_agree f' f t rs (n + 1) _ _ rfl fun j r' _ _ => h3 _ (by omega)
  | x :: rs, n, i + 1, tm, r, h, h1, h2, h3, h4 => by
    unfold tmF
    rw [h3 n (by omega)]
    rw [show n + (i + 1) = n + 1 + i by omega] at h1 h2 h3
    exact tmF_set (n := n + 1) (i := i) (by simpa using h) h1 h2 h3 fun j r' hij hj hf => h4 (j + 1) r' (by omega) (by simpa using hj) (by rw [show n + (j + 1) = n + 1 + j by omega]; exact hf)

theorem hpF_noeff (f : Nat → Bool) : ∀ (rs : List Rec) (n : Nat) (hp : Hp), (∀ j r, rs[j]? = some r → f (n + j) = true → r.eff = []) → hpF f n rs hp = hp
  | [], _, _, _ => rfl
  | x :: rs, n, hp, h => by
    have hh := hpF_noeff f rs (n + 1) hp fun j r hj hf => h (j + 1) r (by simpa using hj) (by rw [show n + (j + 1) = n + 1 + j by omega]; exact hf)
    unfold hpF
    cases hf : f n with
    | false => simp only [Bool.false_eq_true, if_false]; exact hh
    | true =>
      simp only [if_true]
      rw [show x.eff = [] from h 0 x rfl hf]
      exact hh

theorem hpF_set {f f' : Nat → Bool} : ∀ {rs : List Rec} {n i : Nat} {hp : Hp} {r : Rec}, rs[i]? = some r → f (n + i) = false → f' (n + i) = true → (∀ j, j ≠ n + i → f' j = f j) →
    (∀ j r', i < j → rs[j]? = some r' → f (n + j) = true → r.eff = [] ∨ r'.eff = []) → hpF f' n rs hp = applyE (hpF f n rs hp) r.eff
  | [], n, i, tm, r, h, _, _, _, _ => by simp at h
  | x :: rs, n, 0, hp, r, h, h1, h2, h3, h4 => by
    have h : x = r := by simpa using h
    subst h
    rw [Nat.add_zero] at h1 h2 h3
    unfold hpF
    rw [h1, h2]
    simp only [if_true, Bool.false_eq_true, if_false]
    rw [hpF_agree f' f rs (n + 1) _ fun j r' _ _ => h3 _ (by omega)]
    by_cases he : x.eff = []
    · rw [he]; rfl
    · have : ∀ j r', rs[j]? = some r' → f (n + 1 + j) = true → r'.eff = [] := fun j r' hj hf => (h4 (j + 1) r' (by omega) (by simpa using hj) (by rw [show n + (j + 1) = n + 1 + j by omega]; exact hf)).resolve_left he
      rw [hpF_noeff f rs (n + 1) _ this, hpF_noeff f rs (n + 1) _ this]
  | x :: rs, n, i + 1, tm, r, h, h1, h2, h3, h4 => by
    unfold hpF
    rw [h3 n (by omega)]
    rw [show n + (i + 1) = n + 1 + i by omega] at h1 h2 h3
    exact hpF_set (n := n + 1) (i := i) (by simpa using h) h1 h2 h3 fun j r' hij hj hf => h4 (j + 1) r' (by omega) (by simpa using hj) (by rw [show n + (j + 1) = n + 1 + j by omega]; exact hf)

theorem nodup_flat {α : Type} {g : α → List Nat} : ∀ {l : List α} {i j : Nat} {x y : α} {n : Nat}, (l.flatMap g).Nodup → l[i]? = some x → l[j]? = some y → n ∈ g x → n ∈ g y → i = j
  | [], i, j, x, y, n, _, h, _, _, _ => by simp at h
  | z :: l, i, j, x, y, n, h, hx, hy, h1, h2 => by
    rw [List.flatMap_cons] at h
    obtain ⟨g1, g2, g3⟩ := List.nodup_append.1 h
    have cross : ∀ {k : Nat} {u : α}, l[k]? = some u → n ∈ g z → n ∈ g u → False := fun hk hz hu => g3 n hz n (List.mem_flatMap.2 ⟨_, List.mem_of_getElem? hk, hu⟩) rfl
    cases i with
    | zero =>
      have hx : z = x := by simpa using hx
      subst hx
      cases j with
      | zero => rfl
      | succ j => exact (cross (by simpa using hy) h1 h2).elim
    | succ i =>
      cases j with
      | zero =>
        have hy : z = y := by simpa using hy
        subst hy
        exact (cross (by simpa using hx) h2 h1).elim
      | succ j => exact congrArg (· + 1) (nodup_flat g2 (by simpa using hx) (by simpa using hy) h1 h2)

theorem RX_boxRef {M : Nat → Prop} : ∀ (tv : TV) (vs : List Value) (n : Nat), RX w M ρ hp tv vs → tv.boxRef n = true → ∀ {t : Ty} {x : t.den}, hp n = some (.box t x) → ρ n ≠ none
  | .box m off, vs, n, ⟨v, _, b, _, hb⟩, hr, t, x, hn => by
    have hr : m = n := Nat.eq_of_beq_eq_true hr
    subst hr
    obtain ⟨k, hk⟩ := hb t x hn
    rw [hk]; simp
  | .fn f caps, vs, n, ⟨us, _, h⟩, hr, t, x, hn => RX_boxRef caps us n h hr hn
  | .tup a b, vs, n, ⟨v, r, _, h1, h2⟩, hr, t, x, hn => by
    have hr : (a.boxRef n || b.boxRef n) = true := hr
    rw [Bool.or_eq_true] at hr
    exact hr.elim (fun h => RX_boxRef a _ n h1 h hn) (fun h => RX_boxRef b _ n h2 h hn)
theorem R_boxRef {M : Nat → Prop} {tv : TV} {v : Value} {n : Nat} (h : R w M ρ hp tv v) (hr : tv.boxRef n = true) {t : Ty} {x : t.den} (hn : hp n = some (.box t x)) : ρ n ≠ none := by
  unfold R at h
  split at h
  · obtain ⟨vs, h, _⟩ := h; exact RX_boxRef tv vs n h hr hn
  · exact RX_boxRef tv _ n h hr hn
end Go.ZM
end
end

section
/- Regions whose order is open: soundness. -/
set_option linter.unusedVariables false
noncomputable section
namespace Go.ZM
open Go
variable {c : Cfg} {tm : Nat → TV} {hp : Hp} {known pend : Nat → Prop} {ρ : Rho} {a : Act} {w : World} {P : Program} {β : Type}

def KnownL (cx : Cx) (known0 : Nat → Prop) (rs : List Rec) (f : Nat → Bool) (n : Nat) : Prop :=
  known0 n ∨ (∃ (j : Nat) (r : Rec), rs[j]? = some r ∧ isAlloc r.o = true ∧ r.o.dst = some n) ∨ ∃ (j : Nat) (r : Rec), rs[j]? = some r ∧ f j = true ∧ n ∈ makes cx r.o
def PendL (rs : List Rec) (f : Nat → Bool) (n : Nat) : Prop := ∃ (j : Nat) (r : Rec), rs[j]? = some r ∧ f j = false ∧ isAlloc r.o = true ∧ r.o.dst = some n

/-- what does not change while a region runs -/
structure Env (P : Program) (c : Cfg) (cx : Cx) (ops : Array Oper) (tm0 : Nat → TV) (hp0 : Hp) (known0 : Nat → Prop) (rs : List Rec) : Prop where
  hty : tysOk P cx.tys = true
  hfns : FnsOk P cx.fns
  hfit : ∀ o ∈ ops.toList, opFits c.lo c.N o = true
  hrs : rs.map (·.o) = ops.toList
  hruns : Runs cx ops tm0 hp0 rs
  hok : okAll (rs.map (·.oi)) (masks ops.toList) = true
  hnd : (ops.toList.flatMap (makes cx)).Nodup
  hnew : ∀ n ∈ ops.toList.flatMap (makes cx), ¬ known0 n

structure Inv (c : Cfg) (cx : Cx) (tm0 : Nat → TV) (hp0 : Hp) (known0 : Nat → Prop) (rs : List Rec) (f : Nat → Bool) (ρ : Rho) (a : Act) (w : World) : Prop where
  rel : Rel c (tmF f 0 rs tm0) (hpF f 0 rs hp0) (KnownL cx known0 rs f) (PendL rs f) ρ a w
  boxes : ∀ i r e d, rs[i]? = some r → f i = false → r.o.op = .alloc e → r.o.dst = some d → ∃ ti, lk? cx.tys e = some ti ∧ hpF f 0 rs hp0 d = some (.box ti.ty ti.ty.zero)

section
variable {cx : Cx} {ops : Array Oper} {tm0 : Nat → TV} {hp0 : Hp} {known0 : Nat → Prop} {rs : List Rec}

theorem alloc_makes {o : Oper} (h : isAlloc o = true) {d : Nat} (hd : o.dst = some d) : d ∈ makes cx o := by
  unfold isAlloc at h
  cases hop : o.op with
  | alloc e => simp [makes, hop, hd]
  | _ => rw [hop] at h; cases h

theorem Env.opAt (E : Env P c cx ops tm0 hp0 known0 rs) {i : Nat} {r : Rec} (h : rs[i]? = some r) : ops.toList[i]? = some r.o := by
  rw [← E.hrs, List.getElem?_map, h]; rfl

theorem Env.recAt (E : Env P c cx ops tm0 hp0 known0 rs) {i : Nat} {o : Oper} (h : ops[i]? = some o) : ∃ r, rs[i]? = some r ∧ r.o = o := by
  have h : ops.toList[i]? = some o := by simpa using h
  rw [← E.hrs, List.getElem?_map] at h
  exact Option.map_eq_some_iff.1 h

theorem Env.uniq (E : Env P c cx ops tm0 hp0 known0 rs) {i j : Nat} {r r' : Rec} {n : Nat} (hi : rs[i]? = some r) (hj : rs[j]? = some r') (h1 : n ∈ makes cx r.o) (h2 : n ∈ makes cx r'.o) : i = j :=
  nodup_flat E.hnd (E.opAt hi) (E.opAt hj) h1 h2

theorem Env.stepAt (E : Env P c cx ops tm0 hp0 known0 rs) {i : Nat} {r : Rec} (hi : rs[i]? = some r) : Step cx ops (tmF (fun j => decide (j < i)) 0 rs tm0) (hpF (fun j => decide (j < i)) 0 rs hp0) r := by
  have := Runs_at (n := 0) E.hruns hi
  simpa only [Nat.zero_add] using this

theorem Env.oi (E : Env P c cx ops tm0 hp0 known0 rs) {i : Nat} {r : Rec} (hi : rs[i]? = some r) : r.oi = info ops r.o r.oi.cls (r.eff.map Prod.fst) ∧ (r.eff ≠ [] → r.oi.cls = 2) := by
  rcases E.stepAt hi with ⟨_, _, h1, h2, _⟩ | ⟨_, _, h2, _, h3, _⟩
  · exact ⟨by rw [h2, h1]; rfl, fun h => absurd h1 h⟩
  · refine ⟨by rw [h2]; rfl, fun h => ?_⟩
    rw [h2]
    show cls cx _ _ = 2
    apply Classical.byContradiction
    exact fun hn => h (h3 hn)

theorem Env.clash (E : Env P c cx ops tm0 hp0 known0 rs) {i j : Nat} {r r' : Rec} (hij : i < j) (hi : rs[i]? = some r) (hj : rs[j]? = some r') (hc : r.oi.clash r'.oi = true) : Before ops.toList j i := by
  refine clash_before (xs := rs.map (·.oi)) E.hok ?_ hij (by rw [List.getElem?_map, hi]; rfl) (by rw [List.getElem?_map, hj]; rfl) hc
  rw [List.length_map, ← E.hrs, List.length_map]

/-- listed or not: as in the text -/
theorem Env.same (E : Env P c cx ops tm0 hp0 known0 rs) {f : Nat → Bool} (hdown : Down ops.toList f) {i : Nat} {r : Rec} (hi : rs[i]? = some r) (hf : f i = false) (hready : ∀ e ∈ r.o.after, Region.binds .any e = true → f e.on = true)
    {j : Nat} {r' : Rec} (hj : rs[j]? = some r') (h1 : j < i → r'.oi.clash r.oi = true) (h2 : i < j → r.oi.clash r'.oi = true) : f j = decide (j < i) := by
  rcases Nat.lt_trichotomy j i with h | h | h
  · rw [decide_eq_true h]
    refine (E.clash h hj hi (h1 h)).listed hdown fun o ho => ?_
    rw [E.opAt hi] at ho; injection ho with ho; subst ho; exact hready
  · subst h; rw [hf]; simp
  · rw [decide_eq_false (by omega)]
    cases hfj : f j with
    | false => rfl
    | true =>
      have := (E.clash h hi hj (h2 h)).listed hdown fun o ho => hdown j o ho hfj
      rw [hf] at this; cases this

theorem any_mem {l : List Nat} {n : Nat} (h : n ∈ l) : l.any (Nat.beq n) = true := any_beq.2 h

theorem clash_read {x y : OI} {d : Nat} (hx : x.dst = some d) (hy : d ∈ y.reads) : x.clash y = true ∧ y.clash x = true := by
  unfold OI.clash
  rw [hx]
  simp [any_mem hy]
theorem clash_write {x y : OI} {d : Nat} (hx : x.dst = some d) (hy : y.dst = some d) : x.clash y = true := by
  unfold OI.clash
  rw [hx, hy]
  simp
theorem clash_mem {x y : OI} (h : x.mem y = true) : x.clash y = true ∧ y.clash x = true := by
  unfold OI.clash
  rw [h]
  simp
theorem clash_heap {x y : OI} (hx : x.cls = 2) (hy : y.cls ≠ 0) (h3 : y.cls < 3) : x.clash y = true ∧ y.clash x = true := by
  refine clash_mem ?_
  unfold OI.mem
  have h1 : Nat.beq y.cls 0 = false := by
    cases h : Nat.beq y.cls 0 with
    | false => rfl
    | true => exact absurd (Nat.eq_of_beq_eq_true h) hy
  have h2 : Nat.ble 3 y.cls = false := by
    cases h : Nat.ble 3 y.cls with
    | false => rfl
    | true => have := Nat.le_of_ble_eq_true h; omega
  rw [hx, h1, h2]
  rfl
theorem clash_name {x y : OI} {m : Nat} (hx : x.cls = 2) (hy : y.cls = 3 + m) (hm : m ∈ x.keys) : x.clash y = true ∧ y.clash x = true := by
  refine clash_mem ?_
  unfold OI.mem
  have h2 : Nat.ble 3 y.cls = true := Nat.ble_eq_true_of_le (by omega)
  rw [hx, h2, hy, show 3 + m - 3 = m by omega]
  simpa using any_mem hm

theorem Env.reads (E : Env P c cx ops tm0 hp0 known0 rs) {f : Nat → Bool} (hdown : Down ops.toList f) {i : Nat} {r : Rec} (hi : rs[i]? = some r) (hf : f i = false) (hready : ∀ e ∈ r.o.after, Region.binds .any e = true → f e.on = true)
    {t : Nat} (ht : t ∈ r.oi.reads) : tmF f 0 rs tm0 t = tmF (fun j => decide (j < i)) 0 rs tm0 t := by
  refine tmF_agree f _ t rs 0 _ _ rfl fun j r' hj hd => ?_
  rw [Nat.zero_add]
  have hd' : r'.oi.dst = some t := by rw [(E.oi hj).1]; exact hd
  have := clash_read hd' ht
  exact E.same hdown hi hf hready hj (fun _ => this.1) (fun _ => this.2)
theorem applyE_at {n : Nat} : ∀ {e : Eff} {hp hp' : Hp}, hp n = hp' n → applyE hp e n = applyE hp' e n
  | [], _, _, h => h
  | (m, b) :: r, hp, hp', h => by
    unfold applyE
    refine applyE_at ?_
    by_cases e : m = n
    · simp only [if_pos e]
    · simp only [if_neg e]; exact h

theorem hpF_agree_at (m : Nat) (f g : Nat → Bool) : ∀ (rs : List Rec) (i : Nat) (hp hp' : Hp), hp m = hp' m → (∀ j r, rs[j]? = some r → m ∈ r.eff.map Prod.fst → f (i + j) = g (i + j)) → hpF f i rs hp m = hpF g i rs hp' m
  | [], i, hp, hp', h, _ => h
  | r :: rs, i, hp, hp', h, hfg => by
    unfold hpF
    refine hpF_agree_at m f g rs (i + 1) _ _ ?_ fun j r' hj hd => by
      rw [show i + 1 + j = i + (j + 1) by omega]; exact hfg (j + 1) r' (by simpa using hj) hd
    by_cases hm : m ∈ r.eff.map Prod.fst
    · have := hfg 0 r rfl hm
      rw [Nat.add_zero] at this
      rw [this]
      split
      · exact applyE_at h
      · exact h
    · have key : ∀ q : Hp, applyE q r.eff m = q m := fun q => applyE_notin fun p hp hpm => hm (List.mem_map.2 ⟨p, hp, hpm⟩)
      have e1 : (if f i then applyE hp r.eff else hp) m = hp m := by split; exact key hp; rfl
      have e2 : (if g i then applyE hp' r.eff else hp') m = hp' m := by split; exact key hp'; rfl
      rw [e1, e2]; exact h

theorem Env.heap (E : Env P c cx ops tm0 hp0 known0 rs) {f : Nat → Bool} (hdown : Down ops.toList f) {i : Nat} {r : Rec} (hi : rs[i]? = some r) (hf : f i = false) (hready : ∀ e ∈ r.o.after, Region.binds .any e = true → f e.on = true)
    (hc : r.oi.cls ≠ 0) (h3 : r.oi.cls < 3) : hpF f 0 rs hp0 = hpF (fun j => decide (j < i)) 0 rs hp0 := by
  refine hpF_agree f _ rs 0 _ fun j r' hj he => ?_
  rw [Nat.zero_add]
  have := clash_heap ((E.oi hj).2 he) hc h3
  exact E.same hdown hi hf hready hj (fun _ => this.1) (fun _ => this.2)

theorem Env.heap_at (E : Env P c cx ops tm0 hp0 known0 rs) {f : Nat → Bool} (hdown : Down ops.toList f) {i : Nat} {r : Rec} (hi : rs[i]? = some r) (hf : f i = false) (hready : ∀ e ∈ r.o.after, Region.binds .any e = true → f e.on = true)
    {m : Nat} (hc : r.oi.cls = 3 + m) : hpF f 0 rs hp0 m = hpF (fun j => decide (j < i)) 0 rs hp0 m := by
  refine hpF_agree_at m f _ rs 0 _ _ rfl fun j r' hj he => ?_
  rw [Nat.zero_add]
  have hne : r'.eff ≠ [] := fun e => by rw [e] at he; cases he
  have := clash_name ((E.oi hj).2 hne) hc (by rw [(E.oi hj).1]; exact he)
  exact E.same hdown hi hf hready hj (fun _ => this.1) (fun _ => this.2)

theorem hpFor_eq {cl : Nat} {hp hp' : Hp} (h : cl ≠ 0 → cl < 3 → hp = hp') (h' : ∀ m, cl = 3 + m → hp m = hp' m) : hpFor cl hp = hpFor cl hp' := by
  unfold hpFor
  cases h0 : Nat.beq cl 0 with
  | true => rfl
  | false =>
    cases h3 : Nat.ble 3 cl with
    | true =>
      have := Nat.le_of_ble_eq_true h3
      funext n
      cases hn : Nat.beq n (cl - 3) with
      | false => simp [hn]
      | true =>
        have e := Nat.eq_of_beq_eq_true hn
        simp only [cond_false, cond_true, hn]
        exact h' n (by omega)
    | false =>
      have h1 : cl ≠ 0 := fun e => by rw [e] at h0; cases h0
      have h2 : cl < 3 := by
        rcases Nat.lt_or_ge cl 3 with g | g
        · exact g
        · rw [Nat.ble_eq_true_of_le g] at h3; cases h3
      rw [h h1 h2]

theorem hpFor_le (cl : Nat) (hp : Hp) : LeS (hpFor cl hp) hp := by
  unfold hpFor
  intro n b hn
  cases h0 : Nat.beq cl 0 with
  | true => rw [h0] at hn; cases hn
  | false =>
    rw [h0] at hn
    cases h3 : Nat.ble 3 cl with
    | true =>
      rw [h3] at hn
      simp only [cond_false, cond_true] at hn
      cases h4 : Nat.beq n (cl - 3) with
      | true => rw [h4] at hn; exact hn
      | false => rw [h4] at hn; cases hn
    | false => rw [h3] at hn; exact hn

theorem hpFor_two (hp : Hp) : hpFor 2 hp = hp := rfl

def setB (f : Nat → Bool) (i : Nat) (j : Nat) : Bool := if j = i then true else f j

theorem Env.set (E : Env P c cx ops tm0 hp0 known0 rs) {f : Nat → Bool} (hdown : Down ops.toList f) {i : Nat} {r : Rec} (hi : rs[i]? = some r) (hf : f i = false) :
    tmF (setB f i) 0 rs tm0 = upd (tmF f 0 rs tm0) r.o.dst r.tv ∧ hpF (setB f i) 0 rs hp0 = applyE (hpF f 0 rs hp0) r.eff := by
  have no : ∀ {j : Nat} {r' : Rec}, i < j → rs[j]? = some r' → f j = true → r.oi.clash r'.oi = true → False := by
    intro j r' hij hj hfj hcl
    have := (E.clash hij hi hj hcl).listed hdown fun o ho => hdown j o ho hfj
    rw [hf] at this; cases this
  have e1 : setB f i (0 + i) = true := by unfold setB; simp
  have e2 : ∀ j, j ≠ 0 + i → setB f i j = f j := fun j hj => by unfold setB; rw [if_neg (by omega)]
  constructor
  · refine tmF_set hi (by rw [Nat.zero_add]; exact hf) e1 e2 fun j r' hij hj hfj t h1 h2 => ?_
    rw [Nat.zero_add] at hfj
    exact no hij hj hfj (clash_write (d := t) (by rw [(E.oi hi).1]; exact h1) (by rw [(E.oi hj).1]; exact h2))
  · refine hpF_set hi (by rw [Nat.zero_add]; exact hf) e1 e2 fun j r' hij hj hfj => ?_
    rw [Nat.zero_add] at hfj
    by_cases h1 : r.eff = []
    · exact .inl h1
    · by_cases h2 : r'.eff = []
      · exact .inr h2
      · exact (no hij hj hfj (clash_heap ((E.oi hi).2 h1) (by rw [(E.oi hj).2 h2]; decide) (by rw [(E.oi hj).2 h2]; decide)).1).elim

theorem operand_reads {o : Oper} {cl : Nat} {ks : List Nat} {t : Nat} (h : Operand.tmp t ∈ o.op.operands) : t ∈ (info ops o cl ks).reads :=
  List.mem_append_left _ (List.mem_filterMap.2 ⟨.tmp t, by simpa using h, rfl⟩)
theorem guard_reads {o : Oper} {cl j g : Nat} {ks : List Nat} {want : Bool} (hg : o.guard = some (j, want)) (hd : (ops[j]?).bind (·.dst) = some g) : g ∈ (info ops o cl ks).reads := by
  unfold info
  simp only [hg, hd]
  exact List.mem_append_right _ (List.mem_singleton.2 rfl)

/-- one operation more -/
theorem Env.step (E : Env P c cx ops tm0 hp0 known0 rs) {f : Nat → Bool} (hdown : Down ops.toList f) {i : Nat} {r : Rec} (hi : rs[i]? = some r) (hf : f i = false) (hready : ∀ e ∈ r.o.after, Region.binds .any e = true → f e.on = true)
    (I : Inv c cx tm0 hp0 known0 rs f ρ a w) {K : Act → World → Prop} {Q : Exit → Act → World → Prop} (hK : ∀ ρ a w, Inv c cx tm0 hp0 known0 rs (setB f i) ρ a w → K a w) : wpOp P ops Q i K a w := by
  have hop : ops[i]? = some r.o := by have := E.opAt hi; simpa using this
  have hmem : r.o ∈ ops.toList := List.mem_of_getElem? (E.opAt hi)
  obtain ⟨hs1, hs2⟩ := E.set hdown hi hf
  have hoi := E.oi hi
  have hst := E.stepAt hi
  have knowsMono : ∀ n, KnownL cx known0 rs f n → KnownL cx known0 rs (setB f i) n := by
    rintro n (h | h | ⟨j, r', h1, h2, h3⟩)
    · exact .inl h
    · exact .inr (.inl h)
    · exact .inr (.inr ⟨j, r', h1, by unfold setB; split <;> simp [h2], h3⟩)
  have pendEq : ∀ n, PendL rs (setB f i) n ↔ PendL rs f n ∧ ¬ (isAlloc r.o = true ∧ r.o.dst = some n) := by
    intro n
    constructor
    · rintro ⟨j, r', h1, h2, h3, h4⟩
      have hji : j ≠ i := fun e => by subst e; unfold setB at h2; simp at h2
      refine ⟨⟨j, r', h1, by unfold setB at h2; rwa [if_neg hji] at h2, h3, h4⟩, fun ⟨g1, g2⟩ => hji ?_⟩
      exact E.uniq h1 hi (alloc_makes h3 h4) (alloc_makes g1 g2)
    · rintro ⟨⟨j, r', h1, h2, h3, h4⟩, hn⟩
      have hji : j ≠ i := fun e => by subst e; rw [hi] at h1; injection h1 with h1; subst h1; exact hn ⟨h3, h4⟩
      exact ⟨j, r', h1, by unfold setB; rw [if_neg hji]; exact h2, h3, h4⟩
  unfold wpOp
  simp only [hop]
  rcases hst with ⟨g1, g2, g3, g4, g5, j, want, g, g6, g7, g8⟩ | ⟨g1, g2, g3, g4, g5, g6⟩
  · -- skipped
    have hr : tmF f 0 rs tm0 g = tmF (fun j => decide (j < i)) 0 rs tm0 g := E.reads hdown hi hf hready (by rw [g4]; exact guard_reads g6 g7)
    have hN := guard_lt E.hfit g7
    have hw : Region.wanted r.o (yielded ops a.tmps) = false := by
      unfold Region.wanted
      rw [g6]
      rcases g8 with ⟨b, hb, hne⟩ | hb
      · simp only [yield_bool I.rel g7 hN (hr.trans hb)]
        cases b <;> cases want <;> first | rfl | exact absurd rfl hne
      · simp [yield_nil I.rel g7 hN (hr.trans hb)]
    simp only [hw, Bool.false_eq_true, if_false]
    refine hK ρ _ w ⟨?_, ?_⟩
    · rw [hs1, hs2, g2, g3]
      have h1 := (skip_ok I.rel E.hfit hmem).known_mono knowsMono
      have : PendL rs (setB f i) = PendL rs f := by
        funext n; apply propext; rw [pendEq]
        exact ⟨fun h => h.1, fun h => ⟨h, fun h' => by rw [g5] at h'; cases h'.1⟩⟩
      rw [this]; exact h1
    · intro j' r' e d h1 h2 h3 h4
      rw [hs2, g3]
      refine I.boxes j' r' e d h1 ?_ h3 h4
      unfold setB at h2
      split at h2
      · cases h2
      · exact h2
  · -- run
    have hreads : ∀ t ∈ r.oi.reads, tmF f 0 rs tm0 t = tmF (fun j => decide (j < i)) 0 rs tm0 t := fun t ht => E.reads hdown hi hf hready ht
    have hev : ∀ x ∈ r.o.op.operands, evF (tmF (fun j => decide (j < i)) 0 rs tm0) x = evF (tmF f 0 rs tm0) x := by
      intro x hx
      cases x with
      | tmp t => exact (hreads t (by rw [g3]; exact operand_reads hx)).symm
      | _ => rfl
    have hw : Region.wanted r.o (yielded ops a.tmps) = true := by
      unfold Region.wanted
      rcases g2 with g2 | ⟨j, want, g, g7, g8, g9, g10⟩
      · rw [g2]
      · rw [g7]
        have hr := hreads g (by rw [g3]; exact guard_reads g7 g9)
        simp [yield_bool I.rel g9 (guard_lt E.hfit g9) (hr.trans g10)]
    simp only [hw, if_true]
    left
    have hcl : cls cx (evF (tmF (fun j => decide (j < i)) 0 rs tm0)) r.o = cls cx (evF (tmF f 0 rs tm0)) r.o := cls_congr cx r.o hev
    rw [opK_congr cx true _ r.o _ _ hev] at g4
    rw [hcl] at g3 g4 g5 g6
    have hclo : r.oi.cls = cls cx (evF (tmF f 0 rs tm0)) r.o := by rw [g3]; rfl
    have hheap : cls cx (evF (tmF f 0 rs tm0)) r.o ≠ 0 → cls cx (evF (tmF f 0 rs tm0)) r.o < 3 → hpF f 0 rs hp0 = hpF (fun j => decide (j < i)) 0 rs hp0 := fun h h3 => E.heap hdown hi hf hready (by rw [hclo]; exact h) (by rw [hclo]; exact h3)
    have hfor : hpFor (cls cx (evF (tmF f 0 rs tm0)) r.o) (hpF (fun j => decide (j < i)) 0 rs hp0) = hpFor (cls cx (evF (tmF f 0 rs tm0)) r.o) (hpF f 0 rs hp0) :=
      hpFor_eq (fun h h3 => (hheap h h3).symm) fun m hm => (E.heap_at hdown hi hf hready (by rw [hclo]; exact hm)).symm
    rw [hfor] at g4
    have hle : LeS (hpFor (cls cx (evF (tmF f 0 rs tm0)) r.o) (hpF f 0 rs hp0)) (hpF f 0 rs hp0) := hpFor_le _ _
    obtain ⟨hok, hkeys⟩ := op_ok (P := P) I.rel E.hty E.hfns true hle (fun h => by rw [h]; exact hpFor_two _) (E.hfit _ hmem)
      (by
        intro hna n hn hkn
        have hna := hna.resolve_left (by simp)
        rcases hkn with h | ⟨j, r', h1, h2, h3⟩ | ⟨j, r', h1, h2, h3⟩
        · exact E.hnew n (List.mem_flatMap.2 ⟨_, hmem, hn⟩) h
        · have := E.uniq hi h1 hn (alloc_makes h2 h3)
          subst this
          rw [hi] at h1; injection h1 with h1; subst h1; rw [hna] at h2; cases h2
        · have := E.uniq hi h1 hn h3
          subst this
          rw [hf] at h2; cases h2)
      (by
        intro _ e d h1 h2
        exact ⟨⟨i, r, hi, hf, by unfold isAlloc; rw [h1], h2⟩, I.boxes i r e d hi hf h1 h2⟩) g4
    refine hok _ _ fun v w' ρ' hR hkn hrel => hK ρ' _ w' ⟨?_, ?_⟩
    · rw [hs1, hs2]
      have h1 := hrel.put (d := r.o.dst) (fun t ht => dst_lt E.hfit hmem ht) (fun _ => hR) (fun _ n hn => hkn n hn)
      have hp : pendAfter true r.o (PendL rs f) = PendL rs (setB f i) := by
        funext n; apply propext; rw [pendEq]
        unfold pendAfter
        simp
      rw [hp] at h1
      refine h1.known_mono fun n hn => ?_
      rcases hn with hn | hn
      · exact knowsMono n hn
      · rcases hkeys n hn with ⟨b, hb⟩ | hm
        · exact knowsMono n (I.rel.knowsH n b (hle n b hb))
        · exact .inr (.inr ⟨i, r, hi, by unfold setB; simp, hm⟩)
    · intro j' r' e d h1 h2 h3 h4
      have hji : j' ≠ i := fun e => by subst e; unfold setB at h2; simp at h2
      have hfj : f j' = false := by unfold setB at h2; rwa [if_neg hji] at h2
      obtain ⟨ti, h5, h6⟩ := I.boxes j' r' e d h1 hfj h3 h4
      refine ⟨ti, h5, ?_⟩
      rw [hs2, applyE_notin, h6]
      intro p hp hpd
      have hne : r.eff ≠ [] := fun e => by rw [e] at hp; cases hp
      have hc2 : cls cx (evF (tmF f 0 rs tm0)) r.o = 2 := by rw [← hclo]; exact hoi.2 hne
      have hbk := List.all_eq_true.1 (g6 hc2) p hp
      rw [← hheap (by rw [hc2]; decide) (by rw [hc2]; decide), hpd, h6] at hbk
      obtain ⟨t, ht1, ht2⟩ := List.any_eq_true.1 hbk
      have htr : t ∈ r.oi.reads := by rw [g3]; exact List.mem_append_left _ ht1
      rw [← hreads t htr] at ht2
      have htN : t < c.N := by
        obtain ⟨x, hx1, hx2⟩ := List.mem_filterMap.1 ht1
        cases x with
        | tmp t' => injection hx2 with hx2; subst hx2; exact fits_tmp (E.hfit _ hmem) hx1 rfl
        | _ => cases hx2
      have hal : isAlloc r'.o = true := by unfold isAlloc; rw [h3]
      exact R_boxRef (I.rel.tms t htN) ht2 h6 (I.rel.pends d ⟨j', r', h1, hfj, hal, h4⟩).2
end
end Go.ZM
end
end

section
/- Regions whose order is open: from beginning to end. -/
set_option linter.unusedVariables false
noncomputable section
namespace Go.ZM
open Go
variable {c : Cfg} {tm : Nat → TV} {hp : Hp} {known pend : Nat → Prop} {ρ : Rho} {a : Act} {w : World} {P : Program} {β : Type}

theorem filter_lt {p q : Nat → Bool} (hpq : ∀ n, q n = true → p n = true) : ∀ {l : List Nat} {x : Nat}, x ∈ l → p x = true → q x = false → (l.filter q).length < (l.filter p).length
  | y :: l, x, hx, h1, h2 => by
    have mono : ∀ l : List Nat, (l.filter q).length ≤ (l.filter p).length := by
      intro l
      induction l with
      | nil => exact Nat.le_refl _
      | cons z l ih =>
        rw [List.filter_cons, List.filter_cons]
        by_cases hq : q z = true
        · rw [if_pos hq, if_pos (hpq z hq)]; simpa using ih
        · rw [if_neg hq]
          split
          · exact Nat.le_succ_of_le ih
          · exact ih
    rw [List.filter_cons, List.filter_cons]
    rcases List.mem_cons.1 hx with hx | hx
    · subst hx
      rw [if_neg (by rw [h2]; simp), if_pos h1]
      exact Nat.lt_succ_of_le (mono l)
    · have ih := filter_lt hpq (l := l) hx h1 h2
      by_cases hq : q y = true
      · rw [if_pos hq, if_pos (hpq y hq)]; simpa using ih
      · rw [if_neg hq]
        split
        · exact Nat.lt_succ_of_lt ih
        · exact ih

section
variable {cx : Cx} {ops : Array Oper} {tm0 : Nat → TV} {hp0 : Hp} {known0 : Nat → Prop} {rs : List Rec}

def left (ops : Array Oper) (listed : Array Bool) : List Nat := (List.range ops.size).filter fun i => !listed.getD i false

theorem getD_eq {listed : Array Bool} {i : Nat} (h : i < listed.size) (d : Bool) : listed.getD i d = listed.getD i false := by simp [h]

theorem all_listed {listed : Array Bool} (hback : backB (masks ops.toList) 0 = true) (hsz : listed.size = ops.size) (h : Region.ready .any ops listed = []) : ∀ i, i < ops.size → listed.getD i false = true := by
  intro i
  induction i using Nat.strongRecOn with
  | ind i ih =>
    intro hi
    cases hl : listed.getD i false with
    | true => rfl
    | false =>
      exfalso
      have hop : ops[i]? = some ops[i] := Array.getElem?_eq_getElem hi
      have : i ∈ Region.ready .any ops listed := by
        rw [mem_ready]
        refine ⟨by rw [getD_eq (by rw [hsz]; exact hi)]; exact hl, ops[i], hop, fun e he hb => ?_⟩
        have hlt := edges_back hback (i := i) (o := ops[i]) (by rw [Array.getElem?_toList]; exact hop) he hb
        exact ih e.on hlt (by omega)
      rw [h] at this; cases this

theorem Env.any (E : Env P c cx ops tm0 hp0 known0 rs) {Q : Exit → Act → World → Prop}
    (hQ : ∀ known ρ a w, Rel c (tmF (fun _ => true) 0 rs tm0) (hpF (fun _ => true) 0 rs hp0) known noP ρ a w → Q .normal a w) :
    ∀ (fuel : Nat) (listed : Array Bool) (ρ : Rho) (a : Act) (w : World), listed.size = ops.size → (left ops listed).length ≤ fuel → Down ops.toList (fun i => listed.getD i false) →
      Inv c cx tm0 hp0 known0 rs (fun i => listed.getD i false) ρ a w → wpAny P .any ops Q fuel listed a w := by
  have hback : backB (masks ops.toList) 0 = true := by have := E.hok; unfold okAll at this; rw [Bool.and_eq_true] at this; exact this.1
  have hlen : rs.length = ops.size := by have := congrArg List.length E.hrs; simpa using this
  have done : ∀ (listed : Array Bool) (ρ : Rho) (a : Act) (w : World), (∀ i, i < ops.size → listed.getD i false = true) → Inv c cx tm0 hp0 known0 rs (fun i => listed.getD i false) ρ a w → Q .normal a w := by
    intro listed ρ a w hall I
    have h := I.rel
    have hf : ∀ {j : Nat} {r : Rec}, rs[j]? = some r → listed.getD j false = true := fun hj => hall _ (by rw [← hlen]; exact (List.getElem?_eq_some_iff.1 hj).1)
    have e1 : tmF (fun i => listed.getD i false) 0 rs tm0 = tmF (fun _ => true) 0 rs tm0 := by
      funext t; exact tmF_agree _ _ t rs 0 _ _ rfl fun j r hj _ => by rw [Nat.zero_add]; exact hf hj
    have e2 : hpF (fun i => listed.getD i false) 0 rs hp0 = hpF (fun _ => true) 0 rs hp0 := hpF_agree _ _ rs 0 _ fun j r hj _ => by rw [Nat.zero_add]; exact hf hj
    have e3 : PendL rs (fun i => listed.getD i false) = noP := by
      funext n; apply propext
      exact ⟨(fun ⟨j, r, h1, h2, _⟩ => Bool.noConfusion ((hf h1).symm.trans h2)), fun h => h.elim⟩
    rw [e1, e2, e3] at h
    exact hQ _ ρ a w h
  intro fuel
  induction fuel with
  | zero =>
    intro listed ρ a w hsz hle hdown I
    have hall : ∀ i, i < ops.size → listed.getD i false = true := by
      intro i hi
      cases hl : listed.getD i false with
      | true => rfl
      | false =>
        have : i ∈ left ops listed := List.mem_filter.2 ⟨List.mem_range.2 hi, by rw [hl]; rfl⟩
        have := List.length_pos_of_mem this
        omega
    refine ⟨?_, done listed ρ a w hall I⟩
    cases hr : Region.ready .any ops listed with
    | nil => rfl
    | cons i r =>
      exfalso
      have : i ∈ Region.ready .any ops listed := by rw [hr]; exact List.mem_cons_self ..
      rw [mem_ready] at this
      obtain ⟨h1, o, h2, _⟩ := this
      have hi : i < ops.size := (Array.getElem?_eq_some_iff.1 h2).1
      rw [getD_eq (by rw [hsz]; exact hi), hall i hi] at h1
      cases h1
  | succ fuel ih =>
    intro listed ρ a w hsz hle hdown I
    refine ⟨fun h => done listed ρ a w (all_listed hback hsz h) I, fun i hi => ?_⟩
    rw [mem_ready] at hi
    obtain ⟨h1, o, h2, h3⟩ := hi
    have hilt : i < ops.size := (Array.getElem?_eq_some_iff.1 h2).1
    obtain ⟨r, hr, hro⟩ := E.recAt h2
    have hf : listed.getD i false = false := by rw [← getD_eq (by rw [hsz]; exact hilt) true]; exact h1
    have hset : (fun j => (listed.setIfInBounds i true).getD j false) = setB (fun j => listed.getD j false) i := by
      funext j
      unfold setB
      by_cases e : j = i
      · subst e; simp [hsz, hilt]
      · rw [if_neg e]; exact getD_set_ne false (Ne.symm e)
    refine E.step hdown hr hf (by rw [hro]; exact h3) I fun ρ' a' w' I' => ?_
    refine ih (listed.setIfInBounds i true) ρ' a' w' (by rw [Array.size_setIfInBounds]; exact hsz) ?_ ?_ (by rw [hset]; exact I')
    · have : (left ops (listed.setIfInBounds i true)).length < (left ops listed).length := by
        refine filter_lt (fun n hn => ?_) (List.mem_range.2 hilt) (by rw [hf]; rfl) ?_
        · have : (listed.setIfInBounds i true).getD n false = setB (fun j => listed.getD j false) i n := congrFun hset n
          rw [this] at hn
          unfold setB at hn
          split at hn
          · cases hn
          · exact hn
        · have : (listed.setIfInBounds i true).getD i false = setB (fun j => listed.getD j false) i i := congrFun hset i
          rw [this]; unfold setB; simp
      omega
    · rw [hset]
      intro j o' ho' hfj e he hb
      unfold setB at hfj ⊢
      split
      · rfl
      · split at hfj
        · rename_i hji
          subst hji
          have : o' = o := by
            have h2' : ops.toList[j]? = some o := by simpa using h2
            rw [h2'] at ho'; injection ho' with ho'; exact ho'.symm
          subst this
          exact h3 e he hb
        · exact hdown j o' ho' hfj e he hb
end

/-- the tape goes on -/
theorem Rel.drawn (h : Rel c tm hp known pend ρ a w) (n : Nat) : Rel c tm hp known pend ρ a { w with drawn := n } := by
  have hk : Keeps w { w with drawn := n } (MM c hp ρ) (MM c hp ρ) := ⟨Nat.le_refl _, fun _ _ _ => rfl, fun b _ hb => hb⟩
  refine h.step rfl rfl rfl (fun _ _ _ => rfl) hk (fun _ _ => Stab.refl _ _) ?_ h.mutn h.inj (fun _ h => h) h.knowsH h.pends
  intro n blk hn
  rcases h.hps n blk hn with h1 | h1
  · exact .inl h1
  · exact .inr (BlkR_keeps hk (fun _ _ _ _ => rfl) h1)

theorem St.blk_cons (s : St) (n : Nat) (b : Option Blk) : ({ s with hp := (n, b) :: s.hp } : St).blk = applyE s.blk [(n, b)] := by
  funext m; exact lk_cons _ _ _ _ _

theorem Rel.frz1 {s : St} (h : Rel c s.get s.blk known pend ρ a w) (t : Nat) : Rel c (s.frz1 t).get (s.frz1 t).blk known pend ρ a w := by
  unfold St.frz1
  split
  · split
    · rename_i hn
      rw [St.blk_cons]; exact h.freeze hn
    · exact h
  · split
    · rename_i hn
      rw [St.blk_cons]; exact h.freeze hn
    · exact h
  · exact h
theorem Rel.frzAll : ∀ (ts : List Nat) {s : St}, Rel c s.get s.blk known pend ρ a w → Rel c (s.frzAll ts).get (s.frzAll ts).blk known pend ρ a w
  | [], s, h => h
  | t :: r, s, h => Rel.frzAll r (h.frz1 t)

/-- a variable that is made later -/
theorem Rel.pre (h : Rel c tm hp known pend ρ a w) {d : Nat} (hd : ¬ known d) (t : Ty) (x : t.den) :
    Rel c tm (applyE hp [(d, some (.box t x))]) (fun n => known n ∨ n = d) (fun n => pend n ∨ n = d) (updR ρ d none) a w := by
  have hdn : hp d = none := by
    cases e : hp d with
    | none => rfl
    | some b => exact absurd (h.knowsH d b e) hd
  have get : ∀ n, applyE hp [(d, some (.box t x))] n = if d = n then some (.box t x) else hp n := fun n => by rw [applyE_one]
  have hMM : ∀ b, MM c (applyE hp [(d, some (.box t x))]) (updR ρ d none) b → MM c hp ρ b := by
    rintro b (hb | ⟨n, bl, k, h1, h2, h3⟩)
    · exact .inl hb
    · unfold updR at h3
      by_cases e : d = n
      · rw [if_pos e] at h3; cases h3
      · rw [if_neg e] at h3; rw [get, if_neg e] at h1
        exact .inr ⟨n, bl, k, h1, h2, h3⟩
  have hk : Keeps w w (MM c hp ρ) (MM c (applyE hp [(d, some (.box t x))]) (updR ρ d none)) := ⟨Nat.le_refl _, fun _ _ _ => rfl, fun b _ hb hb' => hb (hMM b hb')⟩
  refine h.step rfl rfl rfl (fun _ _ _ => rfl) hk ?_ ?_ ?_ ?_ (fun n h => .inl h) ?_ ?_
  · intro n hn
    have e : ¬ d = n := fun e => hd (e ▸ hn)
    rw [get, if_neg e]; unfold updR; rw [if_neg e]; exact Stab.refl _ _
  · intro n bl hn
    unfold updR
    rw [get] at hn
    by_cases e : d = n
    · rw [if_pos e] at hn ⊢
      injection hn with hn; subst hn
      exact .inl ⟨.inr e.symm, rfl, rfl⟩
    · rw [if_neg e] at hn ⊢
      rcases h.hps n bl hn with h1 | h1
      · exact .inl ⟨.inl h1.1, h1.2⟩
      · exact .inr (BlkR_keeps hk (fun _ _ _ _ => rfl) h1)
  · intro n bl b k hn hm hg
    unfold updR at hg
    rw [get] at hn
    by_cases e : d = n
    · rw [if_pos e] at hg; cases hg
    · rw [if_neg e] at hn hg; exact h.mutn n bl b k hn hm hg
  · intro n n' bl bl' b k k' hn hn' hm hm' hg hg'
    unfold updR at hg hg'
    rw [get] at hn hn'
    by_cases e : d = n
    · rw [if_pos e] at hg; cases hg
    · by_cases e' : d = n'
      · rw [if_pos e'] at hg'; cases hg'
      · rw [if_neg e] at hn hg; rw [if_neg e'] at hn' hg'
        exact h.inj n n' bl bl' b k k' hn hn' hm hm' hg hg'
  · intro n bl hn
    rw [get] at hn
    by_cases e : d = n
    · exact .inr e.symm
    · rw [if_neg e] at hn; exact .inl (h.knowsH n bl hn)
  · intro n hn
    unfold updR
    rw [get]
    by_cases e : d = n
    · rw [if_pos e, if_pos e]; exact ⟨⟨_, rfl, rfl⟩, rfl⟩
    · rw [if_neg e, if_neg e]; exact h.pends n (hn.resolve_right (fun e' => e e'.symm))

theorem preAlloc_not {cx : Cx} {o : Oper} {r : List Oper} {s : St} (h : isAlloc o = false) : preAlloc cx (o :: r) s = preAlloc cx r s := by
  unfold isAlloc at h
  conv => lhs; unfold preAlloc
  cases hop : o.op with
  | alloc e => rw [hop] at h; cases h
  | _ => rfl
theorem preAlloc_alloc {cx : Cx} {o : Oper} {r : List Oper} {s : St} {e : TypeId} {d : Nat} {ti : TI} (h : o.op = .alloc e) (hd : o.dst = some d) (ht : lk? cx.tys e = some ti) : preAlloc cx (o :: r) s = preAlloc cx r { s with hp := (d, some (.box ti.ty ti.ty.zero)) :: s.hp } := by
  conv => lhs; unfold preAlloc
  simp only [h, hd, ht]

theorem preAlloc_get (cx : Cx) : ∀ (l : List Oper) (s : St), (preAlloc cx l s).get = s.get
  | [], s => rfl
  | o :: r, s => by
    unfold preAlloc
    split
    · split
      · rw [preAlloc_get cx r]; rfl
      · exact preAlloc_get cx r s
    · exact preAlloc_get cx r s

theorem pre_ok {cx : Cx} : ∀ (l : List Oper) (s : St) (known pend : Nat → Prop) (ρ : Rho), Rel c s.get s.blk known pend ρ a w → (l.flatMap (makes cx)).Nodup → (∀ n ∈ l.flatMap (makes cx), ¬ known n) →
    (∀ o ∈ l, ∀ e, o.op = .alloc e → ∃ d ti, o.dst = some d ∧ lk? cx.tys e = some ti) →
    ∃ ρ', Rel c s.get (preAlloc cx l s).blk (fun n => known n ∨ ∃ o ∈ l, isAlloc o = true ∧ o.dst = some n) (fun n => pend n ∨ ∃ o ∈ l, isAlloc o = true ∧ o.dst = some n) ρ' a w ∧
      (∀ o ∈ l, ∀ e d, o.op = .alloc e → o.dst = some d → ∃ ti, lk? cx.tys e = some ti ∧ (preAlloc cx l s).blk d = some (.box ti.ty ti.ty.zero)) ∧
      ∀ n, (∀ o ∈ l, n ∉ makes cx o) → (preAlloc cx l s).blk n = s.blk n
  | [], s, known, pend, ρ, h, _, _, _ => by
    refine ⟨ρ, ?_, (fun o ho => absurd ho (by simp)), (fun n _ => rfl)⟩
    have e1 : (fun n => known n ∨ ∃ o ∈ ([] : List Oper), isAlloc o = true ∧ o.dst = some n) = known := by funext n; apply propext; simp
    have e2 : (fun n => pend n ∨ ∃ o ∈ ([] : List Oper), isAlloc o = true ∧ o.dst = some n) = pend := by funext n; apply propext; simp
    rw [e1, e2]; exact h
  | o :: r, s, known, pend, ρ, h, hnd, hnew, hall => by
    rw [List.flatMap_cons] at hnd hnew
    obtain ⟨g1, g2, g3⟩ := List.nodup_append.1 hnd
    cases hal : isAlloc o with
    | false =>
      rw [preAlloc_not hal]
      obtain ⟨ρ', h1, h2, h3⟩ := pre_ok r s known pend ρ h g2 (fun n hn => hnew n (List.mem_append_right _ hn)) (fun o ho => hall o (List.mem_cons_of_mem _ ho))
      refine ⟨ρ', ?_, ?_, fun n hn => h3 n fun o ho => hn o (List.mem_cons_of_mem _ ho)⟩
      · have ee : ∀ n, (∃ o' ∈ o :: r, isAlloc o' = true ∧ o'.dst = some n) ↔ ∃ o ∈ r, isAlloc o = true ∧ o.dst = some n := by
          intro n
          constructor
          · rintro ⟨o', h1, h2, h3⟩
            rcases List.mem_cons.1 h1 with rfl | h1
            · rw [hal] at h2; cases h2
            · exact ⟨o', h1, h2, h3⟩
          · rintro ⟨o', h1, h2⟩; exact ⟨o', List.mem_cons_of_mem _ h1, h2⟩
        simp only [ee]; exact h1
      · intro o' ho' e d he hd
        rcases List.mem_cons.1 ho' with rfl | ho'
        · unfold isAlloc at hal; rw [he] at hal; cases hal
        · exact h2 o' ho' e d he hd
    | true =>
      obtain ⟨e, hop⟩ : ∃ e, o.op = .alloc e := by
        unfold isAlloc at hal
        cases hop : o.op with
        | alloc e => exact ⟨e, rfl⟩
        | _ => rw [hop] at hal; cases hal
      obtain ⟨d, ti, hd, hti⟩ := hall o (List.mem_cons_self ..) e hop
      have hdm : d ∈ makes cx o := alloc_makes hal hd
      rw [preAlloc_alloc hop hd hti]
      have hp := h.pre (hnew d (List.mem_append_left _ hdm)) ti.ty ti.ty.zero
      rw [← St.blk_cons] at hp
      obtain ⟨ρ', h1, h2, h3⟩ := pre_ok r { s with hp := (d, some (.box ti.ty ti.ty.zero)) :: s.hp } _ _ _ hp g2
        (by
          rintro n hn (hk | rfl)
          · exact hnew n (List.mem_append_right _ hn) hk
          · exact g3 n hdm n hn rfl) (fun o ho => hall o (List.mem_cons_of_mem _ ho))
      have hdr : ∀ o' ∈ r, d ∉ makes cx o' := fun o' ho' hm => g3 d hdm d (List.mem_flatMap.2 ⟨o', ho', hm⟩) rfl
      have hdb : (preAlloc cx r { s with hp := (d, some (.box ti.ty ti.ty.zero)) :: s.hp }).blk d = some (.box ti.ty ti.ty.zero) := by
        rw [h3 d hdr, St.blk_cons, applyE_one]; simp
      refine ⟨ρ', ?_, ?_, fun n hn => ?_⟩
      · have ee : ∀ (p : Nat → Prop) n, (p n ∨ ∃ o' ∈ o :: r, isAlloc o' = true ∧ o'.dst = some n) ↔ ((p n ∨ n = d) ∨ ∃ o ∈ r, isAlloc o = true ∧ o.dst = some n) := by
          intro p n
          constructor
          · rintro (h | ⟨o', h1, h2, h3⟩)
            · exact .inl (.inl h)
            · rcases List.mem_cons.1 h1 with rfl | h1
              · rw [hd] at h3; injection h3 with h3; exact .inl (.inr h3.symm)
              · exact .inr ⟨o', h1, h2, h3⟩
          · rintro ((h | rfl) | ⟨o', h1, h2⟩)
            · exact .inl h
            · exact .inr ⟨o, List.mem_cons_self .., hal, hd⟩
            · exact .inr ⟨o', List.mem_cons_of_mem _ h1, h2⟩
        simp only [ee known, ee pend]; exact h1
      · intro o' ho' e' d' he' hd'
        rcases List.mem_cons.1 ho' with rfl | ho'
        · rw [hop] at he'; injection he' with he'; subst he'
          rw [hd] at hd'; injection hd' with hd'; subst hd'
          exact ⟨ti, hti, hdb⟩
        · exact h2 o' ho' e' d' he' hd'
      · rw [h3 n fun o' ho' => hn o' (List.mem_cons_of_mem _ ho'), St.blk_cons, applyE_one]
        have : ¬ d = n := fun e => hn o (List.mem_cons_self ..) (e ▸ hdm)
        simp [this]

theorem region_draw {cx : Cx} (hmix : P.follows .mixedOrders = true) (hty : tysOk P cx.tys = true) (hfns : FnsOk P cx.fns) {id : Nat} {ops : Array Oper} (hfit : ∀ o ∈ ops.toList, opFits c.lo c.N o = true)
    {k : St → Option β} {res : β} {Q : Exit → Act → World → Prop} (hQ : ∀ (s : St) known ρ a w, Rel c s.get s.blk known noP ρ a w → k s = some res → Q .normal a w)
    {s : St} (h : Rel c s.get s.blk known noP ρ a w) (hk : regionK cx ops true s k = some res) : (Code.region id ops true).wp P Q a w := by
  unfold regionK at hk
  rcases cond_some hk with ⟨hnd, hk⟩ | ⟨_, hk⟩
  case inr => cases hk
  have hnd : (ops.toList.flatMap (makes cx)).Nodup := nodupB_spec hnd
  simp only [cond_true] at hk
  obtain ⟨rs, s', hrs, hruns, hg, hb, hok, hres⟩ := runD_runs cx ops _ _ _ hk
  refine wp_region_any hmix ?_
  have h1 : Rel c ((s.kill (makesAll cx ops)).frzAll (handed ops.toList)).get ((s.kill (makesAll cx ops)).frzAll (handed ops.toList)).blk _ noP ρ a w := Rel.frzAll _ (h.kill (makesAll cx ops))
  have h1 := h1.drawn (w.drawn + 1)
  generalize hs1 : (s.kill (makesAll cx ops)).frzAll (handed ops.toList) = s1 at *
  have hallocs : ∀ o ∈ ops.toList, ∀ e, o.op = .alloc e → ∃ d ti, o.dst = some d ∧ lk? cx.tys e = some ti := by
    intro o ho e hop
    obtain ⟨d, hd, _⟩ := fits_dst (hfit o ho) (by rw [hop]; intro _ _ _ h; cases h)
    rw [← hrs] at ho
    obtain ⟨r, hr, hro⟩ := List.mem_map.1 ho
    obtain ⟨i, hi⟩ := List.getElem?_of_mem hr
    have hst := Runs_at (n := 0) hruns hi
    have hal : isAlloc r.o = true := by unfold isAlloc; rw [hro, hop]
    rcases hst with ⟨_, _, _, _, g5, _⟩ | ⟨_, _, _, g4, _⟩
    · rw [hal] at g5; cases g5
    · rw [hro] at g4
      unfold opK at g4
      simp only [hop] at g4
      obtain ⟨ti, hti, _⟩ := withTI_some g4
      exact ⟨d, ti, hd, hti⟩
  obtain ⟨ρ', h2, h3, h4⟩ := pre_ok ops.toList s1 _ _ ρ h1 hnd (fun n hn hkn => hkn.2 hn) hallocs
  have hget : (preAlloc cx ops.toList s1).get = s1.get := preAlloc_get cx _ _
  rw [← hget] at h2
  have E : Env P c cx ops (preAlloc cx ops.toList s1).get (preAlloc cx ops.toList s1).blk (fun n => known n ∧ n ∉ makesAll cx ops) rs :=
    { hty := hty, hfns := hfns, hfit := hfit, hrs := hrs, hruns := hruns, hok := by simpa using hok, hnd := hnd, hnew := fun n hn hkn => hkn.2 hn }
  refine E.any (Q := Q) (fun known ρ a w hrel => hQ s' known ρ a w (by rw [hg, hb]; exact hrel) hres) ops.size (Array.replicate ops.size false) ρ' a _ (by simp) ?_ ?_ ?_
  · refine Nat.le_trans (List.length_filter_le _ _) ?_
    rw [List.length_range]; exact Nat.le_refl _
  · intro i o ho hf
    exfalso
    by_cases hi : i < ops.size <;> simp [hi] at hf
  · have hf : (fun i => (Array.replicate ops.size false).getD i false) = fun _ => false := by
      funext i
      by_cases hi : i < ops.size <;> simp [hi]
    rw [hf]
    have mem : ∀ n, (∃ o ∈ ops.toList, isAlloc o = true ∧ o.dst = some n) ↔ ∃ (j : Nat) (r : Rec), rs[j]? = some r ∧ isAlloc r.o = true ∧ r.o.dst = some n := by
      intro n
      rw [← hrs]
      constructor
      · rintro ⟨o, ho, g1, g2⟩
        obtain ⟨r, hr, rfl⟩ := List.mem_map.1 ho
        obtain ⟨j, hj⟩ := List.getElem?_of_mem hr
        exact ⟨j, r, hj, g1, g2⟩
      · rintro ⟨j, r, hj, g1, g2⟩
        exact ⟨r.o, List.mem_map.2 ⟨r, List.mem_of_getElem? hj, rfl⟩, g1, g2⟩
    refine ⟨?_, ?_⟩
    · rw [tmF_none _ _ _ _ (fun _ => rfl), hpF_none _ _ _ _ (fun _ => rfl)]
      have e1 : PendL rs (fun _ => false) = fun n => noP n ∨ ∃ o ∈ ops.toList, isAlloc o = true ∧ o.dst = some n := by
        funext n; apply propext
        constructor
        · rintro ⟨j, r, g1, _, g2, g3⟩; exact .inr ((mem n).2 ⟨j, r, g1, g2, g3⟩)
        · rintro (g | g)
          · exact g.elim
          · obtain ⟨j, r, g1, g2, g3⟩ := (mem n).1 g; exact ⟨j, r, g1, rfl, g2, g3⟩
      rw [e1]
      refine h2.known_mono fun n hn => ?_
      rcases hn with hn | hn
      · exact .inl hn
      · exact .inr (.inl ((mem n).1 hn))
    · intro i r e d hi _ he hd
      rw [hpF_none _ _ _ _ (fun _ => rfl)]
      exact h3 r.o (by rw [← hrs]; exact List.mem_map.2 ⟨r, List.mem_of_getElem? hi, rfl⟩) e d he hd
end Go.ZM
end
end

section
/- Control: the evaluator of code is sound. -/
set_option linter.unusedVariables false
noncomputable section
namespace Go.ZM
open Go
variable {c : Cfg} {tm : Nat → TV} {hp : Hp} {known pend : Nat → Prop} {ρ : Rho} {a : Act} {w : World} {P : Program} {β : Type}

theorem lk_nodup (n : Nat) : ∀ (e : Eff), (e.map Prod.fst).Nodup → lk none e n = applyE (fun _ => none) e n
  | [], _ => rfl
  | (m, b) :: r, h => by
    rw [List.map_cons, List.nodup_cons] at h
    rw [lk_cons]
    unfold applyE
    by_cases e : m = n
    · rw [if_pos e, applyE_notin (fun p hp he => h.1 (List.mem_map.2 ⟨p, hp, he.trans e.symm⟩))]
      simp only [if_pos e]
    · rw [if_neg e, lk_nodup n r h.2]
      refine applyE_at ?_
      simp only [if_neg e]

theorem putSlot_sub (frz : Bool) (n : Nat) : ∀ (s : Slot) (x : s.den), ((putSlot frz n s x).2.map Prod.fst).Sublist [n]
  | .val t, x => List.nil_sublist _
  | .own e t, x => by cases frz; exact List.Sublist.refl _; exact List.nil_sublist _
  | .box t, x => List.Sublist.refl _
  | .vw e t, x => List.Sublist.refl _

theorem putSlots_sub (frz : Bool) : ∀ (ss : List Slot) (ns : List Nat) (x : den ss), ((putSlots frz ss ns x).2.map Prod.fst).Sublist ns
  | [], _, _ => List.nil_sublist _
  | [s], [], _ => List.Sublist.refl _
  | [s], n :: ns, x => by
    have h := (putSlot_sub frz n s x).append (List.nil_sublist ns)
    rw [List.append_nil] at h
    exact h
  | s :: s' :: r, [], _ => List.Sublist.refl _
  | s :: s' :: r, n :: ns, x => by
    show (((putSlot frz n s x.1).2 ++ (putSlots frz (s' :: r) ns x.2).2).map Prod.fst).Sublist (n :: ns)
    rw [List.map_append]
    exact (putSlot_sub frz n s x.1).append (putSlots_sub frz (s' :: r) ns x.2)

/-- what holds with no temporaries and no blocks in sight -/
structure Base (c : Cfg) (a : Act) (w : World) : Prop where
  defers : a.defers = []
  size : a.tmps.size = c.N
  kept : ∀ t, t ∈ c.lo → a.tmps.getD t undef = c.keep t
  os : w.os = c.w0.os
  tape : w.tape = c.w0.tape
  output : w.output = c.w0.output
  hsize : c.w0.heap.size ≤ w.heap.size
  old : ∀ k, k < c.w0.heap.size → ¬ c.B k → w.heap[k]? = c.w0.heap[k]?
  m0 : ∀ b, c.M0 b → b < w.heap.size

theorem Rel.base (h : Rel c tm hp known pend ρ a w) : Base c a w := ⟨h.defers, h.size, h.kept, h.os, h.tape, h.output, h.hsize, h.old, h.m0⟩

theorem Base.rel (h : Base c a w) (M0' : Nat → Prop) (hm : ∀ b, M0' b → b < w.heap.size) : Rel (c.withM M0') (fun _ => .undef) (fun _ => none) noP noP (fun _ => none) a w :=
  { defers := h.defers, size := h.size, kept := h.kept, os := h.os, tape := h.tape, output := h.output, hsize := h.hsize, old := h.old
    tms := fun t ht => R_undef
    hps := fun n b hb => nomatch hb
    mutn := fun n b q k hb => nomatch hb
    inj := fun n n' b b' q k k' hb => nomatch hb
    knowsT := fun t n ht hr => hr.elim
    knowsH := fun n b hb => nomatch hb
    pends := fun n hn => hn.elim, m0 := hm }

theorem Rel.withTm (h : Rel c tm hp known pend ρ a w) {tm' : Nat → TV} (ht : ∀ t, t < c.N → R w (MM c hp ρ) ρ hp (tm' t) (a.tmps.getD t undef)) (hk : ∀ t n, t < c.N → (tm' t).refTo n → known n) : Rel c tm' hp known pend ρ a w :=
  { h with tms := ht, knowsT := hk }

theorem zip_lk {S : TV → Value → Prop} {g : Nat → Value} : ∀ {ns : List Nat} {tvs : List TV}, All2 S tvs (ns.map g) → ∀ t, lk .undef (ns.zip tvs) t = .undef ∨ (t ∈ ns ∧ lk .undef (ns.zip tvs) t ∈ tvs ∧ S (lk .undef (ns.zip tvs) t) (g t))
  | [], _, _, t => .inl (by simp [lk])
  | n :: ns, _, .cons h1 h2, t => by
    rw [List.zip_cons_cons, lk_cons]
    by_cases e : n = t
    · rw [if_pos e]; subst e; exact .inr ⟨List.mem_cons_self .., List.mem_cons_self .., h1⟩
    · rw [if_neg e]
      exact (zip_lk h2 t).imp id fun ⟨h3, h4, h5⟩ => ⟨List.mem_cons_of_mem _ h3, List.mem_cons_of_mem _ h4, h5⟩

/-- slots come in where nothing is in sight -/
theorem Base.enter (h : Base c a w) {ss : List Slot} {ns : List Nat} {x : den ss} {gs : List Gh} (hs : SlotsR w (fun b => c.M0 b ∨ InG gs b) ss x gs (ns.map fun n => a.tmps.getD n undef)) (hap : Apart gs)
    (hg : ∀ b k, some (b, k) ∈ gs → b < w.heap.size ∧ (c.w0.heap.size ≤ b ∨ c.B b) ∧ ¬ c.M0 b) (hl : ns.length = ss.length) (hnd : ns.Nodup) :
    ∃ known' ρ', Rel c (lk .undef (ns.zip (putSlots false ss ns x).1)) (lk none (putSlots false ss ns x).2) known' noP ρ' a w ∧ MM c (lk none (putSlots false ss ns x).2) ρ' = MM c (lk none (putSlots false ss ns x).2) ρ' := by
  have h0 := h.rel (fun b => c.M0 b ∨ InG gs b) (fun b hb => hb.elim (h.m0 b) fun ⟨k, hk⟩ => (hg b k hk).1)
  obtain ⟨ρ', h1, h2, h3, h4, h5, h6⟩ := adoptAll false ss ns x gs _ h0 (SlotsR_mono (fun b hb => hb.elim id fun ⟨n, bl, k, hn, _⟩ => by cases hn) hs) hap
    (fun b k hb => ⟨.inr ⟨k, hb⟩, (hg b k hb).2.1⟩) hl hnd (.inl fun n _ h => h)
  have hM : minusGs (c.withM fun b => c.M0 b ∨ InG gs b).M0 gs = c.M0 := by
    funext b; apply propext
    constructor
    · rintro ⟨g1 | g1, g2⟩
      · exact g1
      · exact absurd g1 g2
    · exact fun g1 => ⟨.inl g1, fun ⟨k, hk⟩ => (hg b k hk).2.2 g1⟩
  have hc : (c.withM fun b => c.M0 b ∨ InG gs b).withM (minusGs (c.withM fun b => c.M0 b ∨ InG gs b).M0 gs) = c := by
    rw [hM]; rfl
  rw [hc] at h1 h4
  have hE : applyE (fun _ => none) (putSlots false ss ns x).2 = lk none (putSlots false ss ns x).2 := by
    funext n; exact (lk_nodup n _ ((putSlots_sub false ss ns x).nodup hnd)).symm
  rw [hE] at h1 h4
  refine ⟨_, ρ', h1.withTm (tm' := lk .undef (ns.zip (putSlots false ss ns x).1)) (fun t ht => ?_) (fun t n ht hr => ?_), rfl⟩
  · rcases zip_lk h4 t with e | ⟨_, _, e, _⟩
    · rw [e]; exact R_undef
    · exact e
  · rcases zip_lk h4 t with e | ⟨_, e, _⟩
    · rw [e] at hr; exact hr.elim
    · exact .inr (h5 _ e n hr)

def sigOk (N : Nat) (sig : List (Nat × Slot)) : Prop := (sig.map Prod.fst).Nodup ∧ ∀ p ∈ sig, p.1 < N

theorem recanon {s : St} (h : Rel c s.get s.blk known noP ρ a w) {sig : List (Nat × Slot)} (hsig : sigOk c.N sig) {x : den (sig.map (·.2))} (hx : canon s sig = some x) :
    ∃ known' ρ', Rel c (slotTm sig x).get (slotTm sig x).blk known' noP ρ' a w := by
  unfold canon at hx
  have hall : All2 (fun tv v => R w (MM c s.blk ρ) ρ s.blk tv v) (sig.map fun p => s.get p.1) (sig.map fun p => a.tmps.getD p.1 undef) := All2.map fun p hp => h.tms p.1 (hsig.2 p hp)
  obtain ⟨y, mu, f, hk, hfz, hmu, hbox, hlen, hmn, hsl⟩ := takeSlots_sound h (LeS.refl _) (sig.map (·.2)) _ _ _ _ hx hall
  rcases cond_some hk with ⟨hok, hk⟩ | ⟨_, hk⟩
  case inr => cases hk
  injection hk with hk; subst hk
  obtain ⟨hnd, hdis⟩ := okNames_spec hok
  obtain ⟨hR1, _, _⟩ := h.fz hfz
  have hslots := hsl f hfz (fun _ h => h) hdis
  have hmn1 : ∀ n ∈ mu, ∃ blk, applyE s.blk f n = some blk ∧ blk.isMut = true := by
    intro n hn
    rw [applyE_notin (hdis n hn)]; exact (hmn n hn).1
  rw [hmu] at hnd hmn1
  obtain ⟨hap, hsrc⟩ := apart_of_names hR1 (nsOf (sig.map (·.2)) (sig.map fun p => s.get p.1)) hmn1 hnd
  generalize ((nsOf (sig.map (·.2)) (sig.map fun p => s.get p.1)).map fun o => o.bind ρ) = gs at hslots hap hsrc
  -- only what is handed over, and what may not be touched
  have hM : ∀ b, (c.M0 b ∨ InG gs b) → MM c (applyE s.blk f) ρ b := by
    rintro b (hb | ⟨k, hk⟩)
    · exact .inl hb
    · obtain ⟨n, h3, h4⟩ := hsrc b k hk
      obtain ⟨blk, h5, h6⟩ := hmn1 n h3
      exact .inr ⟨n, blk, k, h5, h6, h4⟩
  have hus : (sig.map fun p => a.tmps.getD p.1 undef) = (sig.map Prod.fst).map fun n => a.tmps.getD n undef := by rw [List.map_map]; rfl
  rw [hus] at hslots
  obtain ⟨known', ρ', hh, _⟩ := h.base.enter (SlotsR_mono hM hslots) hap (fun b k hb => by
    obtain ⟨n, h3, h4⟩ := hsrc b k hb
    obtain ⟨blk, h5, h6⟩ := hmn1 n h3
    exact hR1.mutn n blk b k h5 h6 h4) (by simp) hsig.1
  exact ⟨known', ρ', hh⟩

def toExit : Ex → Exit
  | .normal => .normal
  | .exit i => .exit i
  | .ret => .ret

def omEx : (outs : List (Ex × List (Nat × Slot))) → Om outs → Option (Ex × St)
  | [], _ => none
  | [(e, sig)], x => some (e, slotTm sig x)
  | (e, sig) :: o :: r, x => match x with | .inl y => some (e, slotTm sig y) | .inr y => omEx (o :: r) y

theorem elimOut_some {k : Ex → St → Option β} {res : β} : ∀ {outs : List (Ex × List (Nat × Slot))} {y : Om outs}, elimOut k outs y = some res → ∃ e s, omEx outs y = some (e, s) ∧ k e s = some res
  | [], _, h => by cases h
  | [(e, sig)], x, h => ⟨e, _, rfl, h⟩
  | (e, sig) :: o :: r, x, h => by
    cases x with
    | inl y => exact ⟨e, _, rfl, h⟩
    | inr y => exact elimOut_some (outs := o :: r) (y := y) h

theorem Ex.beq_eq : ∀ {e e' : Ex}, e.beq e' = true → e = e'
  | .normal, .normal, _ => rfl
  | .ret, .ret, _ => rfl
  | .exit i, .exit j, h => by rw [Nat.eq_of_beq_eq_true h]

def outsOk (N : Nat) (outs : List (Ex × List (Nat × Slot))) : Prop := ∀ p ∈ outs, sigOk N p.2

theorem decOut_sound {s : St} (h : Rel c s.get s.blk known noP ρ a w) {e : Ex} : ∀ {outs : List (Ex × List (Nat × Slot))} {y : Om outs}, outsOk c.N outs → decOut e s outs = some y →
    ∃ s' known' ρ', omEx outs y = some (e, s') ∧ Rel c s'.get s'.blk known' noP ρ' a w
  | [], y, _, hy => by cases hy
  | [(e', sig)], y, ho, hy => by
    unfold decOut at hy
    rcases cond_some hy with ⟨hb, hy⟩ | ⟨_, hy⟩
    · obtain ⟨kn, ρ', hh⟩ := recanon h (ho (e', sig) (List.mem_cons_self ..)) hy
      rw [Ex.beq_eq hb]; exact ⟨_, kn, ρ', rfl, hh⟩
    · cases hy
  | (e', sig) :: o :: r, y, ho, hy => by
    unfold decOut at hy
    rcases cond_some hy with ⟨hb, hy⟩ | ⟨_, hy⟩
    · obtain ⟨x, hx, hy⟩ := Option.bind_eq_some_iff.1 hy
      injection hy with hy; subst hy
      obtain ⟨kn, ρ', hh⟩ := recanon h (ho (e', sig) (List.mem_cons_self ..)) hx
      rw [Ex.beq_eq hb]; exact ⟨_, kn, ρ', rfl, hh⟩
    · obtain ⟨x, hx, hy⟩ := Option.bind_eq_some_iff.1 hy
      injection hy with hy; subst hy
      exact decOut_sound h (outs := o :: r) (y := x) (fun p hp => ho p (List.mem_cons_of_mem _ hp)) hx

/-- a cut says what a piece of code does -/
def CutOk (P : Program) (lo : List Nat) (N : Nat) (code : Code) (cut : Cut) : Prop :=
  sigOk N cut.sig ∧ outsOk N cut.outs ∧ ∀ (c : Cfg), c.lo = lo → c.N = N → ∀ (x : den (cut.sig.map (·.2))) (y : Om cut.outs) (known : Nat → Prop) (ρ : Rho) (a : Act) (w : World),
    Rel c (slotTm cut.sig x).get (slotTm cut.sig x).blk known noP ρ a w → cut.f x = some y →
    ∀ (Q : Exit → Act → World → Prop), (∀ e s known ρ a w, omEx cut.outs y = some (e, s) → Rel c s.get s.blk known noP ρ a w → Q (toExit e) a w) → code.wp P Q a w

theorem runCut_sound {lo : List Nat} {N : Nat} {code : Code} {cut : Cut} (hcut : CutOk P lo N code cut) (hlo : c.lo = lo) (hN : c.N = N) {s : St} (h : Rel c s.get s.blk known noP ρ a w) {k : Ex → St → Option β} {res : β} (hk : runCut cut s k = some res)
    {Q : Exit → Act → World → Prop} (hQ : ∀ e s known ρ a w, Rel c s.get s.blk known noP ρ a w → k e s = some res → Q (toExit e) a w) : code.wp P Q a w := by
  unfold runCut at hk
  obtain ⟨x, hx, hk⟩ := Option.bind_eq_some_iff.1 hk
  obtain ⟨y, hy, hk⟩ := Option.bind_eq_some_iff.1 hk
  obtain ⟨e, s', hes, hk⟩ := elimOut_some hk
  obtain ⟨h1, h2, h3⟩ := hcut
  obtain ⟨kn, ρ', hh⟩ := recanon h (by rw [hN]; exact h1) hx
  refine h3 c hlo hN x y kn ρ' a w hh hy Q fun e' s'' kn ρ a w he hrel => ?_
  rw [hes] at he; injection he with he; injection he with he1 he2; subst he1; subst he2
  exact hQ e s' kn ρ a w hrel hk

def operandFits (N : Nat) : Operand → Bool
  | .tmp t => Nat.blt t N
  | _ => true

/-- all parts of a piece of code are within reach -/
def Good (P : Program) (lo : List Nat) (N : Nat) (cx : Cx) : Code → Prop
  | .skip => True
  | .region _ ops _ => hasPanic ops = false → ∀ o ∈ ops.toList, opFits lo N o = true
  | .seq a b => Good P lo N cx a ∧ (match lk? cx.joins b.key with | none => Good P lo N cx b | some cut => CutOk P lo N b cut)
  | .cond x a b => operandFits N x = true ∧ Good P lo N cx a ∧ Good P lo N cx b
  | .block _ b => Good P lo N cx b
  | .loop b => match lk? cx.loops b.key with | some cut => CutOk P lo N (.loop b) cut | none => True
  | _ => True

theorem exec_sound {cx : Cx} (hmix : P.follows .mixedOrders = true) (hty : tysOk P cx.tys = true) (hfns : FnsOk P cx.fns) {res : β} : ∀ (code : Code), Good P c.lo c.N cx code → ∀ (s : St) (k : Ex → St → Option β) (known : Nat → Prop) (ρ : Rho) (a : Act) (w : World) (Q : Exit → Act → World → Prop),
    Rel c s.get s.blk known noP ρ a w → exec cx code s k = some res → (∀ e s known ρ a w, Rel c s.get s.blk known noP ρ a w → k e s = some res → Q (toExit e) a w) → code.wp P Q a w
  | .skip, _, s, k, known, ρ, a, w, Q, h, hk, hQ => wp_skip (hQ _ s known ρ a w h hk)
  | .region id ops draw, hg, s, k, known, ρ, a, w, Q, h, hk, hQ => by
    have hk : (bif hasPanic ops then none else regionK cx ops draw s (k .normal)) = some res := hk
    rcases cond_some hk with ⟨_, hk⟩ | ⟨hp, hk⟩
    · cases hk
    have hg' : ∀ o ∈ ops.toList, opFits c.lo c.N o = true := hg hp
    cases draw with
    | false => exact region_seq hty hfns hg' (fun s kn ρ a w h hk => hQ .normal s kn ρ a w h hk) h hk
    | true => exact region_draw hmix hty hfns hg' (fun s kn ρ a w h hk => hQ .normal s kn ρ a w h hk) h hk
  | .seq x y, hg, s, k, known, ρ, a, w, Q, h, hk, hQ => by
    obtain ⟨hg1, hg2⟩ := hg
    refine wp_seq ?_
    have hk : seqK (exec cx x) (exec cx y) (lk? cx.joins y.key) s k = some res := hk
    unfold seqK at hk
    refine exec_sound hmix hty hfns x hg1 s _ known ρ a w _ h hk ?_
    intro e s' kn ρ' a' w' hrel hk'
    cases e with
    | normal =>
      show y.wp P Q a' w'
      simp only at hk'
      cases hj : lk? cx.joins y.key with
      | none => rw [hj] at hk' hg2; exact exec_sound hmix hty hfns y hg2 s' k kn ρ' a' w' Q hrel hk' hQ
      | some cut => rw [hj] at hk' hg2; exact runCut_sound hg2 rfl rfl hrel hk' hQ
    | exit i => exact hQ (.exit i) s' kn ρ' a' w' hrel hk'
    | ret => exact hQ .ret s' kn ρ' a' w' hrel hk'
  | .cond x t e, hg, s, k, known, ρ, a, w, Q, h, hk, hQ => by
    obtain ⟨hg0, hg1, hg2⟩ := hg
    have hx := (h.ev x fun t ht => by subst ht; exact Nat.le_of_ble_eq_true hg0).1
    have fin : ∀ b, a.eval x = .bool b → (b = true → exec cx t s k = some res) → (b = false → exec cx e s k = some res) → (Code.cond x t e).wp P Q a w := by
      intro b hb h1 h2
      refine wp_cond (t := b) hb ?_
      cases b with
      | true => exact exec_sound hmix hty hfns t hg1 s k known ρ a w Q h (h1 rfl) hQ
      | false => exact exec_sound hmix hty hfns e hg2 s k known ρ a w Q h (h2 rfl) hQ
    unfold exec at hk
    split at hk
    · rename_i q hq
      rw [St.ev_eq] at hq
      rw [hq] at hx
      obtain ⟨b, hb, hqb⟩ : ∃ b, [a.eval x] = [.bool b] ∧ (q = false → b = false) := hx
      injection hb with hb
      cases q with
      | false =>
        have := hqb rfl
        subst this
        exact fin _ hb (fun h => by cases h) (fun _ => hk)
      | true =>
        have hk : both (exec cx t s k) (exec cx e s k) = some res := hk
        unfold both at hk
        split at hk
        · rename_i heq
          exact fin b hb (fun _ => hk) (fun _ => by rw [← heq]; exact hk)
        · cases hk
    · obtain ⟨b, hb, hk⟩ := asBool_some hk
      rw [St.ev_eq] at hb
      rw [hb] at hx
      refine fin b (R_boolD hx) (fun hb => ?_) (fun hb => ?_)
      · subst hb; exact hk
      · subst hb; exact hk
  | .block id b, hg, s, k, known, ρ, a, w, Q, h, hk, hQ => by
    refine wp_block ?_
    have hk : exec cx b s (fun e s' => match e with | .exit j => bif Nat.beq j id then k .normal s' else k (.exit j) s' | e => k e s') = some res := hk
    refine exec_sound hmix hty hfns b hg s _ known ρ a w _ h hk ?_
    intro e s' kn ρ' a' w' hrel hk'
    cases e with
    | normal => exact hQ .normal s' kn ρ' a' w' hrel hk'
    | ret => exact hQ .ret s' kn ρ' a' w' hrel hk'
    | exit j =>
      show (if j = id then Q .normal a' w' else Q (.exit j) a' w')
      simp only at hk'
      rcases cond_some hk' with ⟨hb, hk'⟩ | ⟨hb, hk'⟩
      · rw [if_pos (Nat.eq_of_beq_eq_true hb)]; exact hQ .normal s' kn ρ' a' w' hrel hk'
      · have : ¬ j = id := fun e => by subst e; rw [Nat.beq_refl] at hb; cases hb
        rw [if_neg this]; exact hQ (.exit j) s' kn ρ' a' w' hrel hk'
  | .loop b, hg, s, k, known, ρ, a, w, Q, h, hk, hQ => by
    have hk : (match lk? cx.loops b.key with | some c => runCut c s k | none => none) = some res := hk
    cases hl : lk? cx.loops b.key with
    | none => rw [hl] at hk; cases hk
    | some cut =>
      have hg : (match lk? cx.loops b.key with | some cut => CutOk P c.lo c.N (.loop b) cut | none => True) := hg
      rw [hl] at hk hg
      exact runCut_sound hg rfl rfl h hk hQ
  | .exit id, _, s, k, known, ρ, a, w, Q, h, hk, hQ => wp_exit (hQ (.exit id) s known ρ a w h hk)
  | .ret, _, s, k, known, ρ, a, w, Q, h, hk, hQ => wp_ret (hQ .ret s known ρ a w h hk)
  | .rangeFunc _ _ _ _, _, s, k, known, ρ, a, w, Q, h, hk, hQ => by cases hk
  | .scope _, _, s, k, known, ρ, a, w, Q, h, hk, hQ => by cases hk
  | .label _, _, s, k, known, ρ, a, w, Q, h, hk, hQ => by cases hk
  | .goto _, _, s, k, known, ρ, a, w, Q, h, hk, hQ => by cases hk
  | .refuse _, _, s, k, known, ρ, a, w, Q, h, hk, hQ => by cases hk

/-- a loop, from its rounds -/
theorem loop_ok {cx : Cx} (hmix : P.follows .mixedOrders = true) (hty : tysOk P cx.tys = true) (hfns : FnsOk P cx.fns) {lo : List Nat} {N : Nat} {b : Code} (hg : Good P lo N cx b) {sig : List (Nat × Slot)} {outs : List (Ex × List (Nat × Slot))} (hs : sigOk N sig) (ho : outsOk N outs)
    (l : Nat → den (sig.map (·.2)) → Option (Om outs)) (h0 : ∀ x, l 0 x = none) (h1 : ∀ n x, l (n + 1) x = loopStep cx b sig outs (l n) x) : CutOk P lo N (.loop b) ⟨sig, outs, fun x => lim fun n => l n x⟩ := by
  refine ⟨hs, ho, fun c hlo hc x y known ρ a w h hy Q hQ => ?_⟩
  have key : ∀ (n : Nat) (x : den (sig.map (·.2))) (known : Nat → Prop) (ρ : Rho) (a : Act) (w : World), Rel c (slotTm sig x).get (slotTm sig x).blk known noP ρ a w → l n x = some y → Code.rounds P b Q n a w := by
    intro n
    induction n with
    | zero => intro x known ρ a w h hl; rw [h0] at hl; cases hl
    | succ n ih =>
      intro x known ρ a w h hl
      rw [h1] at hl
      unfold loopStep at hl
      show b.wp P (Exit.then (Code.rounds P b Q n) Q) a w
      subst hlo; subst hc
      refine exec_sound hmix hty hfns b hg _ _ known ρ a w _ h hl ?_
      intro e s kn ρ' a' w' hrel hk
      cases e with
      | normal =>
        obtain ⟨x', hx', hk⟩ := Option.bind_eq_some_iff.1 hk
        obtain ⟨kn', ρ'', hh⟩ := recanon hrel hs hx'
        exact ih x' kn' ρ'' a' w' hh hk
      | exit i =>
        obtain ⟨s', kn', ρ'', he, hh⟩ := decOut_sound hrel ho hk
        exact hQ _ s' kn' ρ'' a' w' he hh
      | ret =>
        obtain ⟨s', kn', ρ'', he, hh⟩ := decOut_sound hrel ho hk
        exact hQ _ s' kn' ρ'' a' w' he hh
  have hy : lim (fun n => l n x) = some y := hy
  unfold lim at hy
  split at hy
  · rename_i hex
    injection hy with hy
    obtain ⟨n, hn⟩ := hex.choose_spec
    have := hn n (Nat.le_refl _)
    rw [hy] at this
    exact wp_loop_rounds n (key n x known ρ a w h this)
  · cases hy

/-- the rest behind a place where ways meet -/
theorem join_ok {cx : Cx} (hmix : P.follows .mixedOrders = true) (hty : tysOk P cx.tys = true) (hfns : FnsOk P cx.fns) {lo : List Nat} {N : Nat} {b : Code} (hg : Good P lo N cx b) {cut : Cut} (hs : sigOk N cut.sig) (ho : outsOk N cut.outs)
    (h1 : ∀ x, cut.f x = joinStep cx b cut.sig cut.outs x) : CutOk P lo N b cut := by
  refine ⟨hs, ho, fun c hlo hc x y known ρ a w h hy Q hQ => ?_⟩
  rw [h1] at hy
  unfold joinStep at hy
  subst hlo; subst hc
  refine exec_sound hmix hty hfns b hg _ _ known ρ a w _ h hy ?_
  intro e s kn ρ' a' w' hrel hk
  obtain ⟨s', kn', ρ'', he, hh⟩ := decOut_sound hrel ho hk
  exact hQ _ s' kn' ρ'' a' w' he hh
end Go.ZM
end
end

section
/- From a function's body to its contract. -/
set_option linter.unusedVariables false
noncomputable section
namespace Go.ZM
open Go
variable {c : Cfg} {tm : Nat → TV} {hp : Hp} {known pend : Nat → Prop} {ρ : Rho} {a : Act} {w : World} {P : Program} {β : Type}

/-! #### static checks -/
def allB (lo : List Nat) (N : Nat) : Code → Bool
  | .region _ ops _ => hasPanic ops || ops.toList.all (opFits lo N)
  | .seq a b => allB lo N a && allB lo N b
  | .cond x a b => operandFits N x && (allB lo N a && allB lo N b)
  | .block _ b => allB lo N b
  | .loop b => allB lo N b
  | _ => true

def loopsIn : Code → List (Nat × Code)
  | .loop b => (b.key, b) :: loopsIn b
  | .seq a b => loopsIn a ++ loopsIn b
  | .block _ a => loopsIn a
  | .scope a => loopsIn a
  | .cond _ a b => loopsIn a ++ loopsIn b
  | _ => []
def restsIn : Code → List (Nat × Code)
  | .loop b => restsIn b
  | .seq a b => (b.key, b) :: (restsIn a ++ restsIn b)
  | .block _ a => restsIn a
  | .scope a => restsIn a
  | .cond _ a b => restsIn a ++ restsIn b
  | _ => []

def onceB (l : List (Nat × Code)) (k : Nat) : Bool := Nat.beq (l.filter fun p => Nat.beq p.1 k).length 1
def sigB (N : Nat) (sig : List (Nat × Slot)) : Bool := nodupB (sig.map Prod.fst) && sig.all fun p => Nat.blt p.1 N
def cutB (N : Nat) (cut : Cut) : Bool := sigB N cut.sig && cut.outs.all fun p => sigB N p.2
def resFits (N : Nat) : ResultVar → Bool
  | .tmp t => Nat.blt t N
  | .cell a _ => Nat.blt a N
/-- the parameters that are never given anew -/
def boxIdx : Nat → List Slot → List Nat
  | _, [] => []
  | i, .box _ :: r => i :: boxIdx (i + 1) r
  | i, .vw _ _ :: r => i :: boxIdx (i + 1) r
  | i, _ :: r => boxIdx (i + 1) r
def fnB (cx : Cx) (body : Code) (N : Nat) (rs : List ResultVar) (ins : List Slot) : Bool :=
  allB (boxIdx 0 ins) N body && (Nat.ble ins.length N && (cx.loops.all (fun p => cutB N p.2 && onceB (loopsIn body) p.1) && (cx.joins.all (fun p => cutB N p.2 && onceB (restsIn body) p.1) && rs.all (resFits N))))

theorem lk?_of_mem {α : Type} : ∀ {l : List (Nat × α)} {k : Nat} {x : α}, (l.filter fun p => Nat.beq p.1 k).length = 1 → (k, x) ∈ l → lk? l k = some x
  | (m, y) :: r, k, x, h, hm => by
    show (bif Nat.beq m k then some y else lk? r k) = some x
    rw [List.filter_cons] at h
    cases hb : Nat.beq m k with
    | true =>
      simp only [hb, if_true, List.length_cons] at h
      have hr : (r.filter fun p => Nat.beq p.1 k) = [] := List.eq_nil_of_length_eq_zero (by omega)
      rcases List.mem_cons.1 hm with hm | hm
      · injection hm with _ hm; subst hm; rfl
      · have : (k, x) ∈ r.filter fun p => Nat.beq p.1 k := List.mem_filter.2 ⟨hm, Nat.beq_refl k⟩
        rw [hr] at this; cases this
    | false =>
      simp only [hb, Bool.false_eq_true, if_false] at h
      rcases List.mem_cons.1 hm with hm | hm
      · injection hm with h1 _; subst h1; rw [Nat.beq_refl] at hb; cases hb
      · exact lk?_of_mem h hm

theorem lk?_append {α : Type} : ∀ (l m : List (Nat × α)) (k : Nat), lk? (l ++ m) k = match lk? l k with | some x => some x | none => lk? m k
  | [], m, k => rfl
  | (i, y) :: r, m, k => by
    show (bif Nat.beq i k then some y else lk? (r ++ m) k) = match (bif Nat.beq i k then some y else lk? r k) with | some x => some x | none => lk? m k
    cases Nat.beq i k
    · exact lk?_append r m k
    · rfl

theorem loopOf_eq : ∀ (c : Code) (k : Nat), loopOf c k = lk? (loopsIn c) k
  | .loop b, k => by
    show (bif Nat.beq b.key k then some b else loopOf b k) = (bif Nat.beq b.key k then some b else lk? (loopsIn b) k)
    rw [loopOf_eq b k]
  | .seq a b, k => by
    show (match loopOf a k with | some c => some c | none => loopOf b k) = lk? (loopsIn a ++ loopsIn b) k
    rw [lk?_append, loopOf_eq a k, loopOf_eq b k]
    cases lk? (loopsIn a) k <;> rfl
  | .block _ a, k => loopOf_eq a k
  | .scope a, k => loopOf_eq a k
  | .cond _ a b, k => by
    show (match loopOf a k with | some c => some c | none => loopOf b k) = lk? (loopsIn a ++ loopsIn b) k
    rw [lk?_append, loopOf_eq a k, loopOf_eq b k]
    cases lk? (loopsIn a) k <;> rfl
  | .skip, _ => rfl
  | .region _ _ _, _ => rfl
  | .rangeFunc _ _ _ _, _ => rfl
  | .exit _, _ => rfl
  | .label _, _ => rfl
  | .goto _, _ => rfl
  | .ret, _ => rfl
  | .refuse _, _ => rfl

theorem restOf_eq : ∀ (c : Code) (k : Nat), restOf c k = lk? (restsIn c) k
  | .loop b, k => restOf_eq b k
  | .seq a b, k => by
    show (bif Nat.beq b.key k then some b else (match restOf a k with | some c => some c | none => restOf b k)) = (bif Nat.beq b.key k then some b else lk? (restsIn a ++ restsIn b) k)
    rw [lk?_append, restOf_eq a k, restOf_eq b k]
    cases lk? (restsIn a) k <;> rfl
  | .block _ a, k => restOf_eq a k
  | .scope a, k => restOf_eq a k
  | .cond _ a b, k => by
    show (match restOf a k with | some c => some c | none => restOf b k) = lk? (restsIn a ++ restsIn b) k
    rw [lk?_append, restOf_eq a k, restOf_eq b k]
    cases lk? (restsIn a) k <;> rfl
  | .skip, _ => rfl
  | .region _ _ _, _ => rfl
  | .rangeFunc _ _ _ _, _ => rfl
  | .exit _, _ => rfl
  | .label _, _ => rfl
  | .goto _, _ => rfl
  | .ret, _ => rfl
  | .refuse _, _ => rfl

theorem sigB_ok {N : Nat} {sig : List (Nat × Slot)} (h : sigB N sig = true) : sigOk N sig := by
  unfold sigB at h
  rw [Bool.and_eq_true] at h
  exact ⟨nodupB_spec h.1, fun p hp => Nat.le_of_ble_eq_true (List.all_eq_true.1 h.2 p hp)⟩
theorem cutB_ok {N : Nat} {cut : Cut} (h : cutB N cut = true) : sigOk N cut.sig ∧ outsOk N cut.outs := by
  unfold cutB at h
  rw [Bool.and_eq_true] at h
  exact ⟨sigB_ok h.1, fun p hp => sigB_ok (List.all_eq_true.1 h.2 p hp)⟩

/-- the rounds of the loops -/
def LoopEq (cx : Cx) (body : Code) (k : Nat) (cut : Cut) : Prop :=
  ∃ l : Nat → den (cut.sig.map (·.2)) → Option (Om cut.outs), (∀ x, cut.f x = lim fun n => l n x) ∧ (∀ x, l 0 x = none) ∧ ∀ n x, l (n + 1) x = loopStep cx ((loopOf body k).getD .skip) cut.sig cut.outs (l n) x
def LoopsEq (cx : Cx) (body : Code) : List (Nat × Cut) → Prop
  | [] => True
  | (k, cut) :: r => LoopEq cx body k cut ∧ LoopsEq cx body r
def JoinsEq (cx : Cx) (body : Code) : List (Nat × Cut) → Prop
  | [] => True
  | (k, cut) :: r => (∀ x, cut.f x = joinStep cx ((restOf body k).getD .skip) cut.sig cut.outs x) ∧ JoinsEq cx body r

theorem LoopsEq_mem {cx : Cx} {body : Code} : ∀ {l : List (Nat × Cut)} {k : Nat} {cut : Cut}, LoopsEq cx body l → (k, cut) ∈ l → LoopEq cx body k cut
  | (m, c) :: r, k, cut, ⟨h1, h2⟩, hm => by
    rcases List.mem_cons.1 hm with hm | hm
    · injection hm with e1 e2; subst e1; subst e2; exact h1
    · exact LoopsEq_mem h2 hm
theorem JoinsEq_mem {cx : Cx} {body : Code} : ∀ {l : List (Nat × Cut)} {k : Nat} {cut : Cut}, JoinsEq cx body l → (k, cut) ∈ l → ∀ x, cut.f x = joinStep cx ((restOf body k).getD .skip) cut.sig cut.outs x
  | (m, c) :: r, k, cut, ⟨h1, h2⟩, hm => by
    rcases List.mem_cons.1 hm with hm | hm
    · injection hm with e1 e2; subst e1; subst e2; exact h1
    · exact JoinsEq_mem h2 hm

theorem good_of {cx : Cx} (hmix : P.follows .mixedOrders = true) (hty : tysOk P cx.tys = true) (hfns : FnsOk P cx.fns) {lo : List Nat} {N : Nat} {body : Code}
    (hl : LoopsEq cx body cx.loops) (hlB : cx.loops.all (fun p => cutB N p.2 && onceB (loopsIn body) p.1) = true)
    (hj : JoinsEq cx body cx.joins) (hjB : cx.joins.all (fun p => cutB N p.2 && onceB (restsIn body) p.1) = true) :
    ∀ (code : Code), (∀ p ∈ loopsIn code, p ∈ loopsIn body) → (∀ p ∈ restsIn code, p ∈ restsIn body) → allB lo N code = true → Good P lo N cx code
  | .skip, _, _, _ => trivial
  | .region _ ops _, _, _, h => fun hp o ho => by
    have h : (hasPanic ops || ops.toList.all (opFits lo N)) = true := h
    rw [hp, Bool.false_or] at h
    exact List.all_eq_true.1 h o ho
  | .seq x y, h1, h2, h => by
    have h : (allB lo N x && allB lo N y) = true := h
    rw [Bool.and_eq_true] at h
    have gx := good_of hmix hty hfns hl hlB hj hjB x (fun p hp => h1 p (List.mem_append_left _ hp)) (fun p hp => h2 p (List.mem_cons_of_mem _ (List.mem_append_left _ hp))) h.1
    have gy := good_of hmix hty hfns hl hlB hj hjB y (fun p hp => h1 p (List.mem_append_right _ hp)) (fun p hp => h2 p (List.mem_cons_of_mem _ (List.mem_append_right _ hp))) h.2
    refine ⟨gx, ?_⟩
    cases hk : lk? cx.joins y.key with
    | none => exact gy
    | some cut =>
      have hm := lk?_mem hk
      have hB := List.all_eq_true.1 hjB _ hm
      rw [Bool.and_eq_true] at hB
      obtain ⟨hs, ho⟩ := cutB_ok hB.1
      have hr : restOf body y.key = some y := by
        rw [restOf_eq]; exact lk?_of_mem (Nat.eq_of_beq_eq_true hB.2) (h2 _ (List.mem_cons_self ..))
      refine join_ok hmix hty hfns gy hs ho fun x' => ?_
      have := JoinsEq_mem hj hm x'
      rw [hr] at this; exact this
  | .cond x t e, h1, h2, h => by
    have h : (operandFits N x && (allB lo N t && allB lo N e)) = true := h
    rw [Bool.and_eq_true, Bool.and_eq_true] at h
    exact ⟨h.1, good_of hmix hty hfns hl hlB hj hjB t (fun p hp => h1 p (List.mem_append_left _ hp)) (fun p hp => h2 p (List.mem_append_left _ hp)) h.2.1,
      good_of hmix hty hfns hl hlB hj hjB e (fun p hp => h1 p (List.mem_append_right _ hp)) (fun p hp => h2 p (List.mem_append_right _ hp)) h.2.2⟩
  | .block _ b, h1, h2, h => good_of hmix hty hfns hl hlB hj hjB b h1 h2 h
  | .loop b, h1, h2, h => by
    have gb := good_of hmix hty hfns hl hlB hj hjB b (fun p hp => h1 p (List.mem_cons_of_mem _ hp)) h2 h
    show (match lk? cx.loops b.key with | some cut => CutOk P lo N (.loop b) cut | none => True)
    cases hk : lk? cx.loops b.key with
    | none => trivial
    | some cut =>
      have hm := lk?_mem hk
      have hB := List.all_eq_true.1 hlB _ hm
      rw [Bool.and_eq_true] at hB
      obtain ⟨hs, ho⟩ := cutB_ok hB.1
      have hr : loopOf body b.key = some b := by
        rw [loopOf_eq]; exact lk?_of_mem (Nat.eq_of_beq_eq_true hB.2) (h1 _ (List.mem_cons_self ..))
      obtain ⟨l, hf, h0, hstep⟩ := LoopsEq_mem hl hm
      rw [hr] at hstep
      have := loop_ok hmix hty hfns gb hs ho l h0 hstep
      have e : cut = ⟨cut.sig, cut.outs, fun x => lim fun n => l n x⟩ := by
        have : cut.f = fun x => lim fun n => l n x := funext hf
        rw [← this]
      simp only
      rw [e]; exact this
  | .rangeFunc _ _ _ _, _, _, _ => trivial
  | .exit _, _, _, _ => trivial
  | .scope _, _, _, _ => trivial
  | .label _, _, _, _ => trivial
  | .goto _, _, _, _ => trivial
  | .ret, _, _, _ => trivial
  | .refuse _, _, _, _ => trivial

/-! #### results -/
def resG (tmps : Array Value) : ResultVar → Sem Value
  | .tmp t => pure (tmps.getD t undef)
  | .cell a t => do loadVar t (← asAddr (tmps.getD a undef))

theorem results_eq (fn : Func) (tmps : Array Value) : results fn tmps = (do let vs ← fn.results.mapM (resG tmps); pure (if h : vs.size = 1 then vs[0] else .tuple vs)) := rfl

theorem run_cell {t : TypeId} {ty : Ty} {i : TypeInfo} {z : Value} (hf : Flat P t ty i z) {b off : Nat} {cs : List Value} (hl : cs.length = ty.size) (hat : At w b off cs) :
    (do loadVar t (← asAddr (.pointer (some ⟨b, off, none⟩))) : Sem Value).run P w = .ok (if ty.isAgg then .agg cs.toArray else cs.headD undef) w := by
  have h := run_loadAt (P := P) hf hl hat
  exact h

theorem takeSlot_undef {hp' : Hp} {s : Slot} {k : s.den → List Nat → Eff → Option β} : takeSlot hp' s .undef k = none := by
  cases s with
  | val t => cases t <;> rfl
  | own e t => rfl
  | box t => rfl
  | vw e t => rfl
theorem takeSlots_undef {hp' : Hp} : ∀ {ss : List Slot} {tvs : List TV} {k : den ss → List Nat → Eff → Option β} {r : β}, takeSlots hp' ss tvs k = some r → ∀ tv ∈ tvs, tv ≠ .undef
  | [], [], _, _, _ => fun tv h => by cases h
  | [s], [v], k, r, h => by
    intro tv htv e
    have : tv = v := List.mem_singleton.1 htv
    subst this; subst e
    simp only [takeSlots, takeSlot_undef] at h
    cases h
  | s :: s' :: ss, v :: vs, k, r, h => by
    intro tv htv e
    simp only [takeSlots] at h
    rcases List.mem_cons.1 htv with rfl | htv
    · subst e; rw [takeSlot_undef] at h; cases h
    · obtain ⟨_, _, _, h, _⟩ := takeSlot_keys (ns := []) h
      exact takeSlots_undef h tv htv e
  | [], _ :: _, _, _, h => by cases h
  | [_], [], _, _, h => by cases h
  | [_], _ :: _ :: _, _, _, h => by cases h
  | _ :: _ :: _, [], _, _, h => by cases h

theorem res_run {s : St} (h : Rel c s.get s.blk known pend ρ a w) {cx : Cx} (hty : tysOk P cx.tys = true) : ∀ (rs : List ResultVar), rs.all (resFits c.N) = true → (∀ tv ∈ rs.map (resTV cx s), tv ≠ .undef) →
    ∃ vs, (rs.mapM (resG a.tmps)).run P w = .ok vs w ∧ All2 (fun tv v => R w (MM c s.blk ρ) ρ s.blk tv v) (rs.map (resTV cx s)) vs
  | [], _, _ => ⟨[], rfl, .nil⟩
  | r :: rs, hB, hu => by
    rw [List.all_cons, Bool.and_eq_true] at hB
    obtain ⟨vs, h1, h2⟩ := res_run h hty rs hB.2 (fun tv htv => hu tv (by rw [List.map_cons]; exact List.mem_cons_of_mem _ htv))
    have one : ∃ v, (resG a.tmps r).run P w = .ok v w ∧ R w (MM c s.blk ρ) ρ s.blk (resTV cx s r) v := by
      cases r with
      | tmp t => exact ⟨_, rfl, h.tms t (Nat.le_of_ble_eq_true hB.1)⟩
      | cell ad t =>
        have hne := hu (resTV cx s (.cell ad t)) (by rw [List.map_cons]; exact List.mem_cons_self ..)
        have hN : ad < c.N := Nat.le_of_ble_eq_true hB.1
        have he := h.tms ad hN
        simp only [resTV] at hne ⊢
        split at hne
        · rename_i ti n off hti hget
          split at hne
          · rename_i ty x hn
            split at hne
            · rename_i y hy
              rw [hget] at he
              obtain ⟨b, k, hg, hv⟩ := R_boxD he hn
              obtain ⟨cur, e, h3, h4⟩ := h.box hn hg
              obtain ⟨i, z, hf⟩ := tiOk_flat (tysOk_lk hty hti)
              have hK := (getAt_K ty x off y cur.toList hy h4).1
              have hat := At_sub (cells_at h3) off ti.ty.size
              rw [Nat.zero_add] at hat
              have hrun : (resG a.tmps (.cell ad t)).run P w = .ok (if ti.ty.isAgg then .agg ((cur.toList.drop off).take ti.ty.size).toArray else ((cur.toList.drop off).take ti.ty.size).headD undef) w := by
                show (do loadVar t (← asAddr (a.tmps.getD ad undef)) : Sem Value).run P w = _
                rw [hv]
                exact run_cell hf (K_len _ _ _ hK) hat
              exact ⟨_, hrun, R_val (V_mk hf.whole hK)⟩
            · exact absurd rfl hne
          · exact absurd rfl hne
        · exact absurd rfl hne
    obtain ⟨v, h3, h4⟩ := one
    refine ⟨v :: vs, ?_, .cons h4 h2⟩
    rw [List.mapM_cons]
    simp only [Sem.run_bind, h3, Result.andThen_ok, h1, Sem.run_pure]

theorem results_run {fn : Func} {tmps : Array Value} {vs : List Value} (h : (fn.results.toList.mapM (resG tmps)).run P w = .ok vs w) : (results fn tmps).run P w = .ok (retV vs) w := by
  rw [results_eq]
  have : fn.results.mapM (resG tmps) = List.toArray <$> fn.results.toList.mapM (resG tmps) := by
    obtain ⟨l⟩ := fn.results
    simp
  rw [this]
  simp only [Sem.run_bind, Sem.run_map, h, Result.andThen_ok, Sem.run_pure]
  congr 1
  match vs with
  | [] => rfl
  | [v] => rfl
  | _ :: _ :: _ => rfl

theorem SlotsR_len {M : Nat → Prop} : ∀ {ss : List Slot} {x : den ss} {gs : List Gh} {vs : List Value}, SlotsR w M ss x gs vs → vs.length = ss.length ∧ gs.length = ss.length
  | [], _, _, _, ⟨h1, h2⟩ => by subst h1; subst h2; exact ⟨rfl, rfl⟩
  | [s], _, _, _, ⟨g, v, h1, h2, _⟩ => by subst h1; subst h2; exact ⟨rfl, rfl⟩
  | s :: s' :: r, _, _, _, ⟨g, gs', v, vs', h1, h2, _, h3⟩ => by
    subst h1; subst h2
    have := SlotsR_len h3
    exact ⟨by simp [this.1], by simp [this.2]⟩

def fvals (vals : Nat → Value) : Nat → List Slot → List Value
  | _, [] => []
  | i, .box _ :: r => vals i :: fvals vals (i + 1) r
  | i, .vw _ _ :: r => vals i :: fvals vals (i + 1) r
  | i, _ :: r => fvals vals (i + 1) r

/-- what the header of something borrowed says -/
def IsFin : Slot → Gh → Value → Prop
  | .box _, g, v => ∃ b k, g = some (b, k) ∧ v = .pointer (some ⟨b, 0, none⟩)
  | .vw _ t, g, v => ∃ b k lo len cap, g = some (b, k) ∧ v = .slice (some ⟨b, lo * t.size, none⟩) len cap ∧ cap + lo = k
  | _, _, _ => False
def FinGs : List Slot → List Gh → List Value → Prop
  | [], gs, vs => gs = [] ∧ vs = []
  | s :: ss, gs, vs => ∃ g gs' v vs', gs = g :: gs' ∧ vs = v :: vs' ∧ IsFin s g v ∧ FinGs ss gs' vs'

theorem isFin_of {M : Nat → Prop} {s : Slot} (hb : isBox s = true) {x : s.den} {g : Gh} {v : Value} (h : SlotR w M s x g v) : IsFin s g v := by
  cases s with
  | val t => cases hb
  | own e t => cases hb
  | box t => exact h.1
  | vw e t =>
    obtain ⟨_, h0, h1, _⟩ := h
    simp only [ViewR, Blk.len] at h1
    obtain ⟨_, _, A, c, rfl, _, hA⟩ := h1
    obtain ⟨bl, cap, hg, rfl, hc⟩ := hA h0
    exact ⟨bl, cap, x.2.1, x.2.2, c, hg, rfl, hc⟩

theorem boxIdx_lt : ∀ (ins : List Slot) (i t : Nat), t ∈ boxIdx i ins → i ≤ t ∧ t < i + ins.length
  | [], _, _, h => by cases h
  | .val _ :: r, i, t, h => by have := boxIdx_lt r (i + 1) t h; simp only [List.length_cons]; omega
  | .own _ _ :: r, i, t, h => by have := boxIdx_lt r (i + 1) t h; simp only [List.length_cons]; omega
  | .box _ :: r, i, t, h => by
    rcases List.mem_cons.1 h with h | h
    · simp only [List.length_cons]; omega
    · have := boxIdx_lt r (i + 1) t h; simp only [List.length_cons]; omega
  | .vw _ _ :: r, i, t, h => by
    rcases List.mem_cons.1 h with h | h
    · simp only [List.length_cons]; omega
    · have := boxIdx_lt r (i + 1) t h; simp only [List.length_cons]; omega

theorem boxSame {M : Nat → Prop} {vals : Nat → Value} : ∀ {ins : List Slot} {x : den ins} {gs : List Gh} {us : List Value} {i : Nat}, SlotsR w M ins x gs us → (∀ j, i + j ∈ boxIdx i ins → vals (i + j) = us.getD j undef) → FinGs (finsOf ins) (boxG ins gs) (fvals vals i ins)
  | [], _, _, _, _, _, _ => ⟨rfl, rfl⟩
  | [s], x, _, _, i, ⟨g, v, h1, h2, h3⟩, hv => by
    subst h1; subst h2
    cases s with
    | val t => exact ⟨rfl, rfl⟩
    | own e t => exact ⟨rfl, rfl⟩
    | box t =>
      have := hv 0 (by simp [boxIdx])
      rw [Nat.add_zero] at this
      exact ⟨g, [], vals i, [], rfl, rfl, by rw [this]; exact isFin_of (s := .box t) rfl h3, rfl, rfl⟩
    | vw e t =>
      have := hv 0 (by simp [boxIdx])
      rw [Nat.add_zero] at this
      exact ⟨g, [], vals i, [], rfl, rfl, by rw [this]; exact isFin_of (s := .vw e t) rfl h3, rfl, rfl⟩
  | s :: s' :: r, x, _, _, i, ⟨g, gs', v, vs', h1, h2, h3, h4⟩, hv => by
    subst h1; subst h2
    have ih := boxSame (vals := vals) (i := i + 1) h4 (fun j hj => by
      have := hv (j + 1) (by
        rw [show i + (j + 1) = i + 1 + j by omega]
        cases s with
        | val t => exact hj
        | own e t => exact hj
        | box t => exact List.mem_cons_of_mem _ hj
        | vw e t => exact List.mem_cons_of_mem _ hj)
      rw [show i + 1 + j = i + (j + 1) by omega]; simpa using this)
    cases s with
    | val t => exact ih
    | own e t => exact ih
    | box t =>
      have := hv 0 (by simp [boxIdx])
      rw [Nat.add_zero] at this
      exact ⟨g, _, vals i, _, rfl, rfl, by rw [this]; exact isFin_of (s := .box t) rfl h3, ih⟩
    | vw e t =>
      have := hv 0 (by simp [boxIdx])
      rw [Nat.add_zero] at this
      exact ⟨g, _, vals i, _, rfl, rfl, by rw [this]; exact isFin_of (s := .vw e t) rfl h3, ih⟩

abbrev SameB (g g' : Gh) : Prop := ∀ b, (∃ k, g = some (b, k)) ↔ ∃ k, g' = some (b, k)

theorem sameB_cap {b k k' : Nat} : SameB (some (b, k)) (some (b, k')) := fun q =>
  ⟨fun ⟨k2, hk⟩ => by injection hk with hk; injection hk with hk _; exact ⟨k', by rw [hk]⟩, fun ⟨k2, hk⟩ => by injection hk with hk; injection hk with hk _; exact ⟨k, by rw [hk]⟩⟩

theorem boxSwap1 {M : Nat → Prop} {s : Slot} (hb : isBox s = true) {z : s.den} {g g' : Gh} {v : Value} (h : SlotR w M s z g v) (hg : IsFin s g' v) : SlotR w M s z g' v ∧ SameB g g' := by
  cases s with
  | val t => cases hb
  | own e t => cases hb
  | box t =>
    obtain ⟨⟨b, k, rfl, rfl⟩, b1, c1, cur, e, hg1, h1, h2⟩ := h
    obtain ⟨b', k', rfl, hv⟩ := hg
    have hbb : b' = b := by injection hv with hv; injection hv with hv; injection hv with hv; exact hv.symm
    subst hbb
    injection hg1 with hg1; injection hg1 with e1 e2; subst e1
    exact ⟨⟨⟨_, k', rfl, rfl⟩, _, k', cur, e, rfl, h1, h2⟩, sameB_cap⟩
  | vw e t =>
    have hf := isFin_of (s := .vw e t) rfl h
    have h' := h
    obtain ⟨hsz, h0, _, _⟩ := h'
    obtain ⟨b, k, lo, len, cap, rfl, rfl, hc⟩ := hf
    obtain ⟨b', k', lo', len', cap', rfl, hv, hc'⟩ := hg
    injection hv with e1 e2 e3
    injection e1 with e1; injection e1 with e4 e5 _
    subst e4; subst e3
    have : lo = lo' := Nat.eq_of_mul_eq_mul_right hsz e5
    subst this
    have : k = k' := by omega
    subst this
    exact ⟨h, sameB_cap⟩

theorem boxSwap {M : Nat → Prop} : ∀ {fins : List Slot} {z : den fins} {gs gs' : List Gh} {vs : List Value}, (∀ s ∈ fins, isBox s = true) → SlotsR w M fins z gs vs → FinGs fins gs' vs → SlotsR w M fins z gs' vs ∧ All2 SameB gs gs'
  | [], _, _, _, _, _, ⟨h1, h2⟩, ⟨h3, _⟩ => by subst h1; subst h2; subst h3; exact ⟨⟨rfl, rfl⟩, .nil⟩
  | [s], _, _, _, _, hb, ⟨g, v, h1, h2, h3⟩, ⟨g', gs', v', vs', e1, e2, h4, h5, h6⟩ => by
    subst h1; subst h2; subst e1; subst h5; subst h6
    injection e2 with e2 _; subst e2
    have := boxSwap1 (hb s (List.mem_cons_self ..)) h3 h4
    exact ⟨⟨_, _, rfl, rfl, this.1⟩, .cons this.2 .nil⟩
  | s :: s' :: r, _, _, _, _, hb, ⟨g, gs', v, vs', h1, h2, h3, h4⟩, ⟨g2, gs2, v2, vs2, e1, e2, h5, h6⟩ => by
    subst h1; subst h2; subst e1
    injection e2 with e2 e3; subst e2; subst e3
    have h7 := boxSwap1 (hb s (List.mem_cons_self ..)) h3 h5
    have h8 := boxSwap (fun s hs => hb s (List.mem_cons_of_mem _ hs)) h4 h6
    exact ⟨⟨_, _, _, _, rfl, rfl, h7.1, h8.1⟩, .cons h7.2 h8.2⟩

theorem InG_same {gs gs' : List Gh} (h : All2 SameB gs gs') (b : Nat) : InG gs b ↔ InG gs' b := by
  induction h with
  | nil => exact Iff.rfl
  | @cons g g' l m h1 _ ih =>
    have e : ∀ (g : Gh) (l : List Gh), InG (g :: l) b ↔ (∃ k, g = some (b, k)) ∨ InG l b := fun g l =>
      ⟨fun ⟨k, hk⟩ => (List.mem_cons.1 hk).elim (fun h => .inl ⟨k, h.symm⟩) (fun h => .inr ⟨k, h⟩), fun h => h.elim (fun ⟨k, hk⟩ => ⟨k, by rw [hk]; exact List.mem_cons_self ..⟩) (fun ⟨k, hk⟩ => ⟨k, List.mem_cons_of_mem _ hk⟩)⟩
    rw [e, e, ih, h1 b]
theorem Apart_same {gs gs' : List Gh} (h : All2 SameB gs gs') : Apart gs → Apart gs' := by
  induction h with
  | nil => exact id
  | @cons g g' l m h1 h2 ih =>
    rintro ⟨h3, h4⟩
    refine ⟨fun b k hb hin => ?_, ih h4⟩
    obtain ⟨k', hk'⟩ := (h1 b).2 ⟨k, hb⟩
    exact h3 b k' hk' ((InG_same h2 b).2 hin)
theorem SameB_refl : ∀ (gs : List Gh), All2 SameB gs gs
  | [] => .nil
  | g :: r => .cons (fun _ => Iff.rfl) (SameB_refl r)

theorem finTV_R {s : St} (h : Rel c s.get s.blk known pend ρ a w) : ∀ (ins : List Slot) (i : Nat), i + ins.length ≤ c.N → All2 (fun tv v => R w (MM c s.blk ρ) ρ s.blk tv v) (finTV s i ins) (fvals (fun t => a.tmps.getD t undef) i ins)
  | [], _, _ => .nil
  | .val t :: r, i, hN => finTV_R h r (i + 1) (by simp only [List.length_cons] at hN; omega)
  | .own e t :: r, i, hN => finTV_R h r (i + 1) (by simp only [List.length_cons] at hN; omega)
  | .box t :: r, i, hN => .cons (h.tms i (by simp only [List.length_cons] at hN; omega)) (finTV_R h r (i + 1) (by simp only [List.length_cons] at hN; omega))
  | .vw e t :: r, i, hN => .cons (h.tms i (by simp only [List.length_cons] at hN; omega)) (finTV_R h r (i + 1) (by simp only [List.length_cons] at hN; omega))

theorem outLR {outs : List Slot} : ∀ (fins : List Slot) (x : den outs) (y : den fins), outL fins (outMk fins x y) = x ∧ outR fins (outMk fins x y) = y
  | [], x, y => ⟨rfl, rfl⟩
  | _ :: _, x, y => ⟨rfl, rfl⟩

theorem spec_of {id : FuncId} {fn : Func} (hf : P.funcs[id]? = some fn) (hn : (fn.name == "runtime.NumGoroutine") = false) {body : Code} (hb : fn.body = some body)
    (hmix : P.follows .mixedOrders = true) {cx : Cx} (hty : tysOk P cx.tys = true) (hfns : FnsOk P cx.fns) {ins outs : List Slot} {f : den ins → Option (Out outs (finsOf ins))}
    (hB : fnB cx body fn.ntmps fn.results.toList ins = true) (hl : LoopsEq cx body cx.loops) (hj : JoinsEq cx body cx.joins)
    (hs : ∀ x, fnStep cx body fn.results.toList ins outs x = f x) : Spec P id ⟨ins, outs, f⟩ := by
  unfold fnB at hB
  simp only [Bool.and_eq_true] at hB
  obtain ⟨hB1, hB2, hB3, hB4, hB5⟩ := hB
  have hlo : ins.length ≤ fn.ntmps := Nat.le_of_ble_eq_true hB2
  have good : Good P (boxIdx 0 ins) fn.ntmps cx body := good_of hmix hty hfns hl (by simpa only [Bool.and_eq_true] using hB3) hj (by simpa only [Bool.and_eq_true] using hB4) body (fun _ h => h) (fun _ h => h) hB1
  refine ⟨⟨fn, hf, hn, by rw [hb]; rfl⟩, fun w M0 x gs us r hM0 hsl hap hg hr => ?_⟩
  obtain ⟨hul, hgl⟩ := SlotsR_len hsl
  simp only at hul hgl
  refine calls_of_wp hf hb ?_
  have hgetu : ∀ t, t < ins.length → (us.toArray ++ Array.replicate (fn.ntmps - us.toArray.size) undef).getD t undef = us.getD t undef := by
    intro t ht
    have : t < us.length := by omega
    simp [Array.getElem?_append, this]
  have base : Base { w0 := w, M0 := M0, B := fun b => InG gs b, lo := boxIdx 0 ins, N := fn.ntmps, keep := fun t => us.getD t undef }
      { tmps := us.toArray ++ Array.replicate (fn.ntmps - us.toArray.size) undef, defers := [] } w :=
    { defers := rfl, size := by simp; omega, kept := fun t ht => hgetu t (by have := boxIdx_lt ins 0 t ht; omega), os := rfl, tape := rfl, output := rfl, hsize := Nat.le_refl _, old := fun _ _ _ => rfl, m0 := hM0 }
  obtain ⟨known, ρ, hrel, _⟩ := base.enter (ss := ins) (ns := List.range ins.length) (x := x) (gs := gs)
    (by
      have : us = (List.range ins.length).map fun n => (us.toArray ++ Array.replicate (fn.ntmps - us.toArray.size) undef).getD n undef := by
        refine List.ext_getElem (by simp [hul]) fun i h1 h2 => ?_
        rw [List.getElem_map, List.getElem_range, hgetu i (by omega)]
        simp [h1]
      rw [← this]; exact hsl) hap
    (fun b k hbk => ⟨(hg b ⟨k, hbk⟩).1, .inr ⟨k, hbk⟩, (hg b ⟨k, hbk⟩).2⟩) (by simp) List.nodup_range
  have hk := (hs x).trans hr
  unfold fnStep at hk
  refine exec_sound hmix hty hfns body good _ _ known ρ _ w _ hrel hk ?_
  intro e s kn ρ' a' w' h' hk'
  have fin : (takeSlots s.blk outs (fn.results.toList.map (resTV cx s)) fun y mu fz => takeSlots s.blk (finsOf ins) (finTV s 0 ins) fun z mu' fz' =>
      bif okNames (mu ++ mu') (fz ++ fz') then some (outMk (finsOf ins) y z) else none) = some r → bodyPost P fn (fun e w' => ∃ gs' vs fs, e = .returned (retV vs) ∧ CallPost w w' gs ∧
      SlotsR w' (fun b => M0 b ∨ InG gs' b ∨ InG (boxG ins gs) b) outs (outL _ r) gs' vs ∧
      SlotsR w' (fun b => M0 b ∨ InG gs' b ∨ InG (boxG ins gs) b) (finsOf ins) (outR _ r) (boxG ins gs) fs ∧
      Apart (gs' ++ boxG ins gs) ∧ ∀ b, InG gs' b → b < w'.heap.size ∧ (w.heap.size ≤ b ∨ InG gs b)) .ret a' w' := by
    intro hk
    obtain ⟨vs, hres, hvs⟩ := res_run h' hty fn.results.toList hB5 (takeSlots_undef hk)
    have hfs := finTV_R h' ins 0 (by simpa using hlo)
    obtain ⟨y, mu, fz, hk, hfz, hmu, hbo, hlen, hmn, hsl1⟩ := takeSlots_sound h' (LeS.refl _) outs _ _ _ _ hk hvs
    obtain ⟨z, mu', fz', hk, hfz', hmu', hbo', hlen', hmn', hsl2⟩ := takeSlots_sound h' (LeS.refl _) (finsOf ins) _ _ _ _ hk hfs
    rcases cond_some hk with ⟨hok, hk⟩ | ⟨_, hk⟩
    case inr => cases hk
    injection hk with hk
    obtain ⟨hnd, hdis⟩ := okNames_spec hok
    have hfzz := hfz.append hfz'
    obtain ⟨hR1, _, _⟩ := h'.fz hfzz
    have hs1 := hsl1 (fz ++ fz') hfzz (fun y hy => List.mem_append_left _ hy) (fun n hn e he => hdis n (List.mem_append_left _ hn) e he)
    have hs2 := hsl2 (fz ++ fz') hfzz (fun y hy => List.mem_append_right _ hy) (fun n hn e he => hdis n (List.mem_append_right _ hn) e he)
    have hmn1 : ∀ n ∈ mu ++ mu', ∃ blk, applyE s.blk (fz ++ fz') n = some blk ∧ blk.isMut = true := by
      intro n hn
      rw [applyE_notin (hdis n hn)]
      rcases List.mem_append.1 hn with hn | hn
      · exact (hmn n hn).1
      · exact (hmn' n hn).1
    have hmm : mu ++ mu' = (nsOf outs (fn.results.toList.map (resTV cx s)) ++ nsOf (finsOf ins) (finTV s 0 ins)).filterMap _root_.id := by rw [List.filterMap_append, hmu, hmu']
    rw [hmm] at hnd hmn1
    obtain ⟨hap1, hsrc⟩ := apart_of_names hR1 _ hmn1 hnd
    rw [List.map_append] at hap1 hsrc
    generalize hgo : ((nsOf outs (fn.results.toList.map (resTV cx s))).map fun o => o.bind ρ') = go at hs1 hap1 hsrc
    generalize hgf : ((nsOf (finsOf ins) (finTV s 0 ins)).map fun o => o.bind ρ') = gf at hs2 hap1 hsrc
    have hsame : FinGs (finsOf ins) (boxG ins gs) (fvals (fun t => a'.tmps.getD t undef) 0 ins) := boxSame hsl fun j hj => by
      rw [Nat.zero_add] at hj ⊢; exact h'.kept j hj
    obtain ⟨hs3, hsm⟩ := boxSwap (finsOf_box ins) hs2 hsame
    have hMu : ∀ b k, some (b, k) ∈ go ++ gf → b < w'.heap.size ∧ (w.heap.size ≤ b ∨ InG gs b) ∧ MM { w0 := w, M0 := M0, B := fun b => InG gs b, lo := boxIdx 0 ins, N := fn.ntmps, keep := fun t => us.getD t undef } (applyE s.blk (fz ++ fz')) ρ' b := by
      intro b k hbk
      obtain ⟨n, h3, h4⟩ := hsrc b k hbk
      obtain ⟨blk, h5, h6⟩ := hmn1 n h3
      have := hR1.mutn n blk b k h5 h6 h4
      exact ⟨this.1, this.2.1, .inr ⟨n, blk, k, h5, h6, h4⟩⟩
    have hM : ∀ b, (M0 b ∨ InG go b ∨ InG (boxG ins gs) b) → MM { w0 := w, M0 := M0, B := fun b => InG gs b, lo := boxIdx 0 ins, N := fn.ntmps, keep := fun t => us.getD t undef } (applyE s.blk (fz ++ fz')) ρ' b := by
      rintro b (hb | ⟨k, hb⟩ | hb)
      · exact .inl hb
      · exact (hMu b k (List.mem_append_left _ hb)).2.2
      · obtain ⟨k, hb⟩ := (InG_same hsm b).2 hb
        exact (hMu b k (List.mem_append_right _ hb)).2.2
    refine ⟨h'.defers, retV vs, results_run hres, go, vs, fvals (fun t => a'.tmps.getD t undef) 0 ins, rfl, ⟨h'.os, h'.tape, h'.output, h'.hsize, h'.old⟩, ?_, ?_, Apart_same ((SameB_refl go).append hsm) hap1, fun b ⟨k, hb⟩ => ?_⟩
    · rw [← hk, (outLR _ _ _).1]; exact SlotsR_mono hM hs1
    · rw [← hk, (outLR _ _ _).2]; exact SlotsR_mono hM hs3
    · have := hMu b k (List.mem_append_left _ hb)
      exact ⟨this.1, this.2.1⟩
  cases e with
  | exit i => cases hk'
  | normal => exact fin hk'
  | ret => exact fin hk'

/-- a function that calls itself -/
theorem spec_lim {id : FuncId} {ins outs : List Slot} {F : Nat → den ins → Option (Out outs (finsOf ins))} (h : ∀ n, Spec P id ⟨ins, outs, F n⟩) : Spec P id ⟨ins, outs, fun x => lim fun n => F n x⟩ := by
  refine ⟨(h 0).1, fun w M0 x gs us r hM0 hsl hap hg hr => ?_⟩
  have hr : lim (fun n => F n x) = some r := hr
  unfold lim at hr
  split at hr
  · rename_i hex
    injection hr with hr
    obtain ⟨n, hn⟩ := hex.choose_spec
    have := hn n (Nat.le_refl _)
    rw [hr] at this
    exact (h n).2 w M0 x gs us r hM0 hsl hap hg this
  · cases hr
theorem spec_none {id : FuncId} {fn : Func} (hf : P.funcs[id]? = some fn) (hn : (fn.name == "runtime.NumGoroutine") = false) {body : Code} (hb : fn.body = some body) {ins outs : List Slot} : Spec P id ⟨ins, outs, fun _ => none⟩ :=
  ⟨⟨fn, hf, hn, by rw [hb]; rfl⟩, fun _ _ _ _ _ _ _ _ _ _ h => by cases h⟩
end Go.ZM
end
end

section
/- What came in, read as a value; a law's call. -/
noncomputable section
namespace Go.ZM
open Go

/-- the numbers are of their kinds, and nothing is longer than a slice can be -/
def Rng : (t : Ty) → t.den → Prop
  | .int k, x => (Lit.int k x).wf = true
  | .bool, _ => True
  | .str, s => ByteArray.size s ≤ maxLen
  | .slice t, xs => List.length (α := t.den) xs ≤ maxLen ∧ ∀ x, List.Mem (α := t.den) x xs → Rng t x
  | .struct t, x => Rng t x
  | .pair a b, x => Rng a x.1 ∧ Rng b x.2
  | .unit, _ => True

/-- the program's type is read as ours -/
def rd (P : Program) : Ty → List (Nat × TypeId) → Nat → Bool
  | .int k, [(o, t)], off => Nat.beq o off && (Nat.beq (P.cellsOf t) 1 && (match P.underlying t with | some (.int k') => decide (k' = k) | _ => false))
  | .bool, [(o, t)], off => Nat.beq o off && (Nat.beq (P.cellsOf t) 1 && (match P.underlying t with | some .bool => true | _ => false))
  | .str, [(o, t)], off => Nat.beq o off && (Nat.beq (P.cellsOf t) 1 && (match P.underlying t with | some .string => true | _ => false))
  | .slice s, [(o, t)], off => Nat.beq o off && (Nat.beq (P.cellsOf t) 1 && (match P.underlying t with
      | some (.slice e) => Nat.beq (P.cellsOf e) s.size && (Nat.blt 0 s.size && rd P s [(0, e)] 0)
      | _ => false))
  | .struct s, [(o, t)], off => Nat.beq o off && (Nat.beq (P.cellsOf t) s.size && (match P.underlying t with
      | some (.struct fs) => rd P s (fs.toList.map fun f => (f.offset, f.type)) 0
      | _ => false))
  | .pair a b, (o, t) :: p :: r, off => rd P a [(o, t)] off && rd P b (p :: r) (off + a.size)
  | _, _, _ => false

theorem mapM_all {α β : Type} {f : α → Option β} : ∀ {l : List α} {r : List β}, l.mapM f = some r → ∀ x ∈ l, ∃ y, f x = some y
  | [], _, _, _, hx => by cases hx
  | a :: l, r, h, x, hx => by
    rw [List.mapM_cons] at h
    simp only [Option.bind_eq_bind, Option.bind_eq_some_iff] at h
    obtain ⟨y, h1, ys, h2, _⟩ := h
    rcases List.mem_cons.1 hx with e | hx
    · exact ⟨y, e ▸ h1⟩
    · exact mapM_all h2 x hx

theorem mapM_range {β : Type} {f : Nat → Option β} : ∀ {n : Nat} {r : List β}, (List.range n).mapM f = some r → r.length = n ∧ ∀ i, i < n → f i = r[i]? := by
  intro n
  induction n with
  | zero => intro r h; simp at h; subst h; exact ⟨rfl, fun i hi => by omega⟩
  | succ n ih =>
    intro r h
    rw [List.range_succ, List.mapM_append] at h
    simp only [Option.bind_eq_bind, Option.bind_eq_some_iff, List.mapM_cons, List.mapM_nil] at h
    obtain ⟨ys, h1, z, ⟨y, h2, z', h3, h4⟩, h5⟩ := h
    cases h3; cases h4; cases h5
    obtain ⟨hl, hi⟩ := ih h1
    refine ⟨by simp [hl], fun i hlt => ?_⟩
    rcases Nat.lt_or_ge i n with h | h
    · rw [hi i h, List.getElem?_append_left (by omega)]
    · have : i = n := by omega
      subst this
      rw [h2, List.getElem?_append_right (by omega), hl]; simp

section
variable {H : Type} {enc : TypeId × Value → H} {P : Program} {w : World} {base : Nat} {spare : Nat → Bool} {held : Bool} {M : Nat → Prop}

theorem cell_lt {b off : Nat} {v : Value} (h : w.cell? ⟨b, off, none⟩ = some v) : b < w.heap.size := by
  unfold World.cell? at h
  split at h
  · rename_i hb; exact (Array.getElem?_eq_some_iff.1 hb).1
  · cases h

theorem cell_spot {a : Addr} {v : Value} (h : w.cell? a = some v) : a = ⟨a.block, a.off, none⟩ := by
  unfold World.cell? at h
  split at h
  · split at h
    · cases h
    · rename_i hs
      rcases a with ⟨b, o, s⟩
      cases s with
      | none => rfl
      | some s => simp at hs
  · cases h

theorem add_spot {a : Addr} (n : Nat) (h : a.spot = none) : a.add n = ⟨a.block, a.off + n, none⟩ := by
  unfold Addr.add
  split
  · rename_i e; subst e; rcases a with ⟨b, o, s⟩; simp at h; subst h; rfl
  · rfl

/-- a row of cells -/
theorem cellsQ_at {a : Addr} {n : Nat} {cs : List Value} (h : w.cells? base a n = some cs) : cs.length = n ∧ ∀ j, j < n → w.cell? (a.add j) = cs[j]? := by
  unfold World.cells? at h
  split at h
  · exact mapM_range h
  · cases h

theorem build_cat {α : Type} {R : α → List Value → Prop} {b off sz : Nat} {Q : α → Prop} : ∀ (n : Nat), (∀ i, i < n → ∃ chunk, chunk.length = sz ∧ At w b (off + i * sz) chunk ∧ ∃ y, R y chunk ∧ Q y) →
    ∃ xs cells, List.length xs = n ∧ Cat R xs cells ∧ At w b off cells ∧ cells.length = n * sz ∧ ∀ y ∈ xs, Q y
  | 0, _ => ⟨[], [], rfl, rfl, fun j v h => by simp at h, by simp, fun y hy => by cases hy⟩
  | n + 1, h => by
    obtain ⟨xs, cells, h1, h2, h3, h4, h5⟩ := build_cat n fun i hi => h i (by omega)
    obtain ⟨chunk, g1, g2, y, g3, g4⟩ := h n (by omega)
    refine ⟨xs ++ [y], cells ++ chunk, by simp [h1], Cat_append _ _ _ _ h2 (Cat_single g3), ?_, by rw [List.length_append, h4, g1, Nat.add_mul, Nat.one_mul], ?_⟩
    · intro j v hv
      rw [List.getElem?_append] at hv
      split at hv
      · exact h3 j v hv
      · have := g2 (j - cells.length) v hv
        rw [show off + n * sz + (j - cells.length) = off + j by omega] at this
        exact this
    · intro z hz
      rcases List.mem_append.1 hz with hz | hz
      · exact h5 z hz
      · rw [List.mem_singleton.1 hz]; exact g4

theorem one_of_len {cs : List Value} {off : Nat} (h : cs.length = off + 1) {t : TypeId} (hc : P.cellsOf t = 1) : (cs.drop off).take (P.cellsOf t) = cs.drop off :=
  List.take_of_length_le (by rw [List.length_drop]; omega)

theorem rd_atom {ty : Ty} {o t off : Nat} {cs : List Value} (h1 : Nat.beq o off = true) (h2 : Nat.beq (P.cellsOf t) ty.size = true) (hl : cs.length = off + ty.size)
    (ht : ∀ p ∈ [(o, t)], ∃ fuel r, DataW.trod enc P w base spare held fuel p.2 ((cs.drop p.1).take (P.cellsOf p.2)) = some r) :
    ∃ fuel r, DataW.trod enc P w base spare held fuel t (cs.drop off) = some r := by
  obtain ⟨fuel, r, h⟩ := ht _ (List.mem_singleton.2 rfl)
  have e1 := Nat.eq_of_beq_eq_true h1
  have e2 := Nat.eq_of_beq_eq_true h2
  subst e1
  refine ⟨fuel, r, ?_⟩
  simp only at h
  rw [List.take_of_length_le (by rw [List.length_drop]; omega)] at h
  exact h

theorem rd_read (hM : ∀ b, ¬ M b) : ∀ (ty : Ty) (l : List (Nat × TypeId)) (off : Nat) (cs : List Value), rd P ty l off = true → cs.length = off + ty.size →
    (∀ p ∈ l, ∃ fuel r, DataW.trod enc P w base spare held fuel p.2 ((cs.drop p.1).take (P.cellsOf p.2)) = some r) → ∃ x : ty.den, K w M ty x (cs.drop off) ∧ Rng ty x
  | .int k, [(o, t)], off, cs, h, hl, ht => by
    simp only [rd, Bool.and_eq_true] at h
    obtain ⟨h1, h2, h3⟩ := h
    obtain ⟨fuel, r, hf⟩ := rd_atom (ty := .int k) h1 h2 hl ht
    split at h3
    case h_2 => cases h3
    rename_i k' hu
    have hk : k' = k := by simpa using h3
    subst hk
    obtain ⟨n, hc, _, hw⟩ := DataW.trod_int hu hf
    exact ⟨n, hc, hw⟩
  | .bool, [(o, t)], off, cs, h, hl, ht => by
    simp only [rd, Bool.and_eq_true] at h
    obtain ⟨h1, h2, h3⟩ := h
    obtain ⟨fuel, r, hf⟩ := rd_atom (ty := .bool) h1 h2 hl ht
    split at h3
    case h_2 => cases h3
    rename_i hu
    obtain ⟨n, hc, _⟩ := DataW.trod_bool hu hf
    exact ⟨n, hc, trivial⟩
  | .str, [(o, t)], off, cs, h, hl, ht => by
    simp only [rd, Bool.and_eq_true] at h
    obtain ⟨h1, h2, h3⟩ := h
    obtain ⟨fuel, r, hf⟩ := rd_atom (ty := .str) h1 h2 hl ht
    split at h3
    case h_2 => cases h3
    rename_i hu
    obtain ⟨n, hc, _, hw⟩ := DataW.trod_string hu hf
    exact ⟨n, hc, hw⟩
  | .slice s, [(o, t)], off, cs, h, hl, ht => by
    simp only [rd, Bool.and_eq_true] at h
    obtain ⟨h1, h2, h3⟩ := h
    obtain ⟨fuel, r, hf⟩ := rd_atom (ty := .slice s) h1 h2 hl ht
    split at h3
    case h_2 => cases h3
    rename_i e hu
    simp only [Bool.and_eq_true] at h3
    obtain ⟨h4, h5, h6⟩ := h3
    have e4 := Nat.eq_of_beq_eq_true h4
    have e5 : 0 < s.size := by simpa [Nat.blt_eq] using h5
    rcases DataW.trod_slice hu hf with ⟨hc, _⟩ | ⟨a, len, cap, elems, rest, n, _, hc, _, _, hle, hcap, hlen, hel, _, _⟩
    · exact ⟨([] : List s.den), ⟨none, 0, hc, Nat.le_refl _, fun h => absurd rfl h⟩, Nat.zero_le _, fun x hx => by cases hx⟩
    · obtain ⟨xs, cells, g1, g2, g3, _, g5⟩ := build_cat (R := K w M s) (b := a.block) (off := a.off) (sz := s.size) (Q := Rng s) len fun i hi => by
        have hx := hel i hi
        have : i < elems.length := by omega
        rw [List.getElem?_eq_getElem this] at hx
        simp only [Option.bind_eq_some_iff] at hx
        obtain ⟨chunk, k1, k2⟩ := hx
        obtain ⟨k3, k4⟩ := cellsQ_at k1
        rw [e4] at k3 k4
        have hsp : a.spot = none := by
          have hx0 := hel 0 (by omega)
          have h0 : 0 < elems.length := by omega
          rw [List.getElem?_eq_getElem h0] at hx0
          simp only [Option.bind_eq_some_iff] at hx0
          obtain ⟨chunk0, j1, _⟩ := hx0
          obtain ⟨j3, j4⟩ := cellsQ_at j1
          rw [e4] at j3 j4
          have j5 := j4 0 e5
          rw [Nat.zero_mul] at j5
          have : 0 < chunk0.length := by omega
          rw [List.getElem?_eq_getElem this] at j5
          have j6 := cell_spot j5
          have j7 : a.add 0 = a := rfl
          rw [j7, j7] at j6
          rw [j6]
        refine ⟨chunk, k3, ?_, ?_⟩
        · intro j v hv
          have hj : j < chunk.length := (List.getElem?_eq_some_iff.1 hv).1
          have k5 := k4 j (by omega)
          rw [hv, add_spot _ hsp, add_spot _ rfl] at k5
          exact k5
        · obtain ⟨y, q1, q2⟩ := rd_read hM s [(0, e)] 0 chunk h6 (by omega) (by
            intro p hp
            rw [List.mem_singleton.1 hp]
            refine ⟨n, elems[i], ?_⟩
            show DataW.trod enc P w base spare held n e ((chunk.drop 0).take (P.cellsOf e)) = _
            rw [List.drop_zero, List.take_of_length_le (by omega)]; exact k2)
          exact ⟨y, q1, q2⟩
      refine ⟨xs, ⟨some a, cap, ?_, by omega, fun hne => ?_⟩, ?_, fun x hx => g5 x hx⟩
      · rw [hc, ← g1]
      · have hpos : 0 < len := by
          rcases Nat.eq_zero_or_pos len with e | e
          · rw [e] at g1; exact absurd (List.length_eq_zero_iff.1 g1) hne
          · exact e
        have hx0 := hel 0 hpos
        have h0 : 0 < elems.length := by omega
        rw [List.getElem?_eq_getElem h0] at hx0
        simp only [Option.bind_eq_some_iff] at hx0
        obtain ⟨chunk0, j1, _⟩ := hx0
        obtain ⟨j3, j4⟩ := cellsQ_at j1
        rw [e4] at j3 j4
        have j5 := j4 0 e5
        rw [Nat.zero_mul] at j5
        have : 0 < chunk0.length := by omega
        rw [List.getElem?_eq_getElem this] at j5
        have j7 : a.add 0 = a := rfl
        rw [j7, j7] at j5
        have j6 := cell_spot j5
        refine ⟨a.block, a.off, cells, by rw [← j6], ?_, hM _, g2, g3⟩
        rw [j6] at j5
        exact cell_lt j5
      · omega
  | .struct s, [(o, t)], off, cs, h, hl, ht => by
    simp only [rd, Bool.and_eq_true] at h
    obtain ⟨h1, h2, h3⟩ := h
    obtain ⟨fuel, r, hf⟩ := rd_atom (ty := .struct s) h1 h2 hl ht
    split at h3
    case h_2 => cases h3
    rename_i fs hu
    obtain ⟨xs, n, _, _, hlen, hxl, hfs⟩ := DataW.trod_struct hu hf
    obtain ⟨x, q1, q2⟩ := rd_read hM s _ 0 (cs.drop off) h3 (by rw [List.length_drop, hl]; show off + s.size - off = _; omega) (by
      intro p hp
      obtain ⟨f, hf1, rfl⟩ := List.mem_map.1 hp
      obtain ⟨i, hi, hfi⟩ := List.getElem_of_mem hf1
      have hi' : i < fs.size := by simpa using hi
      have hg := hfs i f (by rw [← hfi]; simp [hi'])
      have hix : i < xs.length := by omega
      rw [List.getElem?_eq_getElem hix] at hg
      exact ⟨n, _, hg⟩)
    rw [List.drop_zero] at q1
    exact ⟨x, q1, q2⟩
  | .pair a b, (o, t) :: p :: r, off, cs, h, hl, ht => by
    simp only [rd, Bool.and_eq_true] at h
    obtain ⟨h1, h2⟩ := h
    have hl' : cs.length = off + a.size + b.size := by rw [hl, Nat.add_assoc]; rfl
    have key : ∀ (l' : List (Nat × TypeId)), rd P a l' off = true → l' = [(o, t)] → P.cellsOf t = a.size ∧ o = off := by
      intro l' hr hl'
      subst hl'
      cases a <;> simp only [rd, Bool.and_eq_true] at hr <;> first | (cases hr; done) | exact ⟨Nat.eq_of_beq_eq_true hr.2.1, Nat.eq_of_beq_eq_true hr.1⟩ | skip
    obtain ⟨k1, k2⟩ := key _ h1 rfl
    obtain ⟨x, q1, q2⟩ := rd_read hM a [(o, t)] off (cs.take (off + a.size)) h1 (by rw [List.length_take]; omega) (by
      intro q hq
      rw [List.mem_singleton.1 hq]
      obtain ⟨fuel, r', hr⟩ := ht (o, t) (List.mem_cons_self ..)
      refine ⟨fuel, r', ?_⟩
      simp only at hr ⊢
      rw [k1, k2] at hr ⊢
      rw [List.drop_take, List.take_take, show min a.size (off + a.size - off) = a.size by omega]
      exact hr)
    obtain ⟨y, q3, q4⟩ := rd_read hM b (p :: r) (off + a.size) cs h2 hl' (fun q hq => ht q (List.mem_cons_of_mem _ hq))
    refine ⟨(x, y), ⟨(cs.take (off + a.size)).drop off, cs.drop (off + a.size), ?_, q1, q3⟩, q2, q4⟩
    rw [List.drop_take, show off + a.size - off = a.size by omega, ← List.drop_drop]
    exact (List.take_append_drop a.size (cs.drop off)).symm
  | .int _, [], _, _, h, _, _ => by simp [rd] at h
  | .bool, [], _, _, h, _, _ => by simp [rd] at h
  | .str, [], _, _, h, _, _ => by simp [rd] at h
  | .slice _, [], _, _, h, _, _ => by simp [rd] at h
  | .struct _, [], _, _, h, _, _ => by simp [rd] at h
  | .pair _ _, [], _, _, h, _, _ => by simp [rd] at h
  | .pair _ _, [_], _, _, h, _, _ => by simp [rd] at h
  | .unit, _, _, _, h, _, _ => by simp [rd] at h
  | .int _, _ :: _ :: _, _, _, h, _, _ => by simp [rd] at h
  | .bool, _ :: _ :: _, _, _, h, _, _ => by simp [rd] at h
  | .str, _ :: _ :: _, _, _, h, _, _ => by simp [rd] at h
  | .slice _, _ :: _ :: _, _, _, h, _, _ => by simp [rd] at h
  | .struct _, _ :: _ :: _, _, _, h, _, _ => by simp [rd] at h

/-- an argument that reads as data is a value -/
theorem read_val (hM : ∀ b, ¬ M b) {r : Reach} {b0 : Nat} {t : TypeId} {ty : Ty} (hrd : rd P ty [(0, t)] 0 = true) {v : Value} {d : DataW H} {ps : List MemPlace} (hval : Value.okWide P w r b0 t v) (hd : DataW.Trod enc P w base spare held t v d ps) :
    ∃ x : ty.den, SlotR w M (.val ty) x none v ∧ Rng ty x := by
  obtain ⟨fuel, hf⟩ := hd
  have fin : ∀ (hw : ty.whole = true) (hl : v.cells.toList.length = ty.size) (hc : P.cellsOf t = ty.size) (hv : v = (if ty.isAgg then .agg v.cells.toList.toArray else v.cells.toList.headD undef)), ∃ x : ty.den, SlotR w M (.val ty) x none v ∧ Rng ty x := by
    intro hw hl hc hv
    obtain ⟨x, q1, q2⟩ := rd_read (w := w) (cs := v.cells.toList) (enc := enc) (base := base) (spare := spare) (held := held) hM ty [(0, t)] 0 hrd (by omega) (by
      intro p hp
      rw [List.mem_singleton.1 hp]
      refine ⟨fuel, (d, ps), ?_⟩
      simp only [List.drop_zero]
      rw [List.take_of_length_le (by omega)]; exact hf)
    rw [List.drop_zero] at q1
    exact ⟨x, ⟨rfl, hw, _, q1, hv⟩, q2⟩
  cases ty with
  | int k =>
    simp only [rd, Bool.and_eq_true] at hrd
    obtain ⟨h1, h2, h3⟩ := hrd
    split at h3
    case h_2 => cases h3
    rename_i k' hu
    obtain ⟨n, hc, _⟩ := DataW.trod_int hu hf
    refine fin rfl (by rw [hc]; rfl) (Nat.eq_of_beq_eq_true h2) ?_
    cases v <;> simp_all [Value.cells, Value.okWide, Cell.okWide, Cell.ok, Ty.isAgg]
  | bool =>
    simp only [rd, Bool.and_eq_true] at hrd
    obtain ⟨h1, h2, h3⟩ := hrd
    split at h3
    case h_2 => cases h3
    rename_i hu
    obtain ⟨n, hc, _⟩ := DataW.trod_bool hu hf
    refine fin rfl (by rw [hc]; rfl) (Nat.eq_of_beq_eq_true h2) ?_
    cases v <;> simp_all [Value.cells, Value.okWide, Cell.okWide, Cell.ok, Ty.isAgg]
  | str =>
    simp only [rd, Bool.and_eq_true] at hrd
    obtain ⟨h1, h2, h3⟩ := hrd
    split at h3
    case h_2 => cases h3
    rename_i hu
    obtain ⟨n, hc, _⟩ := DataW.trod_string hu hf
    refine fin rfl (by rw [hc]; rfl) (Nat.eq_of_beq_eq_true h2) ?_
    cases v <;> simp_all [Value.cells, Value.okWide, Cell.okWide, Cell.ok, Ty.isAgg]
  | slice s =>
    simp only [rd, Bool.and_eq_true] at hrd
    obtain ⟨h1, h2, h3⟩ := hrd
    split at h3
    case h_2 => cases h3
    rename_i e hu
    have hc : ∃ a len cap, v.cells.toList = [.slice a len cap] := by
      rcases DataW.trod_slice hu hf with ⟨hc, _⟩ | ⟨a, len, cap, _, _, _, _, hc, _⟩
      · exact ⟨_, _, _, hc⟩
      · exact ⟨_, _, _, hc⟩
    obtain ⟨a, len, cap, hc⟩ := hc
    refine fin rfl (by rw [hc]; rfl) (Nat.eq_of_beq_eq_true h2) ?_
    cases v <;> simp_all [Value.cells, Value.okWide, Cell.okWide, Cell.ok, Ty.isAgg]
  | struct s =>
    simp only [rd, Bool.and_eq_true] at hrd
    obtain ⟨h1, h2, h3⟩ := hrd
    split at h3
    case h_2 => cases h3
    rename_i fs hu
    obtain ⟨xs, n, _, _, hlen, _⟩ := DataW.trod_struct hu hf
    have e2 := Nat.eq_of_beq_eq_true h2
    simp only [Value.okWide, hu] at hval
    obtain ⟨cs, rfl, _⟩ := hval
    exact fin rfl (by rw [hlen, e2]; rfl) e2 (by simp [Ty.isAgg, Value.cells])
  | pair a b => simp [rd] at hrd
  | unit => simp [rd] at hrd

theorem noneG {n : Nat} {b : Nat} : ¬ InG (List.replicate n (none : Gh)) b := fun ⟨k, h⟩ => by
  have := List.eq_of_mem_replicate h
  cases this
theorem noneA : ∀ (n : Nat), Apart (List.replicate n (none : Gh))
  | 0 => trivial
  | n + 1 => ⟨(fun b k h => by cases h), noneA n⟩

/-- a law's call, its arguments as values -/
theorem law_call {id : FuncId} {ins : List Slot} {f : den ins → Option (Out [.val .bool] (finsOf ins))} (h : Spec P id ⟨ins, [.val .bool], f⟩) {x : den ins} {us : List Value}
    (hs : SlotsR w (fun _ => False) ins x (List.replicate us.length none) us) (hf : ∃ r, f x = some r ∧ outL (outs := [.val .bool]) (finsOf ins) r = true) :
    Calls P id us.toArray w fun e w' => e = .returned (.bool true) ∧ RowKit.Below w.heap.size w w' := by
  obtain ⟨r, hf, hr⟩ := hf
  refine (h.2 w (fun _ => False) x _ us r (fun b h => h.elim) (SlotsR_mono (fun b hb => hb.elim (fun h => h) fun h => noneG h) hs) (noneA _) (fun b hb => (noneG hb).elim) hf).mono ?_
  rintro e w' ⟨gs', vs, fs, he, hp, hv, _, _, _⟩
  simp only at hv
  rw [hr] at hv
  obtain ⟨g, v, _, rfl, hv⟩ := hv
  obtain ⟨_, _, cs, hk, hv⟩ := hv
  have hk : cs = [.bool true] := hk
  subst hk
  refine ⟨by rw [he]; show Ending.returned v = _; rw [hv]; rfl, hp.os, hp.tape, hp.output, hp.size, fun k hk => hp.heap k hk fun hg => noneG hg⟩
end
end Go.ZM
end
end

section
/- Contracts of many functions; loops without a bound. -/
noncomputable section
namespace Go.ZM
open Go
variable {P : Program}

theorem FnsOk_nil : FnsOk P [] := fun _ _ h => by cases h
theorem FnsOk_cons {id : Nat} {ct : Ctr} {r : List (Nat × Ctr)} (h : Spec P id ct) (hr : FnsOk P r) : FnsOk P ((id, ct) :: r) := by
  intro n c hn
  unfold lk? at hn
  cases hb : Nat.beq id n with
  | true => rw [hb] at hn; injection hn with hn; subst hn; rw [← Nat.eq_of_beq_eq_true hb]; exact h
  | false => rw [hb] at hn; exact hr n c hn

section
variable {γ α β : Type}
theorem lim_of {g : Nat → Option γ} {r : γ} (n : Nat) (h : ∀ k, n ≤ k → g k = some r) : lim g = some r := by
  unfold lim
  have hex : ∃ r n, ∀ k, n ≤ k → g k = some r := ⟨r, n, h⟩
  rw [dif_pos hex]
  obtain ⟨m, hm⟩ := hex.choose_spec
  have h1 := hm (n + m) (by omega)
  rw [h (n + m) (by omega)] at h1
  exact h1.symm
theorem lim_get {g : Nat → Option γ} {r : γ} (h : lim g = some r) : ∃ n, ∀ k, n ≤ k → g k = some r := by
  unfold lim at h
  split at h
  · rename_i hex
    injection h with h
    obtain ⟨n, hn⟩ := hex.choose_spec
    exact ⟨n, fun k hk => by rw [hn k hk, h]⟩
  · cases h
theorem lim_eq {g f : Nat → Option γ} (h : ∃ n, ∀ k, n ≤ k → g k = f k) : lim g = lim f := by
  obtain ⟨n, h⟩ := h
  cases hg : lim g with
  | some r =>
    obtain ⟨m, hm⟩ := lim_get hg
    exact (lim_of (n + m) fun k hk => by rw [← h k (by omega)]; exact hm k (by omega)).symm
  | none =>
    cases hf : lim f with
    | none => rfl
    | some r =>
      obtain ⟨m, hm⟩ := lim_get hf
      rw [lim_of (n + m) fun k hk => by rw [h k (by omega)]; exact hm k (by omega)] at hg
      cases hg
theorem lim_shift (g : Nat → Option γ) : lim g = lim (fun k => g (k + 1)) := by
  cases hg : lim g with
  | some r =>
    obtain ⟨m, hm⟩ := lim_get hg
    exact (lim_of m fun k hk => hm (k + 1) (by omega)).symm
  | none =>
    cases hf : lim (fun k => g (k + 1)) with
    | none => rfl
    | some r =>
      obtain ⟨m, hm⟩ := lim_get hf
      rw [lim_of (m + 1) fun k hk => by have := hm (k - 1) (by omega); rwa [show k - 1 + 1 = k by omega] at this] at hg
      cases hg
theorem lim_const (x : Option γ) : lim (fun _ => x) = x := by
  cases x with
  | some r => exact lim_of 0 fun _ _ => rfl
  | none =>
    cases h : lim (fun _ : Nat => (none : Option γ)) with
    | none => rfl
    | some r => obtain ⟨n, hn⟩ := lim_get h; exact (hn n (Nat.le_refl _)).symm
theorem lim_cond (b : Bool) (f g : Nat → Option γ) : lim (fun k => bif b then f k else g k) = bif b then lim f else lim g := by cases b <;> rfl
theorem lim_bind (o : Option α) (f : α → Nat → Option γ) : lim (fun k => o.bind fun t => f t k) = o.bind fun t => lim (f t) := by
  cases o with
  | none => exact lim_const none
  | some t => rfl
theorem lim_elim (s : α ⊕ β) (f : α → Nat → Option γ) (g : β → Nat → Option γ) : lim (fun k => Sum.elim (fun y => f y k) (fun z => g z k) s) = Sum.elim (fun y => lim (f y)) (fun z => lim (g z)) s := by cases s <;> rfl
end

theorem both_same {γ : Type} (x : Option γ) : both x x = x := by unfold both; rw [if_pos rfl]
end Go.ZM
end
end

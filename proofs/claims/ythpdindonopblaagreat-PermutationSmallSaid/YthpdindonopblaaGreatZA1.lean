/- The functions of the program, written as functions of values; no conditions. -/
import Derived.Test.YthpdindonopblaaGreatZM2
set_option linter.unusedVariables false
set_option linter.unusedSimpArgs false
set_option linter.unusedSectionVars false
section
/- The functions of package bits, as values. -/
set_option linter.unusedVariables false
set_option maxRecDepth 100000
noncomputable section
namespace Go.ZS
open Go Go.ZM
/- math/bits.Div32 -/
def bits_Div32.j3 (v0 : Int) (v1 : Int) (v2 : Int) : Option ((Int × Int)) :=
 bif decide ((IntKind.u64.wrap v2) = 0) then
 none
 else bif decide ((IntKind.u64.wrap v2) = 0) then
 none
 else some ((IntKind.u32.wrap (IntKind.u64.wrap ((bitOp .or .u64 (shlI .u64 (IntKind.u64.wrap v0) (32 : Int)) (IntKind.u64.wrap v1)).tdiv (IntKind.u64.wrap v2)))), (IntKind.u32.wrap ((bitOp .or .u64 (shlI .u64 (IntKind.u64.wrap v0) (32 : Int)) (IntKind.u64.wrap v1)).tmod (IntKind.u64.wrap v2))))

def bits_Div32 (a0 : Int) (a1 : Int) (a2 : Int) : Option (Int × Int) :=
 bif (!decide (a2 = (0 : Int))) then
 bif (decide (a2 ≤ a0)) then
 none
 else (bits_Div32.j3 a0 a1 a2).bind fun o1 =>
 some (o1.1, o1.2)
 else (bits_Div32.j3 a0 a1 a2).bind fun o2 =>
 some (o2.1, o2.2)

/- math/bits.Len32 -/
def bits_Len32.j4 (v0 : Int) (v2 : Int) : Option (Int) :=
 bif (decide ((256 : Int) ≤ v0)) then
 bif inb (IntKind.u8.wrap (shrI .u32 v0 (8 : Int))) (ByteArray.size (ByteArray.mk #[0, 1, 2, 2, 3, 3, 3, 3, 4, 4, 4, 4, 4, 4, 4, 4, 5, 5, 5, 5, 5, 5, 5, 5, 5, 5, 5, 5, 5, 5, 5, 5, 6, 6, 6, 6, 6, 6, 6, 6, 6, 6, 6, 6, 6, 6, 6, 6, 6, 6, 6, 6, 6, 6, 6, 6, 6, 6, 6, 6, 6, 6, 6, 6, 7, 7, 7, 7, 7, 7, 7, 7, 7, 7, 7, 7, 7, 7, 7, 7, 7, 7, 7, 7, 7, 7, 7, 7, 7, 7, 7, 7, 7, 7, 7, 7, 7, 7, 7, 7, 7, 7, 7, 7, 7, 7, 7, 7, 7, 7, 7, 7, 7, 7, 7, 7, 7, 7, 7, 7, 7, 7, 7, 7, 7, 7, 7, 7, 8, 8, 8, 8, 8, 8, 8, 8, 8, 8, 8, 8, 8, 8, 8, 8, 8, 8, 8, 8, 8, 8, 8, 8, 8, 8, 8, 8, 8, 8, 8, 8, 8, 8, 8, 8, 8, 8, 8, 8, 8, 8, 8, 8, 8, 8, 8, 8, 8, 8, 8, 8, 8, 8, 8, 8, 8, 8, 8, 8, 8, 8, 8, 8, 8, 8, 8, 8, 8, 8, 8, 8, 8, 8, 8, 8, 8, 8, 8, 8, 8, 8, 8, 8, 8, 8, 8, 8, 8, 8, 8, 8, 8, 8, 8, 8, 8, 8, 8, 8, 8, 8, 8, 8, 8, 8, 8, 8, 8, 8, 8, 8, 8, 8, 8, 8, 8, 8, 8, 8, 8, 8, 8, 8, 8, 8, 8, 8])) then
 some (IntKind.i64.wrap ((IntKind.i64.wrap (v2 + (8 : Int))) + (IntKind.i64.wrap (byteAt (ByteArray.mk #[0, 1, 2, 2, 3, 3, 3, 3, 4, 4, 4, 4, 4, 4, 4, 4, 5, 5, 5, 5, 5, 5, 5, 5, 5, 5, 5, 5, 5, 5, 5, 5, 6, 6, 6, 6, 6, 6, 6, 6, 6, 6, 6, 6, 6, 6, 6, 6, 6, 6, 6, 6, 6, 6, 6, 6, 6, 6, 6, 6, 6, 6, 6, 6, 7, 7, 7, 7, 7, 7, 7, 7, 7, 7, 7, 7, 7, 7, 7, 7, 7, 7, 7, 7, 7, 7, 7, 7, 7, 7, 7, 7, 7, 7, 7, 7, 7, 7, 7, 7, 7, 7, 7, 7, 7, 7, 7, 7, 7, 7, 7, 7, 7, 7, 7, 7, 7, 7, 7, 7, 7, 7, 7, 7, 7, 7, 7, 7, 8, 8, 8, 8, 8, 8, 8, 8, 8, 8, 8, 8, 8, 8, 8, 8, 8, 8, 8, 8, 8, 8, 8, 8, 8, 8, 8, 8, 8, 8, 8, 8, 8, 8, 8, 8, 8, 8, 8, 8, 8, 8, 8, 8, 8, 8, 8, 8, 8, 8, 8, 8, 8, 8, 8, 8, 8, 8, 8, 8, 8, 8, 8, 8, 8, 8, 8, 8, 8, 8, 8, 8, 8, 8, 8, 8, 8, 8, 8, 8, 8, 8, 8, 8, 8, 8, 8, 8, 8, 8, 8, 8, 8, 8, 8, 8, 8, 8, 8, 8, 8, 8, 8, 8, 8, 8, 8, 8, 8, 8, 8, 8, 8, 8, 8, 8, 8, 8, 8, 8, 8, 8, 8, 8, 8, 8, 8, 8]) (IntKind.u8.wrap (shrI .u32 v0 (8 : Int)))))))
 else none
 else bif inb (IntKind.u8.wrap v0) (ByteArray.size (ByteArray.mk #[0, 1, 2, 2, 3, 3, 3, 3, 4, 4, 4, 4, 4, 4, 4, 4, 5, 5, 5, 5, 5, 5, 5, 5, 5, 5, 5, 5, 5, 5, 5, 5, 6, 6, 6, 6, 6, 6, 6, 6, 6, 6, 6, 6, 6, 6, 6, 6, 6, 6, 6, 6, 6, 6, 6, 6, 6, 6, 6, 6, 6, 6, 6, 6, 7, 7, 7, 7, 7, 7, 7, 7, 7, 7, 7, 7, 7, 7, 7, 7, 7, 7, 7, 7, 7, 7, 7, 7, 7, 7, 7, 7, 7, 7, 7, 7, 7, 7, 7, 7, 7, 7, 7, 7, 7, 7, 7, 7, 7, 7, 7, 7, 7, 7, 7, 7, 7, 7, 7, 7, 7, 7, 7, 7, 7, 7, 7, 7, 8, 8, 8, 8, 8, 8, 8, 8, 8, 8, 8, 8, 8, 8, 8, 8, 8, 8, 8, 8, 8, 8, 8, 8, 8, 8, 8, 8, 8, 8, 8, 8, 8, 8, 8, 8, 8, 8, 8, 8, 8, 8, 8, 8, 8, 8, 8, 8, 8, 8, 8, 8, 8, 8, 8, 8, 8, 8, 8, 8, 8, 8, 8, 8, 8, 8, 8, 8, 8, 8, 8, 8, 8, 8, 8, 8, 8, 8, 8, 8, 8, 8, 8, 8, 8, 8, 8, 8, 8, 8, 8, 8, 8, 8, 8, 8, 8, 8, 8, 8, 8, 8, 8, 8, 8, 8, 8, 8, 8, 8, 8, 8, 8, 8, 8, 8, 8, 8, 8, 8, 8, 8, 8, 8, 8, 8, 8, 8])) then
 some (IntKind.i64.wrap (v2 + (IntKind.i64.wrap (byteAt (ByteArray.mk #[0, 1, 2, 2, 3, 3, 3, 3, 4, 4, 4, 4, 4, 4, 4, 4, 5, 5, 5, 5, 5, 5, 5, 5, 5, 5, 5, 5, 5, 5, 5, 5, 6, 6, 6, 6, 6, 6, 6, 6, 6, 6, 6, 6, 6, 6, 6, 6, 6, 6, 6, 6, 6, 6, 6, 6, 6, 6, 6, 6, 6, 6, 6, 6, 7, 7, 7, 7, 7, 7, 7, 7, 7, 7, 7, 7, 7, 7, 7, 7, 7, 7, 7, 7, 7, 7, 7, 7, 7, 7, 7, 7, 7, 7, 7, 7, 7, 7, 7, 7, 7, 7, 7, 7, 7, 7, 7, 7, 7, 7, 7, 7, 7, 7, 7, 7, 7, 7, 7, 7, 7, 7, 7, 7, 7, 7, 7, 7, 8, 8, 8, 8, 8, 8, 8, 8, 8, 8, 8, 8, 8, 8, 8, 8, 8, 8, 8, 8, 8, 8, 8, 8, 8, 8, 8, 8, 8, 8, 8, 8, 8, 8, 8, 8, 8, 8, 8, 8, 8, 8, 8, 8, 8, 8, 8, 8, 8, 8, 8, 8, 8, 8, 8, 8, 8, 8, 8, 8, 8, 8, 8, 8, 8, 8, 8, 8, 8, 8, 8, 8, 8, 8, 8, 8, 8, 8, 8, 8, 8, 8, 8, 8, 8, 8, 8, 8, 8, 8, 8, 8, 8, 8, 8, 8, 8, 8, 8, 8, 8, 8, 8, 8, 8, 8, 8, 8, 8, 8, 8, 8, 8, 8, 8, 8, 8, 8, 8, 8, 8, 8, 8, 8, 8, 8, 8, 8]) (IntKind.u8.wrap v0)))))
 else none

def bits_Len32 (a0 : Int) : Option (Int) :=
 bif (decide ((65536 : Int) ≤ a0)) then
 (bits_Len32.j4 (shrI .u32 a0 (16 : Int)) (16 : Int)).bind fun o1 =>
 some o1
 else (bits_Len32.j4 a0 (0 : Int)).bind fun o2 =>
 some o2

/- math/bits.LeadingZeros32 -/
def bits_LeadingZeros32 (a0 : Int) : Option (Int) :=
 (bits_Len32 a0).bind fun t4 =>
 some (IntKind.i64.wrap ((32 : Int) - t4))

/- math/bits.Sub32 -/
def bits_Sub32 (a0 : Int) (a1 : Int) (a2 : Int) : Option (Int × Int) :=
 some ((IntKind.u32.wrap ((IntKind.u32.wrap (a0 - a1)) - a2)), (shrI .u32 (bitOp .or .u32 (bitOp .and .u32 (bitOp .xor .u32 (if IntKind.u32.signed then -1 else IntKind.u32.max) a0) a1) (bitOp .and .u32 (bitOp .xor .u32 (if IntKind.u32.signed then -1 else IntKind.u32.max) (bitOp .xor .u32 a0 a1)) (IntKind.u32.wrap ((IntKind.u32.wrap (a0 - a1)) - a2)))) (31 : Int)))

/- math/bits.Add32 -/
def bits_Add32 (a0 : Int) (a1 : Int) (a2 : Int) : Option (Int × Int) :=
 some ((IntKind.u32.wrap (IntKind.u64.wrap ((IntKind.u64.wrap ((IntKind.u64.wrap a0) + (IntKind.u64.wrap a1))) + (IntKind.u64.wrap a2)))), (IntKind.u32.wrap (shrI .u64 (IntKind.u64.wrap ((IntKind.u64.wrap ((IntKind.u64.wrap a0) + (IntKind.u64.wrap a1))) + (IntKind.u64.wrap a2))) (32 : Int))))

end Go.ZS
end
end

section
/- The functions of package slices, as values. -/
set_option linter.unusedVariables false
set_option maxRecDepth 100000
noncomputable section
namespace Go.ZS
open Go Go.ZM
/- slices.Clone[[]uint32,uint32] -/
def slices_Clone (a0 : List Int) : Option (List Int) :=
 bif (Nat.beq (List.length a0) 0) then
 both (some ([] : List Int)) (bif apOk (List.length ([] : List Int)) (List.length a0) then
 some (([] : List Int) ++ a0)
 else none)
 else bif apOk (List.length ([] : List Int)) (List.length a0) then
 some (([] : List Int) ++ a0)
 else none

end Go.ZS
end
end

section
/- The functions of package natural, as values. -/
set_option linter.unusedVariables false
set_option maxRecDepth 100000
noncomputable section
namespace Go.ZS
open Go Go.ZM
/- robuststats/natural.Valid -/
def natural_Valid (a0 : List Int) : Option (Bool) :=
 bif (decide (((List.length a0 : Nat) : Int) = (0 : Int))) then
 some true
 else (idx a0 (IntKind.i64.wrap (((List.length a0 : Nat) : Int) - (1 : Int)))).bind fun t11 =>
 some (!decide (t11 = (0 : Int)))

/- robuststats/natural.value -/
def natural_value (a0 : List Int) : Option (List Int) :=
 (natural_Valid a0).bind fun t4 =>
 bif t4 then
 some a0
 else some ([] : List Int)

/- robuststats/natural.Compare -/
def natural_Compare.l7 : Nat → List Int → List Int → Int → Option (Unit ⊕ Int)
 | 0, _, _, _ => none
 | k + 1, v0, v1, v5 =>
 bif (decide ((0 : Int) ≤ v5)) then
 (idx v0 v5).bind fun t30 =>
 (idx v1 v5).bind fun t34 =>
 bif (decide (t30 < t34)) then
 some (.inr (-1 : Int))
 else (idx v0 v5).bind fun t40 =>
 (idx v1 v5).bind fun t44 =>
 bif (decide (t44 < t40)) then
 some (.inr (1 : Int))
 else natural_Compare.l7 k v0 v1 (IntKind.i64.wrap (v5 - (1 : Int)))
 else some (.inl ())
def natural_Compare.L7 (v0 : List Int) (v1 : List Int) (v5 : Int) : Option (Unit ⊕ Int) := lim fun k => natural_Compare.l7 k v0 v1 v5
theorem natural_Compare.L7_eq (v0 : List Int) (v1 : List Int) (v5 : Int) : natural_Compare.L7 v0 v1 v5 =
 bif (decide ((0 : Int) ≤ v5)) then
 (idx v0 v5).bind fun t30 =>
 (idx v1 v5).bind fun t34 =>
 bif (decide (t30 < t34)) then
 some (.inr (-1 : Int))
 else (idx v0 v5).bind fun t40 =>
 (idx v1 v5).bind fun t44 =>
 bif (decide (t44 < t40)) then
 some (.inr (1 : Int))
 else natural_Compare.L7 v0 v1 (IntKind.i64.wrap (v5 - (1 : Int)))
 else some (.inl ()) := by
  show lim (fun k => natural_Compare.l7 k v0 v1 v5) = _
  rw [lim_shift]
  simp only [natural_Compare.l7, lim_cond, lim_bind, lim_const, lim_elim]
  rfl

def natural_Compare (a0 : List Int) (a1 : List Int) : Option (Int) :=
 (natural_value a0).bind fun t7 =>
 (natural_value a1).bind fun t9 =>
 bif (!decide (((List.length t7 : Nat) : Int) = ((List.length t9 : Nat) : Int))) then
 bif (decide (((List.length t7 : Nat) : Int) < ((List.length t9 : Nat) : Int))) then
 some (-1 : Int)
 else some (1 : Int)
 else (natural_Compare.L7 t7 t9 (IntKind.i64.wrap (((List.length t7 : Nat) : Int) - (1 : Int)))).bind fun o1 =>
 Sum.elim (fun y2 =>
 some (0 : Int)) (fun z3 =>
 some z3) o1

/- robuststats/natural.Uint -/
def natural_Uint.l5 : Nat → Int → List Int → Int → Int → Option (Int)
 | 0, _, _, _, _ => none
 | k + 1, v2, v11, v12, v13 =>
 bif (decide (v13 < v12)) then
 (idx v11 v13).bind fun t16 =>
 bif decide ((IntKind.i64.wrap ((32 : Int) * v13)) < 0) then
 none
 else natural_Uint.l5 k (bitOp .or .u64 v2 (shlI .u64 (IntKind.u64.wrap t16) (IntKind.i64.wrap ((32 : Int) * v13)))) v11 v12 (IntKind.i64.wrap (v13 + (1 : Int)))
 else some v2
def natural_Uint.L5 (v2 : Int) (v11 : List Int) (v12 : Int) (v13 : Int) : Option (Int) := lim fun k => natural_Uint.l5 k v2 v11 v12 v13
theorem natural_Uint.L5_eq (v2 : Int) (v11 : List Int) (v12 : Int) (v13 : Int) : natural_Uint.L5 v2 v11 v12 v13 =
 bif (decide (v13 < v12)) then
 (idx v11 v13).bind fun t16 =>
 bif decide ((IntKind.i64.wrap ((32 : Int) * v13)) < 0) then
 none
 else natural_Uint.L5 (bitOp .or .u64 v2 (shlI .u64 (IntKind.u64.wrap t16) (IntKind.i64.wrap ((32 : Int) * v13)))) v11 v12 (IntKind.i64.wrap (v13 + (1 : Int)))
 else some v2 := by
  show lim (fun k => natural_Uint.l5 k v2 v11 v12 v13) = _
  rw [lim_shift]
  simp only [natural_Uint.l5, lim_cond, lim_bind, lim_const, lim_elim]
  rfl

def natural_Uint (a0 : List Int) : Option (Int × Bool) :=
 (natural_value a0).bind fun t7 =>
 bif (decide ((2 : Int) < ((List.length t7 : Nat) : Int))) then
 some ((0 : Int), false)
 else (natural_Uint.L5 (0 : Int) t7 ((List.length t7 : Nat) : Int) (0 : Int)).bind fun o1 =>
 some (o1, true)

/- robuststats/natural.gcd -/
def natural_gcd.l1 : Nat → Int → Int → Option (Int)
 | 0, _, _ => none
 | k + 1, v0, v1 =>
 bif (!decide (v1 = (0 : Int))) then
 bif decide (v1 = 0) then
 none
 else natural_gcd.l1 k v1 (v0.tmod v1)
 else some v0
def natural_gcd.L1 (v0 : Int) (v1 : Int) : Option (Int) := lim fun k => natural_gcd.l1 k v0 v1
theorem natural_gcd.L1_eq (v0 : Int) (v1 : Int) : natural_gcd.L1 v0 v1 =
 bif (!decide (v1 = (0 : Int))) then
 bif decide (v1 = 0) then
 none
 else natural_gcd.L1 v1 (v0.tmod v1)
 else some v0 := by
  show lim (fun k => natural_gcd.l1 k v0 v1) = _
  rw [lim_shift]
  simp only [natural_gcd.l1, lim_cond, lim_bind, lim_const, lim_elim]
  rfl

def natural_gcd (a0 : Int) (a1 : Int) : Option (Int) :=
 (natural_gcd.L1 a0 a1).bind fun o1 =>
 some o1

/- robuststats/natural.trimmed -/
def natural_trimmed.l2 : Nat → List Int → Int → Option ((List Int × Int))
 | 0, _, _ => none
 | k + 1, v0, v3 =>
 bif (decide ((0 : Int) < v3)) then
 (idx v0 (IntKind.i64.wrap (v3 - (1 : Int)))).bind fun t12 =>
 bif (decide (t12 = (0 : Int))) then
 natural_trimmed.l2 k v0 (IntKind.i64.wrap (v3 - (1 : Int)))
 else some (v0, v3)
 else some (v0, v3)
def natural_trimmed.L2 (v0 : List Int) (v3 : Int) : Option ((List Int × Int)) := lim fun k => natural_trimmed.l2 k v0 v3
theorem natural_trimmed.L2_eq (v0 : List Int) (v3 : Int) : natural_trimmed.L2 v0 v3 =
 bif (decide ((0 : Int) < v3)) then
 (idx v0 (IntKind.i64.wrap (v3 - (1 : Int)))).bind fun t12 =>
 bif (decide (t12 = (0 : Int))) then
 natural_trimmed.L2 v0 (IntKind.i64.wrap (v3 - (1 : Int)))
 else some (v0, v3)
 else some (v0, v3) := by
  show lim (fun k => natural_trimmed.l2 k v0 v3) = _
  rw [lim_shift]
  simp only [natural_trimmed.l2, lim_cond, lim_bind, lim_const, lim_elim]
  rfl

def natural_trimmed (a0 : List Int) : Option (List Int) :=
 (natural_trimmed.L2 a0 ((List.length a0 : Nat) : Int)).bind fun o1 =>
 bif slOk (0 : Int) o1.2 (List.length o1.1) then
 some (sub o1.1 (0 : Int) o1.2)
 else none

/- robuststats/natural.FromUint -/
def natural_FromUint (a0 : Int) : Option (List Int) :=
 (natural_trimmed ([(IntKind.u32.wrap a0), (IntKind.u32.wrap (shrI .u64 a0 (32 : Int)))] : List Int)).bind fun t9 =>
 some t9

/- robuststats/natural.short -/
def natural_short.l3 : Nat → List Int → Int → List Int → Int → Int → Option ((List Int × Int))
 | 0, _, _, _, _, _ => none
 | k + 1, v0, v1, v4, v5, v6 =>
 bif (decide ((0 : Int) ≤ v6)) then
 (idx v0 v6).bind fun t23 =>
 (bits_Div32 v5 t23 v1).bind fun t26 =>
 bif inb v6 (List.length v4) then
 (v4[v6.toNat]?).bind fun x1 =>
 natural_short.l3 k v0 v1 (v4.set v6.toNat t26.1) t26.2 (IntKind.i64.wrap (v6 - (1 : Int)))
 else none
 else some (v4, v5)
def natural_short.L3 (v0 : List Int) (v1 : Int) (v4 : List Int) (v5 : Int) (v6 : Int) : Option ((List Int × Int)) := lim fun k => natural_short.l3 k v0 v1 v4 v5 v6
theorem natural_short.L3_eq (v0 : List Int) (v1 : Int) (v4 : List Int) (v5 : Int) (v6 : Int) : natural_short.L3 v0 v1 v4 v5 v6 =
 bif (decide ((0 : Int) ≤ v6)) then
 (idx v0 v6).bind fun t23 =>
 (bits_Div32 v5 t23 v1).bind fun t26 =>
 bif inb v6 (List.length v4) then
 (v4[v6.toNat]?).bind fun x1 =>
 natural_short.L3 v0 v1 (v4.set v6.toNat t26.1) t26.2 (IntKind.i64.wrap (v6 - (1 : Int)))
 else none
 else some (v4, v5) := by
  show lim (fun k => natural_short.l3 k v0 v1 v4 v5 v6) = _
  rw [lim_shift]
  simp only [natural_short.l3, lim_cond, lim_bind, lim_const, lim_elim]
  rfl

def natural_short (a0 : List Int) (a1 : Int) : Option (List Int × Int) :=
 bif mkOk ((List.length a0 : Nat) : Int) ((List.length a0 : Nat) : Int) then
 (natural_short.L3 a0 a1 (List.replicate ((List.length a0 : Nat) : Int).toNat (0 : Int)) (0 : Int) (IntKind.i64.wrap (((List.length a0 : Nat) : Int) - (1 : Int)))).bind fun o2 =>
 (natural_trimmed o2.1).bind fun t31 =>
 some (t31, o2.2)
 else none

/- robuststats/natural.shifted -/
def natural_shifted.l3 : Nat → Int → List Int → List Int → Int → Int → Option (List Int)
 | 0, _, _, _, _, _ => none
 | k + 1, v1, v5, v13, v14, v15 =>
 bif (decide (v15 < v14)) then
 (idx v13 v15).bind fun t18 =>
 bif decide (v1 < 0) then
 none
 else bif inb v15 (List.length v5) then
 (v5[v15.toNat]?).bind fun t27 =>
 bif inb v15 (List.length v5) then
 (v5[v15.toNat]?).bind fun x1 =>
 bif inb (IntKind.i64.wrap (v15 + (1 : Int))) (List.length (v5.set v15.toNat (bitOp .or .u32 t27 (IntKind.u32.wrap (shlI .u64 (IntKind.u64.wrap t18) v1))))) then
 ((v5.set v15.toNat (bitOp .or .u32 t27 (IntKind.u32.wrap (shlI .u64 (IntKind.u64.wrap t18) v1))))[(IntKind.i64.wrap (v15 + (1 : Int))).toNat]?).bind fun x2 =>
 natural_shifted.l3 k v1 ((v5.set v15.toNat (bitOp .or .u32 t27 (IntKind.u32.wrap (shlI .u64 (IntKind.u64.wrap t18) v1)))).set ((IntKind.i64.wrap (v15 + (1 : Int))).toNat) (IntKind.u32.wrap (shrI .u64 (shlI .u64 (IntKind.u64.wrap t18) v1) (32 : Int)))) v13 v14 (IntKind.i64.wrap (v15 + (1 : Int)))
 else none
 else none
 else none
 else some v5
def natural_shifted.L3 (v1 : Int) (v5 : List Int) (v13 : List Int) (v14 : Int) (v15 : Int) : Option (List Int) := lim fun k => natural_shifted.l3 k v1 v5 v13 v14 v15
theorem natural_shifted.L3_eq (v1 : Int) (v5 : List Int) (v13 : List Int) (v14 : Int) (v15 : Int) : natural_shifted.L3 v1 v5 v13 v14 v15 =
 bif (decide (v15 < v14)) then
 (idx v13 v15).bind fun t18 =>
 bif decide (v1 < 0) then
 none
 else bif inb v15 (List.length v5) then
 (v5[v15.toNat]?).bind fun t27 =>
 bif inb v15 (List.length v5) then
 (v5[v15.toNat]?).bind fun x1 =>
 bif inb (IntKind.i64.wrap (v15 + (1 : Int))) (List.length (v5.set v15.toNat (bitOp .or .u32 t27 (IntKind.u32.wrap (shlI .u64 (IntKind.u64.wrap t18) v1))))) then
 ((v5.set v15.toNat (bitOp .or .u32 t27 (IntKind.u32.wrap (shlI .u64 (IntKind.u64.wrap t18) v1))))[(IntKind.i64.wrap (v15 + (1 : Int))).toNat]?).bind fun x2 =>
 natural_shifted.L3 v1 ((v5.set v15.toNat (bitOp .or .u32 t27 (IntKind.u32.wrap (shlI .u64 (IntKind.u64.wrap t18) v1)))).set ((IntKind.i64.wrap (v15 + (1 : Int))).toNat) (IntKind.u32.wrap (shrI .u64 (shlI .u64 (IntKind.u64.wrap t18) v1) (32 : Int)))) v13 v14 (IntKind.i64.wrap (v15 + (1 : Int)))
 else none
 else none
 else none
 else some v5 := by
  show lim (fun k => natural_shifted.l3 k v1 v5 v13 v14 v15) = _
  rw [lim_shift]
  simp only [natural_shifted.l3, lim_cond, lim_bind, lim_const, lim_elim]
  rfl

def natural_shifted (a0 : List Int) (a1 : Int) : Option (List Int) :=
 bif mkOk (IntKind.i64.wrap (((List.length a0 : Nat) : Int) + (1 : Int))) (IntKind.i64.wrap (((List.length a0 : Nat) : Int) + (1 : Int))) then
 (natural_shifted.L3 a1 (List.replicate (IntKind.i64.wrap (((List.length a0 : Nat) : Int) + (1 : Int))).toNat (0 : Int)) a0 ((List.length a0 : Nat) : Int) (0 : Int)).bind fun o3 =>
 some o3
 else none

/- robuststats/natural.guess -/
def natural_guess.l3 : Nat → Int → Int → Int → Int → Int → Option (Int)
 | 0, _, _, _, _, _ => none
 | k + 1, v2, v3, v4, v12, v13 =>
 bif (decide (v13 < (4294967296 : Int))) then
 bif (decide ((4294967296 : Int) ≤ v12)) then
 natural_guess.l3 k v2 v3 v4 (IntKind.u64.wrap (v12 - (1 : Int))) (IntKind.u64.wrap (v13 + (IntKind.u64.wrap v3)))
 else bif (decide ((bitOp .or .u64 (shlI .u64 v13 (32 : Int)) (IntKind.u64.wrap v2)) < (IntKind.u64.wrap (v12 * (IntKind.u64.wrap v4))))) then
 natural_guess.l3 k v2 v3 v4 (IntKind.u64.wrap (v12 - (1 : Int))) (IntKind.u64.wrap (v13 + (IntKind.u64.wrap v3)))
 else some v12
 else some v12
def natural_guess.L3 (v2 : Int) (v3 : Int) (v4 : Int) (v12 : Int) (v13 : Int) : Option (Int) := lim fun k => natural_guess.l3 k v2 v3 v4 v12 v13
theorem natural_guess.L3_eq (v2 : Int) (v3 : Int) (v4 : Int) (v12 : Int) (v13 : Int) : natural_guess.L3 v2 v3 v4 v12 v13 =
 bif (decide (v13 < (4294967296 : Int))) then
 bif (decide ((4294967296 : Int) ≤ v12)) then
 natural_guess.L3 v2 v3 v4 (IntKind.u64.wrap (v12 - (1 : Int))) (IntKind.u64.wrap (v13 + (IntKind.u64.wrap v3)))
 else bif (decide ((bitOp .or .u64 (shlI .u64 v13 (32 : Int)) (IntKind.u64.wrap v2)) < (IntKind.u64.wrap (v12 * (IntKind.u64.wrap v4))))) then
 natural_guess.L3 v2 v3 v4 (IntKind.u64.wrap (v12 - (1 : Int))) (IntKind.u64.wrap (v13 + (IntKind.u64.wrap v3)))
 else some v12
 else some v12 := by
  show lim (fun k => natural_guess.l3 k v2 v3 v4 v12 v13) = _
  rw [lim_shift]
  simp only [natural_guess.l3, lim_cond, lim_bind, lim_const, lim_elim]
  rfl

def natural_guess (a0 : Int) (a1 : Int) (a2 : Int) (a3 : Int) (a4 : Int) : Option (Int) :=
 bif decide ((IntKind.u64.wrap a3) = 0) then
 none
 else bif decide ((IntKind.u64.wrap a3) = 0) then
 none
 else (natural_guess.L3 a2 a3 a4 (IntKind.u64.wrap ((bitOp .or .u64 (shlI .u64 (IntKind.u64.wrap a0) (32 : Int)) (IntKind.u64.wrap a1)).tdiv (IntKind.u64.wrap a3))) ((bitOp .or .u64 (shlI .u64 (IntKind.u64.wrap a0) (32 : Int)) (IntKind.u64.wrap a1)).tmod (IntKind.u64.wrap a3))).bind fun o1 =>
 some o1

/- robuststats/natural.reduce -/
def natural_reduce.j8 (v0 : List Int × Nat × Nat) (v1 : List Int) (v2 : Int) (v7 : Int) (v8 : Int) (v9 : Int) (v10 : Int) (v12 : Int) (v13 : Int) : Option (((List Int × Nat × Nat) × List Int × Int × Int × Int × Int × Int)) :=
 bif inb v9 v0.2.2 then
 (v0.1[(v0.2.1 + v9.toNat)]?).bind fun t36 =>
 (bits_Sub32 t36 (IntKind.u32.wrap (IntKind.u64.wrap (v7 + (IntKind.u64.wrap (v2 * v10))))) v8).bind fun t40 =>
 bif inb v9 v0.2.2 then
 (v0.1[(v0.2.1 + v9.toNat)]?).bind fun x1 =>
 (bif Nat.blt 0 v0.2.2 then some (((v0.1.set (v0.2.1 + v9.toNat) t40.1), v0.2.1, v0.2.2), v1, v2, (shrI .u64 (IntKind.u64.wrap (v7 + (IntKind.u64.wrap (v2 * v10)))) (32 : Int)), t40.2, v12, v13) else none)
 else none
 else none

def natural_reduce.l3 : Nat → (List Int × Nat × Nat) → List Int → Int → Int → Int → Int → Int → Option (((List Int × Nat × Nat) × Int))
 | 0, _, _, _, _, _, _, _ => none
 | k + 1, v0, v1, v2, v7, v8, v12, v13 =>
 bif (decide (v13 < v12)) then
 bif (decide (v13 < ((List.length v1 : Nat) : Int))) then
 (idx v1 v13).bind fun t22 =>
 (bif Nat.blt 0 v0.2.2 then some ((v0.1, v0.2.1, v0.2.2), v1, v2, v7, v8, v13, (IntKind.u64.wrap t22), v12, v13) else none).bind fun z2 =>
 (natural_reduce.j8 z2.1 z2.2.1 z2.2.2.1 z2.2.2.2.1 z2.2.2.2.2.1 z2.2.2.2.2.2.1 z2.2.2.2.2.2.2.1 z2.2.2.2.2.2.2.2.1 z2.2.2.2.2.2.2.2.2).bind fun o3 =>
 (bif Nat.blt 0 o3.1.2.2 then some ((o3.1.1, o3.1.2.1, o3.1.2.2), o3.2.1, o3.2.2.1, o3.2.2.2.1, o3.2.2.2.2.1, o3.2.2.2.2.2.1, (IntKind.i64.wrap (o3.2.2.2.2.2.2 + (1 : Int)))) else none).bind fun z4 =>
 natural_reduce.l3 k z4.1 z4.2.1 z4.2.2.1 z4.2.2.2.1 z4.2.2.2.2.1 z4.2.2.2.2.2.1 z4.2.2.2.2.2.2
 else (bif Nat.blt 0 v0.2.2 then some ((v0.1, v0.2.1, v0.2.2), v1, v2, v7, v8, v13, (0 : Int), v12, v13) else none).bind fun z5 =>
 (natural_reduce.j8 z5.1 z5.2.1 z5.2.2.1 z5.2.2.2.1 z5.2.2.2.2.1 z5.2.2.2.2.2.1 z5.2.2.2.2.2.2.1 z5.2.2.2.2.2.2.2.1 z5.2.2.2.2.2.2.2.2).bind fun o6 =>
 (bif Nat.blt 0 o6.1.2.2 then some ((o6.1.1, o6.1.2.1, o6.1.2.2), o6.2.1, o6.2.2.1, o6.2.2.2.1, o6.2.2.2.2.1, o6.2.2.2.2.2.1, (IntKind.i64.wrap (o6.2.2.2.2.2.2 + (1 : Int)))) else none).bind fun z7 =>
 natural_reduce.l3 k z7.1 z7.2.1 z7.2.2.1 z7.2.2.2.1 z7.2.2.2.2.1 z7.2.2.2.2.2.1 z7.2.2.2.2.2.2
 else (bif Nat.blt 0 v0.2.2 then some ((v0.1, v0.2.1, v0.2.2), v8) else none)
def natural_reduce.L3 (v0 : List Int × Nat × Nat) (v1 : List Int) (v2 : Int) (v7 : Int) (v8 : Int) (v12 : Int) (v13 : Int) : Option (((List Int × Nat × Nat) × Int)) := lim fun k => natural_reduce.l3 k v0 v1 v2 v7 v8 v12 v13
theorem natural_reduce.L3_eq (v0 : List Int × Nat × Nat) (v1 : List Int) (v2 : Int) (v7 : Int) (v8 : Int) (v12 : Int) (v13 : Int) : natural_reduce.L3 v0 v1 v2 v7 v8 v12 v13 =
 bif (decide (v13 < v12)) then
 bif (decide (v13 < ((List.length v1 : Nat) : Int))) then
 (idx v1 v13).bind fun t22 =>
 (bif Nat.blt 0 v0.2.2 then some ((v0.1, v0.2.1, v0.2.2), v1, v2, v7, v8, v13, (IntKind.u64.wrap t22), v12, v13) else none).bind fun z2 =>
 (natural_reduce.j8 z2.1 z2.2.1 z2.2.2.1 z2.2.2.2.1 z2.2.2.2.2.1 z2.2.2.2.2.2.1 z2.2.2.2.2.2.2.1 z2.2.2.2.2.2.2.2.1 z2.2.2.2.2.2.2.2.2).bind fun o3 =>
 (bif Nat.blt 0 o3.1.2.2 then some ((o3.1.1, o3.1.2.1, o3.1.2.2), o3.2.1, o3.2.2.1, o3.2.2.2.1, o3.2.2.2.2.1, o3.2.2.2.2.2.1, (IntKind.i64.wrap (o3.2.2.2.2.2.2 + (1 : Int)))) else none).bind fun z4 =>
 natural_reduce.L3 z4.1 z4.2.1 z4.2.2.1 z4.2.2.2.1 z4.2.2.2.2.1 z4.2.2.2.2.2.1 z4.2.2.2.2.2.2
 else (bif Nat.blt 0 v0.2.2 then some ((v0.1, v0.2.1, v0.2.2), v1, v2, v7, v8, v13, (0 : Int), v12, v13) else none).bind fun z5 =>
 (natural_reduce.j8 z5.1 z5.2.1 z5.2.2.1 z5.2.2.2.1 z5.2.2.2.2.1 z5.2.2.2.2.2.1 z5.2.2.2.2.2.2.1 z5.2.2.2.2.2.2.2.1 z5.2.2.2.2.2.2.2.2).bind fun o6 =>
 (bif Nat.blt 0 o6.1.2.2 then some ((o6.1.1, o6.1.2.1, o6.1.2.2), o6.2.1, o6.2.2.1, o6.2.2.2.1, o6.2.2.2.2.1, o6.2.2.2.2.2.1, (IntKind.i64.wrap (o6.2.2.2.2.2.2 + (1 : Int)))) else none).bind fun z7 =>
 natural_reduce.L3 z7.1 z7.2.1 z7.2.2.1 z7.2.2.2.1 z7.2.2.2.2.1 z7.2.2.2.2.2.1 z7.2.2.2.2.2.2
 else (bif Nat.blt 0 v0.2.2 then some ((v0.1, v0.2.1, v0.2.2), v8) else none) := by
  show lim (fun k => natural_reduce.l3 k v0 v1 v2 v7 v8 v12 v13) = _
  rw [lim_shift]
  simp only [natural_reduce.l3, lim_cond, lim_bind, lim_const, lim_elim]
  rfl

def natural_reduce (a0 : List Int × Nat × Nat) (a1 : List Int) (a2 : Int) : Option (Bool × ((List Int × Nat × Nat))) :=
 (bif Nat.blt 0 a0.2.2 then some ((a0.1, a0.2.1, a0.2.2), a1, a2, (0 : Int), (0 : Int), ((a0.2.2 : Nat) : Int), (0 : Int)) else none).bind fun z8 =>
 (natural_reduce.L3 z8.1 z8.2.1 z8.2.2.1 z8.2.2.2.1 z8.2.2.2.2.1 z8.2.2.2.2.2.1 z8.2.2.2.2.2.2).bind fun o9 =>
 bif Nat.blt 0 o9.1.2.2 then
 some ((!decide (o9.2 = (0 : Int))), (o9.1.1, o9.1.2.1, o9.1.2.2))
 else none

/- robuststats/natural.restore -/
def natural_restore.j7 (v0 : List Int × Nat × Nat) (v1 : List Int) (v4 : Int) (v5 : Int) (v6 : Int) (v8 : Int) (v9 : Int) : Option (((List Int × Nat × Nat) × List Int × Int × Int × Int)) :=
 bif inb v5 v0.2.2 then
 (v0.1[(v0.2.1 + v5.toNat)]?).bind fun t26 =>
 (bits_Add32 t26 v6 v4).bind fun t29 =>
 bif inb v5 v0.2.2 then
 (v0.1[(v0.2.1 + v5.toNat)]?).bind fun x1 =>
 (bif Nat.blt 0 v0.2.2 then some (((v0.1.set (v0.2.1 + v5.toNat) t29.1), v0.2.1, v0.2.2), v1, t29.2, v8, v9) else none)
 else none
 else none

def natural_restore.l2 : Nat → (List Int × Nat × Nat) → List Int → Int → Int → Int → Option (((List Int × Nat × Nat)))
 | 0, _, _, _, _, _ => none
 | k + 1, v0, v1, v4, v8, v9 =>
 bif (decide (v9 < v8)) then
 bif (decide (v9 < ((List.length v1 : Nat) : Int))) then
 (idx v1 v9).bind fun t18 =>
 (bif Nat.blt 0 v0.2.2 then some ((v0.1, v0.2.1, v0.2.2), v1, v4, v9, t18, v8, v9) else none).bind fun z2 =>
 (natural_restore.j7 z2.1 z2.2.1 z2.2.2.1 z2.2.2.2.1 z2.2.2.2.2.1 z2.2.2.2.2.2.1 z2.2.2.2.2.2.2).bind fun o3 =>
 (bif Nat.blt 0 o3.1.2.2 then some ((o3.1.1, o3.1.2.1, o3.1.2.2), o3.2.1, o3.2.2.1, o3.2.2.2.1, (IntKind.i64.wrap (o3.2.2.2.2 + (1 : Int)))) else none).bind fun z4 =>
 natural_restore.l2 k z4.1 z4.2.1 z4.2.2.1 z4.2.2.2.1 z4.2.2.2.2
 else (bif Nat.blt 0 v0.2.2 then some ((v0.1, v0.2.1, v0.2.2), v1, v4, v9, (0 : Int), v8, v9) else none).bind fun z5 =>
 (natural_restore.j7 z5.1 z5.2.1 z5.2.2.1 z5.2.2.2.1 z5.2.2.2.2.1 z5.2.2.2.2.2.1 z5.2.2.2.2.2.2).bind fun o6 =>
 (bif Nat.blt 0 o6.1.2.2 then some ((o6.1.1, o6.1.2.1, o6.1.2.2), o6.2.1, o6.2.2.1, o6.2.2.2.1, (IntKind.i64.wrap (o6.2.2.2.2 + (1 : Int)))) else none).bind fun z7 =>
 natural_restore.l2 k z7.1 z7.2.1 z7.2.2.1 z7.2.2.2.1 z7.2.2.2.2
 else (bif Nat.blt 0 v0.2.2 then some (v0.1, v0.2.1, v0.2.2) else none)
def natural_restore.L2 (v0 : List Int × Nat × Nat) (v1 : List Int) (v4 : Int) (v8 : Int) (v9 : Int) : Option (((List Int × Nat × Nat))) := lim fun k => natural_restore.l2 k v0 v1 v4 v8 v9
theorem natural_restore.L2_eq (v0 : List Int × Nat × Nat) (v1 : List Int) (v4 : Int) (v8 : Int) (v9 : Int) : natural_restore.L2 v0 v1 v4 v8 v9 =
 bif (decide (v9 < v8)) then
 bif (decide (v9 < ((List.length v1 : Nat) : Int))) then
 (idx v1 v9).bind fun t18 =>
 (bif Nat.blt 0 v0.2.2 then some ((v0.1, v0.2.1, v0.2.2), v1, v4, v9, t18, v8, v9) else none).bind fun z2 =>
 (natural_restore.j7 z2.1 z2.2.1 z2.2.2.1 z2.2.2.2.1 z2.2.2.2.2.1 z2.2.2.2.2.2.1 z2.2.2.2.2.2.2).bind fun o3 =>
 (bif Nat.blt 0 o3.1.2.2 then some ((o3.1.1, o3.1.2.1, o3.1.2.2), o3.2.1, o3.2.2.1, o3.2.2.2.1, (IntKind.i64.wrap (o3.2.2.2.2 + (1 : Int)))) else none).bind fun z4 =>
 natural_restore.L2 z4.1 z4.2.1 z4.2.2.1 z4.2.2.2.1 z4.2.2.2.2
 else (bif Nat.blt 0 v0.2.2 then some ((v0.1, v0.2.1, v0.2.2), v1, v4, v9, (0 : Int), v8, v9) else none).bind fun z5 =>
 (natural_restore.j7 z5.1 z5.2.1 z5.2.2.1 z5.2.2.2.1 z5.2.2.2.2.1 z5.2.2.2.2.2.1 z5.2.2.2.2.2.2).bind fun o6 =>
 (bif Nat.blt 0 o6.1.2.2 then some ((o6.1.1, o6.1.2.1, o6.1.2.2), o6.2.1, o6.2.2.1, o6.2.2.2.1, (IntKind.i64.wrap (o6.2.2.2.2 + (1 : Int)))) else none).bind fun z7 =>
 natural_restore.L2 z7.1 z7.2.1 z7.2.2.1 z7.2.2.2.1 z7.2.2.2.2
 else (bif Nat.blt 0 v0.2.2 then some (v0.1, v0.2.1, v0.2.2) else none) := by
  show lim (fun k => natural_restore.l2 k v0 v1 v4 v8 v9) = _
  rw [lim_shift]
  simp only [natural_restore.l2, lim_cond, lim_bind, lim_const, lim_elim]
  rfl

def natural_restore (a0 : List Int × Nat × Nat) (a1 : List Int) : Option (Unit × ((List Int × Nat × Nat))) :=
 (bif Nat.blt 0 a0.2.2 then some ((a0.1, a0.2.1, a0.2.2), a1, (0 : Int), ((a0.2.2 : Nat) : Int), (0 : Int)) else none).bind fun z8 =>
 (natural_restore.L2 z8.1 z8.2.1 z8.2.2.1 z8.2.2.2.1 z8.2.2.2.2).bind fun o9 =>
 bif Nat.blt 0 o9.2.2 then
 some ((), (o9.1, o9.2.1, o9.2.2))
 else none

/- robuststats/natural.divide -/
def natural_divide.l5 : Nat → List Int → Int → Int → List Int → List Int → Int → Option ((List Int × Int × Int × List Int))
 | 0, _, _, _, _, _, _ => none
 | k + 1, v4, v6, v7, v8, v9, v10 =>
 bif (decide ((0 : Int) ≤ v10)) then
 bif inb (IntKind.i64.wrap (v10 + v7)) (List.length v8) then
 (v8[(IntKind.i64.wrap (v10 + v7)).toNat]?).bind fun t47 =>
 bif inb (IntKind.i64.wrap ((IntKind.i64.wrap (v10 + v7)) - (1 : Int))) (List.length v8) then
 (v8[(IntKind.i64.wrap ((IntKind.i64.wrap (v10 + v7)) - (1 : Int))).toNat]?).bind fun t54 =>
 bif inb (IntKind.i64.wrap ((IntKind.i64.wrap (v10 + v7)) - (2 : Int))) (List.length v8) then
 (v8[(IntKind.i64.wrap ((IntKind.i64.wrap (v10 + v7)) - (2 : Int))).toNat]?).bind fun t61 =>
 (idx v9 (IntKind.i64.wrap (v7 - (1 : Int)))).bind fun t65 =>
 (idx v9 (IntKind.i64.wrap (v7 - (2 : Int)))).bind fun t70 =>
 (natural_guess t47 t54 t61 t65 t70).bind fun t72 =>
 bif slOk v10 (IntKind.i64.wrap ((IntKind.i64.wrap (v10 + v7)) + (1 : Int))) (List.length v8) then
 bif Nat.blt 0 (((IntKind.i64.wrap ((IntKind.i64.wrap (v10 + v7)) + (1 : Int))) - v10).toNat) then
 (natural_reduce (v8, v10.toNat, ((IntKind.i64.wrap ((IntKind.i64.wrap (v10 + v7)) + (1 : Int))) - v10).toNat) v9 t72).bind fun t82 =>
 bif (Nat.beq (List.length v8) (List.length t82.2.1) && true) then
 bif t82.1 then
 bif slOk v10 (IntKind.i64.wrap ((IntKind.i64.wrap (v10 + v7)) + (1 : Int))) (List.length t82.2.1) then
 bif Nat.blt 0 (((IntKind.i64.wrap ((IntKind.i64.wrap (v10 + v7)) + (1 : Int))) - v10).toNat) then
 (natural_restore (t82.2.1, v10.toNat, ((IntKind.i64.wrap ((IntKind.i64.wrap (v10 + v7)) + (1 : Int))) - v10).toNat) v9).bind fun t91 =>
 bif (Nat.beq (List.length t82.2.1) (List.length t91.2.1) && true) then
 bif inb v10 (List.length v4) then
 (v4[v10.toNat]?).bind fun x1 =>
 natural_divide.l5 k (v4.set v10.toNat (IntKind.u32.wrap (IntKind.u64.wrap (t72 - (1 : Int))))) v6 v7 t91.2.1 v9 (IntKind.i64.wrap (v10 - (1 : Int)))
 else none
 else none
 else none
 else none
 else bif inb v10 (List.length v4) then
 (v4[v10.toNat]?).bind fun x2 =>
 natural_divide.l5 k (v4.set v10.toNat (IntKind.u32.wrap t72)) v6 v7 t82.2.1 v9 (IntKind.i64.wrap (v10 - (1 : Int)))
 else none
 else none
 else none
 else none
 else none
 else none
 else none
 else some (v4, v6, v7, v8)
def natural_divide.L5 (v4 : List Int) (v6 : Int) (v7 : Int) (v8 : List Int) (v9 : List Int) (v10 : Int) : Option ((List Int × Int × Int × List Int)) := lim fun k => natural_divide.l5 k v4 v6 v7 v8 v9 v10
theorem natural_divide.L5_eq (v4 : List Int) (v6 : Int) (v7 : Int) (v8 : List Int) (v9 : List Int) (v10 : Int) : natural_divide.L5 v4 v6 v7 v8 v9 v10 =
 bif (decide ((0 : Int) ≤ v10)) then
 bif inb (IntKind.i64.wrap (v10 + v7)) (List.length v8) then
 (v8[(IntKind.i64.wrap (v10 + v7)).toNat]?).bind fun t47 =>
 bif inb (IntKind.i64.wrap ((IntKind.i64.wrap (v10 + v7)) - (1 : Int))) (List.length v8) then
 (v8[(IntKind.i64.wrap ((IntKind.i64.wrap (v10 + v7)) - (1 : Int))).toNat]?).bind fun t54 =>
 bif inb (IntKind.i64.wrap ((IntKind.i64.wrap (v10 + v7)) - (2 : Int))) (List.length v8) then
 (v8[(IntKind.i64.wrap ((IntKind.i64.wrap (v10 + v7)) - (2 : Int))).toNat]?).bind fun t61 =>
 (idx v9 (IntKind.i64.wrap (v7 - (1 : Int)))).bind fun t65 =>
 (idx v9 (IntKind.i64.wrap (v7 - (2 : Int)))).bind fun t70 =>
 (natural_guess t47 t54 t61 t65 t70).bind fun t72 =>
 bif slOk v10 (IntKind.i64.wrap ((IntKind.i64.wrap (v10 + v7)) + (1 : Int))) (List.length v8) then
 bif Nat.blt 0 (((IntKind.i64.wrap ((IntKind.i64.wrap (v10 + v7)) + (1 : Int))) - v10).toNat) then
 (natural_reduce (v8, v10.toNat, ((IntKind.i64.wrap ((IntKind.i64.wrap (v10 + v7)) + (1 : Int))) - v10).toNat) v9 t72).bind fun t82 =>
 bif (Nat.beq (List.length v8) (List.length t82.2.1) && true) then
 bif t82.1 then
 bif slOk v10 (IntKind.i64.wrap ((IntKind.i64.wrap (v10 + v7)) + (1 : Int))) (List.length t82.2.1) then
 bif Nat.blt 0 (((IntKind.i64.wrap ((IntKind.i64.wrap (v10 + v7)) + (1 : Int))) - v10).toNat) then
 (natural_restore (t82.2.1, v10.toNat, ((IntKind.i64.wrap ((IntKind.i64.wrap (v10 + v7)) + (1 : Int))) - v10).toNat) v9).bind fun t91 =>
 bif (Nat.beq (List.length t82.2.1) (List.length t91.2.1) && true) then
 bif inb v10 (List.length v4) then
 (v4[v10.toNat]?).bind fun x1 =>
 natural_divide.L5 (v4.set v10.toNat (IntKind.u32.wrap (IntKind.u64.wrap (t72 - (1 : Int))))) v6 v7 t91.2.1 v9 (IntKind.i64.wrap (v10 - (1 : Int)))
 else none
 else none
 else none
 else none
 else bif inb v10 (List.length v4) then
 (v4[v10.toNat]?).bind fun x2 =>
 natural_divide.L5 (v4.set v10.toNat (IntKind.u32.wrap t72)) v6 v7 t82.2.1 v9 (IntKind.i64.wrap (v10 - (1 : Int)))
 else none
 else none
 else none
 else none
 else none
 else none
 else none
 else some (v4, v6, v7, v8) := by
  show lim (fun k => natural_divide.l5 k v4 v6 v7 v8 v9 v10) = _
  rw [lim_shift]
  simp only [natural_divide.l5, lim_cond, lim_bind, lim_const, lim_elim]
  rfl

def natural_divide.l14 : Nat → List Int → List Int → Int → List Int → Int → Int → Option ((List Int × List Int))
 | 0, _, _, _, _, _, _ => none
 | k + 1, v4, v5, v6, v8, v102, v103 =>
 bif (decide (v103 < v102)) then
 bif inb (IntKind.i64.wrap (v103 + (1 : Int))) (List.length v8) then
 (v8[(IntKind.i64.wrap (v103 + (1 : Int))).toNat]?).bind fun t112 =>
 bif inb v103 (List.length v8) then
 (v8[v103.toNat]?).bind fun t118 =>
 bif decide (v6 < 0) then
 none
 else bif inb v103 (List.length v5) then
 (v5[v103.toNat]?).bind fun x4 =>
 natural_divide.l14 k v4 (v5.set v103.toNat (IntKind.u32.wrap (shrI .u64 (bitOp .or .u64 (shlI .u64 (IntKind.u64.wrap t112) (32 : Int)) (IntKind.u64.wrap t118)) v6))) v6 v8 v102 (IntKind.i64.wrap (v103 + (1 : Int)))
 else none
 else none
 else none
 else some (v4, v5)
def natural_divide.L14 (v4 : List Int) (v5 : List Int) (v6 : Int) (v8 : List Int) (v102 : Int) (v103 : Int) : Option ((List Int × List Int)) := lim fun k => natural_divide.l14 k v4 v5 v6 v8 v102 v103
theorem natural_divide.L14_eq (v4 : List Int) (v5 : List Int) (v6 : Int) (v8 : List Int) (v102 : Int) (v103 : Int) : natural_divide.L14 v4 v5 v6 v8 v102 v103 =
 bif (decide (v103 < v102)) then
 bif inb (IntKind.i64.wrap (v103 + (1 : Int))) (List.length v8) then
 (v8[(IntKind.i64.wrap (v103 + (1 : Int))).toNat]?).bind fun t112 =>
 bif inb v103 (List.length v8) then
 (v8[v103.toNat]?).bind fun t118 =>
 bif decide (v6 < 0) then
 none
 else bif inb v103 (List.length v5) then
 (v5[v103.toNat]?).bind fun x4 =>
 natural_divide.L14 v4 (v5.set v103.toNat (IntKind.u32.wrap (shrI .u64 (bitOp .or .u64 (shlI .u64 (IntKind.u64.wrap t112) (32 : Int)) (IntKind.u64.wrap t118)) v6))) v6 v8 v102 (IntKind.i64.wrap (v103 + (1 : Int)))
 else none
 else none
 else none
 else some (v4, v5) := by
  show lim (fun k => natural_divide.l14 k v4 v5 v6 v8 v102 v103) = _
  rw [lim_shift]
  simp only [natural_divide.l14, lim_cond, lim_bind, lim_const, lim_elim]
  rfl

def natural_divide (a0 : List Int) (a1 : List Int) : Option (List Int × List Int) :=
 (idx a1 (IntKind.i64.wrap (((List.length a1 : Nat) : Int) - (1 : Int)))).bind fun t17 =>
 (bits_LeadingZeros32 t17).bind fun t19 =>
 (natural_shifted a0 t19).bind fun t24 =>
 (natural_shifted a1 t19).bind fun t27 =>
 (natural_trimmed t27).bind fun t28 =>
 bif mkOk (IntKind.i64.wrap ((IntKind.i64.wrap (((List.length a0 : Nat) : Int) - ((List.length a1 : Nat) : Int))) + (1 : Int))) (IntKind.i64.wrap ((IntKind.i64.wrap (((List.length a0 : Nat) : Int) - ((List.length a1 : Nat) : Int))) + (1 : Int))) then
 (natural_divide.L5 (List.replicate (IntKind.i64.wrap ((IntKind.i64.wrap (((List.length a0 : Nat) : Int) - ((List.length a1 : Nat) : Int))) + (1 : Int))).toNat (0 : Int)) t19 ((List.length a1 : Nat) : Int) t24 t28 (IntKind.i64.wrap (((List.length (List.replicate (IntKind.i64.wrap ((IntKind.i64.wrap (((List.length a0 : Nat) : Int) - ((List.length a1 : Nat) : Int))) + (1 : Int))).toNat (0 : Int)) : Nat) : Int) - (1 : Int)))).bind fun o3 =>
 bif mkOk o3.2.2.1 o3.2.2.1 then
 (natural_divide.L14 o3.1 (List.replicate o3.2.2.1.toNat (0 : Int)) o3.2.1 o3.2.2.2 ((List.length (List.replicate o3.2.2.1.toNat (0 : Int)) : Nat) : Int) (0 : Int)).bind fun o5 =>
 (natural_trimmed o5.1).bind fun t127 =>
 (natural_trimmed o5.2).bind fun t129 =>
 some (t127, t129)
 else none
 else none

/- robuststats/natural.Div -/
def natural_Div (a0 : List Int) (a1 : List Int) : Option (List Int × List Int × Bool) :=
 (natural_value a0).bind fun t10 =>
 (natural_value a1).bind fun t12 =>
 bif (decide (((List.length t12 : Nat) : Int) = (0 : Int))) then
 some (([] : List Int), ([] : List Int), false)
 else (natural_Compare t10 t12).bind fun t20 =>
 bif (decide (t20 < (0 : Int))) then
 (slices_Clone t10).bind fun t23 =>
 some (([] : List Int), t23, true)
 else bif (decide (((List.length t12 : Nat) : Int) = (1 : Int))) then
 (idx t12 (0 : Int)).bind fun t31 =>
 (natural_short t10 t31).bind fun t33 =>
 (natural_FromUint (IntKind.u64.wrap t33.2)).bind fun t39 =>
 some (t33.1, t39, true)
 else (natural_divide t10 t12).bind fun t43 =>
 some (t43.1, t43.2, true)

/- robuststats/natural.Gcd -/
def natural_Gcd.j7 (v0 : List Int) (v1 : List Int) : Option ((List Int × List Int)) :=
 (natural_Div v0 v1).bind fun t40 =>
 some (v1, t40.2.1)

def natural_Gcd.l2 : Nat → List Int → List Int → Option (List Int ⊕ List Int)
 | 0, _, _ => none
 | k + 1, v0, v1 =>
 bif (decide ((0 : Int) < ((List.length v1 : Nat) : Int))) then
 (natural_Uint v0).bind fun t21 =>
 (natural_Uint v1).bind fun t26 =>
 bif t21.2 then
 bif t26.2 then
 (natural_gcd t21.1 t26.1).bind fun t35 =>
 (natural_FromUint t35).bind fun t36 =>
 some (.inr t36)
 else (natural_Gcd.j7 v0 v1).bind fun o1 =>
 natural_Gcd.l2 k o1.1 o1.2
 else (natural_Gcd.j7 v0 v1).bind fun o2 =>
 natural_Gcd.l2 k o2.1 o2.2
 else some (.inl v0)
def natural_Gcd.L2 (v0 : List Int) (v1 : List Int) : Option (List Int ⊕ List Int) := lim fun k => natural_Gcd.l2 k v0 v1
theorem natural_Gcd.L2_eq (v0 : List Int) (v1 : List Int) : natural_Gcd.L2 v0 v1 =
 bif (decide ((0 : Int) < ((List.length v1 : Nat) : Int))) then
 (natural_Uint v0).bind fun t21 =>
 (natural_Uint v1).bind fun t26 =>
 bif t21.2 then
 bif t26.2 then
 (natural_gcd t21.1 t26.1).bind fun t35 =>
 (natural_FromUint t35).bind fun t36 =>
 some (.inr t36)
 else (natural_Gcd.j7 v0 v1).bind fun o1 =>
 natural_Gcd.L2 o1.1 o1.2
 else (natural_Gcd.j7 v0 v1).bind fun o2 =>
 natural_Gcd.L2 o2.1 o2.2
 else some (.inl v0) := by
  show lim (fun k => natural_Gcd.l2 k v0 v1) = _
  rw [lim_shift]
  simp only [natural_Gcd.l2, lim_cond, lim_bind, lim_const, lim_elim]
  rfl

def natural_Gcd (a0 : List Int) (a1 : List Int) : Option (List Int) :=
 (natural_value a0).bind fun t13 =>
 (natural_value a1).bind fun t15 =>
 (natural_Gcd.L2 t13 t15).bind fun o3 =>
 Sum.elim (fun y4 =>
 (slices_Clone y4).bind fun t47 =>
 some t47) (fun z5 =>
 some z5) o3

/- robuststats/natural.Mul -/
def natural_Mul.l8 : Nat → List Int → List Int → Int → Int → Int → List Int → Int → Int → List Int → Int → Int → Option ((List Int × List Int × Int × Int × List Int × Int × Int))
 | 0, _, _, _, _, _, _, _, _, _, _, _ => none
 | k + 1, v1, v5, v6, v7, v8, v21, v22, v23, v28, v29, v30 =>
 bif (decide (v30 < v29)) then
 (idx v28 v30).bind fun t33 =>
 bif inb (IntKind.i64.wrap (v6 + v30)) (List.length v5) then
 (v5[(IntKind.i64.wrap (v6 + v30)).toNat]?).bind fun t46 =>
 bif inb (IntKind.i64.wrap (v6 + v30)) (List.length v5) then
 (v5[(IntKind.i64.wrap (v6 + v30)).toNat]?).bind fun x1 =>
 natural_Mul.l8 k v1 (v5.set ((IntKind.i64.wrap (v6 + v30)).toNat) (IntKind.u32.wrap (IntKind.u64.wrap (v8 + (IntKind.u64.wrap ((IntKind.u64.wrap ((IntKind.u64.wrap v7) * (IntKind.u64.wrap t33))) + (IntKind.u64.wrap t46))))))) v6 v7 (shrI .u64 (IntKind.u64.wrap (v8 + (IntKind.u64.wrap ((IntKind.u64.wrap ((IntKind.u64.wrap v7) * (IntKind.u64.wrap t33))) + (IntKind.u64.wrap t46))))) (32 : Int)) v21 v22 v23 v28 v29 (IntKind.i64.wrap (v30 + (1 : Int)))
 else none
 else none
 else some (v1, v5, v6, v8, v21, v22, v23)
def natural_Mul.L8 (v1 : List Int) (v5 : List Int) (v6 : Int) (v7 : Int) (v8 : Int) (v21 : List Int) (v22 : Int) (v23 : Int) (v28 : List Int) (v29 : Int) (v30 : Int) : Option ((List Int × List Int × Int × Int × List Int × Int × Int)) := lim fun k => natural_Mul.l8 k v1 v5 v6 v7 v8 v21 v22 v23 v28 v29 v30
theorem natural_Mul.L8_eq (v1 : List Int) (v5 : List Int) (v6 : Int) (v7 : Int) (v8 : Int) (v21 : List Int) (v22 : Int) (v23 : Int) (v28 : List Int) (v29 : Int) (v30 : Int) : natural_Mul.L8 v1 v5 v6 v7 v8 v21 v22 v23 v28 v29 v30 =
 bif (decide (v30 < v29)) then
 (idx v28 v30).bind fun t33 =>
 bif inb (IntKind.i64.wrap (v6 + v30)) (List.length v5) then
 (v5[(IntKind.i64.wrap (v6 + v30)).toNat]?).bind fun t46 =>
 bif inb (IntKind.i64.wrap (v6 + v30)) (List.length v5) then
 (v5[(IntKind.i64.wrap (v6 + v30)).toNat]?).bind fun x1 =>
 natural_Mul.L8 v1 (v5.set ((IntKind.i64.wrap (v6 + v30)).toNat) (IntKind.u32.wrap (IntKind.u64.wrap (v8 + (IntKind.u64.wrap ((IntKind.u64.wrap ((IntKind.u64.wrap v7) * (IntKind.u64.wrap t33))) + (IntKind.u64.wrap t46))))))) v6 v7 (shrI .u64 (IntKind.u64.wrap (v8 + (IntKind.u64.wrap ((IntKind.u64.wrap ((IntKind.u64.wrap v7) * (IntKind.u64.wrap t33))) + (IntKind.u64.wrap t46))))) (32 : Int)) v21 v22 v23 v28 v29 (IntKind.i64.wrap (v30 + (1 : Int)))
 else none
 else none
 else some (v1, v5, v6, v8, v21, v22, v23) := by
  show lim (fun k => natural_Mul.l8 k v1 v5 v6 v7 v8 v21 v22 v23 v28 v29 v30) = _
  rw [lim_shift]
  simp only [natural_Mul.l8, lim_cond, lim_bind, lim_const, lim_elim]
  rfl

def natural_Mul.l4 : Nat → List Int → List Int → List Int → Int → Int → Option (List Int)
 | 0, _, _, _, _, _ => none
 | k + 1, v1, v5, v21, v22, v23 =>
 bif (decide (v23 < v22)) then
 (idx v21 v23).bind fun t26 =>
 (natural_Mul.L8 v1 v5 v23 t26 (0 : Int) v21 v22 v23 v1 ((List.length v1 : Nat) : Int) (0 : Int)).bind fun o2 =>
 bif inb (IntKind.i64.wrap (o2.2.2.1 + ((List.length o2.1 : Nat) : Int))) (List.length o2.2.1) then
 (o2.2.1[(IntKind.i64.wrap (o2.2.2.1 + ((List.length o2.1 : Nat) : Int))).toNat]?).bind fun x3 =>
 natural_Mul.l4 k o2.1 (o2.2.1.set ((IntKind.i64.wrap (o2.2.2.1 + ((List.length o2.1 : Nat) : Int))).toNat) (IntKind.u32.wrap o2.2.2.2.1)) o2.2.2.2.2.1 o2.2.2.2.2.2.1 (IntKind.i64.wrap (o2.2.2.2.2.2.2 + (1 : Int)))
 else none
 else some v5
def natural_Mul.L4 (v1 : List Int) (v5 : List Int) (v21 : List Int) (v22 : Int) (v23 : Int) : Option (List Int) := lim fun k => natural_Mul.l4 k v1 v5 v21 v22 v23
theorem natural_Mul.L4_eq (v1 : List Int) (v5 : List Int) (v21 : List Int) (v22 : Int) (v23 : Int) : natural_Mul.L4 v1 v5 v21 v22 v23 =
 bif (decide (v23 < v22)) then
 (idx v21 v23).bind fun t26 =>
 (natural_Mul.L8 v1 v5 v23 t26 (0 : Int) v21 v22 v23 v1 ((List.length v1 : Nat) : Int) (0 : Int)).bind fun o2 =>
 bif inb (IntKind.i64.wrap (o2.2.2.1 + ((List.length o2.1 : Nat) : Int))) (List.length o2.2.1) then
 (o2.2.1[(IntKind.i64.wrap (o2.2.2.1 + ((List.length o2.1 : Nat) : Int))).toNat]?).bind fun x3 =>
 natural_Mul.L4 o2.1 (o2.2.1.set ((IntKind.i64.wrap (o2.2.2.1 + ((List.length o2.1 : Nat) : Int))).toNat) (IntKind.u32.wrap o2.2.2.2.1)) o2.2.2.2.2.1 o2.2.2.2.2.2.1 (IntKind.i64.wrap (o2.2.2.2.2.2.2 + (1 : Int)))
 else none
 else some v5 := by
  show lim (fun k => natural_Mul.l4 k v1 v5 v21 v22 v23) = _
  rw [lim_shift]
  simp only [natural_Mul.l4, lim_cond, lim_bind, lim_const, lim_elim]
  rfl

def natural_Mul (a0 : List Int) (a1 : List Int) : Option (List Int) :=
 (natural_value a0).bind fun t12 =>
 (natural_value a1).bind fun t14 =>
 bif mkOk (IntKind.i64.wrap (((List.length t12 : Nat) : Int) + ((List.length t14 : Nat) : Int))) (IntKind.i64.wrap (((List.length t12 : Nat) : Int) + ((List.length t14 : Nat) : Int))) then
 (natural_Mul.L4 t14 (List.replicate (IntKind.i64.wrap (((List.length t12 : Nat) : Int) + ((List.length t14 : Nat) : Int))).toNat (0 : Int)) t12 ((List.length t12 : Nat) : Int) (0 : Int)).bind fun o4 =>
 (natural_trimmed o4).bind fun t70 =>
 some t70
 else none

/- robuststats/natural.Add -/
def natural_Add.l7 : Nat → List Int → List Int → List Int → Int → List Int → Int → Int → Option ((List Int × List Int × Int))
 | 0, _, _, _, _, _, _, _ => none
 | k + 1, v0, v1, v5, v6, v25, v26, v27 =>
 bif (decide (v27 < v26)) then
 (idx v25 v27).bind fun t30 =>
 bif (decide (v27 < ((List.length v1 : Nat) : Int))) then
 (idx v1 v27).bind fun t38 =>
 (bits_Add32 t30 t38 v6).bind fun t46 =>
 bif inb v27 (List.length v5) then
 (v5[v27.toNat]?).bind fun x1 =>
 natural_Add.l7 k v0 v1 (v5.set v27.toNat t46.1) t46.2 v25 v26 (IntKind.i64.wrap (v27 + (1 : Int)))
 else none
 else (bits_Add32 t30 (0 : Int) v6).bind fun t46 =>
 bif inb v27 (List.length v5) then
 (v5[v27.toNat]?).bind fun x2 =>
 natural_Add.l7 k v0 v1 (v5.set v27.toNat t46.1) t46.2 v25 v26 (IntKind.i64.wrap (v27 + (1 : Int)))
 else none
 else some (v0, v5, v6)
def natural_Add.L7 (v0 : List Int) (v1 : List Int) (v5 : List Int) (v6 : Int) (v25 : List Int) (v26 : Int) (v27 : Int) : Option ((List Int × List Int × Int)) := lim fun k => natural_Add.l7 k v0 v1 v5 v6 v25 v26 v27
theorem natural_Add.L7_eq (v0 : List Int) (v1 : List Int) (v5 : List Int) (v6 : Int) (v25 : List Int) (v26 : Int) (v27 : Int) : natural_Add.L7 v0 v1 v5 v6 v25 v26 v27 =
 bif (decide (v27 < v26)) then
 (idx v25 v27).bind fun t30 =>
 bif (decide (v27 < ((List.length v1 : Nat) : Int))) then
 (idx v1 v27).bind fun t38 =>
 (bits_Add32 t30 t38 v6).bind fun t46 =>
 bif inb v27 (List.length v5) then
 (v5[v27.toNat]?).bind fun x1 =>
 natural_Add.L7 v0 v1 (v5.set v27.toNat t46.1) t46.2 v25 v26 (IntKind.i64.wrap (v27 + (1 : Int)))
 else none
 else (bits_Add32 t30 (0 : Int) v6).bind fun t46 =>
 bif inb v27 (List.length v5) then
 (v5[v27.toNat]?).bind fun x2 =>
 natural_Add.L7 v0 v1 (v5.set v27.toNat t46.1) t46.2 v25 v26 (IntKind.i64.wrap (v27 + (1 : Int)))
 else none
 else some (v0, v5, v6) := by
  show lim (fun k => natural_Add.l7 k v0 v1 v5 v6 v25 v26 v27) = _
  rw [lim_shift]
  simp only [natural_Add.l7, lim_cond, lim_bind, lim_const, lim_elim]
  rfl

def natural_Add.j4 (v0 : List Int) (v1 : List Int) : Option (List Int) :=
 bif mkOk (IntKind.i64.wrap (((List.length v0 : Nat) : Int) + (1 : Int))) (IntKind.i64.wrap (((List.length v0 : Nat) : Int) + (1 : Int))) then
 (natural_Add.L7 v0 v1 (List.replicate (IntKind.i64.wrap (((List.length v0 : Nat) : Int) + (1 : Int))).toNat (0 : Int)) (0 : Int) v0 ((List.length v0 : Nat) : Int) (0 : Int)).bind fun o3 =>
 bif inb ((List.length o3.1 : Nat) : Int) (List.length o3.2.1) then
 (o3.2.1[((List.length o3.1 : Nat) : Int).toNat]?).bind fun x4 =>
 (natural_trimmed (o3.2.1.set (((List.length o3.1 : Nat) : Int).toNat) o3.2.2)).bind fun t57 =>
 some t57
 else none
 else none

def natural_Add (a0 : List Int) (a1 : List Int) : Option (List Int) :=
 (natural_value a0).bind fun t11 =>
 (natural_value a1).bind fun t13 =>
 bif (decide (((List.length t11 : Nat) : Int) < ((List.length t13 : Nat) : Int))) then
 (natural_Add.j4 t13 t11).bind fun o5 =>
 some o5
 else (natural_Add.j4 t11 t13).bind fun o6 =>
 some o6

/- robuststats/natural.Sub -/
def natural_Sub.l7 : Nat → List Int → List Int → Int → List Int → Int → Int → Option (List Int)
 | 0, _, _, _, _, _, _ => none
 | k + 1, v1, v6, v7, v22, v23, v24 =>
 bif (decide (v24 < v23)) then
 (idx v22 v24).bind fun t27 =>
 bif (decide (v24 < ((List.length v1 : Nat) : Int))) then
 (idx v1 v24).bind fun t35 =>
 (bits_Sub32 t27 t35 v7).bind fun t43 =>
 bif inb v24 (List.length v6) then
 (v6[v24.toNat]?).bind fun x1 =>
 natural_Sub.l7 k v1 (v6.set v24.toNat t43.1) t43.2 v22 v23 (IntKind.i64.wrap (v24 + (1 : Int)))
 else none
 else (bits_Sub32 t27 (0 : Int) v7).bind fun t43 =>
 bif inb v24 (List.length v6) then
 (v6[v24.toNat]?).bind fun x2 =>
 natural_Sub.l7 k v1 (v6.set v24.toNat t43.1) t43.2 v22 v23 (IntKind.i64.wrap (v24 + (1 : Int)))
 else none
 else some v6
def natural_Sub.L7 (v1 : List Int) (v6 : List Int) (v7 : Int) (v22 : List Int) (v23 : Int) (v24 : Int) : Option (List Int) := lim fun k => natural_Sub.l7 k v1 v6 v7 v22 v23 v24
theorem natural_Sub.L7_eq (v1 : List Int) (v6 : List Int) (v7 : Int) (v22 : List Int) (v23 : Int) (v24 : Int) : natural_Sub.L7 v1 v6 v7 v22 v23 v24 =
 bif (decide (v24 < v23)) then
 (idx v22 v24).bind fun t27 =>
 bif (decide (v24 < ((List.length v1 : Nat) : Int))) then
 (idx v1 v24).bind fun t35 =>
 (bits_Sub32 t27 t35 v7).bind fun t43 =>
 bif inb v24 (List.length v6) then
 (v6[v24.toNat]?).bind fun x1 =>
 natural_Sub.L7 v1 (v6.set v24.toNat t43.1) t43.2 v22 v23 (IntKind.i64.wrap (v24 + (1 : Int)))
 else none
 else (bits_Sub32 t27 (0 : Int) v7).bind fun t43 =>
 bif inb v24 (List.length v6) then
 (v6[v24.toNat]?).bind fun x2 =>
 natural_Sub.L7 v1 (v6.set v24.toNat t43.1) t43.2 v22 v23 (IntKind.i64.wrap (v24 + (1 : Int)))
 else none
 else some v6 := by
  show lim (fun k => natural_Sub.l7 k v1 v6 v7 v22 v23 v24) = _
  rw [lim_shift]
  simp only [natural_Sub.l7, lim_cond, lim_bind, lim_const, lim_elim]
  rfl

def natural_Sub (a0 : List Int) (a1 : List Int) : Option (List Int × Bool) :=
 (natural_value a0).bind fun t12 =>
 (natural_value a1).bind fun t14 =>
 (natural_Compare t12 t14).bind fun t17 =>
 bif (decide (t17 < (0 : Int))) then
 some (([] : List Int), false)
 else bif mkOk ((List.length t12 : Nat) : Int) ((List.length t12 : Nat) : Int) then
 (natural_Sub.L7 t14 (List.replicate ((List.length t12 : Nat) : Int).toNat (0 : Int)) (0 : Int) t12 ((List.length t12 : Nat) : Int) (0 : Int)).bind fun o3 =>
 (natural_trimmed o3).bind fun t49 =>
 some (t49, true)
 else none

end Go.ZS
end
end

section
/- The functions of package integer, as values. -/
set_option linter.unusedVariables false
set_option maxRecDepth 100000
noncomputable section
namespace Go.ZS
open Go Go.ZM
/- robuststats/integer.Valid -/
def integer_Valid (a0 : Bool × List Int) : Option (Bool) :=
 (natural_Valid a0.2).bind fun t5 =>
 bif t5 then
 bif (decide ((0 : Int) < ((List.length a0.2 : Nat) : Int))) then
 some true
 else some (!a0.1)
 else some false

/- robuststats/integer.value -/
def integer_value (a0 : Bool × List Int) : Option ((Bool × List Int)) :=
 (integer_Valid a0).bind fun t4 =>
 bif t4 then
 some a0
 else some (false, ([] : List Int))

/- robuststats/integer.signed -/
def integer_signed (a0 : Bool) (a1 : List Int) : Option ((Bool × List Int)) :=
 bif a0 then
 some ((decide ((0 : Int) < ((List.length a1 : Nat) : Int))), a1)
 else some (false, a1)

/- robuststats/integer.Mul -/
def integer_Mul (a0 : Bool × List Int) (a1 : Bool × List Int) : Option ((Bool × List Int)) :=
 (integer_value a0).bind fun t6 =>
 (integer_value a1).bind fun t8 =>
 (natural_Mul t6.2 t8.2).bind fun t18 =>
 (integer_signed (!(t6.1 == t8.1)) t18).bind fun t19 =>
 some t19

/- robuststats/integer.Sign -/
def integer_Sign (a0 : Bool × List Int) : Option (Int) :=
 (integer_value a0).bind fun t4 =>
 bif (decide (((List.length t4.2 : Nat) : Int) = (0 : Int))) then
 some (0 : Int)
 else bif t4.1 then
 some (-1 : Int)
 else some (1 : Int)

/- robuststats/integer.Compare -/
def integer_Compare (a0 : Bool × List Int) (a1 : Bool × List Int) : Option (Int) :=
 (integer_value a0).bind fun t8 =>
 (integer_value a1).bind fun t10 =>
 (integer_Sign t8).bind fun t12 =>
 (integer_Sign t10).bind fun t14 =>
 bif (decide (t12 < t14)) then
 some (-1 : Int)
 else bif (decide (t14 < t12)) then
 some (1 : Int)
 else (natural_Compare t8.2 t10.2).bind fun t28 =>
 some (IntKind.i64.wrap (t12 * t28))

/- robuststats/integer.FromInt -/
def integer_FromInt (a0 : Int) : Option ((Bool × List Int)) :=
 bif (decide (a0 < (0 : Int))) then
 (natural_FromUint (IntKind.u64.wrap (0 - (IntKind.u64.wrap a0)))).bind fun t8 =>
 (integer_signed true t8).bind fun t9 =>
 some t9
 else (natural_FromUint (IntKind.u64.wrap a0)).bind fun t12 =>
 (integer_signed false t12).bind fun t13 =>
 some t13

/- robuststats/integer.copied -/
def integer_copied (a0 : Bool × List Int) : Option ((Bool × List Int)) :=
 (natural_Add a0.2 ([] : List Int)).bind fun t7 =>
 (integer_signed a0.1 t7).bind fun t8 =>
 some t8

/- robuststats/integer.Neg -/
def integer_Neg (a0 : Bool × List Int) : Option ((Bool × List Int)) :=
 (integer_value a0).bind fun t4 =>
 (integer_copied t4).bind fun t5 =>
 (integer_signed (!t5.1) t5.2).bind fun t11 =>
 some t11

/- robuststats/integer.Add -/
def integer_Add (a0 : Bool × List Int) (a1 : Bool × List Int) : Option ((Bool × List Int)) :=
 (integer_value a0).bind fun t10 =>
 (integer_value a1).bind fun t12 =>
 bif (t10.1 == t12.1) then
 (natural_Add t10.2 t12.2).bind fun t24 =>
 (integer_signed t10.1 t24).bind fun t25 =>
 some t25
 else (natural_Sub t10.2 t12.2).bind fun t31 =>
 bif t31.2 then
 (integer_signed t10.1 t31.1).bind fun t38 =>
 some t38
 else (natural_Sub t12.2 t10.2).bind fun t44 =>
 (integer_signed t12.1 t44.1).bind fun t50 =>
 some t50

end Go.ZS
end
end

section
/- The functions of package rational, as values. -/
set_option linter.unusedVariables false
set_option maxRecDepth 100000
noncomputable section
namespace Go.ZS
open Go Go.ZM
/- robuststats/rational.one -/
def rational_one  : Option (List Int) :=
 some ([(1 : Int)] : List Int)

/- robuststats/rational.Valid -/
def rational_Valid.j12 (v1 : (Bool × List Int) × List Int) (v3 : Bool) : Option ((((Bool × List Int) × List Int)) ⊕ Bool) :=
 bif v3 then
 some (.inr false)
 else bif (decide (((List.length v1.2 : Nat) : Int) = (0 : Int))) then
 some (.inr true)
 else bif (decide (((List.length v1.1.2 : Nat) : Int) = (0 : Int))) then
 some (.inr false)
 else (rational_one).bind fun t28 =>
 (natural_Compare v1.2 t28).bind fun t29 =>
 bif (decide (t29 = (0 : Int))) then
 some (.inr false)
 else some (.inl v1)

def rational_Valid (a0 : (Bool × List Int) × List Int) : Option (Bool) :=
 (integer_Valid a0.1).bind fun t6 =>
 bif (!t6) then
 (rational_Valid.j12 a0 true).bind fun o1 =>
 Sum.elim (fun y2 =>
 (natural_Gcd y2.1.2 y2.2).bind fun t37 =>
 (rational_one).bind fun t38 =>
 (natural_Compare t37 t38).bind fun t39 =>
 some (decide (t39 = (0 : Int)))) (fun z3 =>
 some z3) o1
 else (natural_Valid a0.2).bind fun t11 =>
 (rational_Valid.j12 a0 (!t11)).bind fun o4 =>
 Sum.elim (fun y5 =>
 (natural_Gcd y5.1.2 y5.2).bind fun t37 =>
 (rational_one).bind fun t38 =>
 (natural_Compare t37 t38).bind fun t39 =>
 some (decide (t39 = (0 : Int)))) (fun z6 =>
 some z6) o4

/- robuststats/rational.value -/
def rational_value (a0 : (Bool × List Int) × List Int) : Option (((Bool × List Int) × List Int)) :=
 (rational_Valid a0).bind fun t4 =>
 bif t4 then
 some a0
 else some ((false, ([] : List Int)), ([] : List Int))

/- robuststats/rational.den -/
def rational_den (a0 : (Bool × List Int) × List Int) : Option (List Int) :=
 bif (decide (((List.length a0.2 : Nat) : Int) = (0 : Int))) then
 (rational_one).bind fun t7 =>
 some t7
 else some a0.2

/- robuststats/rational.times -/
def rational_times (a0 : Bool × List Int) (a1 : List Int) : Option ((Bool × List Int)) :=
 (integer_Mul a0 (false, a1)).bind fun t8 =>
 some t8

/- robuststats/rational.Compare -/
def rational_Compare (a0 : (Bool × List Int) × List Int) (a1 : (Bool × List Int) × List Int) : Option (Int) :=
 (rational_value a0).bind fun t6 =>
 (rational_value a1).bind fun t8 =>
 (rational_den t8).bind fun t12 =>
 (rational_times t6.1 t12).bind fun t13 =>
 (rational_den t6).bind fun t17 =>
 (rational_times t8.1 t17).bind fun t18 =>
 (integer_Compare t13 t18).bind fun t19 =>
 some t19

/- robuststats/rational.FromInt -/
def rational_FromInt (a0 : Int) : Option (((Bool × List Int) × List Int)) :=
 (integer_FromInt a0).bind fun t4 =>
 some (t4, ([] : List Int))

/- robuststats/rational.lowest -/
def rational_lowest (a0 : Bool × List Int) (a1 : List Int) : Option (((Bool × List Int) × List Int)) :=
 (natural_Gcd a0.2 a1).bind fun t12 =>
 (natural_Div a0.2 t12).bind fun t17 =>
 (natural_Div a1 t12).bind fun t24 =>
 (rational_one).bind fun t29 =>
 (natural_Compare t24.1 t29).bind fun t30 =>
 bif (decide (t30 = (0 : Int))) then
 some ((a0.1, t17.1), ([] : List Int))
 else some ((a0.1, t17.1), t24.1)

/- robuststats/rational.Make -/
def rational_Make (a0 : Bool × List Int) (a1 : Bool × List Int) : Option (((Bool × List Int) × List Int) × Int) :=
 (integer_Sign a1).bind fun t7 =>
 bif (decide (t7 = (0 : Int))) then
 some (((false, ([] : List Int)), ([] : List Int)), (5 : Int))
 else (integer_Sign a1).bind fun t11 =>
 bif (decide (t11 < (0 : Int))) then
 (integer_Neg a0).bind fun t14 =>
 (integer_Add t14 (false, ([] : List Int))).bind fun t17 =>
 (rational_lowest t17 a1.2).bind fun t20 =>
 some (t20, (0 : Int))
 else (integer_Add a0 (false, ([] : List Int))).bind fun t17 =>
 (rational_lowest t17 a1.2).bind fun t20 =>
 some (t20, (0 : Int))

/- robuststats/rational.Div -/
def rational_Div (a0 : (Bool × List Int) × List Int) (a1 : (Bool × List Int) × List Int) : Option (((Bool × List Int) × List Int) × Int) :=
 (rational_value a0).bind fun t7 =>
 (rational_value a1).bind fun t9 =>
 (rational_den t9).bind fun t13 =>
 (rational_times t7.1 t13).bind fun t14 =>
 (rational_den t7).bind fun t18 =>
 (rational_times t9.1 t18).bind fun t19 =>
 (rational_Make t14 t19).bind fun t20 =>
 some (t20.1, t20.2)

/- robuststats/rational.Mul -/
def rational_Mul (a0 : (Bool × List Int) × List Int) (a1 : (Bool × List Int) × List Int) : Option (((Bool × List Int) × List Int)) :=
 (rational_value a0).bind fun t6 =>
 (rational_value a1).bind fun t8 =>
 bif (decide (((List.length t6.2 : Nat) : Int) = (0 : Int))) then
 bif (decide (((List.length t8.2 : Nat) : Int) = (0 : Int))) then
 (integer_Mul t6.1 t8.1).bind fun t23 =>
 some (t23, ([] : List Int))
 else (integer_Mul t6.1 t8.1).bind fun t29 =>
 (rational_den t6).bind fun t31 =>
 (rational_den t8).bind fun t33 =>
 (natural_Mul t31 t33).bind fun t34 =>
 (rational_lowest t29 t34).bind fun t35 =>
 some t35
 else (integer_Mul t6.1 t8.1).bind fun t29 =>
 (rational_den t6).bind fun t31 =>
 (rational_den t8).bind fun t33 =>
 (natural_Mul t31 t33).bind fun t34 =>
 (rational_lowest t29 t34).bind fun t35 =>
 some t35

/- robuststats/rational.Sign -/
def rational_Sign (a0 : (Bool × List Int) × List Int) : Option (Int) :=
 (rational_value a0).bind fun t4 =>
 (integer_Sign t4.1).bind fun t6 =>
 some t6

/- robuststats/rational.Neg -/
def rational_Neg (a0 : (Bool × List Int) × List Int) : Option (((Bool × List Int) × List Int)) :=
 (rational_value a0).bind fun t4 =>
 (integer_Neg t4.1).bind fun t7 =>
 (natural_Add t4.2 ([] : List Int)).bind fun t10 =>
 some (t7, t10)

/- robuststats/rational.Abs -/
def rational_Abs (a0 : (Bool × List Int) × List Int) : Option (((Bool × List Int) × List Int)) :=
 (rational_Sign a0).bind fun t4 =>
 bif (decide (t4 < (0 : Int))) then
 (rational_Neg a0).bind fun t7 =>
 some t7
 else (rational_Neg a0).bind fun t9 =>
 (rational_Neg t9).bind fun t10 =>
 some t10

/- robuststats/rational.Add -/
def rational_Add.j4 (v2 : (Bool × List Int) × List Int) (v3 : (Bool × List Int) × List Int) (v4 : (Bool × List Int) × List Int) : Option ((((Bool × List Int) × List Int))) :=
 (rational_den v3).bind fun t28 =>
 (rational_times v2.1 t28).bind fun t29 =>
 (rational_den v2).bind fun t33 =>
 (rational_times v3.1 t33).bind fun t34 =>
 (integer_Add t29 t34).bind fun t35 =>
 (rational_den v2).bind fun t37 =>
 (rational_den v3).bind fun t39 =>
 (natural_Mul t37 t39).bind fun t40 =>
 (rational_lowest t35 t40).bind fun t41 =>
 some t41

def rational_Add (a0 : (Bool × List Int) × List Int) (a1 : (Bool × List Int) × List Int) : Option (((Bool × List Int) × List Int)) :=
 (rational_value a0).bind fun t6 =>
 (rational_value a1).bind fun t8 =>
 bif (decide (((List.length t6.2 : Nat) : Int) = (0 : Int))) then
 bif (decide (((List.length t8.2 : Nat) : Int) = (0 : Int))) then
 (integer_Add t6.1 t8.1).bind fun t23 =>
 some (t23, ([] : List Int))
 else (rational_Add.j4 t6 t8 ((false, ([] : List Int)), ([] : List Int))).bind fun o1 =>
 some o1
 else (rational_Add.j4 t6 t8 ((false, ([] : List Int)), ([] : List Int))).bind fun o2 =>
 some o2

/- robuststats/rational.Sub -/
def rational_Sub (a0 : (Bool × List Int) × List Int) (a1 : (Bool × List Int) × List Int) : Option (((Bool × List Int) × List Int)) :=
 (rational_Neg a1).bind fun t7 =>
 (rational_Add a0 t7).bind fun t8 =>
 some t8

end Go.ZS
end
end

section
/- The functions of package exact, as values. -/
set_option linter.unusedVariables false
set_option maxRecDepth 100000
noncomputable section
namespace Go.ZS
open Go Go.ZM
/- robuststats/exact.Quotient -/
def exact_Quotient (a0 : (Bool × List Int) × List Int) (a1 : (Bool × List Int) × List Int) : Option (((Bool × List Int) × List Int)) :=
 (rational_Div a0 a1).bind fun t10 =>
 some t10.1

/- robuststats/exact.Over -/
def exact_Over (a0 : Int) (a1 : Int) : Option (((Bool × List Int) × List Int)) :=
 (rational_FromInt a0).bind fun t6 =>
 (rational_FromInt a1).bind fun t8 =>
 (exact_Quotient t6 t8).bind fun t9 =>
 some t9

/- robuststats/exact.Copy[robuststats/api.Rat] -/
def api_Rat_ (a0 : List ((Bool × List Int) × List Int)) : Option ((List ((Bool × List Int) × List Int))) :=
 bif apOk 0 (List.length a0) then
 some a0
 else none

/- robuststats/exact.Clean -/
def exact_Clean (a0 : (Bool × List Int) × List Int) : Option (((Bool × List Int) × List Int)) :=
 (rational_Add a0 ((false, ([] : List Int)), ([] : List Int))).bind fun t5 =>
 some t5

/- robuststats/exact.Sum -/
def exact_Sum.l3 : Nat → ((Bool × List Int) × List Int) → ((Bool × List Int) × List Int) → (List ((Bool × List Int) × List Int)) → Int → Int → Option ((((Bool × List Int) × List Int) × ((Bool × List Int) × List Int)))
 | 0, _, _, _, _, _ => none
 | k + 1, v2, v3, v6, v7, v8 =>
 bif (decide (v8 < v7)) then
 (idx v6 v8).bind fun t10 =>
 (rational_Add v3 t10).bind fun t14 =>
 exact_Sum.l3 k v2 t14 v6 v7 (IntKind.i64.wrap (v8 + (1 : Int)))
 else some (v2, v3)
def exact_Sum.L3 (v2 : (Bool × List Int) × List Int) (v3 : (Bool × List Int) × List Int) (v6 : List ((Bool × List Int) × List Int)) (v7 : Int) (v8 : Int) : Option ((((Bool × List Int) × List Int) × ((Bool × List Int) × List Int))) := lim fun k => exact_Sum.l3 k v2 v3 v6 v7 v8
theorem exact_Sum.L3_eq (v2 : (Bool × List Int) × List Int) (v3 : (Bool × List Int) × List Int) (v6 : List ((Bool × List Int) × List Int)) (v7 : Int) (v8 : Int) : exact_Sum.L3 v2 v3 v6 v7 v8 =
 bif (decide (v8 < v7)) then
 (idx v6 v8).bind fun t10 =>
 (rational_Add v3 t10).bind fun t14 =>
 exact_Sum.L3 v2 t14 v6 v7 (IntKind.i64.wrap (v8 + (1 : Int)))
 else some (v2, v3) := by
  show lim (fun k => exact_Sum.l3 k v2 v3 v6 v7 v8) = _
  rw [lim_shift]
  simp only [exact_Sum.l3, lim_cond, lim_bind, lim_const, lim_elim]
  rfl

def exact_Sum (a0 : List ((Bool × List Int) × List Int)) : Option (((Bool × List Int) × List Int)) :=
 (exact_Sum.L3 ((false, ([] : List Int)), ([] : List Int)) ((false, ([] : List Int)), ([] : List Int)) a0 ((List.length a0 : Nat) : Int) (0 : Int)).bind fun o1 =>
 some o1.2

/- robuststats/exact.Less -/
def exact_Less (a0 : (Bool × List Int) × List Int) (a1 : (Bool × List Int) × List Int) : Option (Bool) :=
 (rational_Compare a0 a1).bind fun t7 =>
 some (decide (t7 < (0 : Int)))

end Go.ZS
end
end

section
/- The functions of package permutation, as values. -/
set_option linter.unusedVariables false
set_option maxRecDepth 100000
noncomputable section
namespace Go.ZS
open Go Go.ZM
/- robuststats/permutation.small -/
def permutation_small.l6 : Nat → (List ((Bool × List Int) × List Int)) → ((Bool × List Int) × List Int) → ((Bool × List Int) × List Int) → (List ((Bool × List Int) × List Int)) → Int → Int → Option (((List ((Bool × List Int) × List Int)) × ((Bool × List Int) × List Int)) ⊕ Bool)
 | 0, _, _, _, _, _, _ => none
 | k + 1, v0, v3, v4, v12, v13, v14 =>
 bif (decide (v14 < v13)) then
 (idx v12 v14).bind fun t16 =>
 (rational_Mul t16 v4).bind fun t20 =>
 bif (decide ((0 : Int) < ((List.length t20.2 : Nat) : Int))) then
 some (.inr false)
 else (rational_Abs t16).bind fun t27 =>
 (rational_Add v3 t27).bind fun t28 =>
 permutation_small.l6 k v0 t28 v4 v12 v13 (IntKind.i64.wrap (v14 + (1 : Int)))
 else some (.inl (v0, v3))
def permutation_small.L6 (v0 : List ((Bool × List Int) × List Int)) (v3 : (Bool × List Int) × List Int) (v4 : (Bool × List Int) × List Int) (v12 : List ((Bool × List Int) × List Int)) (v13 : Int) (v14 : Int) : Option (((List ((Bool × List Int) × List Int)) × ((Bool × List Int) × List Int)) ⊕ Bool) := lim fun k => permutation_small.l6 k v0 v3 v4 v12 v13 v14
theorem permutation_small.L6_eq (v0 : List ((Bool × List Int) × List Int)) (v3 : (Bool × List Int) × List Int) (v4 : (Bool × List Int) × List Int) (v12 : List ((Bool × List Int) × List Int)) (v13 : Int) (v14 : Int) : permutation_small.L6 v0 v3 v4 v12 v13 v14 =
 bif (decide (v14 < v13)) then
 (idx v12 v14).bind fun t16 =>
 (rational_Mul t16 v4).bind fun t20 =>
 bif (decide ((0 : Int) < ((List.length t20.2 : Nat) : Int))) then
 some (.inr false)
 else (rational_Abs t16).bind fun t27 =>
 (rational_Add v3 t27).bind fun t28 =>
 permutation_small.L6 v0 t28 v4 v12 v13 (IntKind.i64.wrap (v14 + (1 : Int)))
 else some (.inl (v0, v3)) := by
  show lim (fun k => permutation_small.l6 k v0 v3 v4 v12 v13 v14) = _
  rw [lim_shift]
  simp only [permutation_small.l6, lim_cond, lim_bind, lim_const, lim_elim]
  rfl

def permutation_small (a0 : List ((Bool × List Int) × List Int)) : Option (Bool) :=
 bif (decide (((List.length a0 : Nat) : Int) ≤ (14 : Int))) then
 some true
 else (rational_FromInt (2 : Int)).bind fun t11 =>
 (permutation_small.L6 a0 ((false, ([] : List Int)), ([] : List Int)) t11 a0 ((List.length a0 : Nat) : Int) (0 : Int)).bind fun o1 =>
 Sum.elim (fun y2 =>
 bif (decide (((List.length y2.1 : Nat) : Int) ≤ (64 : Int))) then
 (rational_FromInt (1024 : Int)).bind fun t35 =>
 (rational_Compare y2.2 t35).bind fun t36 =>
 some (decide (t36 ≤ (0 : Int)))
 else some false) (fun z3 =>
 some z3) o1

/- robuststats/permutation.one -/
def permutation_one  : Option ((Bool × List Int)) :=
 (integer_FromInt (1 : Int)).bind fun t1 =>
 some t1

/- robuststats/permutation.shift -/
def permutation_shift.l3 : Nat → ((Bool × List Int) × List Int) → (List (((Bool × List Int) × List Int) × (Bool × List Int))) → (List (((Bool × List Int) × List Int) × (Bool × List Int))) → Int → Int → Option (((List (((Bool × List Int) × List Int) × (Bool × List Int)))))
 | 0, _, _, _, _, _ => none
 | k + 1, v3, v5, v8, v9, v10 =>
 bif (decide (v10 < v9)) then
 (idx v8 v10).bind fun t12 =>
 (rational_Add t12.1 v3).bind fun t18 =>
 bif apOk (List.length v5) (List.length ([(t18, t12.2)] : List (((Bool × List Int) × List Int) × (Bool × List Int)))) then
 permutation_shift.l3 k v3 (v5 ++ ([(t18, t12.2)] : List (((Bool × List Int) × List Int) × (Bool × List Int)))) v8 v9 (IntKind.i64.wrap (v10 + (1 : Int)))
 else none
 else some v5
def permutation_shift.L3 (v3 : (Bool × List Int) × List Int) (v5 : List (((Bool × List Int) × List Int) × (Bool × List Int))) (v8 : List (((Bool × List Int) × List Int) × (Bool × List Int))) (v9 : Int) (v10 : Int) : Option (((List (((Bool × List Int) × List Int) × (Bool × List Int))))) := lim fun k => permutation_shift.l3 k v3 v5 v8 v9 v10
theorem permutation_shift.L3_eq (v3 : (Bool × List Int) × List Int) (v5 : List (((Bool × List Int) × List Int) × (Bool × List Int))) (v8 : List (((Bool × List Int) × List Int) × (Bool × List Int))) (v9 : Int) (v10 : Int) : permutation_shift.L3 v3 v5 v8 v9 v10 =
 bif (decide (v10 < v9)) then
 (idx v8 v10).bind fun t12 =>
 (rational_Add t12.1 v3).bind fun t18 =>
 bif apOk (List.length v5) (List.length ([(t18, t12.2)] : List (((Bool × List Int) × List Int) × (Bool × List Int)))) then
 permutation_shift.L3 v3 (v5 ++ ([(t18, t12.2)] : List (((Bool × List Int) × List Int) × (Bool × List Int)))) v8 v9 (IntKind.i64.wrap (v10 + (1 : Int)))
 else none
 else some v5 := by
  show lim (fun k => permutation_shift.l3 k v3 v5 v8 v9 v10) = _
  rw [lim_shift]
  simp only [permutation_shift.l3, lim_cond, lim_bind, lim_const, lim_elim]
  rfl

def permutation_shift (a0 : List (((Bool × List Int) × List Int) × (Bool × List Int))) (a1 : (Bool × List Int) × List Int) : Option ((List (((Bool × List Int) × List Int) × (Bool × List Int)))) :=
 (permutation_shift.L3 a1 ([] : List (((Bool × List Int) × List Int) × (Bool × List Int))) a0 ((List.length a0 : Nat) : Int) (0 : Int)).bind fun o1 =>
 some o1

/- robuststats/permutation.merge -/
def permutation_merge.l2 : Nat → (List (((Bool × List Int) × List Int) × (Bool × List Int))) → (List (((Bool × List Int) × List Int) × (Bool × List Int))) → (List (((Bool × List Int) × List Int) × (Bool × List Int))) → Option (((List (((Bool × List Int) × List Int) × (Bool × List Int))) × (List (((Bool × List Int) × List Int) × (Bool × List Int))) × (List (((Bool × List Int) × List Int) × (Bool × List Int)))))
 | 0, _, _, _ => none
 | k + 1, v0, v1, v5 =>
 bif (decide ((0 : Int) < ((List.length v0 : Nat) : Int))) then
 bif (decide ((0 : Int) < ((List.length v1 : Nat) : Int))) then
 (idx v0 (0 : Int)).bind fun t16 =>
 (idx v1 (0 : Int)).bind fun t20 =>
 (rational_Compare t16.1 t20.1).bind fun t23 =>
 bif (decide (t23 < (0 : Int))) then
 (idx v0 (0 : Int)).bind fun t50 =>
 bif apOk (List.length v5) (List.length ([t50] : List (((Bool × List Int) × List Int) × (Bool × List Int)))) then
 bif slOk (1 : Int) ((List.length v0) : Int) (List.length v0) then
 permutation_merge.l2 k (sub v0 (1 : Int) ((List.length v0) : Int)) v1 (v5 ++ ([t50] : List (((Bool × List Int) × List Int) × (Bool × List Int))))
 else none
 else none
 else bif (decide ((0 : Int) < t23)) then
 (idx v1 (0 : Int)).bind fun t61 =>
 bif apOk (List.length v5) (List.length ([t61] : List (((Bool × List Int) × List Int) × (Bool × List Int)))) then
 bif slOk (1 : Int) ((List.length v1) : Int) (List.length v1) then
 permutation_merge.l2 k v0 (sub v1 (1 : Int) ((List.length v1) : Int)) (v5 ++ ([t61] : List (((Bool × List Int) × List Int) × (Bool × List Int))))
 else none
 else none
 else (idx v0 (0 : Int)).bind fun t26 =>
 (idx v0 (0 : Int)).bind fun t30 =>
 (idx v1 (0 : Int)).bind fun t34 =>
 (integer_Add t30.2 t34.2).bind fun t37 =>
 bif apOk (List.length v5) (List.length ([(t26.1, t37)] : List (((Bool × List Int) × List Int) × (Bool × List Int)))) then
 bif slOk (1 : Int) ((List.length v0) : Int) (List.length v0) then
 bif slOk (1 : Int) ((List.length v1) : Int) (List.length v1) then
 permutation_merge.l2 k (sub v0 (1 : Int) ((List.length v0) : Int)) (sub v1 (1 : Int) ((List.length v1) : Int)) (v5 ++ ([(t26.1, t37)] : List (((Bool × List Int) × List Int) × (Bool × List Int))))
 else none
 else none
 else none
 else some (v0, v1, v5)
 else some (v0, v1, v5)
def permutation_merge.L2 (v0 : List (((Bool × List Int) × List Int) × (Bool × List Int))) (v1 : List (((Bool × List Int) × List Int) × (Bool × List Int))) (v5 : List (((Bool × List Int) × List Int) × (Bool × List Int))) : Option (((List (((Bool × List Int) × List Int) × (Bool × List Int))) × (List (((Bool × List Int) × List Int) × (Bool × List Int))) × (List (((Bool × List Int) × List Int) × (Bool × List Int))))) := lim fun k => permutation_merge.l2 k v0 v1 v5
theorem permutation_merge.L2_eq (v0 : List (((Bool × List Int) × List Int) × (Bool × List Int))) (v1 : List (((Bool × List Int) × List Int) × (Bool × List Int))) (v5 : List (((Bool × List Int) × List Int) × (Bool × List Int))) : permutation_merge.L2 v0 v1 v5 =
 bif (decide ((0 : Int) < ((List.length v0 : Nat) : Int))) then
 bif (decide ((0 : Int) < ((List.length v1 : Nat) : Int))) then
 (idx v0 (0 : Int)).bind fun t16 =>
 (idx v1 (0 : Int)).bind fun t20 =>
 (rational_Compare t16.1 t20.1).bind fun t23 =>
 bif (decide (t23 < (0 : Int))) then
 (idx v0 (0 : Int)).bind fun t50 =>
 bif apOk (List.length v5) (List.length ([t50] : List (((Bool × List Int) × List Int) × (Bool × List Int)))) then
 bif slOk (1 : Int) ((List.length v0) : Int) (List.length v0) then
 permutation_merge.L2 (sub v0 (1 : Int) ((List.length v0) : Int)) v1 (v5 ++ ([t50] : List (((Bool × List Int) × List Int) × (Bool × List Int))))
 else none
 else none
 else bif (decide ((0 : Int) < t23)) then
 (idx v1 (0 : Int)).bind fun t61 =>
 bif apOk (List.length v5) (List.length ([t61] : List (((Bool × List Int) × List Int) × (Bool × List Int)))) then
 bif slOk (1 : Int) ((List.length v1) : Int) (List.length v1) then
 permutation_merge.L2 v0 (sub v1 (1 : Int) ((List.length v1) : Int)) (v5 ++ ([t61] : List (((Bool × List Int) × List Int) × (Bool × List Int))))
 else none
 else none
 else (idx v0 (0 : Int)).bind fun t26 =>
 (idx v0 (0 : Int)).bind fun t30 =>
 (idx v1 (0 : Int)).bind fun t34 =>
 (integer_Add t30.2 t34.2).bind fun t37 =>
 bif apOk (List.length v5) (List.length ([(t26.1, t37)] : List (((Bool × List Int) × List Int) × (Bool × List Int)))) then
 bif slOk (1 : Int) ((List.length v0) : Int) (List.length v0) then
 bif slOk (1 : Int) ((List.length v1) : Int) (List.length v1) then
 permutation_merge.L2 (sub v0 (1 : Int) ((List.length v0) : Int)) (sub v1 (1 : Int) ((List.length v1) : Int)) (v5 ++ ([(t26.1, t37)] : List (((Bool × List Int) × List Int) × (Bool × List Int))))
 else none
 else none
 else none
 else some (v0, v1, v5)
 else some (v0, v1, v5) := by
  show lim (fun k => permutation_merge.l2 k v0 v1 v5) = _
  rw [lim_shift]
  simp only [permutation_merge.l2, lim_cond, lim_bind, lim_const, lim_elim]
  rfl

def permutation_merge (a0 : List (((Bool × List Int) × List Int) × (Bool × List Int))) (a1 : List (((Bool × List Int) × List Int) × (Bool × List Int))) : Option ((List (((Bool × List Int) × List Int) × (Bool × List Int)))) :=
 (permutation_merge.L2 a0 a1 ([] : List (((Bool × List Int) × List Int) × (Bool × List Int)))).bind fun o1 =>
 bif apOk (List.length o1.2.2) (List.length o1.1) then
 bif apOk (List.length (o1.2.2 ++ o1.1)) (List.length o1.2.1) then
 some ((o1.2.2 ++ o1.1) ++ o1.2.1)
 else none
 else none

/- robuststats/permutation.fresh -/
def permutation_fresh.l3 : Nat → (List (((Bool × List Int) × List Int) × (Bool × List Int))) → (List (((Bool × List Int) × List Int) × (Bool × List Int))) → Int → Int → Option (((List (((Bool × List Int) × List Int) × (Bool × List Int)))))
 | 0, _, _, _, _ => none
 | k + 1, v3, v6, v7, v8 =>
 bif (decide (v8 < v7)) then
 (idx v6 v8).bind fun t10 =>
 (exact_Clean t10.1).bind fun t15 =>
 (integer_Add t10.2 (false, ([] : List Int))).bind fun t19 =>
 bif apOk (List.length v3) (List.length ([(t15, t19)] : List (((Bool × List Int) × List Int) × (Bool × List Int)))) then
 permutation_fresh.l3 k (v3 ++ ([(t15, t19)] : List (((Bool × List Int) × List Int) × (Bool × List Int)))) v6 v7 (IntKind.i64.wrap (v8 + (1 : Int)))
 else none
 else some v3
def permutation_fresh.L3 (v3 : List (((Bool × List Int) × List Int) × (Bool × List Int))) (v6 : List (((Bool × List Int) × List Int) × (Bool × List Int))) (v7 : Int) (v8 : Int) : Option (((List (((Bool × List Int) × List Int) × (Bool × List Int))))) := lim fun k => permutation_fresh.l3 k v3 v6 v7 v8
theorem permutation_fresh.L3_eq (v3 : List (((Bool × List Int) × List Int) × (Bool × List Int))) (v6 : List (((Bool × List Int) × List Int) × (Bool × List Int))) (v7 : Int) (v8 : Int) : permutation_fresh.L3 v3 v6 v7 v8 =
 bif (decide (v8 < v7)) then
 (idx v6 v8).bind fun t10 =>
 (exact_Clean t10.1).bind fun t15 =>
 (integer_Add t10.2 (false, ([] : List Int))).bind fun t19 =>
 bif apOk (List.length v3) (List.length ([(t15, t19)] : List (((Bool × List Int) × List Int) × (Bool × List Int)))) then
 permutation_fresh.L3 (v3 ++ ([(t15, t19)] : List (((Bool × List Int) × List Int) × (Bool × List Int)))) v6 v7 (IntKind.i64.wrap (v8 + (1 : Int)))
 else none
 else some v3 := by
  show lim (fun k => permutation_fresh.l3 k v3 v6 v7 v8) = _
  rw [lim_shift]
  simp only [permutation_fresh.l3, lim_cond, lim_bind, lim_const, lim_elim]
  rfl

def permutation_fresh (a0 : List (((Bool × List Int) × List Int) × (Bool × List Int))) : Option ((List (((Bool × List Int) × List Int) × (Bool × List Int)))) :=
 (permutation_fresh.L3 ([] : List (((Bool × List Int) × List Int) × (Bool × List Int))) a0 ((List.length a0 : Nat) : Int) (0 : Int)).bind fun o1 =>
 some o1

/- robuststats/permutation.Subsets -/
def permutation_Subsets.l11 : Nat → Int → (List (List (((Bool × List Int) × List Int) × (Bool × List Int)))) → ((Bool × List Int) × List Int) → Int → (List ((Bool × List Int) × List Int)) → Int → Int → Option ((Int × (List (List (((Bool × List Int) × List Int) × (Bool × List Int)))) × (List ((Bool × List Int) × List Int)) × Int × Int))
 | 0, _, _, _, _, _, _, _ => none
 | k + 1, v1, v6, v8, v9, v29, v30, v31 =>
 bif (decide ((1 : Int) ≤ v9)) then
 bif inb v9 (List.length v6) then
 (v6[v9.toNat]?).bind fun t49 =>
 bif inb (IntKind.i64.wrap (v9 - (1 : Int))) (List.length v6) then
 (v6[(IntKind.i64.wrap (v9 - (1 : Int))).toNat]?).bind fun t54 =>
 (permutation_shift t54 v8).bind fun t56 =>
 (permutation_merge t49 t56).bind fun t57 =>
 bif inb v9 (List.length v6) then
 (v6[v9.toNat]?).bind fun x2 =>
 permutation_Subsets.l11 k v1 (v6.set v9.toNat t57) v8 (IntKind.i64.wrap (v9 - (1 : Int))) v29 v30 v31
 else none
 else none
 else none
 else some (v1, v6, v29, v30, v31)
def permutation_Subsets.L11 (v1 : Int) (v6 : List (List (((Bool × List Int) × List Int) × (Bool × List Int)))) (v8 : (Bool × List Int) × List Int) (v9 : Int) (v29 : List ((Bool × List Int) × List Int)) (v30 : Int) (v31 : Int) : Option ((Int × (List (List (((Bool × List Int) × List Int) × (Bool × List Int)))) × (List ((Bool × List Int) × List Int)) × Int × Int)) := lim fun k => permutation_Subsets.l11 k v1 v6 v8 v9 v29 v30 v31
theorem permutation_Subsets.L11_eq (v1 : Int) (v6 : List (List (((Bool × List Int) × List Int) × (Bool × List Int)))) (v8 : (Bool × List Int) × List Int) (v9 : Int) (v29 : List ((Bool × List Int) × List Int)) (v30 : Int) (v31 : Int) : permutation_Subsets.L11 v1 v6 v8 v9 v29 v30 v31 =
 bif (decide ((1 : Int) ≤ v9)) then
 bif inb v9 (List.length v6) then
 (v6[v9.toNat]?).bind fun t49 =>
 bif inb (IntKind.i64.wrap (v9 - (1 : Int))) (List.length v6) then
 (v6[(IntKind.i64.wrap (v9 - (1 : Int))).toNat]?).bind fun t54 =>
 (permutation_shift t54 v8).bind fun t56 =>
 (permutation_merge t49 t56).bind fun t57 =>
 bif inb v9 (List.length v6) then
 (v6[v9.toNat]?).bind fun x2 =>
 permutation_Subsets.L11 v1 (v6.set v9.toNat t57) v8 (IntKind.i64.wrap (v9 - (1 : Int))) v29 v30 v31
 else none
 else none
 else none
 else some (v1, v6, v29, v30, v31) := by
  show lim (fun k => permutation_Subsets.l11 k v1 v6 v8 v9 v29 v30 v31) = _
  rw [lim_shift]
  simp only [permutation_Subsets.l11, lim_cond, lim_bind, lim_const, lim_elim]
  rfl

def permutation_Subsets.l8 : Nat → Int → (List (List (((Bool × List Int) × List Int) × (Bool × List Int)))) → (List ((Bool × List Int) × List Int)) → Int → Int → Option ((Int × (List (List (((Bool × List Int) × List Int) × (Bool × List Int))))))
 | 0, _, _, _, _, _ => none
 | k + 1, v1, v6, v29, v30, v31 =>
 bif (decide (v31 < v30)) then
 (idx v29 v31).bind fun t34 =>
 (permutation_Subsets.L11 v1 v6 t34 (minI (IntKind.i64.wrap (v31 + (1 : Int))) v1) v29 v30 v31).bind fun o3 =>
 permutation_Subsets.l8 k o3.1 o3.2.1 o3.2.2.1 o3.2.2.2.1 (IntKind.i64.wrap (o3.2.2.2.2 + (1 : Int)))
 else some (v1, v6)
def permutation_Subsets.L8 (v1 : Int) (v6 : List (List (((Bool × List Int) × List Int) × (Bool × List Int)))) (v29 : List ((Bool × List Int) × List Int)) (v30 : Int) (v31 : Int) : Option ((Int × (List (List (((Bool × List Int) × List Int) × (Bool × List Int)))))) := lim fun k => permutation_Subsets.l8 k v1 v6 v29 v30 v31
theorem permutation_Subsets.L8_eq (v1 : Int) (v6 : List (List (((Bool × List Int) × List Int) × (Bool × List Int)))) (v29 : List ((Bool × List Int) × List Int)) (v30 : Int) (v31 : Int) : permutation_Subsets.L8 v1 v6 v29 v30 v31 =
 bif (decide (v31 < v30)) then
 (idx v29 v31).bind fun t34 =>
 (permutation_Subsets.L11 v1 v6 t34 (minI (IntKind.i64.wrap (v31 + (1 : Int))) v1) v29 v30 v31).bind fun o3 =>
 permutation_Subsets.L8 o3.1 o3.2.1 o3.2.2.1 o3.2.2.2.1 (IntKind.i64.wrap (o3.2.2.2.2 + (1 : Int)))
 else some (v1, v6) := by
  show lim (fun k => permutation_Subsets.l8 k v1 v6 v29 v30 v31) = _
  rw [lim_shift]
  simp only [permutation_Subsets.l8, lim_cond, lim_bind, lim_const, lim_elim]
  rfl

def permutation_Subsets (a0 : List ((Bool × List Int) × List Int)) (a1 : Int) : Option ((List (((Bool × List Int) × List Int) × (Bool × List Int))) × Int) :=
 (permutation_small a0).bind fun t11 =>
 bif (!t11) then
 some (([] : List (((Bool × List Int) × List Int) × (Bool × List Int))), (2 : Int))
 else bif (decide (a1 < (0 : Int))) then
 some (([] : List (((Bool × List Int) × List Int) × (Bool × List Int))), (1 : Int))
 else bif (decide (((List.length a0 : Nat) : Int) < a1)) then
 some (([] : List (((Bool × List Int) × List Int) × (Bool × List Int))), (1 : Int))
 else bif mkOk (IntKind.i64.wrap (a1 + (1 : Int))) (IntKind.i64.wrap (a1 + (1 : Int))) then
 (permutation_one).bind fun t25 =>
 bif inb (0 : Int) (List.length (List.replicate (IntKind.i64.wrap (a1 + (1 : Int))).toNat ([] : List (((Bool × List Int) × List Int) × (Bool × List Int))))) then
 ((List.replicate (IntKind.i64.wrap (a1 + (1 : Int))).toNat ([] : List (((Bool × List Int) × List Int) × (Bool × List Int))))[(0 : Int).toNat]?).bind fun x1 =>
 (permutation_Subsets.L8 a1 ((List.replicate (IntKind.i64.wrap (a1 + (1 : Int))).toNat ([] : List (((Bool × List Int) × List Int) × (Bool × List Int)))).set ((0 : Int).toNat) ([(((false, ([] : List Int)), ([] : List Int)), t25)] : List (((Bool × List Int) × List Int) × (Bool × List Int)))) a0 ((List.length a0 : Nat) : Int) (0 : Int)).bind fun o4 =>
 bif inb o4.1 (List.length o4.2) then
 (o4.2[o4.1.toNat]?).bind fun t63 =>
 (permutation_fresh t63).bind fun t64 =>
 some (t64, (0 : Int))
 else none
 else none
 else none

/- robuststats/permutation.Valid -/
def permutation_Valid.l4 : Nat → (List (((Bool × List Int) × List Int) × (Bool × List Int))) → (List (((Bool × List Int) × List Int) × (Bool × List Int))) → Int → Int → Option (Unit ⊕ Bool)
 | 0, _, _, _, _ => none
 | k + 1, v0, v8, v9, v10 =>
 bif (decide (v10 < v9)) then
 (idx v8 v10).bind fun t13 =>
 (integer_Sign t13.2).bind fun t17 =>
 bif (decide (t17 ≤ (0 : Int))) then
 some (.inr false)
 else bif (decide ((0 : Int) < v10)) then
 (idx v0 (IntKind.i64.wrap (v10 - (1 : Int)))).bind fun t26 =>
 (exact_Less t26.1 t13.1).bind fun t31 =>
 bif (!t31) then
 some (.inr false)
 else permutation_Valid.l4 k v0 v8 v9 (IntKind.i64.wrap (v10 + (1 : Int)))
 else permutation_Valid.l4 k v0 v8 v9 (IntKind.i64.wrap (v10 + (1 : Int)))
 else some (.inl ())
def permutation_Valid.L4 (v0 : List (((Bool × List Int) × List Int) × (Bool × List Int))) (v8 : List (((Bool × List Int) × List Int) × (Bool × List Int))) (v9 : Int) (v10 : Int) : Option (Unit ⊕ Bool) := lim fun k => permutation_Valid.l4 k v0 v8 v9 v10
theorem permutation_Valid.L4_eq (v0 : List (((Bool × List Int) × List Int) × (Bool × List Int))) (v8 : List (((Bool × List Int) × List Int) × (Bool × List Int))) (v9 : Int) (v10 : Int) : permutation_Valid.L4 v0 v8 v9 v10 =
 bif (decide (v10 < v9)) then
 (idx v8 v10).bind fun t13 =>
 (integer_Sign t13.2).bind fun t17 =>
 bif (decide (t17 ≤ (0 : Int))) then
 some (.inr false)
 else bif (decide ((0 : Int) < v10)) then
 (idx v0 (IntKind.i64.wrap (v10 - (1 : Int)))).bind fun t26 =>
 (exact_Less t26.1 t13.1).bind fun t31 =>
 bif (!t31) then
 some (.inr false)
 else permutation_Valid.L4 v0 v8 v9 (IntKind.i64.wrap (v10 + (1 : Int)))
 else permutation_Valid.L4 v0 v8 v9 (IntKind.i64.wrap (v10 + (1 : Int)))
 else some (.inl ()) := by
  show lim (fun k => permutation_Valid.l4 k v0 v8 v9 v10) = _
  rw [lim_shift]
  simp only [permutation_Valid.l4, lim_cond, lim_bind, lim_const, lim_elim]
  rfl

def permutation_Valid (a0 : List (((Bool × List Int) × List Int) × (Bool × List Int))) : Option (Bool) :=
 bif (decide ((16384 : Int) < ((List.length a0 : Nat) : Int))) then
 some false
 else (permutation_Valid.L4 a0 a0 ((List.length a0 : Nat) : Int) (0 : Int)).bind fun o1 =>
 Sum.elim (fun y2 =>
 some true) (fun z3 =>
 some z3) o1

/- robuststats/permutation.check -/
def permutation_check (a0 : List (((Bool × List Int) × List Int) × (Bool × List Int))) : Option (Int) :=
 (permutation_Valid a0).bind fun t5 =>
 bif (!t5) then
 some (4 : Int)
 else bif (decide (((List.length a0 : Nat) : Int) = (0 : Int))) then
 some (10 : Int)
 else some (0 : Int)

/- robuststats/permutation.total -/
def permutation_total.l3 : Nat → (Bool × List Int) → (Bool × List Int) → (List (((Bool × List Int) × List Int) × (Bool × List Int))) → Int → Int → Option (((Bool × List Int) × (Bool × List Int)))
 | 0, _, _, _, _, _ => none
 | k + 1, v2, v3, v6, v7, v8 =>
 bif (decide (v8 < v7)) then
 (idx v6 v8).bind fun t10 =>
 (integer_Add v3 t10.2).bind fun t15 =>
 permutation_total.l3 k v2 t15 v6 v7 (IntKind.i64.wrap (v8 + (1 : Int)))
 else some (v2, v3)
def permutation_total.L3 (v2 : Bool × List Int) (v3 : Bool × List Int) (v6 : List (((Bool × List Int) × List Int) × (Bool × List Int))) (v7 : Int) (v8 : Int) : Option (((Bool × List Int) × (Bool × List Int))) := lim fun k => permutation_total.l3 k v2 v3 v6 v7 v8
theorem permutation_total.L3_eq (v2 : Bool × List Int) (v3 : Bool × List Int) (v6 : List (((Bool × List Int) × List Int) × (Bool × List Int))) (v7 : Int) (v8 : Int) : permutation_total.L3 v2 v3 v6 v7 v8 =
 bif (decide (v8 < v7)) then
 (idx v6 v8).bind fun t10 =>
 (integer_Add v3 t10.2).bind fun t15 =>
 permutation_total.L3 v2 t15 v6 v7 (IntKind.i64.wrap (v8 + (1 : Int)))
 else some (v2, v3) := by
  show lim (fun k => permutation_total.l3 k v2 v3 v6 v7 v8) = _
  rw [lim_shift]
  simp only [permutation_total.l3, lim_cond, lim_bind, lim_const, lim_elim]
  rfl

def permutation_total (a0 : List (((Bool × List Int) × List Int) × (Bool × List Int))) : Option ((Bool × List Int)) :=
 (permutation_total.L3 (false, ([] : List Int)) (false, ([] : List Int)) a0 ((List.length a0 : Nat) : Int) (0 : Int)).bind fun o1 =>
 some o1.2

/- robuststats/permutation.ratio -/
def permutation_ratio (a0 : Bool × List Int) (a1 : Bool × List Int) : Option (((Bool × List Int) × List Int)) :=
 (rational_Make a0 a1).bind fun t10 =>
 some t10.1

/- robuststats/permutation.Moments -/
def permutation_Moments.l6 : Nat → (List (((Bool × List Int) × List Int) × (Bool × List Int))) → ((Bool × List Int) × List Int) → ((Bool × List Int) × List Int) → (Bool × List Int) → (List (((Bool × List Int) × List Int) × (Bool × List Int))) → Int → Int → Option (((List (((Bool × List Int) × List Int) × (Bool × List Int))) × ((Bool × List Int) × List Int) × ((Bool × List Int) × List Int) × (Bool × List Int)))
 | 0, _, _, _, _, _, _, _ => none
 | k + 1, v0, v2, v3, v6, v21, v22, v23 =>
 bif (decide (v23 < v22)) then
 (idx v21 v23).bind fun t25 =>
 (permutation_ratio t25.2 v6).bind fun t33 =>
 (rational_Mul t25.1 t33).bind fun t34 =>
 (rational_Add v2 t34).bind fun t35 =>
 permutation_Moments.l6 k v0 t35 v3 v6 v21 v22 (IntKind.i64.wrap (v23 + (1 : Int)))
 else some (v0, v2, v3, v6)
def permutation_Moments.L6 (v0 : List (((Bool × List Int) × List Int) × (Bool × List Int))) (v2 : (Bool × List Int) × List Int) (v3 : (Bool × List Int) × List Int) (v6 : Bool × List Int) (v21 : List (((Bool × List Int) × List Int) × (Bool × List Int))) (v22 : Int) (v23 : Int) : Option (((List (((Bool × List Int) × List Int) × (Bool × List Int))) × ((Bool × List Int) × List Int) × ((Bool × List Int) × List Int) × (Bool × List Int))) := lim fun k => permutation_Moments.l6 k v0 v2 v3 v6 v21 v22 v23
theorem permutation_Moments.L6_eq (v0 : List (((Bool × List Int) × List Int) × (Bool × List Int))) (v2 : (Bool × List Int) × List Int) (v3 : (Bool × List Int) × List Int) (v6 : Bool × List Int) (v21 : List (((Bool × List Int) × List Int) × (Bool × List Int))) (v22 : Int) (v23 : Int) : permutation_Moments.L6 v0 v2 v3 v6 v21 v22 v23 =
 bif (decide (v23 < v22)) then
 (idx v21 v23).bind fun t25 =>
 (permutation_ratio t25.2 v6).bind fun t33 =>
 (rational_Mul t25.1 t33).bind fun t34 =>
 (rational_Add v2 t34).bind fun t35 =>
 permutation_Moments.L6 v0 t35 v3 v6 v21 v22 (IntKind.i64.wrap (v23 + (1 : Int)))
 else some (v0, v2, v3, v6) := by
  show lim (fun k => permutation_Moments.l6 k v0 v2 v3 v6 v21 v22 v23) = _
  rw [lim_shift]
  simp only [permutation_Moments.l6, lim_cond, lim_bind, lim_const, lim_elim]
  rfl

def permutation_Moments.l11 : Nat → ((Bool × List Int) × List Int) → ((Bool × List Int) × List Int) → (Bool × List Int) → (List (((Bool × List Int) × List Int) × (Bool × List Int))) → Int → Int → Option ((((Bool × List Int) × List Int) × ((Bool × List Int) × List Int)))
 | 0, _, _, _, _, _, _ => none
 | k + 1, v2, v3, v6, v37, v38, v39 =>
 bif (decide (v39 < v38)) then
 (idx v37 v39).bind fun t41 =>
 (rational_Sub t41.1 v2).bind fun t46 =>
 (rational_Mul t46 t46).bind fun t50 =>
 (permutation_ratio t41.2 v6).bind fun t54 =>
 (rational_Mul t50 t54).bind fun t55 =>
 (rational_Add v3 t55).bind fun t56 =>
 permutation_Moments.l11 k v2 t56 v6 v37 v38 (IntKind.i64.wrap (v39 + (1 : Int)))
 else some (v2, v3)
def permutation_Moments.L11 (v2 : (Bool × List Int) × List Int) (v3 : (Bool × List Int) × List Int) (v6 : Bool × List Int) (v37 : List (((Bool × List Int) × List Int) × (Bool × List Int))) (v38 : Int) (v39 : Int) : Option ((((Bool × List Int) × List Int) × ((Bool × List Int) × List Int))) := lim fun k => permutation_Moments.l11 k v2 v3 v6 v37 v38 v39
theorem permutation_Moments.L11_eq (v2 : (Bool × List Int) × List Int) (v3 : (Bool × List Int) × List Int) (v6 : Bool × List Int) (v37 : List (((Bool × List Int) × List Int) × (Bool × List Int))) (v38 : Int) (v39 : Int) : permutation_Moments.L11 v2 v3 v6 v37 v38 v39 =
 bif (decide (v39 < v38)) then
 (idx v37 v39).bind fun t41 =>
 (rational_Sub t41.1 v2).bind fun t46 =>
 (rational_Mul t46 t46).bind fun t50 =>
 (permutation_ratio t41.2 v6).bind fun t54 =>
 (rational_Mul t50 t54).bind fun t55 =>
 (rational_Add v3 t55).bind fun t56 =>
 permutation_Moments.L11 v2 t56 v6 v37 v38 (IntKind.i64.wrap (v39 + (1 : Int)))
 else some (v2, v3) := by
  show lim (fun k => permutation_Moments.l11 k v2 v3 v6 v37 v38 v39) = _
  rw [lim_shift]
  simp only [permutation_Moments.l11, lim_cond, lim_bind, lim_const, lim_elim]
  rfl

def permutation_Moments (a0 : List (((Bool × List Int) × List Int) × (Bool × List Int))) : Option (((Bool × List Int) × List Int) × ((Bool × List Int) × List Int) × Int) :=
 (permutation_check a0).bind fun t13 =>
 bif (!decide (t13 = (0 : Int))) then
 some (((false, ([] : List Int)), ([] : List Int)), ((false, ([] : List Int)), ([] : List Int)), t13)
 else (permutation_total a0).bind fun t20 =>
 (permutation_Moments.L6 a0 ((false, ([] : List Int)), ([] : List Int)) ((false, ([] : List Int)), ([] : List Int)) t20 a0 ((List.length a0 : Nat) : Int) (0 : Int)).bind fun o1 =>
 (permutation_Moments.L11 o1.2.1 o1.2.2.1 o1.2.2.2 o1.1 ((List.length o1.1 : Nat) : Int) (0 : Int)).bind fun o2 =>
 some (o2.1, o2.2, (0 : Int))

/- robuststats/permutation.known -/
def permutation_known (a0 : Int) : Option (Bool) :=
 bif (decide (a0 = (1 : Int))) then
 some true
 else bif (decide (a0 = (2 : Int))) then
 some true
 else some (decide (a0 = (3 : Int)))

/- robuststats/permutation.Tail -/
def permutation_Tail.l9 : Nat → (List (((Bool × List Int) × List Int) × (Bool × List Int))) → Int → ((Bool × List Int) × List Int) → ((Bool × List Int) × List Int) → ((Bool × List Int) × List Int) → ((Bool × List Int) × List Int) → (Bool × List Int) → (List (((Bool × List Int) × List Int) × (Bool × List Int))) → Int → Int → Option (((List (((Bool × List Int) × List Int) × (Bool × List Int))) × ((Bool × List Int) × List Int) × (Bool × List Int)))
 | 0, _, _, _, _, _, _, _, _, _, _ => none
 | k + 1, v0, v2, v4, v6, v8, v11, v12, v35, v36, v37 =>
 bif (decide (v37 < v36)) then
 (idx v35 v37).bind fun t39 =>
 (rational_Compare t39.1 v4).bind fun t44 =>
 bif (decide (v2 = (2 : Int))) then
 bif (decide ((0 : Int) ≤ t44)) then
 (integer_Add v12 t39.2).bind fun t66 =>
 permutation_Tail.l9 k v0 v2 v4 v6 v8 v11 t66 v35 v36 (IntKind.i64.wrap (v37 + (1 : Int)))
 else permutation_Tail.l9 k v0 v2 v4 v6 v8 v11 v12 v35 v36 (IntKind.i64.wrap (v37 + (1 : Int)))
 else bif (decide (v2 = (3 : Int))) then
 (rational_Sub t39.1 v8).bind fun t57 =>
 (rational_Abs t57).bind fun t58 =>
 (exact_Less t58 v11).bind fun t60 =>
 bif (!t60) then
 (integer_Add v12 t39.2).bind fun t66 =>
 permutation_Tail.l9 k v0 v2 v4 v6 v8 v11 t66 v35 v36 (IntKind.i64.wrap (v37 + (1 : Int)))
 else permutation_Tail.l9 k v0 v2 v4 v6 v8 v11 v12 v35 v36 (IntKind.i64.wrap (v37 + (1 : Int)))
 else bif (decide (t44 ≤ (0 : Int))) then
 (integer_Add v12 t39.2).bind fun t66 =>
 permutation_Tail.l9 k v0 v2 v4 v6 v8 v11 t66 v35 v36 (IntKind.i64.wrap (v37 + (1 : Int)))
 else permutation_Tail.l9 k v0 v2 v4 v6 v8 v11 v12 v35 v36 (IntKind.i64.wrap (v37 + (1 : Int)))
 else some (v0, v6, v12)
def permutation_Tail.L9 (v0 : List (((Bool × List Int) × List Int) × (Bool × List Int))) (v2 : Int) (v4 : (Bool × List Int) × List Int) (v6 : (Bool × List Int) × List Int) (v8 : (Bool × List Int) × List Int) (v11 : (Bool × List Int) × List Int) (v12 : Bool × List Int) (v35 : List (((Bool × List Int) × List Int) × (Bool × List Int))) (v36 : Int) (v37 : Int) : Option (((List (((Bool × List Int) × List Int) × (Bool × List Int))) × ((Bool × List Int) × List Int) × (Bool × List Int))) := lim fun k => permutation_Tail.l9 k v0 v2 v4 v6 v8 v11 v12 v35 v36 v37
theorem permutation_Tail.L9_eq (v0 : List (((Bool × List Int) × List Int) × (Bool × List Int))) (v2 : Int) (v4 : (Bool × List Int) × List Int) (v6 : (Bool × List Int) × List Int) (v8 : (Bool × List Int) × List Int) (v11 : (Bool × List Int) × List Int) (v12 : Bool × List Int) (v35 : List (((Bool × List Int) × List Int) × (Bool × List Int))) (v36 : Int) (v37 : Int) : permutation_Tail.L9 v0 v2 v4 v6 v8 v11 v12 v35 v36 v37 =
 bif (decide (v37 < v36)) then
 (idx v35 v37).bind fun t39 =>
 (rational_Compare t39.1 v4).bind fun t44 =>
 bif (decide (v2 = (2 : Int))) then
 bif (decide ((0 : Int) ≤ t44)) then
 (integer_Add v12 t39.2).bind fun t66 =>
 permutation_Tail.L9 v0 v2 v4 v6 v8 v11 t66 v35 v36 (IntKind.i64.wrap (v37 + (1 : Int)))
 else permutation_Tail.L9 v0 v2 v4 v6 v8 v11 v12 v35 v36 (IntKind.i64.wrap (v37 + (1 : Int)))
 else bif (decide (v2 = (3 : Int))) then
 (rational_Sub t39.1 v8).bind fun t57 =>
 (rational_Abs t57).bind fun t58 =>
 (exact_Less t58 v11).bind fun t60 =>
 bif (!t60) then
 (integer_Add v12 t39.2).bind fun t66 =>
 permutation_Tail.L9 v0 v2 v4 v6 v8 v11 t66 v35 v36 (IntKind.i64.wrap (v37 + (1 : Int)))
 else permutation_Tail.L9 v0 v2 v4 v6 v8 v11 v12 v35 v36 (IntKind.i64.wrap (v37 + (1 : Int)))
 else bif (decide (t44 ≤ (0 : Int))) then
 (integer_Add v12 t39.2).bind fun t66 =>
 permutation_Tail.L9 v0 v2 v4 v6 v8 v11 t66 v35 v36 (IntKind.i64.wrap (v37 + (1 : Int)))
 else permutation_Tail.L9 v0 v2 v4 v6 v8 v11 v12 v35 v36 (IntKind.i64.wrap (v37 + (1 : Int)))
 else some (v0, v6, v12) := by
  show lim (fun k => permutation_Tail.l9 k v0 v2 v4 v6 v8 v11 v12 v35 v36 v37) = _
  rw [lim_shift]
  simp only [permutation_Tail.l9, lim_cond, lim_bind, lim_const, lim_elim]
  rfl

def permutation_Tail (a0 : List (((Bool × List Int) × List Int) × (Bool × List Int))) (a1 : (Bool × List Int) × List Int) (a2 : Int) : Option (((Bool × List Int) × List Int) × Int) :=
 (permutation_Moments a0).bind fun t19 =>
 bif (!decide (t19.2.2 = (0 : Int))) then
 some (((false, ([] : List Int)), ([] : List Int)), t19.2.2)
 else (permutation_known a2).bind fun t28 =>
 bif (!t28) then
 some (((false, ([] : List Int)), ([] : List Int)), (1 : Int))
 else (rational_Sub a1 t19.1).bind fun t33 =>
 (rational_Abs t33).bind fun t34 =>
 (permutation_Tail.L9 a0 a2 a1 ((false, ([] : List Int)), ([] : List Int)) t19.1 t34 (false, ([] : List Int)) a0 ((List.length a0 : Nat) : Int) (0 : Int)).bind fun o1 =>
 (permutation_total o1.1).bind fun t70 =>
 (permutation_ratio o1.2.2 t70).bind fun t71 =>
 some (t71, (0 : Int))

/- robuststats/permutation.pooled -/
def permutation_pooled (a0 : List ((Bool × List Int) × List Int)) (a1 : List ((Bool × List Int) × List Int)) : Option ((List (((Bool × List Int) × List Int) × (Bool × List Int))) × Int) :=
 (api_Rat_ a0).bind fun t7 =>
 bif apOk (List.length t7) (List.length a1) then
 (permutation_Subsets (t7 ++ a1) ((List.length a0 : Nat) : Int)).bind fun t12 =>
 some (t12.1, t12.2)
 else none

/- robuststats/permutation.Convolve -/
def permutation_Convolve.l9 : Nat → (List (((Bool × List Int) × List Int) × (Bool × List Int))) → (List (((Bool × List Int) × List Int) × (Bool × List Int))) → (((Bool × List Int) × List Int) × (Bool × List Int)) → (List (((Bool × List Int) × List Int) × (Bool × List Int))) → (List (((Bool × List Int) × List Int) × (Bool × List Int))) → Int → Int → (List (((Bool × List Int) × List Int) × (Bool × List Int))) → Int → Int → Option (((List (((Bool × List Int) × List Int) × (Bool × List Int))) × (List (((Bool × List Int) × List Int) × (Bool × List Int))) × (List (((Bool × List Int) × List Int) × (Bool × List Int))) × (List (((Bool × List Int) × List Int) × (Bool × List Int))) × Int × Int))
 | 0, _, _, _, _, _, _, _, _, _, _ => none
 | k + 1, v1, v6, v8, v9, v20, v21, v22, v26, v27, v28 =>
 bif (decide (v28 < v27)) then
 (idx v26 v28).bind fun t30 =>
 (rational_Add v8.1 t30.1).bind fun t37 =>
 (integer_Mul v8.2 t30.2).bind fun t42 =>
 bif apOk (List.length v9) (List.length ([(t37, t42)] : List (((Bool × List Int) × List Int) × (Bool × List Int)))) then
 permutation_Convolve.l9 k v1 v6 v8 (v9 ++ ([(t37, t42)] : List (((Bool × List Int) × List Int) × (Bool × List Int)))) v20 v21 v22 v26 v27 (IntKind.i64.wrap (v28 + (1 : Int)))
 else none
 else some (v1, v6, v9, v20, v21, v22)
def permutation_Convolve.L9 (v1 : List (((Bool × List Int) × List Int) × (Bool × List Int))) (v6 : List (((Bool × List Int) × List Int) × (Bool × List Int))) (v8 : ((Bool × List Int) × List Int) × (Bool × List Int)) (v9 : List (((Bool × List Int) × List Int) × (Bool × List Int))) (v20 : List (((Bool × List Int) × List Int) × (Bool × List Int))) (v21 : Int) (v22 : Int) (v26 : List (((Bool × List Int) × List Int) × (Bool × List Int))) (v27 : Int) (v28 : Int) : Option (((List (((Bool × List Int) × List Int) × (Bool × List Int))) × (List (((Bool × List Int) × List Int) × (Bool × List Int))) × (List (((Bool × List Int) × List Int) × (Bool × List Int))) × (List (((Bool × List Int) × List Int) × (Bool × List Int))) × Int × Int)) := lim fun k => permutation_Convolve.l9 k v1 v6 v8 v9 v20 v21 v22 v26 v27 v28
theorem permutation_Convolve.L9_eq (v1 : List (((Bool × List Int) × List Int) × (Bool × List Int))) (v6 : List (((Bool × List Int) × List Int) × (Bool × List Int))) (v8 : ((Bool × List Int) × List Int) × (Bool × List Int)) (v9 : List (((Bool × List Int) × List Int) × (Bool × List Int))) (v20 : List (((Bool × List Int) × List Int) × (Bool × List Int))) (v21 : Int) (v22 : Int) (v26 : List (((Bool × List Int) × List Int) × (Bool × List Int))) (v27 : Int) (v28 : Int) : permutation_Convolve.L9 v1 v6 v8 v9 v20 v21 v22 v26 v27 v28 =
 bif (decide (v28 < v27)) then
 (idx v26 v28).bind fun t30 =>
 (rational_Add v8.1 t30.1).bind fun t37 =>
 (integer_Mul v8.2 t30.2).bind fun t42 =>
 bif apOk (List.length v9) (List.length ([(t37, t42)] : List (((Bool × List Int) × List Int) × (Bool × List Int)))) then
 permutation_Convolve.L9 v1 v6 v8 (v9 ++ ([(t37, t42)] : List (((Bool × List Int) × List Int) × (Bool × List Int)))) v20 v21 v22 v26 v27 (IntKind.i64.wrap (v28 + (1 : Int)))
 else none
 else some (v1, v6, v9, v20, v21, v22) := by
  show lim (fun k => permutation_Convolve.l9 k v1 v6 v8 v9 v20 v21 v22 v26 v27 v28) = _
  rw [lim_shift]
  simp only [permutation_Convolve.l9, lim_cond, lim_bind, lim_const, lim_elim]
  rfl

def permutation_Convolve.l5 : Nat → (List (((Bool × List Int) × List Int) × (Bool × List Int))) → (List (((Bool × List Int) × List Int) × (Bool × List Int))) → (List (((Bool × List Int) × List Int) × (Bool × List Int))) → Int → Int → Option (((List (((Bool × List Int) × List Int) × (Bool × List Int)))) ⊕ ((List (((Bool × List Int) × List Int) × (Bool × List Int))) × Int))
 | 0, _, _, _, _, _ => none
 | k + 1, v1, v6, v20, v21, v22 =>
 bif (decide (v22 < v21)) then
 (idx v20 v22).bind fun t24 =>
 (permutation_Convolve.L9 v1 v6 t24 ([] : List (((Bool × List Int) × List Int) × (Bool × List Int))) v20 v21 v22 v1 ((List.length v1 : Nat) : Int) (0 : Int)).bind fun o1 =>
 (permutation_merge o1.2.1 o1.2.2.1).bind fun t49 =>
 bif (decide ((16384 : Int) < ((List.length t49 : Nat) : Int))) then
 some (.inr (([] : List (((Bool × List Int) × List Int) × (Bool × List Int))), (2 : Int)))
 else permutation_Convolve.l5 k o1.1 t49 o1.2.2.2.1 o1.2.2.2.2.1 (IntKind.i64.wrap (o1.2.2.2.2.2 + (1 : Int)))
 else some (.inl v6)
def permutation_Convolve.L5 (v1 : List (((Bool × List Int) × List Int) × (Bool × List Int))) (v6 : List (((Bool × List Int) × List Int) × (Bool × List Int))) (v20 : List (((Bool × List Int) × List Int) × (Bool × List Int))) (v21 : Int) (v22 : Int) : Option (((List (((Bool × List Int) × List Int) × (Bool × List Int)))) ⊕ ((List (((Bool × List Int) × List Int) × (Bool × List Int))) × Int)) := lim fun k => permutation_Convolve.l5 k v1 v6 v20 v21 v22
theorem permutation_Convolve.L5_eq (v1 : List (((Bool × List Int) × List Int) × (Bool × List Int))) (v6 : List (((Bool × List Int) × List Int) × (Bool × List Int))) (v20 : List (((Bool × List Int) × List Int) × (Bool × List Int))) (v21 : Int) (v22 : Int) : permutation_Convolve.L5 v1 v6 v20 v21 v22 =
 bif (decide (v22 < v21)) then
 (idx v20 v22).bind fun t24 =>
 (permutation_Convolve.L9 v1 v6 t24 ([] : List (((Bool × List Int) × List Int) × (Bool × List Int))) v20 v21 v22 v1 ((List.length v1 : Nat) : Int) (0 : Int)).bind fun o1 =>
 (permutation_merge o1.2.1 o1.2.2.1).bind fun t49 =>
 bif (decide ((16384 : Int) < ((List.length t49 : Nat) : Int))) then
 some (.inr (([] : List (((Bool × List Int) × List Int) × (Bool × List Int))), (2 : Int)))
 else permutation_Convolve.L5 o1.1 t49 o1.2.2.2.1 o1.2.2.2.2.1 (IntKind.i64.wrap (o1.2.2.2.2.2 + (1 : Int)))
 else some (.inl v6) := by
  show lim (fun k => permutation_Convolve.l5 k v1 v6 v20 v21 v22) = _
  rw [lim_shift]
  simp only [permutation_Convolve.l5, lim_cond, lim_bind, lim_const, lim_elim]
  rfl

def permutation_Convolve (a0 : List (((Bool × List Int) × List Int) × (Bool × List Int))) (a1 : List (((Bool × List Int) × List Int) × (Bool × List Int))) : Option ((List (((Bool × List Int) × List Int) × (Bool × List Int))) × Int) :=
 (permutation_Valid a0).bind fun t13 =>
 bif (!t13) then
 some (([] : List (((Bool × List Int) × List Int) × (Bool × List Int))), (4 : Int))
 else (permutation_Valid a1).bind fun t17 =>
 bif (!t17) then
 some (([] : List (((Bool × List Int) × List Int) × (Bool × List Int))), (4 : Int))
 else (permutation_Convolve.L5 a1 ([] : List (((Bool × List Int) × List Int) × (Bool × List Int))) a0 ((List.length a0 : Nat) : Int) (0 : Int)).bind fun o2 =>
 Sum.elim (fun y3 =>
 (permutation_fresh y3).bind fun t55 =>
 some (t55, (0 : Int))) (fun z4 =>
 some (z4.1, z4.2)) o2

/- robuststats/permutation.strata -/
def permutation_strata.l2 : Nat → (List (List ((Bool × List Int) × List Int))) → (List (List ((Bool × List Int) × List Int))) → Int → ((Bool × List Int) × List Int) → Int → Int → Option (((List (List ((Bool × List Int) × List Int))) × (List (List ((Bool × List Int) × List Int))) × Int × ((Bool × List Int) × List Int)) ⊕ (((Bool × List Int) × List Int) × Int))
 | 0, _, _, _, _, _, _ => none
 | k + 1, v0, v1, v2, v6, v20, v21 =>
 bif (decide (v21 < v20)) then
 (idx v0 v21).bind fun t26 =>
 bif (decide (((List.length t26 : Nat) : Int) = (0 : Int))) then
 some (.inr (((false, ([] : List Int)), ([] : List Int)), (10 : Int)))
 else (idx v1 v21).bind fun t33 =>
 bif (decide (((List.length t33 : Nat) : Int) = (0 : Int))) then
 some (.inr (((false, ([] : List Int)), ([] : List Int)), (10 : Int)))
 else permutation_strata.l2 k v0 v1 v2 v6 v20 (IntKind.i64.wrap (v21 + (1 : Int)))
 else some (.inl (v0, v1, v2, v6))
def permutation_strata.L2 (v0 : List (List ((Bool × List Int) × List Int))) (v1 : List (List ((Bool × List Int) × List Int))) (v2 : Int) (v6 : (Bool × List Int) × List Int) (v20 : Int) (v21 : Int) : Option (((List (List ((Bool × List Int) × List Int))) × (List (List ((Bool × List Int) × List Int))) × Int × ((Bool × List Int) × List Int)) ⊕ (((Bool × List Int) × List Int) × Int)) := lim fun k => permutation_strata.l2 k v0 v1 v2 v6 v20 v21
theorem permutation_strata.L2_eq (v0 : List (List ((Bool × List Int) × List Int))) (v1 : List (List ((Bool × List Int) × List Int))) (v2 : Int) (v6 : (Bool × List Int) × List Int) (v20 : Int) (v21 : Int) : permutation_strata.L2 v0 v1 v2 v6 v20 v21 =
 bif (decide (v21 < v20)) then
 (idx v0 v21).bind fun t26 =>
 bif (decide (((List.length t26 : Nat) : Int) = (0 : Int))) then
 some (.inr (((false, ([] : List Int)), ([] : List Int)), (10 : Int)))
 else (idx v1 v21).bind fun t33 =>
 bif (decide (((List.length t33 : Nat) : Int) = (0 : Int))) then
 some (.inr (((false, ([] : List Int)), ([] : List Int)), (10 : Int)))
 else permutation_strata.L2 v0 v1 v2 v6 v20 (IntKind.i64.wrap (v21 + (1 : Int)))
 else some (.inl (v0, v1, v2, v6)) := by
  show lim (fun k => permutation_strata.l2 k v0 v1 v2 v6 v20 v21) = _
  rw [lim_shift]
  simp only [permutation_strata.l2, lim_cond, lim_bind, lim_const, lim_elim]
  rfl

def permutation_strata.l11 : Nat → (List (List ((Bool × List Int) × List Int))) → (List (List ((Bool × List Int) × List Int))) → Int → ((Bool × List Int) × List Int) → ((Bool × List Int) × List Int) → (List (((Bool × List Int) × List Int) × (Bool × List Int))) → (List (List (((Bool × List Int) × List Int) × (Bool × List Int)))) → Int → Int → Option ((Int × ((Bool × List Int) × List Int) × ((Bool × List Int) × List Int) × (List (((Bool × List Int) × List Int) × (Bool × List Int))) × (List (List (((Bool × List Int) × List Int) × (Bool × List Int))))) ⊕ (((Bool × List Int) × List Int) × Int))
 | 0, _, _, _, _, _, _, _, _, _ => none
 | k + 1, v0, v1, v2, v6, v9, v10, v11, v44, v45 =>
 bif (decide (v45 < v44)) then
 (idx v0 v45).bind fun t51 =>
 (idx v1 v45).bind fun t55 =>
 (permutation_pooled t51 t55).bind fun t57 =>
 bif (!decide (t57.2 = (0 : Int))) then
 some (.inr (((false, ([] : List Int)), ([] : List Int)), t57.2))
 else bif apOk (List.length v11) (List.length ([t57.1] : List (List (((Bool × List Int) × List Int) × (Bool × List Int))))) then
 (idx v0 v45).bind fun t71 =>
 (exact_Sum t71).bind fun t73 =>
 (rational_Add v9 t73).bind fun t74 =>
 permutation_strata.l11 k v0 v1 v2 v6 t74 v10 (v11 ++ ([t57.1] : List (List (((Bool × List Int) × List Int) × (Bool × List Int))))) v44 (IntKind.i64.wrap (v45 + (1 : Int)))
 else none
 else some (.inl (v2, v6, v9, v10, v11))
def permutation_strata.L11 (v0 : List (List ((Bool × List Int) × List Int))) (v1 : List (List ((Bool × List Int) × List Int))) (v2 : Int) (v6 : (Bool × List Int) × List Int) (v9 : (Bool × List Int) × List Int) (v10 : List (((Bool × List Int) × List Int) × (Bool × List Int))) (v11 : List (List (((Bool × List Int) × List Int) × (Bool × List Int)))) (v44 : Int) (v45 : Int) : Option ((Int × ((Bool × List Int) × List Int) × ((Bool × List Int) × List Int) × (List (((Bool × List Int) × List Int) × (Bool × List Int))) × (List (List (((Bool × List Int) × List Int) × (Bool × List Int))))) ⊕ (((Bool × List Int) × List Int) × Int)) := lim fun k => permutation_strata.l11 k v0 v1 v2 v6 v9 v10 v11 v44 v45
theorem permutation_strata.L11_eq (v0 : List (List ((Bool × List Int) × List Int))) (v1 : List (List ((Bool × List Int) × List Int))) (v2 : Int) (v6 : (Bool × List Int) × List Int) (v9 : (Bool × List Int) × List Int) (v10 : List (((Bool × List Int) × List Int) × (Bool × List Int))) (v11 : List (List (((Bool × List Int) × List Int) × (Bool × List Int)))) (v44 : Int) (v45 : Int) : permutation_strata.L11 v0 v1 v2 v6 v9 v10 v11 v44 v45 =
 bif (decide (v45 < v44)) then
 (idx v0 v45).bind fun t51 =>
 (idx v1 v45).bind fun t55 =>
 (permutation_pooled t51 t55).bind fun t57 =>
 bif (!decide (t57.2 = (0 : Int))) then
 some (.inr (((false, ([] : List Int)), ([] : List Int)), t57.2))
 else bif apOk (List.length v11) (List.length ([t57.1] : List (List (((Bool × List Int) × List Int) × (Bool × List Int))))) then
 (idx v0 v45).bind fun t71 =>
 (exact_Sum t71).bind fun t73 =>
 (rational_Add v9 t73).bind fun t74 =>
 permutation_strata.L11 v0 v1 v2 v6 t74 v10 (v11 ++ ([t57.1] : List (List (((Bool × List Int) × List Int) × (Bool × List Int))))) v44 (IntKind.i64.wrap (v45 + (1 : Int)))
 else none
 else some (.inl (v2, v6, v9, v10, v11)) := by
  show lim (fun k => permutation_strata.l11 k v0 v1 v2 v6 v9 v10 v11 v44 v45) = _
  rw [lim_shift]
  simp only [permutation_strata.l11, lim_cond, lim_bind, lim_const, lim_elim]
  rfl

def permutation_strata.l20 : Nat → Int → ((Bool × List Int) × List Int) → ((Bool × List Int) × List Int) → (List (((Bool × List Int) × List Int) × (Bool × List Int))) → (List (List (((Bool × List Int) × List Int) × (Bool × List Int)))) → Int → Int → Option ((Int × ((Bool × List Int) × List Int) × ((Bool × List Int) × List Int) × (List (((Bool × List Int) × List Int) × (Bool × List Int)))) ⊕ (((Bool × List Int) × List Int) × Int))
 | 0, _, _, _, _, _, _, _ => none
 | k + 1, v2, v6, v9, v10, v76, v77, v78 =>
 bif (decide (v78 < v77)) then
 bif inb v78 (List.length v76) then
 (v76[v78.toNat]?).bind fun t81 =>
 (permutation_Convolve v10 t81).bind fun t85 =>
 bif (!decide (t85.2 = (0 : Int))) then
 some (.inr (((false, ([] : List Int)), ([] : List Int)), t85.2))
 else permutation_strata.l20 k v2 v6 v9 t85.1 v76 v77 (IntKind.i64.wrap (v78 + (1 : Int)))
 else none
 else some (.inl (v2, v6, v9, v10))
def permutation_strata.L20 (v2 : Int) (v6 : (Bool × List Int) × List Int) (v9 : (Bool × List Int) × List Int) (v10 : List (((Bool × List Int) × List Int) × (Bool × List Int))) (v76 : List (List (((Bool × List Int) × List Int) × (Bool × List Int)))) (v77 : Int) (v78 : Int) : Option ((Int × ((Bool × List Int) × List Int) × ((Bool × List Int) × List Int) × (List (((Bool × List Int) × List Int) × (Bool × List Int)))) ⊕ (((Bool × List Int) × List Int) × Int)) := lim fun k => permutation_strata.l20 k v2 v6 v9 v10 v76 v77 v78
theorem permutation_strata.L20_eq (v2 : Int) (v6 : (Bool × List Int) × List Int) (v9 : (Bool × List Int) × List Int) (v10 : List (((Bool × List Int) × List Int) × (Bool × List Int))) (v76 : List (List (((Bool × List Int) × List Int) × (Bool × List Int)))) (v77 : Int) (v78 : Int) : permutation_strata.L20 v2 v6 v9 v10 v76 v77 v78 =
 bif (decide (v78 < v77)) then
 bif inb v78 (List.length v76) then
 (v76[v78.toNat]?).bind fun t81 =>
 (permutation_Convolve v10 t81).bind fun t85 =>
 bif (!decide (t85.2 = (0 : Int))) then
 some (.inr (((false, ([] : List Int)), ([] : List Int)), t85.2))
 else permutation_strata.L20 v2 v6 v9 t85.1 v76 v77 (IntKind.i64.wrap (v78 + (1 : Int)))
 else none
 else some (.inl (v2, v6, v9, v10)) := by
  show lim (fun k => permutation_strata.l20 k v2 v6 v9 v10 v76 v77 v78) = _
  rw [lim_shift]
  simp only [permutation_strata.l20, lim_cond, lim_bind, lim_const, lim_elim]
  rfl

def permutation_strata (a0 : List (List ((Bool × List Int) × List Int))) (a1 : List (List ((Bool × List Int) × List Int))) (a2 : Int) : Option (((Bool × List Int) × List Int) × Int) :=
 (permutation_strata.L2 a0 a1 a2 ((false, ([] : List Int)), ([] : List Int)) ((List.length a0 : Nat) : Int) (0 : Int)).bind fun o1 =>
 Sum.elim (fun y2 =>
 (permutation_one).bind fun t40 =>
 (permutation_strata.L11 y2.1 y2.2.1 y2.2.2.1 y2.2.2.2 ((false, ([] : List Int)), ([] : List Int)) ([(((false, ([] : List Int)), ([] : List Int)), t40)] : List (((Bool × List Int) × List Int) × (Bool × List Int))) ([] : List (List (((Bool × List Int) × List Int) × (Bool × List Int)))) ((List.length y2.1 : Nat) : Int) (0 : Int)).bind fun o4 =>
 Sum.elim (fun y5 =>
 (permutation_strata.L20 y5.1 y5.2.1 y5.2.2.1 y5.2.2.2.1 y5.2.2.2.2 ((List.length y5.2.2.2.2 : Nat) : Int) (0 : Int)).bind fun o7 =>
 Sum.elim (fun y8 =>
 (permutation_Tail y8.2.2.2 y8.2.2.1 y8.1).bind fun t97 =>
 some (t97.1, t97.2)) (fun z9 =>
 some (z9.1, z9.2)) o7) (fun z6 =>
 some (z6.1, z6.2)) o4) (fun z3 =>
 some (z3.1, z3.2)) o1

/- robuststats/permutation.Sample -/
def permutation_Sample (a0 : List ((Bool × List Int) × List Int)) (a1 : List ((Bool × List Int) × List Int)) (a2 : Int) : Option (((Bool × List Int) × List Int) × Int) :=
 (permutation_known a2).bind fun t9 =>
 bif (!t9) then
 some (((false, ([] : List Int)), ([] : List Int)), (1 : Int))
 else (permutation_strata ([a0] : List (List ((Bool × List Int) × List Int))) ([a1] : List (List ((Bool × List Int) × List Int))) a2).bind fun t17 =>
 some (t17.1, t17.2)

/- robuststats/permutation.Signs -/
def permutation_Signs.l5 : Nat → (List (((Bool × List Int) × List Int) × (Bool × List Int))) → (List ((Bool × List Int) × List Int)) → Int → Int → Option (((List (((Bool × List Int) × List Int) × (Bool × List Int)))))
 | 0, _, _, _, _ => none
 | k + 1, v4, v13, v14, v15 =>
 bif (decide (v15 < v14)) then
 (idx v13 v15).bind fun t17 =>
 (permutation_shift v4 t17).bind fun t21 =>
 (rational_Neg t17).bind fun t24 =>
 (permutation_shift v4 t24).bind fun t25 =>
 (permutation_merge t21 t25).bind fun t26 =>
 permutation_Signs.l5 k t26 v13 v14 (IntKind.i64.wrap (v15 + (1 : Int)))
 else some v4
def permutation_Signs.L5 (v4 : List (((Bool × List Int) × List Int) × (Bool × List Int))) (v13 : List ((Bool × List Int) × List Int)) (v14 : Int) (v15 : Int) : Option (((List (((Bool × List Int) × List Int) × (Bool × List Int))))) := lim fun k => permutation_Signs.l5 k v4 v13 v14 v15
theorem permutation_Signs.L5_eq (v4 : List (((Bool × List Int) × List Int) × (Bool × List Int))) (v13 : List ((Bool × List Int) × List Int)) (v14 : Int) (v15 : Int) : permutation_Signs.L5 v4 v13 v14 v15 =
 bif (decide (v15 < v14)) then
 (idx v13 v15).bind fun t17 =>
 (permutation_shift v4 t17).bind fun t21 =>
 (rational_Neg t17).bind fun t24 =>
 (permutation_shift v4 t24).bind fun t25 =>
 (permutation_merge t21 t25).bind fun t26 =>
 permutation_Signs.L5 t26 v13 v14 (IntKind.i64.wrap (v15 + (1 : Int)))
 else some v4 := by
  show lim (fun k => permutation_Signs.l5 k v4 v13 v14 v15) = _
  rw [lim_shift]
  simp only [permutation_Signs.l5, lim_cond, lim_bind, lim_const, lim_elim]
  rfl

def permutation_Signs (a0 : List ((Bool × List Int) × List Int)) : Option ((List (((Bool × List Int) × List Int) × (Bool × List Int))) × Int) :=
 (permutation_small a0).bind fun t8 =>
 bif (!t8) then
 some (([] : List (((Bool × List Int) × List Int) × (Bool × List Int))), (2 : Int))
 else (permutation_one).bind fun t10 =>
 (permutation_Signs.L5 ([(((false, ([] : List Int)), ([] : List Int)), t10)] : List (((Bool × List Int) × List Int) × (Bool × List Int))) a0 ((List.length a0 : Nat) : Int) (0 : Int)).bind fun o1 =>
 (permutation_fresh o1).bind fun t29 =>
 some (t29, (0 : Int))

end Go.ZS
end
end

section
/- The functions of package robuststatsmade, as values. -/
set_option linter.unusedVariables false
set_option maxRecDepth 100000
noncomputable section
namespace Go.ZS
open Go Go.ZM
/- robuststats/robuststatsmade.Light -/
def robuststatsmade_Light (a0 : (Bool × List Int) × List Int) : Option (Bool) :=
 bif (decide (((List.length a0.1.2 : Nat) : Int) ≤ (8 : Int))) then
 some (decide (((List.length a0.2 : Nat) : Int) ≤ (8 : Int)))
 else some false

/- robuststats/robuststatsmade.LightList -/
def robuststatsmade_LightList.l4 : Nat → (List ((Bool × List Int) × List Int)) → Int → Option (Unit ⊕ Bool)
 | 0, _, _ => none
 | k + 1, v0, v5 =>
 bif (decide (v5 < ((List.length v0 : Nat) : Int))) then
 (idx v0 v5).bind fun t18 =>
 (robuststatsmade_Light t18).bind fun t20 =>
 bif (!t20) then
 some (.inr false)
 else robuststatsmade_LightList.l4 k v0 (IntKind.i64.wrap (v5 + (1 : Int)))
 else some (.inl ())
def robuststatsmade_LightList.L4 (v0 : List ((Bool × List Int) × List Int)) (v5 : Int) : Option (Unit ⊕ Bool) := lim fun k => robuststatsmade_LightList.l4 k v0 v5
theorem robuststatsmade_LightList.L4_eq (v0 : List ((Bool × List Int) × List Int)) (v5 : Int) : robuststatsmade_LightList.L4 v0 v5 =
 bif (decide (v5 < ((List.length v0 : Nat) : Int))) then
 (idx v0 v5).bind fun t18 =>
 (robuststatsmade_Light t18).bind fun t20 =>
 bif (!t20) then
 some (.inr false)
 else robuststatsmade_LightList.L4 v0 (IntKind.i64.wrap (v5 + (1 : Int)))
 else some (.inl ()) := by
  show lim (fun k => robuststatsmade_LightList.l4 k v0 v5) = _
  rw [lim_shift]
  simp only [robuststatsmade_LightList.l4, lim_cond, lim_bind, lim_const, lim_elim]
  rfl

def robuststatsmade_LightList (a0 : List ((Bool × List Int) × List Int)) (a1 : Int) : Option (Bool) :=
 bif (decide (a1 < ((List.length a0 : Nat) : Int))) then
 some false
 else (robuststatsmade_LightList.L4 a0 (0 : Int)).bind fun o1 =>
 Sum.elim (fun y2 =>
 some true) (fun z3 =>
 some z3) o1

end Go.ZS
end
end

section
/- The functions of package robuststatsref01, as values. -/
set_option linter.unusedVariables false
set_option maxRecDepth 100000
noncomputable section
namespace Go.ZS
open Go Go.ZM
/- robuststats/robuststatsref01.trim -/
def robuststatsref01_trim.l1 : Nat → List Int → Option (List Int)
 | 0, _ => none
 | k + 1, v0 =>
 bif (decide ((0 : Int) < ((List.length v0 : Nat) : Int))) then
 (idx v0 (IntKind.i64.wrap (((List.length v0 : Nat) : Int) - (1 : Int)))).bind fun t11 =>
 bif (decide (t11 = (0 : Int))) then
 bif slOk (0 : Int) (IntKind.i64.wrap (((List.length v0 : Nat) : Int) - (1 : Int))) (List.length v0) then
 robuststatsref01_trim.l1 k (sub v0 (0 : Int) (IntKind.i64.wrap (((List.length v0 : Nat) : Int) - (1 : Int))))
 else none
 else some v0
 else some v0
def robuststatsref01_trim.L1 (v0 : List Int) : Option (List Int) := lim fun k => robuststatsref01_trim.l1 k v0
theorem robuststatsref01_trim.L1_eq (v0 : List Int) : robuststatsref01_trim.L1 v0 =
 bif (decide ((0 : Int) < ((List.length v0 : Nat) : Int))) then
 (idx v0 (IntKind.i64.wrap (((List.length v0 : Nat) : Int) - (1 : Int)))).bind fun t11 =>
 bif (decide (t11 = (0 : Int))) then
 bif slOk (0 : Int) (IntKind.i64.wrap (((List.length v0 : Nat) : Int) - (1 : Int))) (List.length v0) then
 robuststatsref01_trim.L1 (sub v0 (0 : Int) (IntKind.i64.wrap (((List.length v0 : Nat) : Int) - (1 : Int))))
 else none
 else some v0
 else some v0 := by
  show lim (fun k => robuststatsref01_trim.l1 k v0) = _
  rw [lim_shift]
  simp only [robuststatsref01_trim.l1, lim_cond, lim_bind, lim_const, lim_elim]
  rfl

def robuststatsref01_trim (a0 : List Int) : Option (List Int) :=
 (robuststatsref01_trim.L1 a0).bind fun o1 =>
 some o1

/- robuststats/robuststatsref01.FromUint -/
def robuststatsref01_FromUint (a0 : Int) : Option (List Int) :=
 (robuststatsref01_trim ([(IntKind.u32.wrap a0), (IntKind.u32.wrap (shrI .u64 a0 (32 : Int)))] : List Int)).bind fun t9 =>
 some t9

/- robuststats/robuststatsref01.Valid -/
def robuststatsref01_Valid (a0 : List Int) : Option (Bool) :=
 bif (decide (((List.length a0 : Nat) : Int) = (0 : Int))) then
 some true
 else (idx a0 (IntKind.i64.wrap (((List.length a0 : Nat) : Int) - (1 : Int)))).bind fun t11 =>
 some (!decide (t11 = (0 : Int)))

/- robuststats/robuststatsref01.Take -/
def robuststatsref01_Take (a0 : List Int) : Option (List Int) :=
 (robuststatsref01_Valid a0).bind fun t4 =>
 bif (!t4) then
 some ([] : List Int)
 else bif apOk 0 (List.length a0) then
 some a0
 else none

/- robuststats/robuststatsref01.limb -/
def robuststatsref01_limb (a0 : List Int) (a1 : Int) : Option (Int) :=
 bif (decide (((List.length a0 : Nat) : Int) ≤ a1)) then
 some (0 : Int)
 else (idx a0 a1).bind fun t11 =>
 some (IntKind.u64.wrap t11)

/- robuststats/robuststatsref01.Add -/
def robuststatsref01_Add.l5 : Nat → List Int → List Int → List Int → Int → Int → Option (List Int)
 | 0, _, _, _, _, _ => none
 | k + 1, v0, v1, v5, v6, v7 =>
 bif (decide (v7 ≤ (maxI ((List.length v0 : Nat) : Int) ((List.length v1 : Nat) : Int)))) then
 (robuststatsref01_limb v0 v7).bind fun t24 =>
 (robuststatsref01_limb v1 v7).bind fun t27 =>
 bif apOk (List.length v5) (List.length ([(IntKind.u32.wrap (IntKind.u64.wrap ((IntKind.u64.wrap (t24 + t27)) + v6)))] : List Int)) then
 robuststatsref01_Add.l5 k v0 v1 (v5 ++ ([(IntKind.u32.wrap (IntKind.u64.wrap ((IntKind.u64.wrap (t24 + t27)) + v6)))] : List Int)) (shrI .u64 (IntKind.u64.wrap ((IntKind.u64.wrap (t24 + t27)) + v6)) (32 : Int)) (IntKind.i64.wrap (v7 + (1 : Int)))
 else none
 else some v5
def robuststatsref01_Add.L5 (v0 : List Int) (v1 : List Int) (v5 : List Int) (v6 : Int) (v7 : Int) : Option (List Int) := lim fun k => robuststatsref01_Add.l5 k v0 v1 v5 v6 v7
theorem robuststatsref01_Add.L5_eq (v0 : List Int) (v1 : List Int) (v5 : List Int) (v6 : Int) (v7 : Int) : robuststatsref01_Add.L5 v0 v1 v5 v6 v7 =
 bif (decide (v7 ≤ (maxI ((List.length v0 : Nat) : Int) ((List.length v1 : Nat) : Int)))) then
 (robuststatsref01_limb v0 v7).bind fun t24 =>
 (robuststatsref01_limb v1 v7).bind fun t27 =>
 bif apOk (List.length v5) (List.length ([(IntKind.u32.wrap (IntKind.u64.wrap ((IntKind.u64.wrap (t24 + t27)) + v6)))] : List Int)) then
 robuststatsref01_Add.L5 v0 v1 (v5 ++ ([(IntKind.u32.wrap (IntKind.u64.wrap ((IntKind.u64.wrap (t24 + t27)) + v6)))] : List Int)) (shrI .u64 (IntKind.u64.wrap ((IntKind.u64.wrap (t24 + t27)) + v6)) (32 : Int)) (IntKind.i64.wrap (v7 + (1 : Int)))
 else none
 else some v5 := by
  show lim (fun k => robuststatsref01_Add.l5 k v0 v1 v5 v6 v7) = _
  rw [lim_shift]
  simp only [robuststatsref01_Add.l5, lim_cond, lim_bind, lim_const, lim_elim]
  rfl

def robuststatsref01_Add (a0 : List Int) (a1 : List Int) : Option (List Int) :=
 (robuststatsref01_Take a0).bind fun t10 =>
 (robuststatsref01_Take a1).bind fun t12 =>
 (robuststatsref01_Add.L5 t10 t12 ([] : List Int) (0 : Int) (0 : Int)).bind fun o1 =>
 (robuststatsref01_trim o1).bind fun t39 =>
 some t39

/- robuststats/robuststatsref01.bit -/
def robuststatsref01_bit (a0 : List Int) (a1 : Int) : Option (Int) :=
 (idx a0 (IntKind.i64.wrap (a1.tdiv (32 : Int)))).bind fun t8 =>
 bif decide ((IntKind.u64.wrap (a1.tmod (32 : Int))) < 0) then
 none
 else some (bitOp .and .u32 (shrI .u32 t8 (IntKind.u64.wrap (a1.tmod (32 : Int)))) (1 : Int))

/- robuststats/robuststatsref01.times -/
def robuststatsref01_times.l4 : Nat → List Int → Int → List Int → Int → Int → Option (List Int)
 | 0, _, _, _, _, _ => none
 | k + 1, v0, v1, v7, v8, v9 =>
 bif (decide (v9 ≤ ((List.length v0 : Nat) : Int))) then
 (robuststatsref01_limb v0 v9).bind fun t21 =>
 bif apOk (List.length v7) (List.length ([(IntKind.u32.wrap (IntKind.u64.wrap ((IntKind.u64.wrap (t21 * (IntKind.u64.wrap v1))) + v8)))] : List Int)) then
 robuststatsref01_times.l4 k v0 v1 (v7 ++ ([(IntKind.u32.wrap (IntKind.u64.wrap ((IntKind.u64.wrap (t21 * (IntKind.u64.wrap v1))) + v8)))] : List Int)) (shrI .u64 (IntKind.u64.wrap ((IntKind.u64.wrap (t21 * (IntKind.u64.wrap v1))) + v8)) (32 : Int)) (IntKind.i64.wrap (v9 + (1 : Int)))
 else none
 else some v7
def robuststatsref01_times.L4 (v0 : List Int) (v1 : Int) (v7 : List Int) (v8 : Int) (v9 : Int) : Option (List Int) := lim fun k => robuststatsref01_times.l4 k v0 v1 v7 v8 v9
theorem robuststatsref01_times.L4_eq (v0 : List Int) (v1 : Int) (v7 : List Int) (v8 : Int) (v9 : Int) : robuststatsref01_times.L4 v0 v1 v7 v8 v9 =
 bif (decide (v9 ≤ ((List.length v0 : Nat) : Int))) then
 (robuststatsref01_limb v0 v9).bind fun t21 =>
 bif apOk (List.length v7) (List.length ([(IntKind.u32.wrap (IntKind.u64.wrap ((IntKind.u64.wrap (t21 * (IntKind.u64.wrap v1))) + v8)))] : List Int)) then
 robuststatsref01_times.L4 v0 v1 (v7 ++ ([(IntKind.u32.wrap (IntKind.u64.wrap ((IntKind.u64.wrap (t21 * (IntKind.u64.wrap v1))) + v8)))] : List Int)) (shrI .u64 (IntKind.u64.wrap ((IntKind.u64.wrap (t21 * (IntKind.u64.wrap v1))) + v8)) (32 : Int)) (IntKind.i64.wrap (v9 + (1 : Int)))
 else none
 else some v7 := by
  show lim (fun k => robuststatsref01_times.l4 k v0 v1 v7 v8 v9) = _
  rw [lim_shift]
  simp only [robuststatsref01_times.l4, lim_cond, lim_bind, lim_const, lim_elim]
  rfl

def robuststatsref01_times (a0 : List Int) (a1 : Int) (a2 : Int) : Option (List Int) :=
 bif mkOk a2 a2 then
 (robuststatsref01_times.L4 a0 a1 (List.replicate a2.toNat (0 : Int)) (0 : Int) (0 : Int)).bind fun o1 =>
 (robuststatsref01_trim o1).bind fun t35 =>
 some t35
 else none

/- robuststats/robuststatsref01.double -/
def robuststatsref01_double (a0 : List Int) (a1 : Int) : Option (List Int) :=
 (robuststatsref01_times a0 (2 : Int) (0 : Int)).bind fun t7 =>
 bif (decide (a1 = (1 : Int))) then
 (robuststatsref01_Add t7 ([(1 : Int)] : List Int)).bind fun t12 =>
 some t12
 else some t7

/- robuststats/robuststatsref01.compare -/
def robuststatsref01_compare.l6 : Nat → List Int → List Int → Int → Option (Unit ⊕ Int)
 | 0, _, _, _ => none
 | k + 1, v0, v1, v5 =>
 bif (decide ((0 : Int) ≤ v5)) then
 (idx v0 v5).bind fun t25 =>
 (idx v1 v5).bind fun t29 =>
 bif (decide (t25 < t29)) then
 some (.inr (-1 : Int))
 else (idx v0 v5).bind fun t34 =>
 (idx v1 v5).bind fun t38 =>
 bif (decide (t38 < t34)) then
 some (.inr (1 : Int))
 else robuststatsref01_compare.l6 k v0 v1 (IntKind.i64.wrap (v5 - (1 : Int)))
 else some (.inl ())
def robuststatsref01_compare.L6 (v0 : List Int) (v1 : List Int) (v5 : Int) : Option (Unit ⊕ Int) := lim fun k => robuststatsref01_compare.l6 k v0 v1 v5
theorem robuststatsref01_compare.L6_eq (v0 : List Int) (v1 : List Int) (v5 : Int) : robuststatsref01_compare.L6 v0 v1 v5 =
 bif (decide ((0 : Int) ≤ v5)) then
 (idx v0 v5).bind fun t25 =>
 (idx v1 v5).bind fun t29 =>
 bif (decide (t25 < t29)) then
 some (.inr (-1 : Int))
 else (idx v0 v5).bind fun t34 =>
 (idx v1 v5).bind fun t38 =>
 bif (decide (t38 < t34)) then
 some (.inr (1 : Int))
 else robuststatsref01_compare.L6 v0 v1 (IntKind.i64.wrap (v5 - (1 : Int)))
 else some (.inl ()) := by
  show lim (fun k => robuststatsref01_compare.l6 k v0 v1 v5) = _
  rw [lim_shift]
  simp only [robuststatsref01_compare.l6, lim_cond, lim_bind, lim_const, lim_elim]
  rfl

def robuststatsref01_compare (a0 : List Int) (a1 : List Int) : Option (Int) :=
 bif (!decide (((List.length a0 : Nat) : Int) = ((List.length a1 : Nat) : Int))) then
 bif (decide (((List.length a0 : Nat) : Int) < ((List.length a1 : Nat) : Int))) then
 some (-1 : Int)
 else some (1 : Int)
 else (robuststatsref01_compare.L6 a0 a1 (IntKind.i64.wrap (((List.length a0 : Nat) : Int) - (1 : Int)))).bind fun o1 =>
 Sum.elim (fun y2 =>
 some (0 : Int)) (fun z3 =>
 some z3) o1

/- robuststats/robuststatsref01.Sub -/
def robuststatsref01_Sub.l7 : Nat → List Int → List Int → List Int → Int → Int → Option (List Int)
 | 0, _, _, _, _, _ => none
 | k + 1, v0, v1, v6, v7, v8 =>
 bif (decide (v8 < ((List.length v0 : Nat) : Int))) then
 (robuststatsref01_limb v0 v8).bind fun t26 =>
 (robuststatsref01_limb v1 v8).bind fun t30 =>
 bif apOk (List.length v6) (List.length ([(IntKind.u32.wrap (IntKind.u64.wrap ((IntKind.u64.wrap ((IntKind.u64.wrap (t26 + (4294967296 : Int))) - t30)) - v7)))] : List Int)) then
 robuststatsref01_Sub.l7 k v0 v1 (v6 ++ ([(IntKind.u32.wrap (IntKind.u64.wrap ((IntKind.u64.wrap ((IntKind.u64.wrap (t26 + (4294967296 : Int))) - t30)) - v7)))] : List Int)) (IntKind.u64.wrap ((1 : Int) - (shrI .u64 (IntKind.u64.wrap ((IntKind.u64.wrap ((IntKind.u64.wrap (t26 + (4294967296 : Int))) - t30)) - v7)) (32 : Int)))) (IntKind.i64.wrap (v8 + (1 : Int)))
 else none
 else some v6
def robuststatsref01_Sub.L7 (v0 : List Int) (v1 : List Int) (v6 : List Int) (v7 : Int) (v8 : Int) : Option (List Int) := lim fun k => robuststatsref01_Sub.l7 k v0 v1 v6 v7 v8
theorem robuststatsref01_Sub.L7_eq (v0 : List Int) (v1 : List Int) (v6 : List Int) (v7 : Int) (v8 : Int) : robuststatsref01_Sub.L7 v0 v1 v6 v7 v8 =
 bif (decide (v8 < ((List.length v0 : Nat) : Int))) then
 (robuststatsref01_limb v0 v8).bind fun t26 =>
 (robuststatsref01_limb v1 v8).bind fun t30 =>
 bif apOk (List.length v6) (List.length ([(IntKind.u32.wrap (IntKind.u64.wrap ((IntKind.u64.wrap ((IntKind.u64.wrap (t26 + (4294967296 : Int))) - t30)) - v7)))] : List Int)) then
 robuststatsref01_Sub.L7 v0 v1 (v6 ++ ([(IntKind.u32.wrap (IntKind.u64.wrap ((IntKind.u64.wrap ((IntKind.u64.wrap (t26 + (4294967296 : Int))) - t30)) - v7)))] : List Int)) (IntKind.u64.wrap ((1 : Int) - (shrI .u64 (IntKind.u64.wrap ((IntKind.u64.wrap ((IntKind.u64.wrap (t26 + (4294967296 : Int))) - t30)) - v7)) (32 : Int)))) (IntKind.i64.wrap (v8 + (1 : Int)))
 else none
 else some v6 := by
  show lim (fun k => robuststatsref01_Sub.l7 k v0 v1 v6 v7 v8) = _
  rw [lim_shift]
  simp only [robuststatsref01_Sub.l7, lim_cond, lim_bind, lim_const, lim_elim]
  rfl

def robuststatsref01_Sub (a0 : List Int) (a1 : List Int) : Option (List Int × Bool) :=
 (robuststatsref01_Take a0).bind fun t11 =>
 (robuststatsref01_Take a1).bind fun t13 =>
 (robuststatsref01_compare t11 t13).bind fun t16 =>
 bif (decide (t16 < (0 : Int))) then
 some (([] : List Int), false)
 else (robuststatsref01_Sub.L7 t11 t13 ([] : List Int) (0 : Int) (0 : Int)).bind fun o1 =>
 (robuststatsref01_trim o1).bind fun t43 =>
 some (t43, true)

/- robuststats/robuststatsref01.Div -/
def robuststatsref01_Div.l6 : Nat → List Int → List Int → List Int → List Int → Int → Option ((List Int × List Int))
 | 0, _, _, _, _, _ => none
 | k + 1, v0, v1, v7, v8, v9 =>
 bif (decide ((0 : Int) ≤ v9)) then
 (robuststatsref01_bit v0 v9).bind fun t30 =>
 (robuststatsref01_double v8 t30).bind fun t31 =>
 (robuststatsref01_Sub t31 v1).bind fun t35 =>
 bif t35.2 then
 (robuststatsref01_double v7 (1 : Int)).bind fun t41 =>
 robuststatsref01_Div.l6 k v0 v1 t41 t35.1 (IntKind.i64.wrap (v9 - (1 : Int)))
 else (robuststatsref01_double v7 (0 : Int)).bind fun t43 =>
 robuststatsref01_Div.l6 k v0 v1 t43 t31 (IntKind.i64.wrap (v9 - (1 : Int)))
 else some (v7, v8)
def robuststatsref01_Div.L6 (v0 : List Int) (v1 : List Int) (v7 : List Int) (v8 : List Int) (v9 : Int) : Option ((List Int × List Int)) := lim fun k => robuststatsref01_Div.l6 k v0 v1 v7 v8 v9
theorem robuststatsref01_Div.L6_eq (v0 : List Int) (v1 : List Int) (v7 : List Int) (v8 : List Int) (v9 : Int) : robuststatsref01_Div.L6 v0 v1 v7 v8 v9 =
 bif (decide ((0 : Int) ≤ v9)) then
 (robuststatsref01_bit v0 v9).bind fun t30 =>
 (robuststatsref01_double v8 t30).bind fun t31 =>
 (robuststatsref01_Sub t31 v1).bind fun t35 =>
 bif t35.2 then
 (robuststatsref01_double v7 (1 : Int)).bind fun t41 =>
 robuststatsref01_Div.L6 v0 v1 t41 t35.1 (IntKind.i64.wrap (v9 - (1 : Int)))
 else (robuststatsref01_double v7 (0 : Int)).bind fun t43 =>
 robuststatsref01_Div.L6 v0 v1 t43 t31 (IntKind.i64.wrap (v9 - (1 : Int)))
 else some (v7, v8) := by
  show lim (fun k => robuststatsref01_Div.l6 k v0 v1 v7 v8 v9) = _
  rw [lim_shift]
  simp only [robuststatsref01_Div.l6, lim_cond, lim_bind, lim_const, lim_elim]
  rfl

def robuststatsref01_Div (a0 : List Int) (a1 : List Int) : Option (List Int × List Int × Bool) :=
 (robuststatsref01_Take a0).bind fun t13 =>
 (robuststatsref01_Take a1).bind fun t15 =>
 bif (decide (((List.length t15 : Nat) : Int) = (0 : Int))) then
 some (([] : List Int), ([] : List Int), false)
 else (robuststatsref01_Div.L6 t13 t15 ([] : List Int) ([] : List Int) (IntKind.i64.wrap ((IntKind.i64.wrap ((32 : Int) * ((List.length t13 : Nat) : Int))) - (1 : Int)))).bind fun o1 =>
 some (o1.1, o1.2, true)

/- robuststats/robuststatsref01.Gcd -/
def robuststatsref01_Gcd.l2 : Nat → List Int → List Int → Option (List Int)
 | 0, _, _ => none
 | k + 1, v0, v1 =>
 bif (decide ((0 : Int) < ((List.length v1 : Nat) : Int))) then
 (robuststatsref01_Div v0 v1).bind fun t18 =>
 robuststatsref01_Gcd.l2 k v1 t18.2.1
 else some v0
def robuststatsref01_Gcd.L2 (v0 : List Int) (v1 : List Int) : Option (List Int) := lim fun k => robuststatsref01_Gcd.l2 k v0 v1
theorem robuststatsref01_Gcd.L2_eq (v0 : List Int) (v1 : List Int) : robuststatsref01_Gcd.L2 v0 v1 =
 bif (decide ((0 : Int) < ((List.length v1 : Nat) : Int))) then
 (robuststatsref01_Div v0 v1).bind fun t18 =>
 robuststatsref01_Gcd.L2 v1 t18.2.1
 else some v0 := by
  show lim (fun k => robuststatsref01_Gcd.l2 k v0 v1) = _
  rw [lim_shift]
  simp only [robuststatsref01_Gcd.l2, lim_cond, lim_bind, lim_const, lim_elim]
  rfl

def robuststatsref01_Gcd (a0 : List Int) (a1 : List Int) : Option (List Int) :=
 (robuststatsref01_Take a0).bind fun t9 =>
 (robuststatsref01_Take a1).bind fun t11 =>
 (robuststatsref01_Gcd.L2 t9 t11).bind fun o1 =>
 some o1

/- robuststats/robuststatsref01.Same -/
def robuststatsref01_Same.l4 : Nat → List Int → List Int → Int → Option (Unit ⊕ Bool)
 | 0, _, _, _ => none
 | k + 1, v0, v1, v5 =>
 bif (decide (v5 < ((List.length v0 : Nat) : Int))) then
 (idx v0 v5).bind fun t19 =>
 (idx v1 v5).bind fun t23 =>
 bif (!decide (t19 = t23)) then
 some (.inr false)
 else robuststatsref01_Same.l4 k v0 v1 (IntKind.i64.wrap (v5 + (1 : Int)))
 else some (.inl ())
def robuststatsref01_Same.L4 (v0 : List Int) (v1 : List Int) (v5 : Int) : Option (Unit ⊕ Bool) := lim fun k => robuststatsref01_Same.l4 k v0 v1 v5
theorem robuststatsref01_Same.L4_eq (v0 : List Int) (v1 : List Int) (v5 : Int) : robuststatsref01_Same.L4 v0 v1 v5 =
 bif (decide (v5 < ((List.length v0 : Nat) : Int))) then
 (idx v0 v5).bind fun t19 =>
 (idx v1 v5).bind fun t23 =>
 bif (!decide (t19 = t23)) then
 some (.inr false)
 else robuststatsref01_Same.L4 v0 v1 (IntKind.i64.wrap (v5 + (1 : Int)))
 else some (.inl ()) := by
  show lim (fun k => robuststatsref01_Same.l4 k v0 v1 v5) = _
  rw [lim_shift]
  simp only [robuststatsref01_Same.l4, lim_cond, lim_bind, lim_const, lim_elim]
  rfl

def robuststatsref01_Same (a0 : List Int) (a1 : List Int) : Option (Bool) :=
 bif (!decide (((List.length a0 : Nat) : Int) = ((List.length a1 : Nat) : Int))) then
 some false
 else (robuststatsref01_Same.L4 a0 a1 (0 : Int)).bind fun o1 =>
 Sum.elim (fun y2 =>
 some true) (fun z3 =>
 some z3) o1

/- robuststats/robuststatsref01.Mul -/
def robuststatsref01_Mul.l4 : Nat → List Int → List Int → List Int → Int → Option (List Int)
 | 0, _, _, _, _ => none
 | k + 1, v0, v1, v5, v6 =>
 bif (decide (v6 < ((List.length v1 : Nat) : Int))) then
 bif inb v6 (List.length v1) then
 (v1[v6.toNat]?).bind fun t22 =>
 (robuststatsref01_times v0 t22 v6).bind fun t24 =>
 (robuststatsref01_Add v5 t24).bind fun t25 =>
 robuststatsref01_Mul.l4 k v0 v1 t25 (IntKind.i64.wrap (v6 + (1 : Int)))
 else none
 else some v5
def robuststatsref01_Mul.L4 (v0 : List Int) (v1 : List Int) (v5 : List Int) (v6 : Int) : Option (List Int) := lim fun k => robuststatsref01_Mul.l4 k v0 v1 v5 v6
theorem robuststatsref01_Mul.L4_eq (v0 : List Int) (v1 : List Int) (v5 : List Int) (v6 : Int) : robuststatsref01_Mul.L4 v0 v1 v5 v6 =
 bif (decide (v6 < ((List.length v1 : Nat) : Int))) then
 bif inb v6 (List.length v1) then
 (v1[v6.toNat]?).bind fun t22 =>
 (robuststatsref01_times v0 t22 v6).bind fun t24 =>
 (robuststatsref01_Add v5 t24).bind fun t25 =>
 robuststatsref01_Mul.L4 v0 v1 t25 (IntKind.i64.wrap (v6 + (1 : Int)))
 else none
 else some v5 := by
  show lim (fun k => robuststatsref01_Mul.l4 k v0 v1 v5 v6) = _
  rw [lim_shift]
  simp only [robuststatsref01_Mul.l4, lim_cond, lim_bind, lim_const, lim_elim]
  rfl

def robuststatsref01_Mul (a0 : List Int) (a1 : List Int) : Option (List Int) :=
 (robuststatsref01_Take a0).bind fun t8 =>
 (robuststatsref01_Take a1).bind fun t10 =>
 (robuststatsref01_Mul.L4 t8 t10 ([] : List Int) (0 : Int)).bind fun o1 =>
 some o1

end Go.ZS
end
end

section
/- The functions of package robuststatsref02, as values. -/
set_option linter.unusedVariables false
set_option maxRecDepth 100000
noncomputable section
namespace Go.ZS
open Go Go.ZM
/- robuststats/robuststatsref02.signed -/
def robuststatsref02_signed (a0 : Bool) (a1 : List Int) : Option ((Bool × List Int)) :=
 bif a0 then
 some ((decide ((0 : Int) < ((List.length a1 : Nat) : Int))), a1)
 else some (false, a1)

/- robuststats/robuststatsref02.FromInt -/
def robuststatsref02_FromInt (a0 : Int) : Option ((Bool × List Int)) :=
 bif (decide (a0 < (0 : Int))) then
 (robuststatsref01_FromUint (IntKind.u64.wrap (IntKind.i64.wrap (0 - (IntKind.i64.wrap (a0 + (1 : Int))))))).bind fun t9 =>
 (robuststatsref01_Add t9 ([(1 : Int)] : List Int)).bind fun t11 =>
 (robuststatsref02_signed true t11).bind fun t12 =>
 some t12
 else (robuststatsref01_FromUint (IntKind.u64.wrap a0)).bind fun t15 =>
 (robuststatsref02_signed false t15).bind fun t16 =>
 some t16

/- robuststats/robuststatsref02.Valid -/
def robuststatsref02_Valid (a0 : Bool × List Int) : Option (Bool) :=
 (robuststatsref01_Valid a0.2).bind fun t5 =>
 bif t5 then
 bif a0.1 then
 some (!(decide (((List.length a0.2 : Nat) : Int) = (0 : Int))))
 else some (!false)
 else some false

/- robuststats/robuststatsref02.Take -/
def robuststatsref02_Take (a0 : Bool × List Int) : Option ((Bool × List Int)) :=
 (robuststatsref02_Valid a0).bind fun t4 =>
 bif (!t4) then
 some (false, ([] : List Int))
 else (robuststatsref01_Take a0.2).bind fun t11 =>
 some (a0.1, t11)

/- robuststats/robuststatsref02.Sign -/
def robuststatsref02_Sign (a0 : Bool × List Int) : Option (Int) :=
 (robuststatsref02_Take a0).bind fun t4 =>
 bif t4.1 then
 some (-1 : Int)
 else bif (decide ((0 : Int) < ((List.length t4.2 : Nat) : Int))) then
 some (1 : Int)
 else some (0 : Int)

/- robuststats/robuststatsref02.Neg -/
def robuststatsref02_Neg (a0 : Bool × List Int) : Option ((Bool × List Int)) :=
 (robuststatsref02_Take a0).bind fun t4 =>
 (robuststatsref02_signed (!t4.1) t4.2).bind fun t10 =>
 some t10

/- robuststats/robuststatsref02.Gcd -/
def robuststatsref02_Gcd (a0 : Bool × List Int) (a1 : Bool × List Int) : Option (List Int) :=
 (robuststatsref02_Take a0).bind fun t6 =>
 (robuststatsref02_Take a1).bind fun t9 =>
 (robuststatsref01_Gcd t6.2 t9.2).bind fun t11 =>
 some t11

/- robuststats/robuststatsref02.Div -/
def robuststatsref02_Div.j8 (v2 : Bool × List Int) (v3 : Bool × List Int) (v4 : Bool × List Int) (v5 : Bool × List Int) (v7 : List Int) (v8 : List Int) : Option (((Bool × List Int) × (Bool × List Int) × Bool)) :=
 (robuststatsref02_signed (!(v2.1 == v3.1)) v7).bind fun t50 =>
 (robuststatsref02_signed false v8).bind fun t52 =>
 some (t50, t52, true)

def robuststatsref02_Div (a0 : Bool × List Int) (a1 : Bool × List Int) : Option ((Bool × List Int) × (Bool × List Int) × Bool) :=
 (robuststatsref02_Take a0).bind fun t11 =>
 (robuststatsref02_Take a1).bind fun t13 =>
 (robuststatsref01_Div t11.2 t13.2).bind fun t19 =>
 bif (!t19.2.2) then
 some ((false, ([] : List Int)), (false, ([] : List Int)), false)
 else bif t11.1 then
 bif (decide ((0 : Int) < ((List.length t19.2.1 : Nat) : Int))) then
 (robuststatsref01_Add t19.1 ([(1 : Int)] : List Int)).bind fun t36 =>
 (robuststatsref01_Sub t13.2 t19.2.1).bind fun t41 =>
 (robuststatsref02_Div.j8 t11 t13 (false, ([] : List Int)) (false, ([] : List Int)) t36 t41.1).bind fun o1 =>
 some (o1.1, o1.2.1, o1.2.2)
 else (robuststatsref02_Div.j8 t11 t13 (false, ([] : List Int)) (false, ([] : List Int)) t19.1 t19.2.1).bind fun o2 =>
 some (o2.1, o2.2.1, o2.2.2)
 else (robuststatsref02_Div.j8 t11 t13 (false, ([] : List Int)) (false, ([] : List Int)) t19.1 t19.2.1).bind fun o3 =>
 some (o3.1, o3.2.1, o3.2.2)

/- robuststats/robuststatsref02.Same -/
def robuststatsref02_Same (a0 : Bool × List Int) (a1 : Bool × List Int) : Option (Bool) :=
 bif (a0.1 == a1.1) then
 (robuststatsref01_Same a0.2 a1.2).bind fun t15 =>
 some t15
 else some false

/- robuststats/robuststatsref02.Mul -/
def robuststatsref02_Mul (a0 : Bool × List Int) (a1 : Bool × List Int) : Option ((Bool × List Int)) :=
 (robuststatsref02_Take a0).bind fun t6 =>
 (robuststatsref02_Take a1).bind fun t8 =>
 (robuststatsref01_Mul t6.2 t8.2).bind fun t18 =>
 (robuststatsref02_signed (!(t6.1 == t8.1)) t18).bind fun t19 =>
 some t19

/- robuststats/robuststatsref02.Add -/
def robuststatsref02_Add (a0 : Bool × List Int) (a1 : Bool × List Int) : Option ((Bool × List Int)) :=
 (robuststatsref02_Take a0).bind fun t10 =>
 (robuststatsref02_Take a1).bind fun t12 =>
 bif (t10.1 == t12.1) then
 (robuststatsref01_Add t10.2 t12.2).bind fun t24 =>
 (robuststatsref02_signed t10.1 t24).bind fun t25 =>
 some t25
 else (robuststatsref01_Sub t10.2 t12.2).bind fun t31 =>
 bif t31.2 then
 (robuststatsref02_signed t10.1 t31.1).bind fun t38 =>
 some t38
 else (robuststatsref01_Sub t12.2 t10.2).bind fun t44 =>
 (robuststatsref02_signed t12.1 t44.1).bind fun t50 =>
 some t50

end Go.ZS
end
end

section
/- The functions of package robuststatsref03, as values. -/
set_option linter.unusedVariables false
set_option maxRecDepth 100000
noncomputable section
namespace Go.ZS
open Go Go.ZM
/- robuststats/robuststatsref03.FromInt -/
def robuststatsref03_FromInt (a0 : Int) : Option (((Bool × List Int) × List Int)) :=
 (robuststatsref02_FromInt a0).bind fun t4 =>
 some (t4, ([] : List Int))

/- robuststats/robuststatsref03.one -/
def robuststatsref03_one (a0 : List Int) : Option (Bool) :=
 bif (decide (((List.length a0 : Nat) : Int) = (1 : Int))) then
 (idx a0 (0 : Int)).bind fun t8 =>
 some (decide (t8 = (1 : Int)))
 else some false

/- robuststats/robuststatsref03.over -/
def robuststatsref03_over.j3 (v2 : Bool × List Int) (v3 : Bool × List Int) (v4 : (Bool × List Int) × List Int) : Option ((((Bool × List Int) × List Int))) :=
 (robuststatsref02_Gcd v2 v3).bind fun t21 =>
 (robuststatsref02_Div v2 (false, t21)).bind fun t26 =>
 (robuststatsref02_Div v3 (false, t21)).bind fun t33 =>
 (robuststatsref03_one t33.1.2).bind fun t39 =>
 bif t39 then
 some (t26.1, ([] : List Int))
 else some (t26.1, t33.1.2)

def robuststatsref03_over (a0 : Bool × List Int) (a1 : Bool × List Int) : Option (((Bool × List Int) × List Int)) :=
 (robuststatsref02_Sign a1).bind fun t13 =>
 bif (decide (t13 < (0 : Int))) then
 (robuststatsref02_Neg a0).bind fun t16 =>
 (robuststatsref02_Neg a1).bind fun t18 =>
 (robuststatsref03_over.j3 t16 t18 ((false, ([] : List Int)), ([] : List Int))).bind fun o1 =>
 some o1
 else (robuststatsref03_over.j3 a0 a1 ((false, ([] : List Int)), ([] : List Int))).bind fun o2 =>
 some o2

/- robuststats/robuststatsref03.Fraction -/
def robuststatsref03_Fraction (a0 : Int) (a1 : Int) : Option (((Bool × List Int) × List Int)) :=
 (robuststatsref02_FromInt a0).bind fun t6 =>
 (robuststatsref02_FromInt a1).bind fun t8 =>
 (robuststatsref03_over t6 t8).bind fun t9 =>
 some t9

/- robuststats/robuststatsref03.Same -/
def robuststatsref03_Same (a0 : (Bool × List Int) × List Int) (a1 : (Bool × List Int) × List Int) : Option (Bool) :=
 (robuststatsref02_Same a0.1 a1.1).bind fun t9 =>
 bif t9 then
 (robuststatsref01_Same a0.2 a1.2).bind fun t15 =>
 some t15
 else some false

/- robuststats/robuststatsref03.SameList -/
def robuststatsref03_SameList.l4 : Nat → (List ((Bool × List Int) × List Int)) → (List ((Bool × List Int) × List Int)) → Int → Option (Unit ⊕ Bool)
 | 0, _, _, _ => none
 | k + 1, v0, v1, v5 =>
 bif (decide (v5 < ((List.length v0 : Nat) : Int))) then
 (idx v0 v5).bind fun t19 =>
 (idx v1 v5).bind fun t23 =>
 (robuststatsref03_Same t19 t23).bind fun t25 =>
 bif (!t25) then
 some (.inr false)
 else robuststatsref03_SameList.l4 k v0 v1 (IntKind.i64.wrap (v5 + (1 : Int)))
 else some (.inl ())
def robuststatsref03_SameList.L4 (v0 : List ((Bool × List Int) × List Int)) (v1 : List ((Bool × List Int) × List Int)) (v5 : Int) : Option (Unit ⊕ Bool) := lim fun k => robuststatsref03_SameList.l4 k v0 v1 v5
theorem robuststatsref03_SameList.L4_eq (v0 : List ((Bool × List Int) × List Int)) (v1 : List ((Bool × List Int) × List Int)) (v5 : Int) : robuststatsref03_SameList.L4 v0 v1 v5 =
 bif (decide (v5 < ((List.length v0 : Nat) : Int))) then
 (idx v0 v5).bind fun t19 =>
 (idx v1 v5).bind fun t23 =>
 (robuststatsref03_Same t19 t23).bind fun t25 =>
 bif (!t25) then
 some (.inr false)
 else robuststatsref03_SameList.L4 v0 v1 (IntKind.i64.wrap (v5 + (1 : Int)))
 else some (.inl ()) := by
  show lim (fun k => robuststatsref03_SameList.l4 k v0 v1 v5) = _
  rw [lim_shift]
  simp only [robuststatsref03_SameList.l4, lim_cond, lim_bind, lim_const, lim_elim]
  rfl

def robuststatsref03_SameList (a0 : List ((Bool × List Int) × List Int)) (a1 : List ((Bool × List Int) × List Int)) : Option (Bool) :=
 bif (!decide (((List.length a0 : Nat) : Int) = ((List.length a1 : Nat) : Int))) then
 some false
 else (robuststatsref03_SameList.L4 a0 a1 (0 : Int)).bind fun o1 =>
 Sum.elim (fun y2 =>
 some true) (fun z3 =>
 some z3) o1

/- robuststats/robuststatsref03.Valid -/
def robuststatsref03_Valid (a0 : (Bool × List Int) × List Int) : Option (Bool) :=
 (robuststatsref02_Valid a0.1).bind fun t5 =>
 bif (!t5) then
 some false
 else (robuststatsref01_Valid a0.2).bind fun t10 =>
 bif (!t10) then
 some false
 else (robuststatsref03_one a0.2).bind fun t16 =>
 bif t16 then
 some false
 else bif (decide (((List.length a0.2 : Nat) : Int) = (0 : Int))) then
 some true
 else bif (decide ((0 : Int) < ((List.length a0.1.2 : Nat) : Int))) then
 (robuststatsref01_Gcd a0.1.2 a0.2).bind fun t34 =>
 (robuststatsref03_one t34).bind fun t35 =>
 some t35
 else some false

/- robuststats/robuststatsref03.Take -/
def robuststatsref03_Take (a0 : (Bool × List Int) × List Int) : Option (((Bool × List Int) × List Int)) :=
 (robuststatsref03_Valid a0).bind fun t4 =>
 bif (!t4) then
 some ((false, ([] : List Int)), ([] : List Int))
 else (robuststatsref02_Take a0.1).bind fun t9 =>
 (robuststatsref01_Take a0.2).bind fun t12 =>
 some (t9, t12)

/- robuststats/robuststatsref03.Neg -/
def robuststatsref03_Neg (a0 : (Bool × List Int) × List Int) : Option (((Bool × List Int) × List Int)) :=
 (robuststatsref03_Take a0).bind fun t4 =>
 (robuststatsref02_Neg t4.1).bind fun t7 =>
 some (t7, t4.2)

/- robuststats/robuststatsref03.Den -/
def robuststatsref03_Den (a0 : (Bool × List Int) × List Int) : Option ((Bool × List Int)) :=
 bif (decide (((List.length a0.2 : Nat) : Int) = (0 : Int))) then
 some (false, ([(1 : Int)] : List Int))
 else (robuststatsref01_Take a0.2).bind fun t11 =>
 some (false, t11)

/- robuststats/robuststatsref03.Add -/
def robuststatsref03_Add (a0 : (Bool × List Int) × List Int) (a1 : (Bool × List Int) × List Int) : Option (((Bool × List Int) × List Int)) :=
 (robuststatsref03_Take a0).bind fun t6 =>
 (robuststatsref03_Take a1).bind fun t8 =>
 (robuststatsref03_Den t8).bind fun t12 =>
 (robuststatsref02_Mul t6.1 t12).bind fun t13 =>
 (robuststatsref03_Den t6).bind fun t17 =>
 (robuststatsref02_Mul t8.1 t17).bind fun t18 =>
 (robuststatsref02_Add t13 t18).bind fun t19 =>
 (robuststatsref03_Den t6).bind fun t21 =>
 (robuststatsref03_Den t8).bind fun t23 =>
 (robuststatsref02_Mul t21 t23).bind fun t24 =>
 (robuststatsref03_over t19 t24).bind fun t25 =>
 some t25

/- robuststats/robuststatsref03.Sub -/
def robuststatsref03_Sub (a0 : (Bool × List Int) × List Int) (a1 : (Bool × List Int) × List Int) : Option (((Bool × List Int) × List Int)) :=
 (robuststatsref03_Neg a1).bind fun t7 =>
 (robuststatsref03_Add a0 t7).bind fun t8 =>
 some t8

/- robuststats/robuststatsref03.Sign -/
def robuststatsref03_Sign (a0 : (Bool × List Int) × List Int) : Option (Int) :=
 (robuststatsref03_Take a0).bind fun t4 =>
 (robuststatsref02_Sign t4.1).bind fun t6 =>
 some t6

/- robuststats/robuststatsref03.Compare -/
def robuststatsref03_Compare (a0 : (Bool × List Int) × List Int) (a1 : (Bool × List Int) × List Int) : Option (Int) :=
 (robuststatsref03_Sub a0 a1).bind fun t7 =>
 (robuststatsref03_Sign t7).bind fun t8 =>
 some t8

/- robuststats/robuststatsref03.Mul -/
def robuststatsref03_Mul (a0 : (Bool × List Int) × List Int) (a1 : (Bool × List Int) × List Int) : Option (((Bool × List Int) × List Int)) :=
 (robuststatsref03_Take a0).bind fun t6 =>
 (robuststatsref03_Take a1).bind fun t8 =>
 (robuststatsref02_Mul t6.1 t8.1).bind fun t13 =>
 (robuststatsref03_Den t6).bind fun t15 =>
 (robuststatsref03_Den t8).bind fun t17 =>
 (robuststatsref02_Mul t15 t17).bind fun t18 =>
 (robuststatsref03_over t13 t18).bind fun t19 =>
 some t19

/- robuststats/robuststatsref03.Abs -/
def robuststatsref03_Abs (a0 : (Bool × List Int) × List Int) : Option (((Bool × List Int) × List Int)) :=
 (robuststatsref03_Sign a0).bind fun t4 =>
 bif (decide (t4 < (0 : Int))) then
 (robuststatsref03_Neg a0).bind fun t7 =>
 some t7
 else (robuststatsref03_Take a0).bind fun t9 =>
 some t9

/- robuststats/robuststatsref03.Quo -/
def robuststatsref03_Quo (a0 : (Bool × List Int) × List Int) (a1 : (Bool × List Int) × List Int) : Option (((Bool × List Int) × List Int)) :=
 (robuststatsref03_Take a0).bind fun t6 =>
 (robuststatsref03_Take a1).bind fun t8 =>
 (robuststatsref03_Den t8).bind fun t12 =>
 (robuststatsref02_Mul t6.1 t12).bind fun t13 =>
 (robuststatsref03_Den t6).bind fun t15 =>
 (robuststatsref02_Mul t15 t8.1).bind fun t18 =>
 (robuststatsref03_over t13 t18).bind fun t19 =>
 some t19

/- robuststats/robuststatsref03.Div -/
def robuststatsref03_Div (a0 : (Bool × List Int) × List Int) (a1 : (Bool × List Int) × List Int) : Option (((Bool × List Int) × List Int) × Int) :=
 (robuststatsref03_Sign a1).bind fun t7 =>
 bif (decide (t7 = (0 : Int))) then
 some (((false, ([] : List Int)), ([] : List Int)), (5 : Int))
 else (robuststatsref03_Quo a0 a1).bind fun t12 =>
 some (t12, (0 : Int))

end Go.ZS
end
end

section
/- The functions of package robuststatsref23, as values. -/
set_option linter.unusedVariables false
set_option maxRecDepth 100000
noncomputable section
namespace Go.ZS
open Go Go.ZM
/- robuststats/robuststatsref23.Combos -/
def robuststatsref23_Combos.l5 : Nat → Int → Int → List Int → Int → Int → Option ((Int × Int × List Int))
 | 0, _, _, _, _, _ => none
 | k + 1, v0, v1, v5, v20, v21 =>
 bif (decide (v21 < v20)) then
 bif inb v21 (List.length v5) then
 (v5[v21.toNat]?).bind fun x1 =>
 robuststatsref23_Combos.l5 k v0 v1 (v5.set v21.toNat v21) v20 (IntKind.i64.wrap (v21 + (1 : Int)))
 else none
 else some (v0, v1, v5)
def robuststatsref23_Combos.L5 (v0 : Int) (v1 : Int) (v5 : List Int) (v20 : Int) (v21 : Int) : Option ((Int × Int × List Int)) := lim fun k => robuststatsref23_Combos.l5 k v0 v1 v5 v20 v21
theorem robuststatsref23_Combos.L5_eq (v0 : Int) (v1 : Int) (v5 : List Int) (v20 : Int) (v21 : Int) : robuststatsref23_Combos.L5 v0 v1 v5 v20 v21 =
 bif (decide (v21 < v20)) then
 bif inb v21 (List.length v5) then
 (v5[v21.toNat]?).bind fun x1 =>
 robuststatsref23_Combos.L5 v0 v1 (v5.set v21.toNat v21) v20 (IntKind.i64.wrap (v21 + (1 : Int)))
 else none
 else some (v0, v1, v5) := by
  show lim (fun k => robuststatsref23_Combos.l5 k v0 v1 v5 v20 v21) = _
  rw [lim_shift]
  simp only [robuststatsref23_Combos.l5, lim_cond, lim_bind, lim_const, lim_elim]
  rfl

def robuststatsref23_Combos.l11 : Nat → Int → Int → List Int → List (List Int) → Int → Option ((Int × Int × List Int × List (List Int) × Int))
 | 0, _, _, _, _, _ => none
 | k + 1, v0, v1, v5, v7, v8 =>
 bif (decide ((0 : Int) ≤ v8)) then
 bif inb v8 (List.length v5) then
 (v5[v8.toNat]?).bind fun t40 =>
 bif (decide (t40 = (IntKind.i64.wrap ((IntKind.i64.wrap (v0 - v1)) + v8)))) then
 robuststatsref23_Combos.l11 k v0 v1 v5 v7 (IntKind.i64.wrap (v8 - (1 : Int)))
 else some (v0, v1, v5, v7, v8)
 else none
 else some (v0, v1, v5, v7, v8)
def robuststatsref23_Combos.L11 (v0 : Int) (v1 : Int) (v5 : List Int) (v7 : List (List Int)) (v8 : Int) : Option ((Int × Int × List Int × List (List Int) × Int)) := lim fun k => robuststatsref23_Combos.l11 k v0 v1 v5 v7 v8
theorem robuststatsref23_Combos.L11_eq (v0 : Int) (v1 : Int) (v5 : List Int) (v7 : List (List Int)) (v8 : Int) : robuststatsref23_Combos.L11 v0 v1 v5 v7 v8 =
 bif (decide ((0 : Int) ≤ v8)) then
 bif inb v8 (List.length v5) then
 (v5[v8.toNat]?).bind fun t40 =>
 bif (decide (t40 = (IntKind.i64.wrap ((IntKind.i64.wrap (v0 - v1)) + v8)))) then
 robuststatsref23_Combos.L11 v0 v1 v5 v7 (IntKind.i64.wrap (v8 - (1 : Int)))
 else some (v0, v1, v5, v7, v8)
 else none
 else some (v0, v1, v5, v7, v8) := by
  show lim (fun k => robuststatsref23_Combos.l11 k v0 v1 v5 v7 v8) = _
  rw [lim_shift]
  simp only [robuststatsref23_Combos.l11, lim_cond, lim_bind, lim_const, lim_elim]
  rfl

def robuststatsref23_Combos.l17 : Nat → Int → Int → List Int → List (List Int) → Int → Option ((Int × Int × List Int × List (List Int)))
 | 0, _, _, _, _, _ => none
 | k + 1, v0, v1, v5, v7, v9 =>
 bif (decide (v9 < v1)) then
 bif inb (IntKind.i64.wrap (v9 - (1 : Int))) (List.length v5) then
 (v5[(IntKind.i64.wrap (v9 - (1 : Int))).toNat]?).bind fun t72 =>
 bif inb v9 (List.length v5) then
 (v5[v9.toNat]?).bind fun x5 =>
 robuststatsref23_Combos.l17 k v0 v1 (v5.set v9.toNat (IntKind.i64.wrap (t72 + (1 : Int)))) v7 (IntKind.i64.wrap (v9 + (1 : Int)))
 else none
 else none
 else some (v0, v1, v5, v7)
def robuststatsref23_Combos.L17 (v0 : Int) (v1 : Int) (v5 : List Int) (v7 : List (List Int)) (v9 : Int) : Option ((Int × Int × List Int × List (List Int))) := lim fun k => robuststatsref23_Combos.l17 k v0 v1 v5 v7 v9
theorem robuststatsref23_Combos.L17_eq (v0 : Int) (v1 : Int) (v5 : List Int) (v7 : List (List Int)) (v9 : Int) : robuststatsref23_Combos.L17 v0 v1 v5 v7 v9 =
 bif (decide (v9 < v1)) then
 bif inb (IntKind.i64.wrap (v9 - (1 : Int))) (List.length v5) then
 (v5[(IntKind.i64.wrap (v9 - (1 : Int))).toNat]?).bind fun t72 =>
 bif inb v9 (List.length v5) then
 (v5[v9.toNat]?).bind fun x5 =>
 robuststatsref23_Combos.L17 v0 v1 (v5.set v9.toNat (IntKind.i64.wrap (t72 + (1 : Int)))) v7 (IntKind.i64.wrap (v9 + (1 : Int)))
 else none
 else none
 else some (v0, v1, v5, v7) := by
  show lim (fun k => robuststatsref23_Combos.l17 k v0 v1 v5 v7 v9) = _
  rw [lim_shift]
  simp only [robuststatsref23_Combos.l17, lim_cond, lim_bind, lim_const, lim_elim]
  rfl

def robuststatsref23_Combos.l1010 : Nat → Int → Int → List Int → List (List Int) → Option (List (List Int))
 | 0, _, _, _, _ => none
 | k + 1, v0, v1, v5, v7 =>
 (robuststatsref23_Combos.L11 v0 v1 v5 v7 (IntKind.i64.wrap (v1 - (1 : Int)))).bind fun o3 =>
 bif (decide (o3.2.2.2.2 < (0 : Int))) then
 some o3.2.2.2.1
 else bif inb o3.2.2.2.2 (List.length o3.2.2.1) then
 (o3.2.2.1[o3.2.2.2.2.toNat]?).bind fun t56 =>
 bif inb o3.2.2.2.2 (List.length o3.2.2.1) then
 (o3.2.2.1[o3.2.2.2.2.toNat]?).bind fun x4 =>
 (robuststatsref23_Combos.L17 o3.1 o3.2.1 (o3.2.2.1.set o3.2.2.2.2.toNat (IntKind.i64.wrap (t56 + (1 : Int)))) o3.2.2.2.1 (IntKind.i64.wrap (o3.2.2.2.2 + (1 : Int)))).bind fun o6 =>
 bif apOk 0 (List.length o6.2.2.1) then
 bif apOk (List.length o6.2.2.2) (List.length ([o6.2.2.1] : List (List Int))) then
 robuststatsref23_Combos.l1010 k o6.1 o6.2.1 o6.2.2.1 (o6.2.2.2 ++ ([o6.2.2.1] : List (List Int)))
 else none
 else none
 else none
 else none
def robuststatsref23_Combos.L1010 (v0 : Int) (v1 : Int) (v5 : List Int) (v7 : List (List Int)) : Option (List (List Int)) := lim fun k => robuststatsref23_Combos.l1010 k v0 v1 v5 v7
theorem robuststatsref23_Combos.L1010_eq (v0 : Int) (v1 : Int) (v5 : List Int) (v7 : List (List Int)) : robuststatsref23_Combos.L1010 v0 v1 v5 v7 =
 (robuststatsref23_Combos.L11 v0 v1 v5 v7 (IntKind.i64.wrap (v1 - (1 : Int)))).bind fun o3 =>
 bif (decide (o3.2.2.2.2 < (0 : Int))) then
 some o3.2.2.2.1
 else bif inb o3.2.2.2.2 (List.length o3.2.2.1) then
 (o3.2.2.1[o3.2.2.2.2.toNat]?).bind fun t56 =>
 bif inb o3.2.2.2.2 (List.length o3.2.2.1) then
 (o3.2.2.1[o3.2.2.2.2.toNat]?).bind fun x4 =>
 (robuststatsref23_Combos.L17 o3.1 o3.2.1 (o3.2.2.1.set o3.2.2.2.2.toNat (IntKind.i64.wrap (t56 + (1 : Int)))) o3.2.2.2.1 (IntKind.i64.wrap (o3.2.2.2.2 + (1 : Int)))).bind fun o6 =>
 bif apOk 0 (List.length o6.2.2.1) then
 bif apOk (List.length o6.2.2.2) (List.length ([o6.2.2.1] : List (List Int))) then
 robuststatsref23_Combos.L1010 o6.1 o6.2.1 o6.2.2.1 (o6.2.2.2 ++ ([o6.2.2.1] : List (List Int)))
 else none
 else none
 else none
 else none := by
  show lim (fun k => robuststatsref23_Combos.l1010 k v0 v1 v5 v7) = _
  rw [lim_shift]
  simp only [robuststatsref23_Combos.l1010, lim_cond, lim_bind, lim_const, lim_elim]
  rfl

def robuststatsref23_Combos (a0 : Int) (a1 : Int) : Option (List (List Int)) :=
 bif (decide (a1 < (0 : Int))) then
 some ([] : List (List Int))
 else bif (decide (a0 < a1)) then
 some ([] : List (List Int))
 else bif mkOk a1 a1 then
 (robuststatsref23_Combos.L5 a0 a1 (List.replicate a1.toNat (0 : Int)) ((List.length (List.replicate a1.toNat (0 : Int)) : Nat) : Int) (0 : Int)).bind fun o2 =>
 bif apOk 0 (List.length o2.2.2) then
 (robuststatsref23_Combos.L1010 o2.1 o2.2.1 o2.2.2 ([o2.2.2] : List (List Int))).bind fun o7 =>
 some o7
 else none
 else none

/- robuststats/robuststatsref23.Choose -/
def robuststatsref23_Choose.l9 : Nat → Int → Int → Int → List Int → Int → Int → Option ((Int × Int × Int × List Int × Int))
 | 0, _, _, _, _, _, _ => none
 | k + 1, v0, v1, v2, v7, v8, v9 =>
 bif (decide ((0 : Int) < v9)) then
 bif inb v9 (List.length v7) then
 (v7[v9.toNat]?).bind fun t37 =>
 bif inb (IntKind.i64.wrap (v9 - (1 : Int))) (List.length v7) then
 (v7[(IntKind.i64.wrap (v9 - (1 : Int))).toNat]?).bind fun t42 =>
 bif inb v9 (List.length v7) then
 (v7[v9.toNat]?).bind fun x2 =>
 robuststatsref23_Choose.l9 k v0 v1 v2 (v7.set v9.toNat (minI (IntKind.i64.wrap (t37 + t42)) (IntKind.i64.wrap (v2 + (1 : Int))))) v8 (IntKind.i64.wrap (v9 - (1 : Int)))
 else none
 else none
 else none
 else some (v0, v1, v2, v7, v8)
def robuststatsref23_Choose.L9 (v0 : Int) (v1 : Int) (v2 : Int) (v7 : List Int) (v8 : Int) (v9 : Int) : Option ((Int × Int × Int × List Int × Int)) := lim fun k => robuststatsref23_Choose.l9 k v0 v1 v2 v7 v8 v9
theorem robuststatsref23_Choose.L9_eq (v0 : Int) (v1 : Int) (v2 : Int) (v7 : List Int) (v8 : Int) (v9 : Int) : robuststatsref23_Choose.L9 v0 v1 v2 v7 v8 v9 =
 bif (decide ((0 : Int) < v9)) then
 bif inb v9 (List.length v7) then
 (v7[v9.toNat]?).bind fun t37 =>
 bif inb (IntKind.i64.wrap (v9 - (1 : Int))) (List.length v7) then
 (v7[(IntKind.i64.wrap (v9 - (1 : Int))).toNat]?).bind fun t42 =>
 bif inb v9 (List.length v7) then
 (v7[v9.toNat]?).bind fun x2 =>
 robuststatsref23_Choose.L9 v0 v1 v2 (v7.set v9.toNat (minI (IntKind.i64.wrap (t37 + t42)) (IntKind.i64.wrap (v2 + (1 : Int))))) v8 (IntKind.i64.wrap (v9 - (1 : Int)))
 else none
 else none
 else none
 else some (v0, v1, v2, v7, v8) := by
  show lim (fun k => robuststatsref23_Choose.l9 k v0 v1 v2 v7 v8 v9) = _
  rw [lim_shift]
  simp only [robuststatsref23_Choose.l9, lim_cond, lim_bind, lim_const, lim_elim]
  rfl

def robuststatsref23_Choose.l6 : Nat → Int → Int → Int → List Int → Int → Option ((Int × List Int))
 | 0, _, _, _, _, _ => none
 | k + 1, v0, v1, v2, v7, v8 =>
 bif (decide (v8 < v0)) then
 (robuststatsref23_Choose.L9 v0 v1 v2 v7 v8 v1).bind fun o3 =>
 robuststatsref23_Choose.l6 k o3.1 o3.2.1 o3.2.2.1 o3.2.2.2.1 (IntKind.i64.wrap (o3.2.2.2.2 + (1 : Int)))
 else some (v1, v7)
def robuststatsref23_Choose.L6 (v0 : Int) (v1 : Int) (v2 : Int) (v7 : List Int) (v8 : Int) : Option ((Int × List Int)) := lim fun k => robuststatsref23_Choose.l6 k v0 v1 v2 v7 v8
theorem robuststatsref23_Choose.L6_eq (v0 : Int) (v1 : Int) (v2 : Int) (v7 : List Int) (v8 : Int) : robuststatsref23_Choose.L6 v0 v1 v2 v7 v8 =
 bif (decide (v8 < v0)) then
 (robuststatsref23_Choose.L9 v0 v1 v2 v7 v8 v1).bind fun o3 =>
 robuststatsref23_Choose.L6 o3.1 o3.2.1 o3.2.2.1 o3.2.2.2.1 (IntKind.i64.wrap (o3.2.2.2.2 + (1 : Int)))
 else some (v1, v7) := by
  show lim (fun k => robuststatsref23_Choose.l6 k v0 v1 v2 v7 v8) = _
  rw [lim_shift]
  simp only [robuststatsref23_Choose.l6, lim_cond, lim_bind, lim_const, lim_elim]
  rfl

def robuststatsref23_Choose (a0 : Int) (a1 : Int) (a2 : Int) : Option (Int) :=
 bif (decide (a1 < (0 : Int))) then
 some (0 : Int)
 else bif (decide (a0 < a1)) then
 some (0 : Int)
 else bif mkOk (IntKind.i64.wrap (a1 + (1 : Int))) (IntKind.i64.wrap (a1 + (1 : Int))) then
 bif inb (0 : Int) (List.length (List.replicate (IntKind.i64.wrap (a1 + (1 : Int))).toNat (0 : Int))) then
 ((List.replicate (IntKind.i64.wrap (a1 + (1 : Int))).toNat (0 : Int))[(0 : Int).toNat]?).bind fun x1 =>
 (robuststatsref23_Choose.L6 a0 a1 a2 ((List.replicate (IntKind.i64.wrap (a1 + (1 : Int))).toNat (0 : Int)).set ((0 : Int).toNat) (1 : Int)) (0 : Int)).bind fun o4 =>
 bif inb o4.1 (List.length o4.2) then
 (o4.2[o4.1.toNat]?).bind fun t51 =>
 some t51
 else none
 else none
 else none

end Go.ZS
end
end

section
/- The functions of package robuststatsref30, as values. -/
set_option linter.unusedVariables false
set_option maxRecDepth 100000
noncomputable section
namespace Go.ZS
open Go Go.ZM
/- robuststats/robuststatsref30.Sum -/
def robuststatsref30_Sum.l3 : Nat → ((Bool × List Int) × List Int) → ((Bool × List Int) × List Int) → (List ((Bool × List Int) × List Int)) → Int → Int → Option ((((Bool × List Int) × List Int) × ((Bool × List Int) × List Int)))
 | 0, _, _, _, _, _ => none
 | k + 1, v2, v3, v6, v7, v8 =>
 bif (decide (v8 < v7)) then
 (idx v6 v8).bind fun t10 =>
 (robuststatsref03_Add v3 t10).bind fun t14 =>
 robuststatsref30_Sum.l3 k v2 t14 v6 v7 (IntKind.i64.wrap (v8 + (1 : Int)))
 else some (v2, v3)
def robuststatsref30_Sum.L3 (v2 : (Bool × List Int) × List Int) (v3 : (Bool × List Int) × List Int) (v6 : List ((Bool × List Int) × List Int)) (v7 : Int) (v8 : Int) : Option ((((Bool × List Int) × List Int) × ((Bool × List Int) × List Int))) := lim fun k => robuststatsref30_Sum.l3 k v2 v3 v6 v7 v8
theorem robuststatsref30_Sum.L3_eq (v2 : (Bool × List Int) × List Int) (v3 : (Bool × List Int) × List Int) (v6 : List ((Bool × List Int) × List Int)) (v7 : Int) (v8 : Int) : robuststatsref30_Sum.L3 v2 v3 v6 v7 v8 =
 bif (decide (v8 < v7)) then
 (idx v6 v8).bind fun t10 =>
 (robuststatsref03_Add v3 t10).bind fun t14 =>
 robuststatsref30_Sum.L3 v2 t14 v6 v7 (IntKind.i64.wrap (v8 + (1 : Int)))
 else some (v2, v3) := by
  show lim (fun k => robuststatsref30_Sum.l3 k v2 v3 v6 v7 v8) = _
  rw [lim_shift]
  simp only [robuststatsref30_Sum.l3, lim_cond, lim_bind, lim_const, lim_elim]
  rfl

def robuststatsref30_Sum (a0 : List ((Bool × List Int) × List Int)) : Option (((Bool × List Int) × List Int)) :=
 (robuststatsref30_Sum.L3 ((false, ([] : List Int)), ([] : List Int)) ((false, ([] : List Int)), ([] : List Int)) a0 ((List.length a0 : Nat) : Int) (0 : Int)).bind fun o1 =>
 some o1.2

end Go.ZS
end
end

section
/- The functions of package robuststatsworld, as values. -/
set_option linter.unusedVariables false
set_option maxRecDepth 100000
noncomputable section
namespace Go.ZS
open Go Go.ZM
/- robuststats/robuststatsworld.New -/
def robuststatsworld_New (a0 : List Int) : Option ((List Int × Int)) :=
 bif (decide ((400 : Int) < ((List.length a0 : Nat) : Int))) then
 bif slOk (0 : Int) (400 : Int) (List.length a0) then
 some ((sub a0 (0 : Int) (400 : Int)), (0 : Int))
 else none
 else some (a0, (0 : Int))

/- robuststats/robuststatsworld.Mod -/
def robuststatsworld_Mod (a0 : Int) (a1 : Int) : Option (Int) :=
 bif decide (a1 = 0) then
 none
 else bif (decide ((a0.tmod a1) < (0 : Int))) then
 some (IntKind.i64.wrap ((a0.tmod a1) + a1))
 else some (a0.tmod a1)

/- (*robuststats/robuststatsworld.Tape).Next -/
def robuststatsworld_Tape_Next (a0 : List Int × Int) (a1 : Int) : Option (Int × ((List Int × Int))) :=
 bif (decide (a1 < (1 : Int))) then
 some ((0 : Int), a0)
 else bif (decide (((List.length a0.1 : Nat) : Int) ≤ a0.2)) then
 some ((0 : Int), a0)
 else (idx a0.1 (IntKind.i64.wrap ((IntKind.i64.wrap (a0.2 + (1 : Int))) - (1 : Int)))).bind fun t35 =>
 (robuststatsworld_Mod t35 a1).bind fun t38 =>
 some (t38, (a0.1, (IntKind.i64.wrap (a0.2 + (1 : Int)))))

/- (*robuststats/robuststatsworld.Tape).Pick -/
def robuststatsworld_Tape_Pick (a0 : List Int × Int) (a1 : List Int) : Option (Int × ((List Int × Int))) :=
 (robuststatsworld_Tape_Next a0 ((List.length a1 : Nat) : Int)).bind fun t9 =>
 (idx a1 t9.1).bind fun t10 =>
 some (t10, t9.2)

/- (*robuststats/robuststatsworld.Tape).Rat -/
def robuststatsworld_Tape_Rat (a0 : List Int × Int) : Option ((((Bool × List Int) × List Int)) × ((List Int × Int))) :=
 (robuststatsworld_Tape_Next a0 (8 : Int)).bind fun t4 =>
 bif (decide (t4.1 = (6 : Int))) then
 (robuststatsworld_Tape_Next t4.2 (13 : Int)).bind fun t8 =>
 (robuststatsworld_Tape_Next t8.2 (6 : Int)).bind fun t11 =>
 (robuststatsref03_Fraction (IntKind.i64.wrap (t8.1 - (6 : Int))) (IntKind.i64.wrap ((1 : Int) + t11.1))).bind fun t13 =>
 some (t13, t11.2)
 else bif (decide (t4.1 = (7 : Int))) then
 (robuststatsworld_Tape_Next t4.2 (2001 : Int)).bind fun t17 =>
 (robuststatsworld_Tape_Pick t17.2 ([(1 : Int), (1 : Int), (7 : Int)] : List Int)).bind fun t21 =>
 (robuststatsref03_Fraction (IntKind.i64.wrap (t17.1 - (1000 : Int))) t21.1).bind fun t22 =>
 some (t22, t21.2)
 else (robuststatsworld_Tape_Next t4.2 (9 : Int)).bind fun t24 =>
 (robuststatsref03_FromInt (IntKind.i64.wrap (t24.1 - (4 : Int)))).bind fun t26 =>
 some (t26, t24.2)

/- (*robuststats/robuststatsworld.Tape).Bool -/
def robuststatsworld_Tape_Bool (a0 : List Int × Int) (a1 : Int) : Option (Bool × ((List Int × Int))) :=
 (robuststatsworld_Tape_Next a0 a1).bind fun t7 =>
 some ((decide (t7.1 = (IntKind.i64.wrap (a1 - (1 : Int))))), t7.2)

/- (*robuststats/robuststatsworld.Tape).Values -/
def robuststatsworld_Tape_Values.l3 : Nat → (List Int × Int) → (List ((Bool × List Int) × List Int)) → Int → Option (((List Int × Int) × (List ((Bool × List Int) × List Int))))
 | 0, _, _, _ => none
 | k + 1, v0, v5, v6 =>
 bif (decide ((0 : Int) < v6)) then
 (robuststatsworld_Tape_Rat v0).bind fun t19 =>
 (robuststatsworld_Tape_Bool t19.2 (4 : Int)).bind fun t21 =>
 bif t21.1 then
 (robuststatsworld_Tape_Next t21.2 ((List.length v5 : Nat) : Int)).bind fun t26 =>
 bif inb t26.1 (List.length v5) then
 (v5[t26.1.toNat]?).bind fun t28 =>
 bif apOk (List.length v5) (List.length ([t28] : List ((Bool × List Int) × List Int))) then
 robuststatsworld_Tape_Values.l3 k t26.2 (v5 ++ ([t28] : List ((Bool × List Int) × List Int))) (IntKind.i64.wrap (v6 - (1 : Int)))
 else none
 else none
 else bif apOk (List.length v5) (List.length ([t19.1] : List ((Bool × List Int) × List Int))) then
 robuststatsworld_Tape_Values.l3 k t21.2 (v5 ++ ([t19.1] : List ((Bool × List Int) × List Int))) (IntKind.i64.wrap (v6 - (1 : Int)))
 else none
 else some (v0, v5)
def robuststatsworld_Tape_Values.L3 (v0 : List Int × Int) (v5 : List ((Bool × List Int) × List Int)) (v6 : Int) : Option (((List Int × Int) × (List ((Bool × List Int) × List Int)))) := lim fun k => robuststatsworld_Tape_Values.l3 k v0 v5 v6
theorem robuststatsworld_Tape_Values.L3_eq (v0 : List Int × Int) (v5 : List ((Bool × List Int) × List Int)) (v6 : Int) : robuststatsworld_Tape_Values.L3 v0 v5 v6 =
 bif (decide ((0 : Int) < v6)) then
 (robuststatsworld_Tape_Rat v0).bind fun t19 =>
 (robuststatsworld_Tape_Bool t19.2 (4 : Int)).bind fun t21 =>
 bif t21.1 then
 (robuststatsworld_Tape_Next t21.2 ((List.length v5 : Nat) : Int)).bind fun t26 =>
 bif inb t26.1 (List.length v5) then
 (v5[t26.1.toNat]?).bind fun t28 =>
 bif apOk (List.length v5) (List.length ([t28] : List ((Bool × List Int) × List Int))) then
 robuststatsworld_Tape_Values.L3 t26.2 (v5 ++ ([t28] : List ((Bool × List Int) × List Int))) (IntKind.i64.wrap (v6 - (1 : Int)))
 else none
 else none
 else bif apOk (List.length v5) (List.length ([t19.1] : List ((Bool × List Int) × List Int))) then
 robuststatsworld_Tape_Values.L3 t21.2 (v5 ++ ([t19.1] : List ((Bool × List Int) × List Int))) (IntKind.i64.wrap (v6 - (1 : Int)))
 else none
 else some (v0, v5) := by
  show lim (fun k => robuststatsworld_Tape_Values.l3 k v0 v5 v6) = _
  rw [lim_shift]
  simp only [robuststatsworld_Tape_Values.l3, lim_cond, lim_bind, lim_const, lim_elim]
  rfl

def robuststatsworld_Tape_Values (a0 : List Int × Int) (a1 : Int) : Option (((List ((Bool × List Int) × List Int))) × ((List Int × Int))) :=
 (robuststatsworld_Tape_Rat a0).bind fun t9 =>
 (robuststatsworld_Tape_Next t9.2 a1).bind fun t13 =>
 (robuststatsworld_Tape_Values.L3 t13.2 ([t9.1] : List ((Bool × List Int) × List Int)) t13.1).bind fun o1 =>
 some (o1.2, o1.1)

end Go.ZS
end
end

section
/- The functions of package robuststatslaw30, as values. -/
set_option linter.unusedVariables false
set_option maxRecDepth 100000
noncomputable section
namespace Go.ZS
open Go Go.ZM
/- robuststats/robuststatslaw30.ints -/
def robuststatslaw30_ints.l3 : Nat → (List ((Bool × List Int) × List Int)) → List Int → Int → Int → Option (((List ((Bool × List Int) × List Int))))
 | 0, _, _, _, _ => none
 | k + 1, v3, v6, v7, v8 =>
 bif (decide (v8 < v7)) then
 (idx v6 v8).bind fun t10 =>
 (robuststatsref03_FromInt t10).bind fun t14 =>
 bif apOk (List.length v3) (List.length ([t14] : List ((Bool × List Int) × List Int))) then
 robuststatslaw30_ints.l3 k (v3 ++ ([t14] : List ((Bool × List Int) × List Int))) v6 v7 (IntKind.i64.wrap (v8 + (1 : Int)))
 else none
 else some v3
def robuststatslaw30_ints.L3 (v3 : List ((Bool × List Int) × List Int)) (v6 : List Int) (v7 : Int) (v8 : Int) : Option (((List ((Bool × List Int) × List Int)))) := lim fun k => robuststatslaw30_ints.l3 k v3 v6 v7 v8
theorem robuststatslaw30_ints.L3_eq (v3 : List ((Bool × List Int) × List Int)) (v6 : List Int) (v7 : Int) (v8 : Int) : robuststatslaw30_ints.L3 v3 v6 v7 v8 =
 bif (decide (v8 < v7)) then
 (idx v6 v8).bind fun t10 =>
 (robuststatsref03_FromInt t10).bind fun t14 =>
 bif apOk (List.length v3) (List.length ([t14] : List ((Bool × List Int) × List Int))) then
 robuststatslaw30_ints.L3 (v3 ++ ([t14] : List ((Bool × List Int) × List Int))) v6 v7 (IntKind.i64.wrap (v8 + (1 : Int)))
 else none
 else some v3 := by
  show lim (fun k => robuststatslaw30_ints.l3 k v3 v6 v7 v8) = _
  rw [lim_shift]
  simp only [robuststatslaw30_ints.l3, lim_cond, lim_bind, lim_const, lim_elim]
  rfl

def robuststatslaw30_ints (a0 : List Int) : Option ((List ((Bool × List Int) × List Int))) :=
 (robuststatslaw30_ints.L3 ([] : List ((Bool × List Int) × List Int)) a0 ((List.length a0 : Nat) : Int) (0 : Int)).bind fun o1 =>
 some o1

/- robuststats/robuststatslaw30.awake -/
def robuststatslaw30_awake  : Option (Bool) :=
 (robuststatslaw30_ints ([(1 : Int), (2 : Int), (2 : Int)] : List Int)).bind fun t7 =>
 (permutation_Subsets t7 (2 : Int)).bind fun t8 =>
 (robuststatslaw30_ints ([(5 : Int), (6 : Int)] : List Int)).bind fun t13 =>
 (robuststatslaw30_ints ([(1 : Int), (2 : Int)] : List Int)).bind fun t15 =>
 (permutation_Sample t13 t15 (2 : Int)).bind fun t16 =>
 bif (decide (t8.2 = (0 : Int))) then
 bif (decide (((List.length t8.1 : Nat) : Int) = (2 : Int))) then
 bif inb (0 : Int) (List.length t8.1) then
 (t8.1[(0 : Int).toNat]?).bind fun t30 =>
 (robuststatsref02_FromInt (2 : Int)).bind fun t31 =>
 (robuststatsref02_Same t30.2 t31).bind fun t32 =>
 bif t32 then
 bif (decide (t16.2 = (0 : Int))) then
 (robuststatsref03_Fraction (1 : Int) (6 : Int)).bind fun t40 =>
 (robuststatsref03_Same t16.1 t40).bind fun t41 =>
 some t41
 else some false
 else some false
 else none
 else some false
 else some false

/- robuststats/robuststatslaw30.PermutationCounts -/
def robuststatslaw30_PermutationCounts.l11 : Nat → (List ((Bool × List Int) × List Int)) → (List ((Bool × List Int) × List Int)) → (List ((Bool × List Int) × List Int)) → ((Bool × List Int) × List Int) → Int → Int → ((Bool × List Int) × List Int) → List (List Int) → Int → Int → List Int → Int → Int → Option (((List ((Bool × List Int) × List Int)) × (List ((Bool × List Int) × List Int)) × (List ((Bool × List Int) × List Int)) × ((Bool × List Int) × List Int) × Int × Int × ((Bool × List Int) × List Int) × List (List Int) × Int × Int))
 | 0, _, _, _, _, _, _, _, _, _, _, _, _, _ => none
 | k + 1, v4, v5, v6, v7, v8, v9, v12, v33, v34, v35, v39, v40, v41 =>
 bif (decide (v41 < v40)) then
 (idx v39 v41).bind fun t43 =>
 bif inb t43 (List.length v6) then
 (v6[t43.toNat]?).bind fun t49 =>
 (robuststatsref03_Add v12 t49).bind fun t50 =>
 robuststatslaw30_PermutationCounts.l11 k v4 v5 v6 v7 v8 v9 t50 v33 v34 v35 v39 v40 (IntKind.i64.wrap (v41 + (1 : Int)))
 else none
 else some (v4, v5, v6, v7, v8, v9, v12, v33, v34, v35)
def robuststatslaw30_PermutationCounts.L11 (v4 : List ((Bool × List Int) × List Int)) (v5 : List ((Bool × List Int) × List Int)) (v6 : List ((Bool × List Int) × List Int)) (v7 : (Bool × List Int) × List Int) (v8 : Int) (v9 : Int) (v12 : (Bool × List Int) × List Int) (v33 : List (List Int)) (v34 : Int) (v35 : Int) (v39 : List Int) (v40 : Int) (v41 : Int) : Option (((List ((Bool × List Int) × List Int)) × (List ((Bool × List Int) × List Int)) × (List ((Bool × List Int) × List Int)) × ((Bool × List Int) × List Int) × Int × Int × ((Bool × List Int) × List Int) × List (List Int) × Int × Int)) := lim fun k => robuststatslaw30_PermutationCounts.l11 k v4 v5 v6 v7 v8 v9 v12 v33 v34 v35 v39 v40 v41
theorem robuststatslaw30_PermutationCounts.L11_eq (v4 : List ((Bool × List Int) × List Int)) (v5 : List ((Bool × List Int) × List Int)) (v6 : List ((Bool × List Int) × List Int)) (v7 : (Bool × List Int) × List Int) (v8 : Int) (v9 : Int) (v12 : (Bool × List Int) × List Int) (v33 : List (List Int)) (v34 : Int) (v35 : Int) (v39 : List Int) (v40 : Int) (v41 : Int) : robuststatslaw30_PermutationCounts.L11 v4 v5 v6 v7 v8 v9 v12 v33 v34 v35 v39 v40 v41 =
 bif (decide (v41 < v40)) then
 (idx v39 v41).bind fun t43 =>
 bif inb t43 (List.length v6) then
 (v6[t43.toNat]?).bind fun t49 =>
 (robuststatsref03_Add v12 t49).bind fun t50 =>
 robuststatslaw30_PermutationCounts.L11 v4 v5 v6 v7 v8 v9 t50 v33 v34 v35 v39 v40 (IntKind.i64.wrap (v41 + (1 : Int)))
 else none
 else some (v4, v5, v6, v7, v8, v9, v12, v33, v34, v35) := by
  show lim (fun k => robuststatslaw30_PermutationCounts.l11 k v4 v5 v6 v7 v8 v9 v12 v33 v34 v35 v39 v40 v41) = _
  rw [lim_shift]
  simp only [robuststatslaw30_PermutationCounts.l11, lim_cond, lim_bind, lim_const, lim_elim]
  rfl

def robuststatslaw30_PermutationCounts.l7 : Nat → (List ((Bool × List Int) × List Int)) → (List ((Bool × List Int) × List Int)) → (List ((Bool × List Int) × List Int)) → ((Bool × List Int) × List Int) → Int → Int → List (List Int) → Int → Int → Option (((List ((Bool × List Int) × List Int)) × (List ((Bool × List Int) × List Int)) × Int × Int))
 | 0, _, _, _, _, _, _, _, _, _ => none
 | k + 1, v4, v5, v6, v7, v8, v9, v33, v34, v35 =>
 bif (decide (v35 < v34)) then
 bif inb v35 (List.length v33) then
 (v33[v35.toNat]?).bind fun t38 =>
 (robuststatslaw30_PermutationCounts.L11 v4 v5 v6 v7 v8 v9 ((false, ([] : List Int)), ([] : List Int)) v33 v34 v35 t38 ((List.length t38 : Nat) : Int) (0 : Int)).bind fun o1 =>
 (robuststatsref03_Compare o1.2.2.2.2.2.2.1 o1.2.2.2.1).bind fun t56 =>
 bif (decide ((0 : Int) ≤ t56)) then
 robuststatslaw30_PermutationCounts.l7 k o1.1 o1.2.1 o1.2.2.1 o1.2.2.2.1 (IntKind.i64.wrap (o1.2.2.2.2.1 + (1 : Int))) (IntKind.i64.wrap (o1.2.2.2.2.2.1 + (1 : Int))) o1.2.2.2.2.2.2.2.1 o1.2.2.2.2.2.2.2.2.1 (IntKind.i64.wrap (o1.2.2.2.2.2.2.2.2.2 + (1 : Int)))
 else robuststatslaw30_PermutationCounts.l7 k o1.1 o1.2.1 o1.2.2.1 o1.2.2.2.1 o1.2.2.2.2.1 (IntKind.i64.wrap (o1.2.2.2.2.2.1 + (1 : Int))) o1.2.2.2.2.2.2.2.1 o1.2.2.2.2.2.2.2.2.1 (IntKind.i64.wrap (o1.2.2.2.2.2.2.2.2.2 + (1 : Int)))
 else none
 else some (v4, v5, v8, v9)
def robuststatslaw30_PermutationCounts.L7 (v4 : List ((Bool × List Int) × List Int)) (v5 : List ((Bool × List Int) × List Int)) (v6 : List ((Bool × List Int) × List Int)) (v7 : (Bool × List Int) × List Int) (v8 : Int) (v9 : Int) (v33 : List (List Int)) (v34 : Int) (v35 : Int) : Option (((List ((Bool × List Int) × List Int)) × (List ((Bool × List Int) × List Int)) × Int × Int)) := lim fun k => robuststatslaw30_PermutationCounts.l7 k v4 v5 v6 v7 v8 v9 v33 v34 v35
theorem robuststatslaw30_PermutationCounts.L7_eq (v4 : List ((Bool × List Int) × List Int)) (v5 : List ((Bool × List Int) × List Int)) (v6 : List ((Bool × List Int) × List Int)) (v7 : (Bool × List Int) × List Int) (v8 : Int) (v9 : Int) (v33 : List (List Int)) (v34 : Int) (v35 : Int) : robuststatslaw30_PermutationCounts.L7 v4 v5 v6 v7 v8 v9 v33 v34 v35 =
 bif (decide (v35 < v34)) then
 bif inb v35 (List.length v33) then
 (v33[v35.toNat]?).bind fun t38 =>
 (robuststatslaw30_PermutationCounts.L11 v4 v5 v6 v7 v8 v9 ((false, ([] : List Int)), ([] : List Int)) v33 v34 v35 t38 ((List.length t38 : Nat) : Int) (0 : Int)).bind fun o1 =>
 (robuststatsref03_Compare o1.2.2.2.2.2.2.1 o1.2.2.2.1).bind fun t56 =>
 bif (decide ((0 : Int) ≤ t56)) then
 robuststatslaw30_PermutationCounts.L7 o1.1 o1.2.1 o1.2.2.1 o1.2.2.2.1 (IntKind.i64.wrap (o1.2.2.2.2.1 + (1 : Int))) (IntKind.i64.wrap (o1.2.2.2.2.2.1 + (1 : Int))) o1.2.2.2.2.2.2.2.1 o1.2.2.2.2.2.2.2.2.1 (IntKind.i64.wrap (o1.2.2.2.2.2.2.2.2.2 + (1 : Int)))
 else robuststatslaw30_PermutationCounts.L7 o1.1 o1.2.1 o1.2.2.1 o1.2.2.2.1 o1.2.2.2.2.1 (IntKind.i64.wrap (o1.2.2.2.2.2.1 + (1 : Int))) o1.2.2.2.2.2.2.2.1 o1.2.2.2.2.2.2.2.2.1 (IntKind.i64.wrap (o1.2.2.2.2.2.2.2.2.2 + (1 : Int)))
 else none
 else some (v4, v5, v8, v9) := by
  show lim (fun k => robuststatslaw30_PermutationCounts.l7 k v4 v5 v6 v7 v8 v9 v33 v34 v35) = _
  rw [lim_shift]
  simp only [robuststatslaw30_PermutationCounts.l7, lim_cond, lim_bind, lim_const, lim_elim]
  rfl

def robuststatslaw30_PermutationCounts (a0 : List Int) : Option (Bool) :=
 (robuststatsworld_New a0).bind fun t18 =>
 (robuststatsworld_Tape_Values t18 (4 : Int)).bind fun t20 =>
 (robuststatsworld_Tape_Values t20.2 (4 : Int)).bind fun t22 =>
 bif apOk 0 (List.length t20.1) then
 bif apOk (List.length t20.1) (List.length t22.1) then
 (robuststatsref30_Sum t20.1).bind fun t28 =>
 (robuststatsref23_Combos ((List.length (t20.1 ++ t22.1) : Nat) : Int) ((List.length t20.1 : Nat) : Int)).bind fun t33 =>
 (robuststatslaw30_PermutationCounts.L7 t20.1 t22.1 (t20.1 ++ t22.1) t28 (0 : Int) (0 : Int) t33 ((List.length t33 : Nat) : Int) (0 : Int)).bind fun o2 =>
 (permutation_Sample o2.1 o2.2.1 (2 : Int)).bind fun t64 =>
 bif (decide (t64.2 = (0 : Int))) then
 (robuststatsref03_Fraction o2.2.2.1 o2.2.2.2).bind fun t73 =>
 (robuststatsref03_Same t64.1 t73).bind fun t74 =>
 bif t74 then
 (robuststatslaw30_awake).bind fun t77 =>
 some t77
 else some false
 else some false
 else none
 else none

/- robuststats/robuststatslaw30.move -/
def robuststatslaw30_move.l3 : Nat → (List ((Bool × List Int) × List Int)) → ((Bool × List Int) × List Int) → (List ((Bool × List Int) × List Int)) → (List ((Bool × List Int) × List Int)) → Int → Int → Option (((List ((Bool × List Int) × List Int)) × (List ((Bool × List Int) × List Int))))
 | 0, _, _, _, _, _, _ => none
 | k + 1, v0, v3, v6, v7, v10, v11 =>
 bif (decide (v11 < v10)) then
 (idx v0 (IntKind.i64.wrap ((IntKind.i64.wrap (((List.length v0 : Nat) : Int) - (1 : Int))) - v11))).bind fun t21 =>
 (robuststatsref03_Add t21 v3).bind fun t24 =>
 bif apOk (List.length v6) (List.length ([t24] : List ((Bool × List Int) × List Int))) then
 (idx v0 v11).bind fun t30 =>
 (robuststatsref03_Neg t30).bind fun t32 =>
 bif apOk (List.length v7) (List.length ([t32] : List ((Bool × List Int) × List Int))) then
 robuststatslaw30_move.l3 k v0 v3 (v6 ++ ([t24] : List ((Bool × List Int) × List Int))) (v7 ++ ([t32] : List ((Bool × List Int) × List Int))) v10 (IntKind.i64.wrap (v11 + (1 : Int)))
 else none
 else none
 else some (v6, v7)
def robuststatslaw30_move.L3 (v0 : List ((Bool × List Int) × List Int)) (v3 : (Bool × List Int) × List Int) (v6 : List ((Bool × List Int) × List Int)) (v7 : List ((Bool × List Int) × List Int)) (v10 : Int) (v11 : Int) : Option (((List ((Bool × List Int) × List Int)) × (List ((Bool × List Int) × List Int)))) := lim fun k => robuststatslaw30_move.l3 k v0 v3 v6 v7 v10 v11
theorem robuststatslaw30_move.L3_eq (v0 : List ((Bool × List Int) × List Int)) (v3 : (Bool × List Int) × List Int) (v6 : List ((Bool × List Int) × List Int)) (v7 : List ((Bool × List Int) × List Int)) (v10 : Int) (v11 : Int) : robuststatslaw30_move.L3 v0 v3 v6 v7 v10 v11 =
 bif (decide (v11 < v10)) then
 (idx v0 (IntKind.i64.wrap ((IntKind.i64.wrap (((List.length v0 : Nat) : Int) - (1 : Int))) - v11))).bind fun t21 =>
 (robuststatsref03_Add t21 v3).bind fun t24 =>
 bif apOk (List.length v6) (List.length ([t24] : List ((Bool × List Int) × List Int))) then
 (idx v0 v11).bind fun t30 =>
 (robuststatsref03_Neg t30).bind fun t32 =>
 bif apOk (List.length v7) (List.length ([t32] : List ((Bool × List Int) × List Int))) then
 robuststatslaw30_move.L3 v0 v3 (v6 ++ ([t24] : List ((Bool × List Int) × List Int))) (v7 ++ ([t32] : List ((Bool × List Int) × List Int))) v10 (IntKind.i64.wrap (v11 + (1 : Int)))
 else none
 else none
 else some (v6, v7) := by
  show lim (fun k => robuststatslaw30_move.l3 k v0 v3 v6 v7 v10 v11) = _
  rw [lim_shift]
  simp only [robuststatslaw30_move.l3, lim_cond, lim_bind, lim_const, lim_elim]
  rfl

def robuststatslaw30_move (a0 : List ((Bool × List Int) × List Int)) (a1 : (Bool × List Int) × List Int) : Option ((List ((Bool × List Int) × List Int)) × (List ((Bool × List Int) × List Int))) :=
 (robuststatslaw30_move.L3 a0 a1 ([] : List ((Bool × List Int) × List Int)) ([] : List ((Bool × List Int) × List Int)) ((List.length a0 : Nat) : Int) (0 : Int)).bind fun o1 =>
 some (o1.1, o1.2)

/- robuststats/robuststatslaw30.PermutationMoves -/
def robuststatslaw30_PermutationMoves.l7 : Nat → (List ((Bool × List Int) × List Int)) → (List ((Bool × List Int) × List Int)) → (List ((Bool × List Int) × List Int)) → (List ((Bool × List Int) × List Int)) → (List ((Bool × List Int) × List Int)) → (List ((Bool × List Int) × List Int)) → Int → Option (Unit ⊕ Bool)
 | 0, _, _, _, _, _, _, _ => none
 | k + 1, v4, v5, v7, v8, v9, v10, v11 =>
 bif (decide (v11 ≤ (3 : Int))) then
 (permutation_Sample v4 v5 v11).bind fun t46 =>
 (permutation_Sample v7 v9 v11).bind fun t53 =>
 bif inb v11 (List.length ([(0 : Int), (2 : Int), (1 : Int), (3 : Int)] : List Int)) then
 (([(0 : Int), (2 : Int), (1 : Int), (3 : Int)] : List Int)[v11.toNat]?).bind fun t62 =>
 (permutation_Sample v8 v10 t62).bind fun t63 =>
 bif (!decide (t46.2 = (0 : Int))) then
 some (.inr false)
 else bif (!decide (t53.2 = (0 : Int))) then
 some (.inr false)
 else bif (!decide (t63.2 = (0 : Int))) then
 some (.inr false)
 else (robuststatsref03_Same t46.1 t53.1).bind fun t79 =>
 bif (!t79) then
 some (.inr false)
 else (robuststatsref03_Same t46.1 t63.1).bind fun t85 =>
 bif (!t85) then
 some (.inr false)
 else robuststatslaw30_PermutationMoves.l7 k v4 v5 v7 v8 v9 v10 (IntKind.i64.wrap (v11 + (1 : Int)))
 else none
 else some (.inl ())
def robuststatslaw30_PermutationMoves.L7 (v4 : List ((Bool × List Int) × List Int)) (v5 : List ((Bool × List Int) × List Int)) (v7 : List ((Bool × List Int) × List Int)) (v8 : List ((Bool × List Int) × List Int)) (v9 : List ((Bool × List Int) × List Int)) (v10 : List ((Bool × List Int) × List Int)) (v11 : Int) : Option (Unit ⊕ Bool) := lim fun k => robuststatslaw30_PermutationMoves.l7 k v4 v5 v7 v8 v9 v10 v11
theorem robuststatslaw30_PermutationMoves.L7_eq (v4 : List ((Bool × List Int) × List Int)) (v5 : List ((Bool × List Int) × List Int)) (v7 : List ((Bool × List Int) × List Int)) (v8 : List ((Bool × List Int) × List Int)) (v9 : List ((Bool × List Int) × List Int)) (v10 : List ((Bool × List Int) × List Int)) (v11 : Int) : robuststatslaw30_PermutationMoves.L7 v4 v5 v7 v8 v9 v10 v11 =
 bif (decide (v11 ≤ (3 : Int))) then
 (permutation_Sample v4 v5 v11).bind fun t46 =>
 (permutation_Sample v7 v9 v11).bind fun t53 =>
 bif inb v11 (List.length ([(0 : Int), (2 : Int), (1 : Int), (3 : Int)] : List Int)) then
 (([(0 : Int), (2 : Int), (1 : Int), (3 : Int)] : List Int)[v11.toNat]?).bind fun t62 =>
 (permutation_Sample v8 v10 t62).bind fun t63 =>
 bif (!decide (t46.2 = (0 : Int))) then
 some (.inr false)
 else bif (!decide (t53.2 = (0 : Int))) then
 some (.inr false)
 else bif (!decide (t63.2 = (0 : Int))) then
 some (.inr false)
 else (robuststatsref03_Same t46.1 t53.1).bind fun t79 =>
 bif (!t79) then
 some (.inr false)
 else (robuststatsref03_Same t46.1 t63.1).bind fun t85 =>
 bif (!t85) then
 some (.inr false)
 else robuststatslaw30_PermutationMoves.L7 v4 v5 v7 v8 v9 v10 (IntKind.i64.wrap (v11 + (1 : Int)))
 else none
 else some (.inl ()) := by
  show lim (fun k => robuststatslaw30_PermutationMoves.l7 k v4 v5 v7 v8 v9 v10 v11) = _
  rw [lim_shift]
  simp only [robuststatslaw30_PermutationMoves.l7, lim_cond, lim_bind, lim_const, lim_elim]
  rfl

def robuststatslaw30_PermutationMoves (a0 : List Int) : Option (Bool) :=
 (robuststatsworld_New a0).bind fun t19 =>
 (robuststatsworld_Tape_Values t19 (4 : Int)).bind fun t21 =>
 (robuststatsworld_Tape_Values t21.2 (4 : Int)).bind fun t23 =>
 (robuststatsworld_Tape_Rat t23.2).bind fun t25 =>
 (robuststatslaw30_move t21.1 t25.1).bind fun t29 =>
 (robuststatslaw30_move t23.1 t25.1).bind fun t35 =>
 (robuststatslaw30_PermutationMoves.L7 t21.1 t23.1 t29.1 t29.2 t35.1 t35.2 (1 : Int)).bind fun o1 =>
 Sum.elim (fun y2 =>
 (robuststatslaw30_awake).bind fun t88 =>
 some t88) (fun z3 =>
 some z3) o1

/- robuststats/robuststatslaw30.PermutationSmall -/
def robuststatslaw30_PermutationSmall.l7 : Nat → Int → Int → (List ((Bool × List Int) × List Int)) → Int → Int → Int → Option ((Int × Int × (List ((Bool × List Int) × List Int)) × Int))
 | 0, _, _, _, _, _, _ => none
 | k + 1, v1, v7, v8, v9, v25, v26 =>
 bif (decide (v26 < v25)) then
 (robuststatsref03_Fraction (IntKind.i64.wrap (v1.tmod (65 : Int))) v9).bind fun t35 =>
 bif inb v26 (List.length v8) then
 (v8[v26.toNat]?).bind fun x1 =>
 robuststatslaw30_PermutationSmall.l7 k v1 v7 (v8.set v26.toNat t35) v9 v25 (IntKind.i64.wrap (v26 + (1 : Int)))
 else none
 else some (v1, v7, v8, v9)
def robuststatslaw30_PermutationSmall.L7 (v1 : Int) (v7 : Int) (v8 : List ((Bool × List Int) × List Int)) (v9 : Int) (v25 : Int) (v26 : Int) : Option ((Int × Int × (List ((Bool × List Int) × List Int)) × Int)) := lim fun k => robuststatslaw30_PermutationSmall.l7 k v1 v7 v8 v9 v25 v26
theorem robuststatslaw30_PermutationSmall.L7_eq (v1 : Int) (v7 : Int) (v8 : List ((Bool × List Int) × List Int)) (v9 : Int) (v25 : Int) (v26 : Int) : robuststatslaw30_PermutationSmall.L7 v1 v7 v8 v9 v25 v26 =
 bif (decide (v26 < v25)) then
 (robuststatsref03_Fraction (IntKind.i64.wrap (v1.tmod (65 : Int))) v9).bind fun t35 =>
 bif inb v26 (List.length v8) then
 (v8[v26.toNat]?).bind fun x1 =>
 robuststatslaw30_PermutationSmall.L7 v1 v7 (v8.set v26.toNat t35) v9 v25 (IntKind.i64.wrap (v26 + (1 : Int)))
 else none
 else some (v1, v7, v8, v9) := by
  show lim (fun k => robuststatslaw30_PermutationSmall.l7 k v1 v7 v8 v9 v25 v26) = _
  rw [lim_shift]
  simp only [robuststatslaw30_PermutationSmall.l7, lim_cond, lim_bind, lim_const, lim_elim]
  rfl

def robuststatslaw30_PermutationSmall.j14 (v1 : Int) (v9 : Int) (v12 : Int) (v14 : Int) (v15 : Bool) : Option (Bool) :=
 bif decide (v9 = 0) then
 none
 else bif (decide (((IntKind.i64.wrap (v1.tmod (65 : Int))).tmod v9) = (0 : Int))) then
 bif ((decide (v12 = (0 : Int))) == v15) then
 bif ((decide (v14 = (0 : Int))) == (decide ((IntKind.i64.wrap ((15 : Int) * (IntKind.i64.wrap (v1.tmod (65 : Int))))) ≤ (IntKind.i64.wrap ((1024 : Int) * v9))))) then
 bif (decide (v12 = (0 : Int))) then
 (robuststatslaw30_awake).bind fun t111 =>
 some t111
 else bif (decide (v12 = (2 : Int))) then
 (robuststatslaw30_awake).bind fun t111 =>
 some t111
 else some false
 else some false
 else some false
 else bif (decide (v9 = (2 : Int))) then
 bif ((decide (v12 = (0 : Int))) == v15) then
 bif ((decide (v14 = (0 : Int))) == (decide ((IntKind.i64.wrap ((15 : Int) * (IntKind.i64.wrap (v1.tmod (65 : Int))))) ≤ (IntKind.i64.wrap ((1024 : Int) * v9))))) then
 bif (decide (v12 = (0 : Int))) then
 (robuststatslaw30_awake).bind fun t111 =>
 some t111
 else bif (decide (v12 = (2 : Int))) then
 (robuststatslaw30_awake).bind fun t111 =>
 some t111
 else some false
 else some false
 else some false
 else bif ((decide (v12 = (0 : Int))) == v15) then
 bif ((decide (v14 = (0 : Int))) == false) then
 bif (decide (v12 = (0 : Int))) then
 (robuststatslaw30_awake).bind fun t111 =>
 some t111
 else bif (decide (v12 = (2 : Int))) then
 (robuststatslaw30_awake).bind fun t111 =>
 some t111
 else some false
 else some false
 else some false

def robuststatslaw30_PermutationSmall.j6 (v1 : Int) (v7 : Int) (v8 : List ((Bool × List Int) × List Int)) (v9 : Int) : Option (Bool) :=
 (robuststatslaw30_PermutationSmall.L7 v1 v7 v8 v9 ((List.length v8 : Nat) : Int) (0 : Int)).bind fun o2 =>
 (permutation_Subsets o2.2.2.1 (1 : Int)).bind fun t40 =>
 bif slOk (0 : Int) (15 : Int) (List.length o2.2.2.1) then
 (permutation_Signs ((o2.2.2.1.drop 0).take (((15 : Int) - (0 : Int)).toNat))).bind fun t46 =>
 bif (decide (o2.2.1 ≤ (64 : Int))) then
 bif decide (o2.2.2.2 = 0) then
 none
 else bif (decide (((IntKind.i64.wrap (o2.1.tmod (65 : Int))).tmod o2.2.2.2) = (0 : Int))) then
 (robuststatslaw30_PermutationSmall.j14 o2.1 o2.2.2.2 t40.2 t46.2 (decide ((IntKind.i64.wrap (o2.2.1 * (IntKind.i64.wrap (o2.1.tmod (65 : Int))))) ≤ (IntKind.i64.wrap ((1024 : Int) * o2.2.2.2))))).bind fun o3 =>
 some o3
 else bif (decide (o2.2.2.2 = (2 : Int))) then
 (robuststatslaw30_PermutationSmall.j14 o2.1 o2.2.2.2 t40.2 t46.2 (decide ((IntKind.i64.wrap (o2.2.1 * (IntKind.i64.wrap (o2.1.tmod (65 : Int))))) ≤ (IntKind.i64.wrap ((1024 : Int) * o2.2.2.2))))).bind fun o4 =>
 some o4
 else (robuststatslaw30_PermutationSmall.j14 o2.1 o2.2.2.2 t40.2 t46.2 false).bind fun o5 =>
 some o5
 else (robuststatslaw30_PermutationSmall.j14 o2.1 o2.2.2.2 t40.2 t46.2 false).bind fun o6 =>
 some o6
 else none

def robuststatslaw30_PermutationSmall (a0 : Int) (a1 : Int) (a2 : Bool) : Option (Bool) :=
 bif mkOk (IntKind.i64.wrap ((15 : Int) + ((IntKind.i64.wrap a0).tmod (51 : Int)))) (IntKind.i64.wrap ((15 : Int) + ((IntKind.i64.wrap a0).tmod (51 : Int)))) then
 bif a2 then
 (robuststatslaw30_PermutationSmall.j6 a1 (IntKind.i64.wrap ((15 : Int) + ((IntKind.i64.wrap a0).tmod (51 : Int)))) (List.replicate (IntKind.i64.wrap ((15 : Int) + ((IntKind.i64.wrap a0).tmod (51 : Int)))).toNat ((false, ([] : List Int)), ([] : List Int))) (3 : Int)).bind fun o7 =>
 some o7
 else (robuststatslaw30_PermutationSmall.j6 a1 (IntKind.i64.wrap ((15 : Int) + ((IntKind.i64.wrap a0).tmod (51 : Int)))) (List.replicate (IntKind.i64.wrap ((15 : Int) + ((IntKind.i64.wrap a0).tmod (51 : Int)))).toNat ((false, ([] : List Int)), ([] : List Int))) (2 : Int)).bind fun o8 =>
 some o8
 else none

end Go.ZS
end
end

section
/- The functions of package ranktest, as values. -/
set_option linter.unusedVariables false
set_option maxRecDepth 100000
noncomputable section
namespace Go.ZS
open Go Go.ZM
/- robuststats/ranktest.Midranks -/
def ranktest_Midranks.l7 : Nat → (List ((Bool × List Int) × List Int)) → (List ((Bool × List Int) × List Int)) → ((Bool × List Int) × List Int) → Int → Int → (List ((Bool × List Int) × List Int)) → Int → Int → (List ((Bool × List Int) × List Int)) → Int → Int → Option (((List ((Bool × List Int) × List Int)) × (List ((Bool × List Int) × List Int)) × Int × Int × (List ((Bool × List Int) × List Int)) × Int × Int))
 | 0, _, _, _, _, _, _, _, _, _, _, _ => none
 | k + 1, v0, v3, v5, v6, v7, v11, v12, v13, v17, v18, v19 =>
 bif (decide (v19 < v18)) then
 (idx v17 v19).bind fun t21 =>
 (rational_Compare t21 v5).bind fun t25 =>
 bif (decide (t25 < (0 : Int))) then
 ranktest_Midranks.l7 k v0 v3 v5 (IntKind.i64.wrap (v6 + (1 : Int))) v7 v11 v12 v13 v17 v18 (IntKind.i64.wrap (v19 + (1 : Int)))
 else bif (decide (t25 = (0 : Int))) then
 ranktest_Midranks.l7 k v0 v3 v5 v6 (IntKind.i64.wrap (v7 + (1 : Int))) v11 v12 v13 v17 v18 (IntKind.i64.wrap (v19 + (1 : Int)))
 else ranktest_Midranks.l7 k v0 v3 v5 v6 v7 v11 v12 v13 v17 v18 (IntKind.i64.wrap (v19 + (1 : Int)))
 else some (v0, v3, v6, v7, v11, v12, v13)
def ranktest_Midranks.L7 (v0 : List ((Bool × List Int) × List Int)) (v3 : List ((Bool × List Int) × List Int)) (v5 : (Bool × List Int) × List Int) (v6 : Int) (v7 : Int) (v11 : List ((Bool × List Int) × List Int)) (v12 : Int) (v13 : Int) (v17 : List ((Bool × List Int) × List Int)) (v18 : Int) (v19 : Int) : Option (((List ((Bool × List Int) × List Int)) × (List ((Bool × List Int) × List Int)) × Int × Int × (List ((Bool × List Int) × List Int)) × Int × Int)) := lim fun k => ranktest_Midranks.l7 k v0 v3 v5 v6 v7 v11 v12 v13 v17 v18 v19
theorem ranktest_Midranks.L7_eq (v0 : List ((Bool × List Int) × List Int)) (v3 : List ((Bool × List Int) × List Int)) (v5 : (Bool × List Int) × List Int) (v6 : Int) (v7 : Int) (v11 : List ((Bool × List Int) × List Int)) (v12 : Int) (v13 : Int) (v17 : List ((Bool × List Int) × List Int)) (v18 : Int) (v19 : Int) : ranktest_Midranks.L7 v0 v3 v5 v6 v7 v11 v12 v13 v17 v18 v19 =
 bif (decide (v19 < v18)) then
 (idx v17 v19).bind fun t21 =>
 (rational_Compare t21 v5).bind fun t25 =>
 bif (decide (t25 < (0 : Int))) then
 ranktest_Midranks.L7 v0 v3 v5 (IntKind.i64.wrap (v6 + (1 : Int))) v7 v11 v12 v13 v17 v18 (IntKind.i64.wrap (v19 + (1 : Int)))
 else bif (decide (t25 = (0 : Int))) then
 ranktest_Midranks.L7 v0 v3 v5 v6 (IntKind.i64.wrap (v7 + (1 : Int))) v11 v12 v13 v17 v18 (IntKind.i64.wrap (v19 + (1 : Int)))
 else ranktest_Midranks.L7 v0 v3 v5 v6 v7 v11 v12 v13 v17 v18 (IntKind.i64.wrap (v19 + (1 : Int)))
 else some (v0, v3, v6, v7, v11, v12, v13) := by
  show lim (fun k => ranktest_Midranks.l7 k v0 v3 v5 v6 v7 v11 v12 v13 v17 v18 v19) = _
  rw [lim_shift]
  simp only [ranktest_Midranks.l7, lim_cond, lim_bind, lim_const, lim_elim]
  rfl

def ranktest_Midranks.l3 : Nat → (List ((Bool × List Int) × List Int)) → (List ((Bool × List Int) × List Int)) → (List ((Bool × List Int) × List Int)) → Int → Int → Option (((List ((Bool × List Int) × List Int))))
 | 0, _, _, _, _, _ => none
 | k + 1, v0, v3, v11, v12, v13 =>
 bif (decide (v13 < v12)) then
 (idx v11 v13).bind fun t15 =>
 (ranktest_Midranks.L7 v0 v3 t15 (0 : Int) (0 : Int) v11 v12 v13 v0 ((List.length v0 : Nat) : Int) (0 : Int)).bind fun o1 =>
 (exact_Over (IntKind.i64.wrap ((IntKind.i64.wrap ((IntKind.i64.wrap ((2 : Int) * o1.2.2.1)) + o1.2.2.2.1)) + (1 : Int))) (2 : Int)).bind fun t43 =>
 bif apOk (List.length o1.2.1) (List.length ([t43] : List ((Bool × List Int) × List Int))) then
 ranktest_Midranks.l3 k o1.1 (o1.2.1 ++ ([t43] : List ((Bool × List Int) × List Int))) o1.2.2.2.2.1 o1.2.2.2.2.2.1 (IntKind.i64.wrap (o1.2.2.2.2.2.2 + (1 : Int)))
 else none
 else some v3
def ranktest_Midranks.L3 (v0 : List ((Bool × List Int) × List Int)) (v3 : List ((Bool × List Int) × List Int)) (v11 : List ((Bool × List Int) × List Int)) (v12 : Int) (v13 : Int) : Option (((List ((Bool × List Int) × List Int)))) := lim fun k => ranktest_Midranks.l3 k v0 v3 v11 v12 v13
theorem ranktest_Midranks.L3_eq (v0 : List ((Bool × List Int) × List Int)) (v3 : List ((Bool × List Int) × List Int)) (v11 : List ((Bool × List Int) × List Int)) (v12 : Int) (v13 : Int) : ranktest_Midranks.L3 v0 v3 v11 v12 v13 =
 bif (decide (v13 < v12)) then
 (idx v11 v13).bind fun t15 =>
 (ranktest_Midranks.L7 v0 v3 t15 (0 : Int) (0 : Int) v11 v12 v13 v0 ((List.length v0 : Nat) : Int) (0 : Int)).bind fun o1 =>
 (exact_Over (IntKind.i64.wrap ((IntKind.i64.wrap ((IntKind.i64.wrap ((2 : Int) * o1.2.2.1)) + o1.2.2.2.1)) + (1 : Int))) (2 : Int)).bind fun t43 =>
 bif apOk (List.length o1.2.1) (List.length ([t43] : List ((Bool × List Int) × List Int))) then
 ranktest_Midranks.L3 o1.1 (o1.2.1 ++ ([t43] : List ((Bool × List Int) × List Int))) o1.2.2.2.2.1 o1.2.2.2.2.2.1 (IntKind.i64.wrap (o1.2.2.2.2.2.2 + (1 : Int)))
 else none
 else some v3 := by
  show lim (fun k => ranktest_Midranks.l3 k v0 v3 v11 v12 v13) = _
  rw [lim_shift]
  simp only [ranktest_Midranks.l3, lim_cond, lim_bind, lim_const, lim_elim]
  rfl

def ranktest_Midranks (a0 : List ((Bool × List Int) × List Int)) : Option ((List ((Bool × List Int) × List Int))) :=
 (ranktest_Midranks.L3 a0 ([] : List ((Bool × List Int) × List Int)) a0 ((List.length a0 : Nat) : Int) (0 : Int)).bind fun o2 =>
 some o2

/- robuststats/ranktest.result -/
def ranktest_result (a0 : List (((Bool × List Int) × List Int) × (Bool × List Int))) (a1 : (Bool × List Int) × List Int) : Option ((((Bool × List Int) × List Int) × ((Bool × List Int) × List Int) × ((Bool × List Int) × List Int) × ((Bool × List Int) × List Int) × ((Bool × List Int) × List Int) × ((Bool × List Int) × List Int))) :=
 (exact_Clean a1).bind fun t7 =>
 (permutation_Moments a0).bind fun t11 =>
 (permutation_Tail a0 a1 (1 : Int)).bind fun t20 =>
 (permutation_Tail a0 a1 (2 : Int)).bind fun t27 =>
 (permutation_Tail a0 a1 (3 : Int)).bind fun t34 =>
 some (t7, t11.1, t11.2.1, t20.1, t27.1, t34.1)

/- robuststats/ranktest.Sum -/
def ranktest_Sum (a0 : List ((Bool × List Int) × List Int)) (a1 : List ((Bool × List Int) × List Int)) : Option ((((Bool × List Int) × List Int) × ((Bool × List Int) × List Int) × ((Bool × List Int) × List Int) × ((Bool × List Int) × List Int) × ((Bool × List Int) × List Int) × ((Bool × List Int) × List Int)) × Int) :=
 bif (decide (((List.length a0 : Nat) : Int) = (0 : Int))) then
 some ((((false, ([] : List Int)), ([] : List Int)), ((false, ([] : List Int)), ([] : List Int)), ((false, ([] : List Int)), ([] : List Int)), ((false, ([] : List Int)), ([] : List Int)), ((false, ([] : List Int)), ([] : List Int)), ((false, ([] : List Int)), ([] : List Int))), (10 : Int))
 else bif (decide (((List.length a1 : Nat) : Int) = (0 : Int))) then
 some ((((false, ([] : List Int)), ([] : List Int)), ((false, ([] : List Int)), ([] : List Int)), ((false, ([] : List Int)), ([] : List Int)), ((false, ([] : List Int)), ([] : List Int)), ((false, ([] : List Int)), ([] : List Int)), ((false, ([] : List Int)), ([] : List Int))), (10 : Int))
 else bif (decide ((40 : Int) < (IntKind.i64.wrap (((List.length a0 : Nat) : Int) + ((List.length a1 : Nat) : Int))))) then
 some ((((false, ([] : List Int)), ([] : List Int)), ((false, ([] : List Int)), ([] : List Int)), ((false, ([] : List Int)), ([] : List Int)), ((false, ([] : List Int)), ([] : List Int)), ((false, ([] : List Int)), ([] : List Int)), ((false, ([] : List Int)), ([] : List Int))), (2 : Int))
 else (api_Rat_ a0).bind fun t26 =>
 bif apOk (List.length t26) (List.length a1) then
 (ranktest_Midranks (t26 ++ a1)).bind fun t29 =>
 (permutation_Subsets t29 ((List.length a0 : Nat) : Int)).bind fun t34 =>
 bif (!decide (t34.2 = (0 : Int))) then
 some ((((false, ([] : List Int)), ([] : List Int)), ((false, ([] : List Int)), ([] : List Int)), ((false, ([] : List Int)), ([] : List Int)), ((false, ([] : List Int)), ([] : List Int)), ((false, ([] : List Int)), ([] : List Int)), ((false, ([] : List Int)), ([] : List Int))), t34.2)
 else bif slOk (0 : Int) ((List.length a0 : Nat) : Int) (List.length t29) then
 (exact_Sum ((t29.drop 0).take ((((List.length a0 : Nat) : Int) - (0 : Int)).toNat))).bind fun t46 =>
 (ranktest_result t34.1 t46).bind fun t47 =>
 some (t47, (0 : Int))
 else none
 else none

end Go.ZS
end
end

section
/- The functions of package robuststatsref31, as values. -/
set_option linter.unusedVariables false
set_option maxRecDepth 100000
noncomputable section
namespace Go.ZS
open Go Go.ZM
/- robuststats/robuststatsref31.Midranks -/
def robuststatsref31_Midranks.l7 : Nat → (List ((Bool × List Int) × List Int)) → (List ((Bool × List Int) × List Int)) → ((Bool × List Int) × List Int) → Int → Int → (List ((Bool × List Int) × List Int)) → Int → Int → (List ((Bool × List Int) × List Int)) → Int → Int → Option (((List ((Bool × List Int) × List Int)) × (List ((Bool × List Int) × List Int)) × Int × Int × (List ((Bool × List Int) × List Int)) × Int × Int))
 | 0, _, _, _, _, _, _, _, _, _, _, _ => none
 | k + 1, v0, v3, v5, v6, v7, v11, v12, v13, v17, v18, v19 =>
 bif (decide (v19 < v18)) then
 (idx v17 v19).bind fun t21 =>
 (robuststatsref03_Compare t21 v5).bind fun t25 =>
 bif (decide (t25 < (0 : Int))) then
 robuststatsref31_Midranks.l7 k v0 v3 v5 (IntKind.i64.wrap (v6 + (1 : Int))) v7 v11 v12 v13 v17 v18 (IntKind.i64.wrap (v19 + (1 : Int)))
 else bif (decide (t25 = (0 : Int))) then
 robuststatsref31_Midranks.l7 k v0 v3 v5 v6 (IntKind.i64.wrap (v7 + (1 : Int))) v11 v12 v13 v17 v18 (IntKind.i64.wrap (v19 + (1 : Int)))
 else robuststatsref31_Midranks.l7 k v0 v3 v5 v6 v7 v11 v12 v13 v17 v18 (IntKind.i64.wrap (v19 + (1 : Int)))
 else some (v0, v3, v6, v7, v11, v12, v13)
def robuststatsref31_Midranks.L7 (v0 : List ((Bool × List Int) × List Int)) (v3 : List ((Bool × List Int) × List Int)) (v5 : (Bool × List Int) × List Int) (v6 : Int) (v7 : Int) (v11 : List ((Bool × List Int) × List Int)) (v12 : Int) (v13 : Int) (v17 : List ((Bool × List Int) × List Int)) (v18 : Int) (v19 : Int) : Option (((List ((Bool × List Int) × List Int)) × (List ((Bool × List Int) × List Int)) × Int × Int × (List ((Bool × List Int) × List Int)) × Int × Int)) := lim fun k => robuststatsref31_Midranks.l7 k v0 v3 v5 v6 v7 v11 v12 v13 v17 v18 v19
theorem robuststatsref31_Midranks.L7_eq (v0 : List ((Bool × List Int) × List Int)) (v3 : List ((Bool × List Int) × List Int)) (v5 : (Bool × List Int) × List Int) (v6 : Int) (v7 : Int) (v11 : List ((Bool × List Int) × List Int)) (v12 : Int) (v13 : Int) (v17 : List ((Bool × List Int) × List Int)) (v18 : Int) (v19 : Int) : robuststatsref31_Midranks.L7 v0 v3 v5 v6 v7 v11 v12 v13 v17 v18 v19 =
 bif (decide (v19 < v18)) then
 (idx v17 v19).bind fun t21 =>
 (robuststatsref03_Compare t21 v5).bind fun t25 =>
 bif (decide (t25 < (0 : Int))) then
 robuststatsref31_Midranks.L7 v0 v3 v5 (IntKind.i64.wrap (v6 + (1 : Int))) v7 v11 v12 v13 v17 v18 (IntKind.i64.wrap (v19 + (1 : Int)))
 else bif (decide (t25 = (0 : Int))) then
 robuststatsref31_Midranks.L7 v0 v3 v5 v6 (IntKind.i64.wrap (v7 + (1 : Int))) v11 v12 v13 v17 v18 (IntKind.i64.wrap (v19 + (1 : Int)))
 else robuststatsref31_Midranks.L7 v0 v3 v5 v6 v7 v11 v12 v13 v17 v18 (IntKind.i64.wrap (v19 + (1 : Int)))
 else some (v0, v3, v6, v7, v11, v12, v13) := by
  show lim (fun k => robuststatsref31_Midranks.l7 k v0 v3 v5 v6 v7 v11 v12 v13 v17 v18 v19) = _
  rw [lim_shift]
  simp only [robuststatsref31_Midranks.l7, lim_cond, lim_bind, lim_const, lim_elim]
  rfl

def robuststatsref31_Midranks.l3 : Nat → (List ((Bool × List Int) × List Int)) → (List ((Bool × List Int) × List Int)) → (List ((Bool × List Int) × List Int)) → Int → Int → Option (((List ((Bool × List Int) × List Int))))
 | 0, _, _, _, _, _ => none
 | k + 1, v0, v3, v11, v12, v13 =>
 bif (decide (v13 < v12)) then
 (idx v11 v13).bind fun t15 =>
 (robuststatsref31_Midranks.L7 v0 v3 t15 (0 : Int) (0 : Int) v11 v12 v13 v0 ((List.length v0 : Nat) : Int) (0 : Int)).bind fun o1 =>
 (robuststatsref03_Fraction (IntKind.i64.wrap ((IntKind.i64.wrap ((IntKind.i64.wrap ((2 : Int) * o1.2.2.1)) + o1.2.2.2.1)) + (1 : Int))) (2 : Int)).bind fun t43 =>
 bif apOk (List.length o1.2.1) (List.length ([t43] : List ((Bool × List Int) × List Int))) then
 robuststatsref31_Midranks.l3 k o1.1 (o1.2.1 ++ ([t43] : List ((Bool × List Int) × List Int))) o1.2.2.2.2.1 o1.2.2.2.2.2.1 (IntKind.i64.wrap (o1.2.2.2.2.2.2 + (1 : Int)))
 else none
 else some v3
def robuststatsref31_Midranks.L3 (v0 : List ((Bool × List Int) × List Int)) (v3 : List ((Bool × List Int) × List Int)) (v11 : List ((Bool × List Int) × List Int)) (v12 : Int) (v13 : Int) : Option (((List ((Bool × List Int) × List Int)))) := lim fun k => robuststatsref31_Midranks.l3 k v0 v3 v11 v12 v13
theorem robuststatsref31_Midranks.L3_eq (v0 : List ((Bool × List Int) × List Int)) (v3 : List ((Bool × List Int) × List Int)) (v11 : List ((Bool × List Int) × List Int)) (v12 : Int) (v13 : Int) : robuststatsref31_Midranks.L3 v0 v3 v11 v12 v13 =
 bif (decide (v13 < v12)) then
 (idx v11 v13).bind fun t15 =>
 (robuststatsref31_Midranks.L7 v0 v3 t15 (0 : Int) (0 : Int) v11 v12 v13 v0 ((List.length v0 : Nat) : Int) (0 : Int)).bind fun o1 =>
 (robuststatsref03_Fraction (IntKind.i64.wrap ((IntKind.i64.wrap ((IntKind.i64.wrap ((2 : Int) * o1.2.2.1)) + o1.2.2.2.1)) + (1 : Int))) (2 : Int)).bind fun t43 =>
 bif apOk (List.length o1.2.1) (List.length ([t43] : List ((Bool × List Int) × List Int))) then
 robuststatsref31_Midranks.L3 o1.1 (o1.2.1 ++ ([t43] : List ((Bool × List Int) × List Int))) o1.2.2.2.2.1 o1.2.2.2.2.2.1 (IntKind.i64.wrap (o1.2.2.2.2.2.2 + (1 : Int)))
 else none
 else some v3 := by
  show lim (fun k => robuststatsref31_Midranks.l3 k v0 v3 v11 v12 v13) = _
  rw [lim_shift]
  simp only [robuststatsref31_Midranks.l3, lim_cond, lim_bind, lim_const, lim_elim]
  rfl

def robuststatsref31_Midranks (a0 : List ((Bool × List Int) × List Int)) : Option ((List ((Bool × List Int) × List Int))) :=
 (robuststatsref31_Midranks.L3 a0 ([] : List ((Bool × List Int) × List Int)) a0 ((List.length a0 : Nat) : Int) (0 : Int)).bind fun o2 =>
 some o2

/- robuststats/robuststatsref31.Same -/
def robuststatsref31_Same (a0 : ((Bool × List Int) × List Int) × ((Bool × List Int) × List Int) × ((Bool × List Int) × List Int) × ((Bool × List Int) × List Int) × ((Bool × List Int) × List Int) × ((Bool × List Int) × List Int)) (a1 : ((Bool × List Int) × List Int) × ((Bool × List Int) × List Int) × ((Bool × List Int) × List Int) × ((Bool × List Int) × List Int) × ((Bool × List Int) × List Int) × ((Bool × List Int) × List Int)) : Option (Bool) :=
 (robuststatsref03_SameList ([a0.1, a0.2.1, a0.2.2.1, a0.2.2.2.1, a0.2.2.2.2.1, a0.2.2.2.2.2] : List ((Bool × List Int) × List Int)) ([a1.1, a1.2.1, a1.2.2.1, a1.2.2.2.1, a1.2.2.2.2.1, a1.2.2.2.2.2] : List ((Bool × List Int) × List Int))).bind fun t31 =>
 some t31

end Go.ZS
end
end

section
/- The functions of package robuststatslaw31, as values. -/
set_option linter.unusedVariables false
set_option maxRecDepth 100000
noncomputable section
namespace Go.ZS
open Go Go.ZM
/- robuststats/robuststatslaw31.ints -/
def robuststatslaw31_ints.l3 : Nat → (List ((Bool × List Int) × List Int)) → List Int → Int → Int → Option (((List ((Bool × List Int) × List Int))))
 | 0, _, _, _, _ => none
 | k + 1, v3, v6, v7, v8 =>
 bif (decide (v8 < v7)) then
 (idx v6 v8).bind fun t10 =>
 (robuststatsref03_FromInt t10).bind fun t14 =>
 bif apOk (List.length v3) (List.length ([t14] : List ((Bool × List Int) × List Int))) then
 robuststatslaw31_ints.l3 k (v3 ++ ([t14] : List ((Bool × List Int) × List Int))) v6 v7 (IntKind.i64.wrap (v8 + (1 : Int)))
 else none
 else some v3
def robuststatslaw31_ints.L3 (v3 : List ((Bool × List Int) × List Int)) (v6 : List Int) (v7 : Int) (v8 : Int) : Option (((List ((Bool × List Int) × List Int)))) := lim fun k => robuststatslaw31_ints.l3 k v3 v6 v7 v8
theorem robuststatslaw31_ints.L3_eq (v3 : List ((Bool × List Int) × List Int)) (v6 : List Int) (v7 : Int) (v8 : Int) : robuststatslaw31_ints.L3 v3 v6 v7 v8 =
 bif (decide (v8 < v7)) then
 (idx v6 v8).bind fun t10 =>
 (robuststatsref03_FromInt t10).bind fun t14 =>
 bif apOk (List.length v3) (List.length ([t14] : List ((Bool × List Int) × List Int))) then
 robuststatslaw31_ints.L3 (v3 ++ ([t14] : List ((Bool × List Int) × List Int))) v6 v7 (IntKind.i64.wrap (v8 + (1 : Int)))
 else none
 else some v3 := by
  show lim (fun k => robuststatslaw31_ints.l3 k v3 v6 v7 v8) = _
  rw [lim_shift]
  simp only [robuststatslaw31_ints.l3, lim_cond, lim_bind, lim_const, lim_elim]
  rfl

def robuststatslaw31_ints (a0 : List Int) : Option ((List ((Bool × List Int) × List Int))) :=
 (robuststatslaw31_ints.L3 ([] : List ((Bool × List Int) × List Int)) a0 ((List.length a0 : Nat) : Int) (0 : Int)).bind fun o1 =>
 some o1

/- robuststats/robuststatslaw31.awake -/
def robuststatslaw31_awake  : Option (Bool) :=
 (robuststatslaw31_ints ([(3 : Int), (1 : Int), (3 : Int)] : List Int)).bind fun t5 =>
 (ranktest_Midranks t5).bind fun t6 =>
 (robuststatslaw31_ints ([(1 : Int), (2 : Int)] : List Int)).bind fun t9 =>
 (robuststatslaw31_ints ([(3 : Int), (4 : Int)] : List Int)).bind fun t11 =>
 (ranktest_Sum t9 t11).bind fun t12 =>
 (robuststatsref03_Fraction (5 : Int) (2 : Int)).bind fun t16 =>
 (robuststatsref03_FromInt (1 : Int)).bind fun t17 =>
 (robuststatsref03_Fraction (5 : Int) (2 : Int)).bind fun t18 =>
 (robuststatsref03_SameList t6 ([t16, t17, t18] : List ((Bool × List Int) × List Int))).bind fun t20 =>
 bif t20 then
 bif (decide (t12.2 = (0 : Int))) then
 (robuststatsref03_FromInt (3 : Int)).bind fun t28 =>
 (robuststatsref03_Same t12.1.1 t28).bind fun t29 =>
 bif t29 then
 (robuststatsref03_Fraction (1 : Int) (6 : Int)).bind fun t34 =>
 (robuststatsref03_Same t12.1.2.2.2.1 t34).bind fun t35 =>
 bif t35 then
 (robuststatsref03_Fraction (1 : Int) (3 : Int)).bind fun t40 =>
 (robuststatsref03_Same t12.1.2.2.2.2.2 t40).bind fun t41 =>
 some t41
 else some false
 else some false
 else some false
 else some false

/- robuststats/robuststatslaw31.RanktestMidranks -/
def robuststatslaw31_RanktestMidranks (a0 : List Int) (a1 : List ((Bool × List Int) × List Int)) : Option (Bool) :=
 (robuststatsmade_LightList a1 (200 : Int)).bind fun t8 =>
 bif (!t8) then
 (robuststatslaw31_awake).bind fun t10 =>
 some t10
 else bif (decide ((60 : Int) < ((List.length a1 : Nat) : Int))) then
 (robuststatslaw31_awake).bind fun t14 =>
 some t14
 else (robuststatsworld_New a0).bind fun t16 =>
 (robuststatsworld_Tape_Values t16 (12 : Int)).bind fun t18 =>
 (ranktest_Midranks t18.1).bind fun t20 =>
 (robuststatsref31_Midranks t18.1).bind fun t22 =>
 (robuststatsref03_SameList t20 t22).bind fun t23 =>
 bif t23 then
 (ranktest_Midranks a1).bind fun t26 =>
 (robuststatsref31_Midranks a1).bind fun t28 =>
 (robuststatsref03_SameList t26 t28).bind fun t29 =>
 bif t29 then
 (ranktest_Midranks ([] : List ((Bool × List Int) × List Int))).bind fun t32 =>
 bif (decide (((List.length t32 : Nat) : Int) = (0 : Int))) then
 (robuststatslaw31_awake).bind fun t37 =>
 some t37
 else some false
 else some false
 else some false

/- robuststats/robuststatslaw31.rise -/
def robuststatslaw31_rise.l3 : Nat → ((Bool × List Int) × List Int) → (List ((Bool × List Int) × List Int)) → (List ((Bool × List Int) × List Int)) → Int → Int → Option (((List ((Bool × List Int) × List Int))))
 | 0, _, _, _, _, _ => none
 | k + 1, v3, v5, v8, v9, v10 =>
 bif (decide (v10 < v9)) then
 (idx v8 v10).bind fun t12 =>
 (robuststatsref03_Mul t12 t12).bind fun t19 =>
 (robuststatsref03_Mul t12 t19).bind fun t20 =>
 (robuststatsref03_Add v3 t20).bind fun t21 =>
 bif apOk (List.length v5) (List.length ([t21] : List ((Bool × List Int) × List Int))) then
 robuststatslaw31_rise.l3 k v3 (v5 ++ ([t21] : List ((Bool × List Int) × List Int))) v8 v9 (IntKind.i64.wrap (v10 + (1 : Int)))
 else none
 else some v5
def robuststatslaw31_rise.L3 (v3 : (Bool × List Int) × List Int) (v5 : List ((Bool × List Int) × List Int)) (v8 : List ((Bool × List Int) × List Int)) (v9 : Int) (v10 : Int) : Option (((List ((Bool × List Int) × List Int)))) := lim fun k => robuststatslaw31_rise.l3 k v3 v5 v8 v9 v10
theorem robuststatslaw31_rise.L3_eq (v3 : (Bool × List Int) × List Int) (v5 : List ((Bool × List Int) × List Int)) (v8 : List ((Bool × List Int) × List Int)) (v9 : Int) (v10 : Int) : robuststatslaw31_rise.L3 v3 v5 v8 v9 v10 =
 bif (decide (v10 < v9)) then
 (idx v8 v10).bind fun t12 =>
 (robuststatsref03_Mul t12 t12).bind fun t19 =>
 (robuststatsref03_Mul t12 t19).bind fun t20 =>
 (robuststatsref03_Add v3 t20).bind fun t21 =>
 bif apOk (List.length v5) (List.length ([t21] : List ((Bool × List Int) × List Int))) then
 robuststatslaw31_rise.L3 v3 (v5 ++ ([t21] : List ((Bool × List Int) × List Int))) v8 v9 (IntKind.i64.wrap (v10 + (1 : Int)))
 else none
 else some v5 := by
  show lim (fun k => robuststatslaw31_rise.l3 k v3 v5 v8 v9 v10) = _
  rw [lim_shift]
  simp only [robuststatslaw31_rise.l3, lim_cond, lim_bind, lim_const, lim_elim]
  rfl

def robuststatslaw31_rise (a0 : List ((Bool × List Int) × List Int)) (a1 : (Bool × List Int) × List Int) : Option ((List ((Bool × List Int) × List Int))) :=
 (robuststatslaw31_rise.L3 a1 ([] : List ((Bool × List Int) × List Int)) a0 ((List.length a0 : Nat) : Int) (0 : Int)).bind fun o1 =>
 some o1

/- robuststats/robuststatslaw31.RanktestRises -/
def robuststatslaw31_RanktestRises (a0 : List Int) : Option (Bool) :=
 (robuststatsworld_New a0).bind fun t16 =>
 (robuststatsworld_Tape_Values t16 (5 : Int)).bind fun t18 =>
 (robuststatsworld_Tape_Values t18.2 (5 : Int)).bind fun t20 =>
 (robuststatsworld_Tape_Rat t20.2).bind fun t22 =>
 (ranktest_Sum t18.1 t20.1).bind fun t26 =>
 (robuststatslaw31_rise t18.1 t22.1).bind fun t32 =>
 (robuststatslaw31_rise t20.1 t22.1).bind fun t35 =>
 (ranktest_Sum t32 t35).bind fun t36 =>
 (ranktest_Sum t20.1 t18.1).bind fun t42 =>
 (robuststatsref03_Add t26.1.1 t42.1.1).bind fun t54 =>
 bif (decide (t26.2 = (0 : Int))) then
 bif (decide (t36.2 = (0 : Int))) then
 bif (decide (t42.2 = (0 : Int))) then
 (robuststatsref31_Same t26.1 t36.1).bind fun t68 =>
 bif t68 then
 (robuststatsref03_Same t26.1.2.2.2.1 t42.1.2.2.2.2.1).bind fun t75 =>
 bif t75 then
 (robuststatsref03_Same t26.1.2.2.2.2.1 t42.1.2.2.2.1).bind fun t82 =>
 bif t82 then
 (robuststatsref03_Same t26.1.2.2.2.2.2 t42.1.2.2.2.2.2).bind fun t89 =>
 bif t89 then
 (robuststatsref03_Fraction (IntKind.i64.wrap ((IntKind.i64.wrap (((List.length t18.1 : Nat) : Int) + ((List.length t20.1 : Nat) : Int))) * (IntKind.i64.wrap ((IntKind.i64.wrap (((List.length t18.1 : Nat) : Int) + ((List.length t20.1 : Nat) : Int))) + (1 : Int))))) (2 : Int)).bind fun t97 =>
 (robuststatsref03_Same t54 t97).bind fun t98 =>
 bif t98 then
 (robuststatslaw31_awake).bind fun t101 =>
 some t101
 else some false
 else some false
 else some false
 else some false
 else some false
 else some false
 else some false
 else some false

end Go.ZS
end
end

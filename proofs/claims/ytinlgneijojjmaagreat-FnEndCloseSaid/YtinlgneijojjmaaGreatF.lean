/- For each Go function a plain Lean function that answers as it does. Written by a program of my own. -/
import Derived.Test.YtinlgneijojjmaaGreatVA
set_option linter.unusedVariables false
namespace Go.VI.EwcVi
open Go Go.VI
abbrev tEarly : Ty := (.pair (.int .i64) (.int .u8))
abbrev tRange : Ty := (.pair (.int .i64) (.int .i64))
abbrev ts_l20Rd : Ty := (.pair (.sl (.int .u8)) (.int .i64))
abbrev tClock : Ty := (.pair (.int .i64) tRange)
abbrev tWire : Ty := (.pair (.int .i64) (.pair .bool (.sl (.int .u8))))
abbrev tNote : Ty := (.pair (.int .i64) (.pair (.int .i64) (.sl (.int .u8))))
abbrev tRoute : Ty := (.pair (.int .i64) tClock)
abbrev tEvent : Ty := (.pair (.int .i64) tNote)
abbrev tName : Ty := (.pair .str (.pair (.int .i64) (.pair (.int .i64) (.pair .str (.int .i64)))))
abbrev tStation : Ty := (.pair (.int .i64) (.sl tRoute))
abbrev tEar : Ty := (.pair (.int .i64) (.pair (.int .i64) (.pair (.sl (.int .u8)) (.sl tEarly))))
abbrev tKept : Ty := (.pair tName (.int .i64))
abbrev tMouth : Ty := (.pair (.int .i64) (.pair (.sl (.int .u8)) (.pair (.int .i64) (.pair (.int .i64) (.sl tRange)))))
abbrev tPacket : Ty := (.pair (.int .i64) (.pair (.int .i64) (.pair (.int .i64) (.pair (.int .i64) (.pair (.int .i64) (.pair (.int .i64) (.pair .bool (.pair .bool (.sl (.int .u8))))))))))
abbrev twaiting : Ty := (.pair (.int .i64) tPacket)
abbrev tPart : Ty := (.pair (.sl tPacket) (.int .i64))
abbrev tDone : Ty := (.pair (.int .i64) (.pair (.int .i64) (.sl tPacket)))
abbrev tSegment : Ty := (.pair (.int .i64) (.pair (.int .i64) (.pair (.int .i64) (.pair (.int .i64) (.pair (.int .i64) (.pair .bool (.pair .bool (.pair .bool (.pair .bool (.pair (.sl tRange) (.sl (.int .u8))))))))))))
abbrev tTrip : Ty := (.pair (.sl tPacket) tPart)
abbrev tEnd : Ty := (.pair (.int .i64) (.pair (.int .i64) (.pair (.int .i64) (.pair (.int .i64) (.pair (.int .i64) (.pair (.int .i64) (.pair tMouth (.pair tEar (.pair .bool (.pair .bool (.pair .bool (.pair (.int .i64) (.pair (.int .i64) tRoute)))))))))))))
abbrev tWorld : Ty := (.pair (.sl tEnd) (.pair (.sl tWire) (.pair (.int .i64) (.pair (.sl (.sl (.int .u8))) (.sl (.sl (.int .u8)))))))
abbrev TEarly : Type := Int × Int
abbrev TRange : Type := Int × Int
abbrev Ts_l20Rd : Type := (List Int) × Int
abbrev TClock : Type := Int × TRange
abbrev TWire : Type := Int × (Bool × (List Int))
abbrev TNote : Type := Int × (Int × (List Int))
abbrev TRoute : Type := Int × TClock
abbrev TEvent : Type := Int × TNote
abbrev TName : Type := ByteArray × (Int × (Int × (ByteArray × Int)))
abbrev TStation : Type := Int × (List TRoute)
abbrev TEar : Type := Int × (Int × ((List Int) × (List TEarly)))
abbrev TKept : Type := TName × Int
abbrev TMouth : Type := Int × ((List Int) × (Int × (Int × (List TRange))))
abbrev TPacket : Type := Int × (Int × (Int × (Int × (Int × (Int × (Bool × (Bool × (List Int))))))))
abbrev Twaiting : Type := Int × TPacket
abbrev TPart : Type := (List TPacket) × Int
abbrev TDone : Type := Int × (Int × (List TPacket))
abbrev TSegment : Type := Int × (Int × (Int × (Int × (Int × (Bool × (Bool × (Bool × (Bool × ((List TRange) × (List Int))))))))))
abbrev TTrip : Type := (List TPacket) × TPart
abbrev TEnd : Type := Int × (Int × (Int × (Int × (Int × (Int × (TMouth × (TEar × (Bool × (Bool × (Bool × (Int × (Int × TRoute))))))))))))
abbrev TWorld : Type := (List TEnd) × ((List TWire) × (Int × ((List (List Int)) × (List (List Int)))))
noncomputable def fuel : Nat := (Classical.choice (⟨⟨1152921504606846976, rfl⟩⟩ : Nonempty {n : Nat // n = 1152921504606846976})).1
theorem fuel_eq : fuel = 1152921504606846976 := (Classical.choice (⟨⟨1152921504606846976, rfl⟩⟩ : Nonempty {n : Nat // n = 1152921504606846976})).2
/-! impl.in (function 65) -/
noncomputable def F_impl_in (a0 : Int) (a1 : Int) (a2 : Int) : Bool :=
  (bif (decide (a1 ≤ a0)) then (decide (a0 ≤ a2)) else false)
/-! impl.bytesOf (function 128) -/
noncomputable def L_impl_bytesOf_3 : Nat → Int × (List Int) × Int × Unit → Option (((List Int) × Unit) × (Unit))
  | 0, _ => none
  | n + 1, p =>
    bif (decide ((0 : Int) ≤ p.2.2.1)) then
      bif (inR p.2.2.1 (p.2.1.length)) then
        bif (decide (0 ≤ (8 : Int))) then
          L_impl_bytesOf_3 n ((p.1.fdiv (2 ^ (min (8 : Int).toNat IntKind.i64.bits))), (p.2.1.set (Int.toNat p.2.2.1) (IntKind.u8.wrap p.1)), (IntKind.i64.wrap (p.2.2.1 - (1 : Int))), ())
        else
          none
      else
        none
    else
      some ((p.2.1, ()), ())
noncomputable def F_impl_bytesOf (a0 : Int) (a1 : Int) : Option (((List Int) × Unit) × (Unit)) :=
  bif (((decide (0 ≤ a1)) && (decide (a1 ≤ (big : Int)))) && (decide (a1 = a1))) then
    L_impl_bytesOf_3 fuel (a0, (List.replicate a1.toNat (0 : Int)), (IntKind.i64.wrap (a1 - (1 : Int))), ())
  else
    none
/-! impl.BytesOf (function 63) -/
noncomputable def F_impl_BytesOf (a0 : Int) (a1 : Int) : Option (((List Int) × Unit) × (Unit)) :=
  bif ((decide (0 ≤ (IntKind.i64.wrap ((8 : Int) * a1)))) || (!(!(!(F_impl_in a1 (1 : Int) (4 : Int)))))) then
    bif (bif (!(F_impl_in a1 (1 : Int) (4 : Int))) then true else (!(F_impl_in a0 (0 : Int) (IntKind.i64.wrap ((IntKind.i64.wrap ((1 : Int) * 2 ^ (min (IntKind.i64.wrap ((8 : Int) * a1)).toNat IntKind.i64.bits))) - (1 : Int)))))) then
      some ((([] : List Int), ()), ())
    else
      (F_impl_bytesOf a0 a1).bind fun y1 =>
        some ((y1.1.1, ()), ())
  else
    none
/-! laws.alive (function 14) -/
noncomputable def F_laws_alive : Option ((Bool × Unit) × (Unit)) :=
  (F_impl_BytesOf (5 : Int) (1 : Int)).bind fun y1 =>
    bif (decide ((((y1.1.1.length) : Int)) = (1 : Int))) then
      (F_impl_BytesOf (256 : Int) (1 : Int)).bind fun y2 =>
        some (((decide ((((y2.1.1.length) : Int)) = (0 : Int))), ()), ())
    else
      some ((false, ()), ())
/-! spec.l20Open (function 47) -/
noncomputable def F_spec_l20Open (a0 : (List Int)) : Option ((Ts_l20Rd × Unit) × (Unit)) :=
  bif (decide ((2000 : Int) < (((a0.length) : Int)))) then
    bif (decide (0 ≤ (2000 : Int)) && decide ((2000 : Int) ≤ ((a0.length) : Int))) then
      some ((((a0.take (Int.toNat (2000 : Int))), (0 : Int)), ()), ())
    else
      none
  else
    some (((a0, (0 : Int)), ()), ())
/-! (*spec.l20Rd).pick (function 49) -/
noncomputable def F_spec_l20Rd_pick (a0 : Ts_l20Rd) (a1 : Int) : Option ((Int × Unit) × (Ts_l20Rd × Unit)) :=
  bif (bif (decide (a1 < (1 : Int))) then true else (decide ((((a0.1.length) : Int)) = (0 : Int)))) then
    some (((0 : Int), ()), (a0.1, (IntKind.i64.wrap (a0.2 + (1 : Int)))), ())
  else
    bif (decide ((IntKind.i64.wrap ((IntKind.i64.wrap (a0.2 + (1 : Int))) - (1 : Int))) < (((a0.1.length) : Int)))) then
      bif (inR (IntKind.i64.wrap ((IntKind.i64.wrap (a0.2 + (1 : Int))) - (1 : Int))) (a0.1.length)) then
        bif (!(decide (a1 = 0))) then
          some ((((IntKind.i64.wrap (rdI (0 : Int) a0.1 (Int.toNat (IntKind.i64.wrap ((IntKind.i64.wrap (a0.2 + (1 : Int))) - (1 : Int)))))).tmod a1), ()), (a0.1, (IntKind.i64.wrap (a0.2 + (1 : Int)))), ())
        else
          none
      else
        none
    else
      bif (!(decide ((((a0.1.length) : Int)) = 0))) then
        bif (inR ((IntKind.i64.wrap ((IntKind.i64.wrap (a0.2 + (1 : Int))) - (1 : Int))).tmod (((a0.1.length) : Int))) (a0.1.length)) then
          bif (!(decide ((((a0.1.length) : Int)) = 0))) then
            bif (inR ((IntKind.i64.wrap ((IntKind.i64.wrap ((IntKind.i64.wrap ((IntKind.i64.wrap (a0.2 + (1 : Int))) - (1 : Int))) * (7 : Int))) + (3 : Int))).tmod (((a0.1.length) : Int))) (a0.1.length)) then
              bif (!(decide ((((a0.1.length) : Int)) = 0))) then
                bif (!(decide ((64 : Int) = 0))) then
                  bif (!(decide (a1 = 0))) then
                    some ((((bits (fun _ a b => a ^^^ b) .i64 (IntKind.i64.wrap ((IntKind.i64.wrap ((IntKind.i64.wrap ((IntKind.i64.wrap ((IntKind.i64.wrap (rdI (0 : Int) a0.1 (Int.toNat ((IntKind.i64.wrap ((IntKind.i64.wrap (a0.2 + (1 : Int))) - (1 : Int))).tmod (((a0.1.length) : Int)))))) * (131 : Int))) + (IntKind.i64.wrap ((IntKind.i64.wrap (rdI (0 : Int) a0.1 (Int.toNat ((IntKind.i64.wrap ((IntKind.i64.wrap ((IntKind.i64.wrap ((IntKind.i64.wrap (a0.2 + (1 : Int))) - (1 : Int))) * (7 : Int))) + (3 : Int))).tmod (((a0.1.length) : Int)))))) * (1117 : Int))))) + (IntKind.i64.wrap ((IntKind.i64.wrap ((IntKind.i64.wrap (a0.2 + (1 : Int))) - (1 : Int))) * (29 : Int))))) + (IntKind.i64.wrap ((IntKind.i64.wrap ((IntKind.i64.wrap ((IntKind.i64.wrap (a0.2 + (1 : Int))) - (1 : Int))).tdiv (((a0.1.length) : Int)))) * (53 : Int))))) (IntKind.i64.wrap ((IntKind.i64.wrap ((IntKind.i64.wrap ((IntKind.i64.wrap ((IntKind.i64.wrap ((IntKind.i64.wrap (rdI (0 : Int) a0.1 (Int.toNat ((IntKind.i64.wrap ((IntKind.i64.wrap (a0.2 + (1 : Int))) - (1 : Int))).tmod (((a0.1.length) : Int)))))) * (131 : Int))) + (IntKind.i64.wrap ((IntKind.i64.wrap (rdI (0 : Int) a0.1 (Int.toNat ((IntKind.i64.wrap ((IntKind.i64.wrap ((IntKind.i64.wrap ((IntKind.i64.wrap (a0.2 + (1 : Int))) - (1 : Int))) * (7 : Int))) + (3 : Int))).tmod (((a0.1.length) : Int)))))) * (1117 : Int))))) + (IntKind.i64.wrap ((IntKind.i64.wrap ((IntKind.i64.wrap (a0.2 + (1 : Int))) - (1 : Int))) * (29 : Int))))) + (IntKind.i64.wrap ((IntKind.i64.wrap ((IntKind.i64.wrap ((IntKind.i64.wrap (a0.2 + (1 : Int))) - (1 : Int))).tdiv (((a0.1.length) : Int)))) * (53 : Int))))).tdiv (64 : Int)))).tmod a1), ()), (a0.1, (IntKind.i64.wrap (a0.2 + (1 : Int)))), ())
                  else
                    none
                else
                  none
              else
                none
            else
              none
          else
            none
        else
          none
      else
        none
/-! spec.l1In (function 79) -/
noncomputable def F_spec_l1In (a0 : Int) (a1 : Int) (a2 : Int) : Bool :=
  (bif (decide (a1 ≤ a0)) then (decide (a0 ≤ a2)) else false)
/-! spec.MouthOk (function 142) -/
noncomputable def L_spec_MouthOk_4 : Nat → Unit × Int × TMouth × Unit → Option ((Bool × Unit) × (Unit))
  | 0, _ => none
  | n + 1, p =>
    bif (decide (p.2.1 < (((p.2.2.1.2.2.2.2.length) : Int)))) then
      bif (inR p.2.1 (p.2.2.1.2.2.2.2.length)) then
        bif ((inR (IntKind.i64.wrap (p.2.1 - (1 : Int))) (p.2.2.1.2.2.2.2.length)) || (!((!(bif (bif (decide ((rdI ((0 : Int), (0 : Int)) p.2.2.1.2.2.2.2 (Int.toNat p.2.1)).1 ≤ p.2.2.1.1)) then true else (decide ((rdI ((0 : Int), (0 : Int)) p.2.2.1.2.2.2.2 (Int.toNat p.2.1)).2 ≤ (rdI ((0 : Int), (0 : Int)) p.2.2.1.2.2.2.2 (Int.toNat p.2.1)).1))) then true else (decide ((IntKind.i64.wrap (p.2.2.1.1 + p.2.2.1.2.2.1)) < (rdI ((0 : Int), (0 : Int)) p.2.2.1.2.2.2.2 (Int.toNat p.2.1)).2)))) && (decide ((0 : Int) < p.2.1))))) then
          bif (bif (bif (bif (decide ((rdI ((0 : Int), (0 : Int)) p.2.2.1.2.2.2.2 (Int.toNat p.2.1)).1 ≤ p.2.2.1.1)) then true else (decide ((rdI ((0 : Int), (0 : Int)) p.2.2.1.2.2.2.2 (Int.toNat p.2.1)).2 ≤ (rdI ((0 : Int), (0 : Int)) p.2.2.1.2.2.2.2 (Int.toNat p.2.1)).1))) then true else (decide ((IntKind.i64.wrap (p.2.2.1.1 + p.2.2.1.2.2.1)) < (rdI ((0 : Int), (0 : Int)) p.2.2.1.2.2.2.2 (Int.toNat p.2.1)).2))) then true else (bif (decide ((0 : Int) < p.2.1)) then (decide ((rdI ((0 : Int), (0 : Int)) p.2.2.1.2.2.2.2 (Int.toNat p.2.1)).1 ≤ (rdI ((0 : Int), (0 : Int)) p.2.2.1.2.2.2.2 (Int.toNat (IntKind.i64.wrap (p.2.1 - (1 : Int))))).2)) else false)) then
            some ((false, ()), ())
          else
            L_spec_MouthOk_4 n ((), (IntKind.i64.wrap (p.2.1 + (1 : Int))), p.2.2.1, ())
        else
          none
      else
        none
    else
      some ((true, ()), ())
noncomputable def F_spec_MouthOk (a0 : TMouth) : Option ((Bool × Unit) × (Unit)) :=
  bif (bif (bif (bif (bif (!(F_spec_l1In a0.1 (0 : Int) (1000000 : Int))) then true else (decide ((32 : Int) < (((a0.2.1.length) : Int))))) then true else (!(F_spec_l1In a0.2.2.1 (0 : Int) (((a0.2.1.length) : Int))))) then true else (!(F_spec_l1In a0.2.2.2.1 (0 : Int) (255 : Int)))) then true else (decide ((2 : Int) < (((a0.2.2.2.2.length) : Int))))) then
    some ((false, ()), ())
  else
    L_spec_MouthOk_4 fuel ((), (0 : Int), a0, ())
/-! spec.EarOk (function 143) -/
noncomputable def L_spec_EarOk_4 : Nat → Unit × Int × TEar × Unit → Option ((Bool × Unit) × (Unit))
  | 0, _ => none
  | n + 1, p =>
    bif (decide (p.2.1 < (((p.2.2.1.2.2.2.length) : Int)))) then
      bif (inR p.2.1 (p.2.2.1.2.2.2.length)) then
        bif ((inR p.2.1 (p.2.2.1.2.2.2.length)) || (!(!(decide ((rdI ((0 : Int), (0 : Int)) p.2.2.1.2.2.2 (Int.toNat p.2.1)).1 ≤ p.2.2.1.1))))) then
          bif ((inR (IntKind.i64.wrap (p.2.1 - (1 : Int))) (p.2.2.1.2.2.2.length)) || (!((!(bif (decide ((rdI ((0 : Int), (0 : Int)) p.2.2.1.2.2.2 (Int.toNat p.2.1)).1 ≤ p.2.2.1.1)) then true else (decide ((IntKind.i64.wrap ((IntKind.i64.wrap (p.2.2.1.1 + p.2.2.1.2.1)) - (((p.2.2.1.2.2.1.length) : Int)))) ≤ (rdI ((0 : Int), (0 : Int)) p.2.2.1.2.2.2 (Int.toNat p.2.1)).1)))) && (decide ((0 : Int) < p.2.1))))) then
            bif ((inR p.2.1 (p.2.2.1.2.2.2.length)) || (!((!(bif (decide ((rdI ((0 : Int), (0 : Int)) p.2.2.1.2.2.2 (Int.toNat p.2.1)).1 ≤ p.2.2.1.1)) then true else (decide ((IntKind.i64.wrap ((IntKind.i64.wrap (p.2.2.1.1 + p.2.2.1.2.1)) - (((p.2.2.1.2.2.1.length) : Int)))) ≤ (rdI ((0 : Int), (0 : Int)) p.2.2.1.2.2.2 (Int.toNat p.2.1)).1)))) && (decide ((0 : Int) < p.2.1))))) then
              bif (bif (bif (decide ((rdI ((0 : Int), (0 : Int)) p.2.2.1.2.2.2 (Int.toNat p.2.1)).1 ≤ p.2.2.1.1)) then true else (decide ((IntKind.i64.wrap ((IntKind.i64.wrap (p.2.2.1.1 + p.2.2.1.2.1)) - (((p.2.2.1.2.2.1.length) : Int)))) ≤ (rdI ((0 : Int), (0 : Int)) p.2.2.1.2.2.2 (Int.toNat p.2.1)).1))) then true else (bif (decide ((0 : Int) < p.2.1)) then (decide ((rdI ((0 : Int), (0 : Int)) p.2.2.1.2.2.2 (Int.toNat p.2.1)).1 ≤ (rdI ((0 : Int), (0 : Int)) p.2.2.1.2.2.2 (Int.toNat (IntKind.i64.wrap (p.2.1 - (1 : Int))))).1)) else false)) then
                some ((false, ()), ())
              else
                L_spec_EarOk_4 n ((), (IntKind.i64.wrap (p.2.1 + (1 : Int))), p.2.2.1, ())
            else
              none
          else
            none
        else
          none
      else
        none
    else
      some ((true, ()), ())
noncomputable def F_spec_EarOk (a0 : TEar) : Option ((Bool × Unit) × (Unit)) :=
  bif (bif (bif (!(F_spec_l1In a0.1 (0 : Int) (1000000 : Int))) then true else (!(F_spec_l1In a0.2.1 (1 : Int) (32 : Int)))) then true else (decide (a0.2.1 < (((a0.2.2.1.length) : Int))))) then
    some ((false, ()), ())
  else
    L_spec_EarOk_4 fuel ((), (0 : Int), a0, ())
/-! spec.ClockOk (function 144) -/
noncomputable def F_spec_ClockOk (a0 : TClock) : Bool :=
  (bif (bif (F_spec_l1In a0.1 (0 : Int) (80000 : Int)) then (F_spec_l1In a0.2.1 (0 : Int) (80000 : Int)) else false) then (F_spec_l1In a0.2.2 (4 : Int) (200 : Int)) else false)
/-! spec.l15Open (function 145) -/
noncomputable def F_spec_l15Open (a0 : TEnd) : Option ((Bool × Unit) × (Unit)) :=
  bif (decide (a0.1 = (2 : Int))) then
    bif (decide (a0.1 = (2 : Int))) then
      some ((true, ()), ())
    else
      bif (decide (a0.1 = (4 : Int))) then
        some (((bif (bif (decide ((0 : Int) < a0.2.2.2.2.2.2.1.2.2.1)) then true else (bif a0.2.2.2.2.2.2.2.2.2.1 then (!a0.2.2.2.2.2.2.2.2.2.2.1) else false)) then true else (decide ((0 : Int) < (((a0.2.2.2.2.2.2.1.2.1.length) : Int))))), ()), ())
      else
        some ((false, ()), ())
  else
    bif (decide (a0.1 = (3 : Int))) then
      some ((true, ()), ())
    else
      bif (decide (a0.1 = (4 : Int))) then
        some (((bif (bif (decide ((0 : Int) < a0.2.2.2.2.2.2.1.2.2.1)) then true else (bif a0.2.2.2.2.2.2.2.2.2.1 then (!a0.2.2.2.2.2.2.2.2.2.2.1) else false)) then true else (decide ((0 : Int) < (((a0.2.2.2.2.2.2.1.2.1.length) : Int))))), ()), ())
      else
        some ((false, ()), ())
/-! spec.EndOk (function 78) -/
noncomputable def F_spec_EndOk (a0 : TEnd) : Option ((Bool × Unit) × (Unit)) :=
  bif (bif (bif (bif (bif (bif (!(F_spec_l1In a0.1 (0 : Int) (5 : Int))) then true else (!(F_spec_l1In a0.2.1 (0 : Int) (65535 : Int)))) then true else (!(F_spec_l1In a0.2.2.2.1 (0 : Int) (65535 : Int)))) then true else (!(F_spec_l1In a0.2.2.1 (1 : Int) (255 : Int)))) then true else (!(F_spec_l1In a0.2.2.2.2.1 (0 : Int) (255 : Int)))) then true else (!(F_spec_l1In a0.2.2.2.2.2.1 (0 : Int) (65535 : Int)))) then
    some ((false, ()), ())
  else
    (F_spec_MouthOk a0.2.2.2.2.2.2.1).bind fun y1 =>
      bif (bif (!y1.1.1) then true else (decide (a0.2.2.2.2.2.2.1.1 ≤ a0.2.2.2.2.2.1))) then
        some ((false, ()), ())
      else
        (F_spec_EarOk a0.2.2.2.2.2.2.2.1).bind fun y2 =>
          bif (bif (bif (bif (!y2.1.1) then true else (!(F_spec_ClockOk a0.2.2.2.2.2.2.2.2.2.2.2.2.2.2))) then true else (!(F_spec_l1In a0.2.2.2.2.2.2.2.2.2.2.2.2.1 (0 : Int) (1000000 : Int)))) then true else (!(F_spec_l1In a0.2.2.2.2.2.2.2.2.2.2.2.2.2.1 (0 : Int) (8 : Int)))) then
            some ((false, ()), ())
          else
            bif (bif (bif a0.2.2.2.2.2.2.2.2.2.2.1 then (!a0.2.2.2.2.2.2.2.2.2.1) else false) then true else (bif a0.2.2.2.2.2.2.2.2.2.1 then (bif (bif (!a0.2.2.2.2.2.2.2.2.1) then true else (decide (a0.2.2.2.2.2.2.1.2.2.1 < (((a0.2.2.2.2.2.2.1.2.1.length) : Int))))) then true else (decide (a0.1 < (4 : Int)))) else false)) then
              some ((false, ()), ())
            else
              bif (bif (decide (a0.1 < (4 : Int))) then (bif (bif (decide ((0 : Int) < a0.2.2.2.2.2.2.1.2.2.1)) then true else (!decide (a0.2.2.2.2.2.2.1.1 = (IntKind.i64.wrap (a0.2.2.2.2.2.1 + (1 : Int)))))) then true else (!decide (a0.2.2.2.2.2.2.2.2.2.2.2.1 = (-1 : Int)))) else false) then
                some ((false, ()), ())
              else
                bif (!((decide ((0 : Int) < a0.2.2.2.2.1)) == (decide ((2 : Int) ≤ a0.1)))) then
                  some ((false, ()), ())
                else
                  (F_spec_l15Open a0).bind fun y3 =>
                    bif (bif (!y3.1.1) then (bif (decide ((0 : Int) < a0.2.2.2.2.2.2.2.2.2.2.2.2.1)) then true else (bif (decide ((0 : Int) < a0.2.2.2.2.2.2.2.2.2.2.2.2.2.1)) then (!decide (a0.1 = (5 : Int))) else false)) else false) then
                      some ((false, ()), ())
                    else
                      bif ((inR (IntKind.i64.wrap ((((a0.2.2.2.2.2.2.2.1.2.2.2.length) : Int)) - (1 : Int))) (a0.2.2.2.2.2.2.2.1.2.2.2.length)) || (!(bif (decide ((0 : Int) < (((a0.2.2.2.2.2.2.2.1.2.2.2.length) : Int)))) then (!decide (a0.2.2.2.2.2.2.2.2.2.2.2.1 = (-1 : Int))) else false))) then
                        bif (bif (bif (decide ((0 : Int) < (((a0.2.2.2.2.2.2.2.1.2.2.2.length) : Int)))) then (!decide (a0.2.2.2.2.2.2.2.2.2.2.2.1 = (-1 : Int))) else false) then (decide (a0.2.2.2.2.2.2.2.2.2.2.2.1 ≤ (rdI ((0 : Int), (0 : Int)) a0.2.2.2.2.2.2.2.1.2.2.2 (Int.toNat (IntKind.i64.wrap ((((a0.2.2.2.2.2.2.2.1.2.2.2.length) : Int)) - (1 : Int))))).1)) else false) then
                          some ((false, ()), ())
                        else
                          some (((bif (decide (a0.2.2.2.2.2.2.2.2.2.2.2.1 = (-1 : Int))) then true else (F_spec_l1In a0.2.2.2.2.2.2.2.2.2.2.2.1 a0.2.2.2.2.2.2.2.1.1 (1000000 : Int))), ()), ())
                      else
                        none
/-! spec.ClockNew (function 137) -/
noncomputable def F_spec_ClockNew (a0 : Int) : Option ((TClock × Unit) × (Unit)) :=
  some ((((0 : Int), (0 : Int), (24 : Int)), ()), ())
/-! spec.EndNew (function 70) -/
noncomputable def F_spec_EndNew (a0 : Int) (a1 : Int) (a2 : Int) (a3 : Int) : Option ((TEnd × Unit) × (Unit)) :=
  (F_spec_ClockNew (0 : Int)).bind fun y1 =>
    (F_spec_EndOk ((0 : Int), a0, a1, (0 : Int), (0 : Int), a2, ((IntKind.i64.wrap (a2 + (1 : Int))), ([] : List Int), (0 : Int), (0 : Int), ([] : List TRange)), ((0 : Int), a3, ([] : List Int), ([] : List TEarly)), false, false, false, (-1 : Int), (0 : Int), (0 : Int), y1.1.1)).bind fun y2 =>
      bif (!y2.1.1) then
        some ((((0 : Int), (0 : Int), (0 : Int), (0 : Int), (0 : Int), (0 : Int), ((0 : Int), ([] : List Int), (0 : Int), (0 : Int), ([] : List TRange)), ((0 : Int), (0 : Int), ([] : List Int), ([] : List TEarly)), false, false, false, (0 : Int), (0 : Int), (0 : Int), (0 : Int), (0 : Int), (0 : Int)), ()), ())
      else
        some ((((0 : Int), a0, a1, (0 : Int), (0 : Int), a2, ((IntKind.i64.wrap (a2 + (1 : Int))), ([] : List Int), (0 : Int), (0 : Int), ([] : List TRange)), ((0 : Int), a3, ([] : List Int), ([] : List TEarly)), false, false, false, (-1 : Int), (0 : Int), (0 : Int), y1.1.1), ()), ())
/-! (*spec.l20Rd).seq (function 71) -/
noncomputable def F_spec_l20Rd_seq (a0 : Ts_l20Rd) : Option ((Int × Unit) × (Ts_l20Rd × Unit)) :=
  (F_spec_l20Rd_pick a0 (9 : Int)).bind fun y1 =>
    (F_spec_l20Rd_pick y1.2.1 (9 : Int)).bind fun y2 =>
      (F_spec_l20Rd_pick y2.2.1 (5 : Int)).bind fun y3 =>
        (F_spec_l20Rd_pick y3.2.1 (256 : Int)).bind fun y4 =>
          (F_spec_l20Rd_pick y4.2.1 (256 : Int)).bind fun y5 =>
            (F_spec_l20Rd_pick y5.2.1 (4 : Int)).bind fun y6 =>
              bif (inR y6.1.1 (([y1.1.1, (IntKind.i64.wrap ((65535 : Int) - y2.1.1)), (IntKind.i64.wrap ((IntKind.i64.wrap ((32768 : Int) + y3.1.1)) - (2 : Int))), (IntKind.i64.wrap ((IntKind.i64.wrap (y4.1.1 * (256 : Int))) + y5.1.1))]).length)) then
                some (((rdI (0 : Int) ([y1.1.1, (IntKind.i64.wrap ((65535 : Int) - y2.1.1)), (IntKind.i64.wrap ((IntKind.i64.wrap ((32768 : Int) + y3.1.1)) - (2 : Int))), (IntKind.i64.wrap ((IntKind.i64.wrap (y4.1.1 * (256 : Int))) + y5.1.1))]) (Int.toNat y6.1.1)), ()), y6.2.1, ())
              else
                none
/-! (*spec.l20Rd).odd (function 116) -/
noncomputable def F_spec_l20Rd_odd (a0 : Ts_l20Rd) (a1 : Int) : Option ((Bool × Unit) × (Ts_l20Rd × Unit)) :=
  bif (decide ((0 : Int) < a1)) then
    (F_spec_l20Rd_pick a0 a1).bind fun y1 =>
      some (((decide (y1.1.1 = (IntKind.i64.wrap (a1 - (1 : Int))))), ()), y1.2.1, ())
  else
    some ((false, ()), a0, ())
/-! spec.l13Copy (function 146) -/
noncomputable def F_spec_l13Copy (a0 : TMouth) : Option ((TMouth × Unit) × (Unit)) :=
  bif (Nat.ble (([] : List Int).length + a0.2.1.length) big) then
    bif (Nat.ble (([] : List TRange).length + a0.2.2.2.2.length) big) then
      some (((a0.1, (([] : List Int) ++ a0.2.1), a0.2.2.1, a0.2.2.2.1, (([] : List TRange) ++ a0.2.2.2.2)), ()), ())
    else
      none
  else
    none
/-! spec.l15Copy (function 80) -/
noncomputable def F_spec_l15Copy (a0 : TEnd) : Option ((TEnd × Unit) × (Unit)) :=
  (F_spec_l13Copy a0.2.2.2.2.2.2.1).bind fun y1 =>
    bif (Nat.ble (([] : List Int).length + a0.2.2.2.2.2.2.2.1.2.2.1.length) big) then
      bif (Nat.ble (([] : List TEarly).length + a0.2.2.2.2.2.2.2.1.2.2.2.length) big) then
        some (((a0.1, a0.2.1, a0.2.2.1, a0.2.2.2.1, a0.2.2.2.2.1, a0.2.2.2.2.2.1, y1.1.1, (a0.2.2.2.2.2.2.2.1.1, a0.2.2.2.2.2.2.2.1.2.1, (([] : List Int) ++ a0.2.2.2.2.2.2.2.1.2.2.1), (([] : List TEarly) ++ a0.2.2.2.2.2.2.2.1.2.2.2)), a0.2.2.2.2.2.2.2.2), ()), ())
      else
        none
    else
      none
/-! spec.l15Arm (function 81) -/
noncomputable def F_spec_l15Arm (a0 : TEnd) (a1 : Int) (a2 : Bool) : Option ((TEnd × Unit) × (Unit)) :=
  bif a2 then
    (F_spec_l15Open (a0.1, a0.2.1, a0.2.2.1, a0.2.2.2.1, a0.2.2.2.2.1, a0.2.2.2.2.2.1, a0.2.2.2.2.2.2.1, a0.2.2.2.2.2.2.2.1, a0.2.2.2.2.2.2.2.2.1, a0.2.2.2.2.2.2.2.2.2.1, a0.2.2.2.2.2.2.2.2.2.2.1, a0.2.2.2.2.2.2.2.2.2.2.2.1, a0.2.2.2.2.2.2.2.2.2.2.2.2.1, (0 : Int), a0.2.2.2.2.2.2.2.2.2.2.2.2.2.2)).bind fun y1 =>
      bif (!y1.1.1) then
        bif (!decide (a0.1 = (5 : Int))) then
          some (((a0.1, a0.2.1, a0.2.2.1, a0.2.2.2.1, a0.2.2.2.2.1, a0.2.2.2.2.2.1, a0.2.2.2.2.2.2.1, a0.2.2.2.2.2.2.2.1, a0.2.2.2.2.2.2.2.2.1, a0.2.2.2.2.2.2.2.2.2.1, a0.2.2.2.2.2.2.2.2.2.2.1, a0.2.2.2.2.2.2.2.2.2.2.2.1, (0 : Int), (0 : Int), a0.2.2.2.2.2.2.2.2.2.2.2.2.2.2), ()), ())
        else
          some (((a0.1, a0.2.1, a0.2.2.1, a0.2.2.2.1, a0.2.2.2.2.1, a0.2.2.2.2.2.1, a0.2.2.2.2.2.2.1, a0.2.2.2.2.2.2.2.1, a0.2.2.2.2.2.2.2.2.1, a0.2.2.2.2.2.2.2.2.2.1, a0.2.2.2.2.2.2.2.2.2.2.1, a0.2.2.2.2.2.2.2.2.2.2.2.1, (0 : Int), (0 : Int), a0.2.2.2.2.2.2.2.2.2.2.2.2.2.2), ()), ())
      else
        bif (bif a2 then true else (decide (a0.2.2.2.2.2.2.2.2.2.2.2.2.1 = (0 : Int)))) then
          some (((a0.1, a0.2.1, a0.2.2.1, a0.2.2.2.1, a0.2.2.2.2.1, a0.2.2.2.2.2.1, a0.2.2.2.2.2.2.1, a0.2.2.2.2.2.2.2.1, a0.2.2.2.2.2.2.2.2.1, a0.2.2.2.2.2.2.2.2.2.1, a0.2.2.2.2.2.2.2.2.2.2.1, a0.2.2.2.2.2.2.2.2.2.2.2.1, (IntKind.i64.wrap (a1 + a0.2.2.2.2.2.2.2.2.2.2.2.2.2.2.2.2)), (0 : Int), a0.2.2.2.2.2.2.2.2.2.2.2.2.2.2), ()), ())
        else
          some (((a0.1, a0.2.1, a0.2.2.1, a0.2.2.2.1, a0.2.2.2.2.1, a0.2.2.2.2.2.1, a0.2.2.2.2.2.2.1, a0.2.2.2.2.2.2.2.1, a0.2.2.2.2.2.2.2.2.1, a0.2.2.2.2.2.2.2.2.2.1, a0.2.2.2.2.2.2.2.2.2.2.1, a0.2.2.2.2.2.2.2.2.2.2.2.1, a0.2.2.2.2.2.2.2.2.2.2.2.2.1, (0 : Int), a0.2.2.2.2.2.2.2.2.2.2.2.2.2.2), ()), ())
  else
    (F_spec_l15Open a0).bind fun y2 =>
      bif (!y2.1.1) then
        bif (!decide (a0.1 = (5 : Int))) then
          some (((a0.1, a0.2.1, a0.2.2.1, a0.2.2.2.1, a0.2.2.2.2.1, a0.2.2.2.2.2.1, a0.2.2.2.2.2.2.1, a0.2.2.2.2.2.2.2.1, a0.2.2.2.2.2.2.2.2.1, a0.2.2.2.2.2.2.2.2.2.1, a0.2.2.2.2.2.2.2.2.2.2.1, a0.2.2.2.2.2.2.2.2.2.2.2.1, (0 : Int), (0 : Int), a0.2.2.2.2.2.2.2.2.2.2.2.2.2.2), ()), ())
        else
          some (((a0.1, a0.2.1, a0.2.2.1, a0.2.2.2.1, a0.2.2.2.2.1, a0.2.2.2.2.2.1, a0.2.2.2.2.2.2.1, a0.2.2.2.2.2.2.2.1, a0.2.2.2.2.2.2.2.2.1, a0.2.2.2.2.2.2.2.2.2.1, a0.2.2.2.2.2.2.2.2.2.2.1, a0.2.2.2.2.2.2.2.2.2.2.2.1, (0 : Int), a0.2.2.2.2.2.2.2.2.2.2.2.2.2), ()), ())
      else
        bif (bif a2 then true else (decide (a0.2.2.2.2.2.2.2.2.2.2.2.2.1 = (0 : Int)))) then
          some (((a0.1, a0.2.1, a0.2.2.1, a0.2.2.2.1, a0.2.2.2.2.1, a0.2.2.2.2.2.1, a0.2.2.2.2.2.2.1, a0.2.2.2.2.2.2.2.1, a0.2.2.2.2.2.2.2.2.1, a0.2.2.2.2.2.2.2.2.2.1, a0.2.2.2.2.2.2.2.2.2.2.1, a0.2.2.2.2.2.2.2.2.2.2.2.1, (IntKind.i64.wrap (a1 + a0.2.2.2.2.2.2.2.2.2.2.2.2.2.2.2.2)), a0.2.2.2.2.2.2.2.2.2.2.2.2.2), ()), ())
        else
          some ((a0, ()), ())
/-! spec.SeqOf (function 209) -/
noncomputable def F_spec_SeqOf (a0 : Int) : Option ((Int × Unit) × (Unit)) :=
  bif (!(decide ((65536 : Int) = 0))) then
    bif (decide ((a0.tmod (65536 : Int)) < (0 : Int))) then
      some (((IntKind.i64.wrap ((a0.tmod (65536 : Int)) + (65536 : Int))), ()), ())
    else
      some (((a0.tmod (65536 : Int)), ()), ())
  else
    none
/-! spec.l15Wait (function 210) -/
noncomputable def F_spec_l15Wait (a0 : TEnd) : Option ((Int × Unit) × (Unit)) :=
  bif (decide (a0.2.2.2.2.2.2.2.2.2.2.2.1 = a0.2.2.2.2.2.2.2.1.1)) then
    some (((IntKind.i64.wrap (a0.2.2.2.2.2.2.2.1.1 + (1 : Int))), ()), ())
  else
    some ((a0.2.2.2.2.2.2.2.1.1, ()), ())
/-! spec.EarFree (function 211) -/
noncomputable def F_spec_EarFree (a0 : TEar) : Option ((Int × Unit) × (Unit)) :=
  (F_spec_EarOk a0).bind fun y1 =>
    bif (!y1.1.1) then
      some (((0 : Int), ()), ())
    else
      some (((IntKind.i64.wrap (a0.2.1 - (((a0.2.2.1.length) : Int)))), ()), ())
/-! spec.EarRanges (function 212) -/
noncomputable def L_spec_EarRanges_5 : Nat → Unit × (List TRange) × Int × TEar × Unit → Option (((List TRange) × Unit) × (Unit))
  | 0, _ => none
  | n + 1, p =>
    bif (decide (p.2.2.1 < (((p.2.2.2.1.2.2.2.length) : Int)))) then
      bif ((inR (IntKind.i64.wrap ((((p.2.1.length) : Int)) - (1 : Int))) (p.2.1.length)) || (!(decide ((0 : Int) ≤ (IntKind.i64.wrap ((((p.2.1.length) : Int)) - (1 : Int))))))) then
        bif ((inR p.2.2.1 (p.2.2.2.1.2.2.2.length)) || (!(decide ((0 : Int) ≤ (IntKind.i64.wrap ((((p.2.1.length) : Int)) - (1 : Int))))))) then
          bif (bif (decide ((0 : Int) ≤ (IntKind.i64.wrap ((((p.2.1.length) : Int)) - (1 : Int))))) then (decide ((rdI ((0 : Int), (0 : Int)) p.2.1 (Int.toNat (IntKind.i64.wrap ((((p.2.1.length) : Int)) - (1 : Int))))).2 = (rdI ((0 : Int), (0 : Int)) p.2.2.2.1.2.2.2 (Int.toNat p.2.2.1)).1)) else false) then
            bif (inR (IntKind.i64.wrap ((((p.2.1.length) : Int)) - (1 : Int))) (p.2.1.length)) then
              bif (inR (IntKind.i64.wrap ((((p.2.1.length) : Int)) - (1 : Int))) (p.2.1.length)) then
                L_spec_EarRanges_5 n ((), (p.2.1.set (Int.toNat (IntKind.i64.wrap ((((p.2.1.length) : Int)) - (1 : Int)))) ((rdI ((0 : Int), (0 : Int)) p.2.1 (Int.toNat (IntKind.i64.wrap ((((p.2.1.length) : Int)) - (1 : Int))))).1, (IntKind.i64.wrap ((rdI ((0 : Int), (0 : Int)) p.2.1 (Int.toNat (IntKind.i64.wrap ((((p.2.1.length) : Int)) - (1 : Int))))).2 + (1 : Int))))), (IntKind.i64.wrap (p.2.2.1 + (1 : Int))), p.2.2.2.1, ())
              else
                none
            else
              none
          else
            bif (decide ((((p.2.1.length) : Int)) < (2 : Int))) then
              bif (inR p.2.2.1 (p.2.2.2.1.2.2.2.length)) then
                bif (inR p.2.2.1 (p.2.2.2.1.2.2.2.length)) then
                  bif (Nat.ble (p.2.1.length + ([((rdI ((0 : Int), (0 : Int)) p.2.2.2.1.2.2.2 (Int.toNat p.2.2.1)).1, (IntKind.i64.wrap ((rdI ((0 : Int), (0 : Int)) p.2.2.2.1.2.2.2 (Int.toNat p.2.2.1)).1 + (1 : Int))))]).length) big) then
                    L_spec_EarRanges_5 n ((), (p.2.1 ++ ([((rdI ((0 : Int), (0 : Int)) p.2.2.2.1.2.2.2 (Int.toNat p.2.2.1)).1, (IntKind.i64.wrap ((rdI ((0 : Int), (0 : Int)) p.2.2.2.1.2.2.2 (Int.toNat p.2.2.1)).1 + (1 : Int))))])), (IntKind.i64.wrap (p.2.2.1 + (1 : Int))), p.2.2.2.1, ())
                  else
                    none
                else
                  none
              else
                none
            else
              L_spec_EarRanges_5 n ((), p.2.1, (IntKind.i64.wrap (p.2.2.1 + (1 : Int))), p.2.2.2.1, ())
        else
          none
      else
        none
    else
      some ((p.2.1, ()), ())
noncomputable def F_spec_EarRanges (a0 : TEar) : Option (((List TRange) × Unit) × (Unit)) :=
  (F_spec_EarOk a0).bind fun y1 =>
    bif (!y1.1.1) then
      some ((([] : List TRange), ()), ())
    else
      L_spec_EarRanges_5 fuel ((), ([] : List TRange), (0 : Int), a0, ())
/-! spec.l15Segment (function 147) -/
noncomputable def L_spec_l15Segment_9 : Nat → Unit × Unit × (List TRange) × Int × TSegment × TSegment × Unit → Option ((TSegment × Unit) × (Unit))
  | 0, _ => none
  | n + 1, p =>
    bif (decide (p.2.2.2.1 < (((p.2.2.1.length) : Int)))) then
      bif (inR p.2.2.2.1 (p.2.2.1.length)) then
        (F_spec_SeqOf (rdI ((0 : Int), (0 : Int)) p.2.2.1 (Int.toNat p.2.2.2.1)).1).bind fun y1 =>
          bif (inR p.2.2.2.1 (p.2.2.1.length)) then
            (F_spec_SeqOf (rdI ((0 : Int), (0 : Int)) p.2.2.1 (Int.toNat p.2.2.2.1)).2).bind fun y2 =>
              bif (Nat.ble (p.2.2.2.2.2.1.2.2.2.2.2.2.2.2.2.1.length + ([(y1.1.1, y2.1.1)]).length) big) then
                L_spec_l15Segment_9 n ((), (), p.2.2.1, (IntKind.i64.wrap (p.2.2.2.1 + (1 : Int))), p.2.2.2.2.1, (p.2.2.2.2.2.1.1, p.2.2.2.2.2.1.2.1, p.2.2.2.2.2.1.2.2.1, p.2.2.2.2.2.1.2.2.2.1, p.2.2.2.2.2.1.2.2.2.2.1, p.2.2.2.2.2.1.2.2.2.2.2.1, p.2.2.2.2.2.1.2.2.2.2.2.2.1, p.2.2.2.2.2.1.2.2.2.2.2.2.2.1, p.2.2.2.2.2.1.2.2.2.2.2.2.2.2.1, (p.2.2.2.2.2.1.2.2.2.2.2.2.2.2.2.1 ++ ([(y1.1.1, y2.1.1)])), p.2.2.2.2.2.1.2.2.2.2.2.2.2.2.2.2), ())
              else
                none
          else
            none
      else
        none
    else
      some ((p.2.2.2.2.2.1, ()), ())
noncomputable def F_spec_l15Segment (a0 : TEnd) (a1 : Int) : Option ((TSegment × Unit) × (Unit)) :=
  (F_spec_SeqOf a1).bind fun y1 =>
    bif (decide (a0.1 = (2 : Int))) then
      some (((a0.2.2.1, a0.2.2.2.2.1, y1.1.1, (0 : Int), (0 : Int), false, false, false, false, ([] : List TRange), ([] : List Int)), ()), ())
    else
      (F_spec_l15Wait a0).bind fun y2 =>
        (F_spec_SeqOf y2.1.1).bind fun y3 =>
          (F_spec_EarFree a0.2.2.2.2.2.2.2.1).bind fun y4 =>
            (F_spec_EarRanges a0.2.2.2.2.2.2.2.1).bind fun y5 =>
              L_spec_l15Segment_9 fuel ((), (), y5.1.1, (0 : Int), ((0 : Int), (0 : Int), (0 : Int), (0 : Int), (0 : Int), false, false, false, false, ([] : List TRange), ([] : List Int)), (a0.2.2.1, a0.2.2.2.2.1, y1.1.1, y3.1.1, y4.1.1, false, true, false, false, ([] : List TRange), ([] : List Int)), ())
/-! spec.l15First (function 82) -/
noncomputable def F_spec_l15First (a0 : TEnd) : Option ((TSegment × Unit) × (Unit)) :=
  (F_spec_l15Segment a0 a0.2.2.2.2.2.1).bind fun y1 =>
    some (((y1.1.1.1, y1.1.1.2.1, y1.1.1.2.2.1, y1.1.1.2.2.2.1, y1.1.1.2.2.2.2.1, true, y1.1.1.2.2.2.2.2.2), ()), ())
/-! spec.EndConnect (function 20) -/
noncomputable def F_spec_EndConnect (a0 : TEnd) (a1 : Int) (a2 : Int) (a3 : Int) : Option ((TEnd × (List TSegment) × Unit) × (Unit)) :=
  (F_spec_EndOk a0).bind fun y1 =>
    bif (bif (bif (bif (!y1.1.1) then true else (!(F_spec_l1In a1 (0 : Int) (65535 : Int)))) then true else (!(F_spec_l1In a2 (1 : Int) (255 : Int)))) then true else (!(F_spec_l1In a3 (0 : Int) (900000 : Int)))) then
      some ((((0 : Int), (0 : Int), (0 : Int), (0 : Int), (0 : Int), (0 : Int), ((0 : Int), ([] : List Int), (0 : Int), (0 : Int), ([] : List TRange)), ((0 : Int), (0 : Int), ([] : List Int), ([] : List TEarly)), false, false, false, (0 : Int), (0 : Int), (0 : Int), (0 : Int), (0 : Int), (0 : Int)), ([] : List TSegment), ()), ())
    else
      (F_spec_l15Copy a0).bind fun y2 =>
        bif (!decide (a0.1 = (0 : Int))) then
          some ((y2.1.1, ([] : List TSegment), ()), ())
        else
          (F_spec_l15Arm ((2 : Int), y2.1.1.2.1, y2.1.1.2.2.1, a1, a2, y2.1.1.2.2.2.2.2) a3 true).bind fun y3 =>
            (F_spec_l15First y3.1.1).bind fun y4 =>
              some ((y3.1.1, ([y4.1.1]), ()), ())
/-! spec.MouthWrite (function 97) -/
noncomputable def F_spec_MouthWrite (a0 : TMouth) (a1 : (List Int)) : Option ((TMouth × Int × Unit) × (Unit)) :=
  (F_spec_MouthOk a0).bind fun y1 =>
    bif (!y1.1.1) then
      some ((((0 : Int), ([] : List Int), (0 : Int), (0 : Int), ([] : List TRange)), (0 : Int), ()), ())
    else
      (F_spec_l13Copy a0).bind fun y2 =>
        bif (decide (0 ≤ (if (IntKind.i64.wrap ((32 : Int) - (((a0.2.1.length) : Int)))) < (((a1.length) : Int)) then (IntKind.i64.wrap ((32 : Int) - (((a0.2.1.length) : Int)))) else (((a1.length) : Int)))) && decide ((if (IntKind.i64.wrap ((32 : Int) - (((a0.2.1.length) : Int)))) < (((a1.length) : Int)) then (IntKind.i64.wrap ((32 : Int) - (((a0.2.1.length) : Int)))) else (((a1.length) : Int))) ≤ ((a1.length) : Int))) then
          bif (Nat.ble (y2.1.1.2.1.length + (a1.take (Int.toNat (if (IntKind.i64.wrap ((32 : Int) - (((a0.2.1.length) : Int)))) < (((a1.length) : Int)) then (IntKind.i64.wrap ((32 : Int) - (((a0.2.1.length) : Int)))) else (((a1.length) : Int))))).length) big) then
            some (((y2.1.1.1, (y2.1.1.2.1 ++ (a1.take (Int.toNat (if (IntKind.i64.wrap ((32 : Int) - (((a0.2.1.length) : Int)))) < (((a1.length) : Int)) then (IntKind.i64.wrap ((32 : Int) - (((a0.2.1.length) : Int)))) else (((a1.length) : Int)))))), y2.1.1.2.2), (if (IntKind.i64.wrap ((32 : Int) - (((a0.2.1.length) : Int)))) < (((a1.length) : Int)) then (IntKind.i64.wrap ((32 : Int) - (((a0.2.1.length) : Int)))) else (((a1.length) : Int))), ()), ())
          else
            none
        else
          none
/-! spec.MouthNext (function 158) -/
noncomputable def F_spec_MouthNext (a0 : TMouth) (a1 : Int) : Option ((TMouth × Int × (List Int) × Unit) × (Unit)) :=
  (F_spec_MouthOk a0).bind fun y1 =>
    bif (bif (!y1.1.1) then true else (!(F_spec_l1In a1 (1 : Int) (12 : Int)))) then
      some ((((0 : Int), ([] : List Int), (0 : Int), (0 : Int), ([] : List TRange)), (0 : Int), ([] : List Int), ()), ())
    else
      (F_spec_l13Copy a0).bind fun y2 =>
        bif (decide ((if (IntKind.i64.wrap (a0.2.2.1 + a1)) < (if a0.2.2.2.1 < (((a0.2.1.length) : Int)) then a0.2.2.2.1 else (((a0.2.1.length) : Int))) then (IntKind.i64.wrap (a0.2.2.1 + a1)) else (if a0.2.2.2.1 < (((a0.2.1.length) : Int)) then a0.2.2.2.1 else (((a0.2.1.length) : Int)))) ≤ a0.2.2.1)) then
          some ((y2.1.1, (IntKind.i64.wrap (a0.1 + a0.2.2.1)), ([] : List Int), ()), ())
        else
          bif (decide (0 ≤ a0.2.2.1) && decide (a0.2.2.1 ≤ (if (IntKind.i64.wrap (a0.2.2.1 + a1)) < (if a0.2.2.2.1 < (((a0.2.1.length) : Int)) then a0.2.2.2.1 else (((a0.2.1.length) : Int))) then (IntKind.i64.wrap (a0.2.2.1 + a1)) else (if a0.2.2.2.1 < (((a0.2.1.length) : Int)) then a0.2.2.2.1 else (((a0.2.1.length) : Int))))) && decide ((if (IntKind.i64.wrap (a0.2.2.1 + a1)) < (if a0.2.2.2.1 < (((a0.2.1.length) : Int)) then a0.2.2.2.1 else (((a0.2.1.length) : Int))) then (IntKind.i64.wrap (a0.2.2.1 + a1)) else (if a0.2.2.2.1 < (((a0.2.1.length) : Int)) then a0.2.2.2.1 else (((a0.2.1.length) : Int)))) ≤ ((a0.2.1.length) : Int))) then
            bif (Nat.ble (([] : List Int).length + ((a0.2.1.take (Int.toNat (if (IntKind.i64.wrap (a0.2.2.1 + a1)) < (if a0.2.2.2.1 < (((a0.2.1.length) : Int)) then a0.2.2.2.1 else (((a0.2.1.length) : Int))) then (IntKind.i64.wrap (a0.2.2.1 + a1)) else (if a0.2.2.2.1 < (((a0.2.1.length) : Int)) then a0.2.2.2.1 else (((a0.2.1.length) : Int)))))).drop (Int.toNat a0.2.2.1)).length) big) then
              some (((y2.1.1.1, y2.1.1.2.1, (if (IntKind.i64.wrap (a0.2.2.1 + a1)) < (if a0.2.2.2.1 < (((a0.2.1.length) : Int)) then a0.2.2.2.1 else (((a0.2.1.length) : Int))) then (IntKind.i64.wrap (a0.2.2.1 + a1)) else (if a0.2.2.2.1 < (((a0.2.1.length) : Int)) then a0.2.2.2.1 else (((a0.2.1.length) : Int)))), y2.1.1.2.2.2), (IntKind.i64.wrap (a0.1 + a0.2.2.1)), (([] : List Int) ++ ((a0.2.1.take (Int.toNat (if (IntKind.i64.wrap (a0.2.2.1 + a1)) < (if a0.2.2.2.1 < (((a0.2.1.length) : Int)) then a0.2.2.2.1 else (((a0.2.1.length) : Int))) then (IntKind.i64.wrap (a0.2.2.1 + a1)) else (if a0.2.2.2.1 < (((a0.2.1.length) : Int)) then a0.2.2.2.1 else (((a0.2.1.length) : Int)))))).drop (Int.toNat a0.2.2.1))), ()), ())
            else
              none
          else
            none
/-! spec.l15Bytes (function 98) -/
noncomputable def L_spec_l15Bytes_2 : Nat → Unit × Unit × (List TSegment) × TEnd × TEnd × Unit → Option ((TEnd × (List TSegment) × Unit) × (Unit))
  | 0, _ => none
  | n + 1, p =>
    bif (decide (p.2.2.2.1.1 = (4 : Int))) then
      (F_spec_MouthNext p.2.2.2.1.2.2.2.2.2.2.1 (12 : Int)).bind fun y1 =>
        bif (decide ((((y1.1.2.2.1.length) : Int)) = (0 : Int))) then
          some ((p.2.2.2.1, p.2.2.1, ()), ())
        else
          (F_spec_l15Segment (p.2.2.2.1.1, p.2.2.2.1.2.1, p.2.2.2.1.2.2.1, p.2.2.2.1.2.2.2.1, p.2.2.2.1.2.2.2.2.1, p.2.2.2.1.2.2.2.2.2.1, y1.1.1, p.2.2.2.1.2.2.2.2.2.2.2) y1.1.2.1).bind fun y2 =>
            bif (Nat.ble (p.2.2.1.length + ([(y2.1.1.1, y2.1.1.2.1, y2.1.1.2.2.1, y2.1.1.2.2.2.1, y2.1.1.2.2.2.2.1, y2.1.1.2.2.2.2.2.1, y2.1.1.2.2.2.2.2.2.1, y2.1.1.2.2.2.2.2.2.2.1, y2.1.1.2.2.2.2.2.2.2.2.1, y2.1.1.2.2.2.2.2.2.2.2.2.1, y1.1.2.2.1)]).length) big) then
              L_spec_l15Bytes_2 n ((), (), (p.2.2.1 ++ ([(y2.1.1.1, y2.1.1.2.1, y2.1.1.2.2.1, y2.1.1.2.2.2.1, y2.1.1.2.2.2.2.1, y2.1.1.2.2.2.2.2.1, y2.1.1.2.2.2.2.2.2.1, y2.1.1.2.2.2.2.2.2.2.1, y2.1.1.2.2.2.2.2.2.2.2.1, y2.1.1.2.2.2.2.2.2.2.2.2.1, y1.1.2.2.1)])), (p.2.2.2.1.1, p.2.2.2.1.2.1, p.2.2.2.1.2.2.1, p.2.2.2.1.2.2.2.1, p.2.2.2.1.2.2.2.2.1, p.2.2.2.1.2.2.2.2.2.1, y1.1.1, p.2.2.2.1.2.2.2.2.2.2.2), p.2.2.2.2.1, ())
            else
              none
    else
      some ((p.2.2.2.1, p.2.2.1, ()), ())
noncomputable def F_spec_l15Bytes (a0 : TEnd) : Option ((TEnd × (List TSegment) × Unit) × (Unit)) :=
  L_spec_l15Bytes_2 fuel ((), (), ([] : List TSegment), a0, ((0 : Int), (0 : Int), (0 : Int), (0 : Int), (0 : Int), (0 : Int), ((0 : Int), ([] : List Int), (0 : Int), (0 : Int), ([] : List TRange)), ((0 : Int), (0 : Int), ([] : List Int), ([] : List TEarly)), false, false, false, (0 : Int), (0 : Int), (0 : Int), (0 : Int), (0 : Int), (0 : Int)), ())
/-! spec.EndWrite (function 28) -/
noncomputable def F_spec_EndWrite (a0 : TEnd) (a1 : (List Int)) (a2 : Int) : Option ((TEnd × Int × (List TSegment) × Unit) × (Unit)) :=
  (F_spec_EndOk a0).bind fun y1 =>
    bif (bif (!y1.1.1) then true else (!(F_spec_l1In a2 (0 : Int) (900000 : Int)))) then
      some ((((0 : Int), (0 : Int), (0 : Int), (0 : Int), (0 : Int), (0 : Int), ((0 : Int), ([] : List Int), (0 : Int), (0 : Int), ([] : List TRange)), ((0 : Int), (0 : Int), ([] : List Int), ([] : List TEarly)), false, false, false, (0 : Int), (0 : Int), (0 : Int), (0 : Int), (0 : Int), (0 : Int)), (0 : Int), ([] : List TSegment), ()), ())
    else
      (F_spec_l15Copy a0).bind fun y2 =>
        bif (bif (!a0.2.2.2.2.2.2.2.2.1) then (!decide (a0.1 = (5 : Int))) else false) then
          (F_spec_MouthWrite y2.1.1.2.2.2.2.2.2.1 a1).bind fun y3 =>
            bif (!decide (a0.1 = (4 : Int))) then
              some (((y2.1.1.1, y2.1.1.2.1, y2.1.1.2.2.1, y2.1.1.2.2.2.1, y2.1.1.2.2.2.2.1, y2.1.1.2.2.2.2.2.1, y3.1.1, y2.1.1.2.2.2.2.2.2.2), y3.1.2.1, ([] : List TSegment), ()), ())
            else
              (F_spec_l15Bytes (y2.1.1.1, y2.1.1.2.1, y2.1.1.2.2.1, y2.1.1.2.2.2.1, y2.1.1.2.2.2.2.1, y2.1.1.2.2.2.2.2.1, y3.1.1, y2.1.1.2.2.2.2.2.2.2)).bind fun y4 =>
                (F_spec_l15Arm y4.1.1 a2 false).bind fun y5 =>
                  some ((y5.1.1, y3.1.2.1, y4.1.2.1, ()), ())
        else
          bif (!decide (a0.1 = (4 : Int))) then
            some ((y2.1.1, (0 : Int), ([] : List TSegment), ()), ())
          else
            (F_spec_l15Bytes y2.1.1).bind fun y6 =>
              (F_spec_l15Arm y6.1.1 a2 false).bind fun y7 =>
                some ((y7.1.1, (0 : Int), y6.1.2.1, ()), ())
/-! spec.l15Last (function 101) -/
noncomputable def F_spec_l15Last (a0 : TEnd) : Option ((TSegment × Unit) × (Unit)) :=
  (F_spec_l15Segment a0 (IntKind.i64.wrap (a0.2.2.2.2.2.2.1.1 + (((a0.2.2.2.2.2.2.1.2.1.length) : Int))))).bind fun y1 =>
    some (((y1.1.1.1, y1.1.1.2.1, y1.1.1.2.2.1, y1.1.1.2.2.2.1, y1.1.1.2.2.2.2.1, y1.1.1.2.2.2.2.2.1, y1.1.1.2.2.2.2.2.2.1, true, y1.1.1.2.2.2.2.2.2.2.2), ()), ())
/-! spec.EndClose (function 32) -/
noncomputable def F_spec_EndClose (a0 : TEnd) (a1 : Int) : Option ((TEnd × (List TSegment) × Unit) × (Unit)) :=
  (F_spec_EndOk a0).bind fun y1 =>
    bif (bif (!y1.1.1) then true else (!(F_spec_l1In a1 (0 : Int) (900000 : Int)))) then
      some ((((0 : Int), (0 : Int), (0 : Int), (0 : Int), (0 : Int), (0 : Int), ((0 : Int), ([] : List Int), (0 : Int), (0 : Int), ([] : List TRange)), ((0 : Int), (0 : Int), ([] : List Int), ([] : List TEarly)), false, false, false, (0 : Int), (0 : Int), (0 : Int), (0 : Int), (0 : Int), (0 : Int)), ([] : List TSegment), ()), ())
    else
      (F_spec_l15Copy a0).bind fun y2 =>
        bif (bif (bif (decide (y2.1.1.1 = (4 : Int))) then (!y2.1.1.2.2.2.2.2.2.2.2.2.1) else false) then (decide (y2.1.1.2.2.2.2.2.2.1.2.2.1 = (((y2.1.1.2.2.2.2.2.2.1.2.1.length) : Int)))) else false) then
          (F_spec_l15Last (y2.1.1.1, y2.1.1.2.1, y2.1.1.2.2.1, y2.1.1.2.2.2.1, y2.1.1.2.2.2.2.1, y2.1.1.2.2.2.2.2.1, y2.1.1.2.2.2.2.2.2.1, y2.1.1.2.2.2.2.2.2.2.1, true, true, y2.1.1.2.2.2.2.2.2.2.2.2.2)).bind fun y3 =>
            bif (Nat.ble (([] : List TSegment).length + ([y3.1.1]).length) big) then
              (F_spec_l15Arm (y2.1.1.1, y2.1.1.2.1, y2.1.1.2.2.1, y2.1.1.2.2.2.1, y2.1.1.2.2.2.2.1, y2.1.1.2.2.2.2.2.1, y2.1.1.2.2.2.2.2.2.1, y2.1.1.2.2.2.2.2.2.2.1, true, true, y2.1.1.2.2.2.2.2.2.2.2.2.2) a1 false).bind fun y4 =>
                some ((y4.1.1, (([] : List TSegment) ++ ([y3.1.1])), ()), ())
            else
              none
        else
          (F_spec_l15Arm (y2.1.1.1, y2.1.1.2.1, y2.1.1.2.2.1, y2.1.1.2.2.2.1, y2.1.1.2.2.2.2.1, y2.1.1.2.2.2.2.2.1, y2.1.1.2.2.2.2.2.2.1, y2.1.1.2.2.2.2.2.2.2.1, true, y2.1.1.2.2.2.2.2.2.2.2.2) a1 false).bind fun y5 =>
            some ((y5.1.1, ([] : List TSegment), ()), ())
/-! (*spec.l20Rd).bytes (function 52) -/
noncomputable def L_spec_l20Rd_bytes_2 : Nat → Unit × Int × (List Int) × Ts_l20Rd × Unit → Option (((List Int) × Unit) × (Ts_l20Rd × Unit))
  | 0, _ => none
  | n + 1, p =>
    bif (decide ((0 : Int) < p.2.1)) then
      (F_spec_l20Rd_pick p.2.2.2.1 (3 : Int)).bind fun y1 =>
        bif (decide (y1.1.1 = (0 : Int))) then
          (F_spec_l20Rd_pick y1.2.1 (256 : Int)).bind fun y2 =>
            bif (Nat.ble (p.2.2.1.length + ([(IntKind.u8.wrap y2.1.1)]).length) big) then
              L_spec_l20Rd_bytes_2 n ((), (IntKind.i64.wrap (p.2.1 - (1 : Int))), (p.2.2.1 ++ ([(IntKind.u8.wrap y2.1.1)])), y2.2.1, ())
            else
              none
        else
          (F_spec_l20Rd_pick y1.2.1 (3 : Int)).bind fun y3 =>
            bif (Nat.ble (p.2.2.1.length + ([(IntKind.u8.wrap (IntKind.i64.wrap (y3.1.1 + (97 : Int))))]).length) big) then
              L_spec_l20Rd_bytes_2 n ((), (IntKind.i64.wrap (p.2.1 - (1 : Int))), (p.2.2.1 ++ ([(IntKind.u8.wrap (IntKind.i64.wrap (y3.1.1 + (97 : Int))))])), y3.2.1, ())
            else
              none
    else
      some ((p.2.2.1, ()), p.2.2.2.1, ())
noncomputable def F_spec_l20Rd_bytes (a0 : Ts_l20Rd) (a1 : Int) : Option (((List Int) × Unit) × (Ts_l20Rd × Unit)) :=
  L_spec_l20Rd_bytes_2 fuel ((), a1, ([] : List Int), a0, ())
/-! spec.EndListen (function 200) -/
noncomputable def F_spec_EndListen (a0 : TEnd) : Option ((TEnd × Bool × Unit) × (Unit)) :=
  (F_spec_EndOk a0).bind fun y1 =>
    bif (!y1.1.1) then
      some ((((0 : Int), (0 : Int), (0 : Int), (0 : Int), (0 : Int), (0 : Int), ((0 : Int), ([] : List Int), (0 : Int), (0 : Int), ([] : List TRange)), ((0 : Int), (0 : Int), ([] : List Int), ([] : List TEarly)), false, false, false, (0 : Int), (0 : Int), (0 : Int), (0 : Int), (0 : Int), (0 : Int)), false, ()), ())
    else
      (F_spec_l15Copy a0).bind fun y2 =>
        bif (!decide (a0.1 = (0 : Int))) then
          some ((y2.1.1, false, ()), ())
        else
          some ((((1 : Int), y2.1.1.2), true, ()), ())
/-! spec.EarRead (function 244) -/
noncomputable def F_spec_EarRead (a0 : TEar) (a1 : Int) : Option ((TEar × (List Int) × Unit) × (Unit)) :=
  (F_spec_EarOk a0).bind fun y1 =>
    bif (bif (!y1.1.1) then true else (decide (a1 < (0 : Int)))) then
      some ((((0 : Int), (0 : Int), ([] : List Int), ([] : List TEarly)), ([] : List Int), ()), ())
    else
      bif (decide (0 ≤ (if (((a0.2.2.1.length) : Int)) < a1 then (((a0.2.2.1.length) : Int)) else a1)) && decide ((if (((a0.2.2.1.length) : Int)) < a1 then (((a0.2.2.1.length) : Int)) else a1) ≤ ((a0.2.2.1.length) : Int))) then
        bif (Nat.ble (([] : List Int).length + (a0.2.2.1.drop (Int.toNat (if (((a0.2.2.1.length) : Int)) < a1 then (((a0.2.2.1.length) : Int)) else a1))).length) big) then
          bif (Nat.ble (([] : List TEarly).length + a0.2.2.2.length) big) then
            bif (decide (0 ≤ (if (((a0.2.2.1.length) : Int)) < a1 then (((a0.2.2.1.length) : Int)) else a1)) && decide ((if (((a0.2.2.1.length) : Int)) < a1 then (((a0.2.2.1.length) : Int)) else a1) ≤ ((a0.2.2.1.length) : Int))) then
              bif (Nat.ble (([] : List Int).length + (a0.2.2.1.take (Int.toNat (if (((a0.2.2.1.length) : Int)) < a1 then (((a0.2.2.1.length) : Int)) else a1))).length) big) then
                some (((a0.1, a0.2.1, (([] : List Int) ++ (a0.2.2.1.drop (Int.toNat (if (((a0.2.2.1.length) : Int)) < a1 then (((a0.2.2.1.length) : Int)) else a1)))), (([] : List TEarly) ++ a0.2.2.2)), (([] : List Int) ++ (a0.2.2.1.take (Int.toNat (if (((a0.2.2.1.length) : Int)) < a1 then (((a0.2.2.1.length) : Int)) else a1)))), ()), ())
              else
                none
            else
              none
          else
            none
        else
          none
      else
        none
/-! spec.l15Told (function 245) -/
noncomputable def F_spec_l15Told (a0 : TEnd) : Option ((Int × Unit) × (Unit)) :=
  bif a0.2.2.2.2.2.2.2.2.2.1 then
    some (((1 : Int), ()), ())
  else
    some (((0 : Int), ()), ())
/-! spec.EndRead (function 201) -/
noncomputable def F_spec_EndRead (a0 : TEnd) (a1 : Int) (a2 : Int) : Option ((TEnd × (List Int) × (List TSegment) × Unit) × (Unit)) :=
  (F_spec_EndOk a0).bind fun y1 =>
    bif (bif (bif (!y1.1.1) then true else (decide (a1 < (0 : Int)))) then true else (!(F_spec_l1In a2 (0 : Int) (900000 : Int)))) then
      some ((((0 : Int), (0 : Int), (0 : Int), (0 : Int), (0 : Int), (0 : Int), ((0 : Int), ([] : List Int), (0 : Int), (0 : Int), ([] : List TRange)), ((0 : Int), (0 : Int), ([] : List Int), ([] : List TEarly)), false, false, false, (0 : Int), (0 : Int), (0 : Int), (0 : Int), (0 : Int), (0 : Int)), ([] : List Int), ([] : List TSegment), ()), ())
    else
      (F_spec_l15Copy a0).bind fun y2 =>
        (F_spec_EarRead y2.1.1.2.2.2.2.2.2.2.1 a1).bind fun y3 =>
          bif (decide (a0.1 = (4 : Int))) then
            (F_spec_EarFree a0.2.2.2.2.2.2.2.1).bind fun y4 =>
              bif (decide (y4.1.1 = (0 : Int))) then
                (F_spec_EarFree y3.1.1).bind fun y5 =>
                  bif (decide ((0 : Int) < y5.1.1)) then
                    (F_spec_l15Told (y2.1.1.1, y2.1.1.2.1, y2.1.1.2.2.1, y2.1.1.2.2.2.1, y2.1.1.2.2.2.2.1, y2.1.1.2.2.2.2.2.1, y2.1.1.2.2.2.2.2.2.1, y3.1.1, y2.1.1.2.2.2.2.2.2.2.2)).bind fun y6 =>
                      (F_spec_l15Segment (y2.1.1.1, y2.1.1.2.1, y2.1.1.2.2.1, y2.1.1.2.2.2.1, y2.1.1.2.2.2.2.1, y2.1.1.2.2.2.2.2.1, y2.1.1.2.2.2.2.2.2.1, y3.1.1, y2.1.1.2.2.2.2.2.2.2.2) (IntKind.i64.wrap ((IntKind.i64.wrap (y2.1.1.2.2.2.2.2.2.1.1 + y2.1.1.2.2.2.2.2.2.1.2.2.1)) + y6.1.1))).bind fun y7 =>
                        some (((y2.1.1.1, y2.1.1.2.1, y2.1.1.2.2.1, y2.1.1.2.2.2.1, y2.1.1.2.2.2.2.1, y2.1.1.2.2.2.2.2.1, y2.1.1.2.2.2.2.2.2.1, y3.1.1, y2.1.1.2.2.2.2.2.2.2.2), y3.1.2.1, ([y7.1.1]), ()), ())
                  else
                    some (((y2.1.1.1, y2.1.1.2.1, y2.1.1.2.2.1, y2.1.1.2.2.2.1, y2.1.1.2.2.2.2.1, y2.1.1.2.2.2.2.2.1, y2.1.1.2.2.2.2.2.2.1, y3.1.1, y2.1.1.2.2.2.2.2.2.2.2), y3.1.2.1, ([] : List TSegment), ()), ())
              else
                some (((y2.1.1.1, y2.1.1.2.1, y2.1.1.2.2.1, y2.1.1.2.2.2.1, y2.1.1.2.2.2.2.1, y2.1.1.2.2.2.2.2.1, y2.1.1.2.2.2.2.2.2.1, y3.1.1, y2.1.1.2.2.2.2.2.2.2.2), y3.1.2.1, ([] : List TSegment), ()), ())
          else
            some (((y2.1.1.1, y2.1.1.2.1, y2.1.1.2.2.1, y2.1.1.2.2.2.1, y2.1.1.2.2.2.2.1, y2.1.1.2.2.2.2.2.1, y2.1.1.2.2.2.2.2.2.1, y3.1.1, y2.1.1.2.2.2.2.2.2.2.2), y3.1.2.1, ([] : List TSegment), ()), ())
/-! spec.ClockLate (function 246) -/
noncomputable def F_spec_ClockLate (a0 : TClock) : Option ((TClock × Unit) × (Unit)) :=
  bif (!(F_spec_ClockOk a0)) then
    some ((((0 : Int), (0 : Int), (0 : Int)), ()), ())
  else
    some (((a0.1, a0.2.1, (if (200 : Int) < (IntKind.i64.wrap ((2 : Int) * a0.2.2)) then (200 : Int) else (IntKind.i64.wrap ((2 : Int) * a0.2.2)))), ()), ())
/-! spec.MouthAgain (function 247) -/
noncomputable def F_spec_MouthAgain (a0 : TMouth) (a1 : Int) : Option ((Int × (List Int) × Unit) × (Unit)) :=
  (F_spec_MouthOk a0).bind fun y1 =>
    bif (bif (!y1.1.1) then true else (!(F_spec_l1In a1 (1 : Int) (12 : Int)))) then
      some (((0 : Int), ([] : List Int), ()), ())
    else
      bif (decide ((0 : Int) < (((a0.2.2.2.2.length) : Int)))) then
        bif (inR (0 : Int) (a0.2.2.2.2.length)) then
          bif (decide (0 ≤ (if (IntKind.i64.wrap ((rdI ((0 : Int), (0 : Int)) a0.2.2.2.2 (Int.toNat (0 : Int))).1 - a0.1)) < (if a1 < a0.2.2.1 then a1 else a0.2.2.1) then (IntKind.i64.wrap ((rdI ((0 : Int), (0 : Int)) a0.2.2.2.2 (Int.toNat (0 : Int))).1 - a0.1)) else (if a1 < a0.2.2.1 then a1 else a0.2.2.1))) && decide ((if (IntKind.i64.wrap ((rdI ((0 : Int), (0 : Int)) a0.2.2.2.2 (Int.toNat (0 : Int))).1 - a0.1)) < (if a1 < a0.2.2.1 then a1 else a0.2.2.1) then (IntKind.i64.wrap ((rdI ((0 : Int), (0 : Int)) a0.2.2.2.2 (Int.toNat (0 : Int))).1 - a0.1)) else (if a1 < a0.2.2.1 then a1 else a0.2.2.1)) ≤ ((a0.2.1.length) : Int))) then
            bif (Nat.ble (([] : List Int).length + (a0.2.1.take (Int.toNat (if (IntKind.i64.wrap ((rdI ((0 : Int), (0 : Int)) a0.2.2.2.2 (Int.toNat (0 : Int))).1 - a0.1)) < (if a1 < a0.2.2.1 then a1 else a0.2.2.1) then (IntKind.i64.wrap ((rdI ((0 : Int), (0 : Int)) a0.2.2.2.2 (Int.toNat (0 : Int))).1 - a0.1)) else (if a1 < a0.2.2.1 then a1 else a0.2.2.1)))).length) big) then
              some ((a0.1, (([] : List Int) ++ (a0.2.1.take (Int.toNat (if (IntKind.i64.wrap ((rdI ((0 : Int), (0 : Int)) a0.2.2.2.2 (Int.toNat (0 : Int))).1 - a0.1)) < (if a1 < a0.2.2.1 then a1 else a0.2.2.1) then (IntKind.i64.wrap ((rdI ((0 : Int), (0 : Int)) a0.2.2.2.2 (Int.toNat (0 : Int))).1 - a0.1)) else (if a1 < a0.2.2.1 then a1 else a0.2.2.1))))), ()), ())
            else
              none
          else
            none
        else
          none
      else
        bif (decide (0 ≤ (if a1 < a0.2.2.1 then a1 else a0.2.2.1)) && decide ((if a1 < a0.2.2.1 then a1 else a0.2.2.1) ≤ ((a0.2.1.length) : Int))) then
          bif (Nat.ble (([] : List Int).length + (a0.2.1.take (Int.toNat (if a1 < a0.2.2.1 then a1 else a0.2.2.1))).length) big) then
            some ((a0.1, (([] : List Int) ++ (a0.2.1.take (Int.toNat (if a1 < a0.2.2.1 then a1 else a0.2.2.1)))), ()), ())
          else
            none
        else
          none
/-! spec.EndTick (function 202) -/
noncomputable def F_spec_EndTick (a0 : TEnd) (a1 : Int) : Option ((TEnd × (List TSegment) × Unit) × (Unit)) :=
  (F_spec_EndOk a0).bind fun y1 =>
    bif (bif (!y1.1.1) then true else (!(F_spec_l1In a1 (0 : Int) (900000 : Int)))) then
      some ((((0 : Int), (0 : Int), (0 : Int), (0 : Int), (0 : Int), (0 : Int), ((0 : Int), ([] : List Int), (0 : Int), (0 : Int), ([] : List TRange)), ((0 : Int), (0 : Int), ([] : List Int), ([] : List TEarly)), false, false, false, (0 : Int), (0 : Int), (0 : Int), (0 : Int), (0 : Int), (0 : Int)), ([] : List TSegment), ()), ())
    else
      (F_spec_l15Copy a0).bind fun y2 =>
        bif (bif (decide (a0.2.2.2.2.2.2.2.2.2.2.2.2.1 = (0 : Int))) then true else (decide (a1 < a0.2.2.2.2.2.2.2.2.2.2.2.2.1))) then
          some ((y2.1.1, ([] : List TSegment), ()), ())
        else
          bif (decide (a0.2.2.2.2.2.2.2.2.2.2.2.2.2.1 = (8 : Int))) then
            some ((((5 : Int), y2.1.1.2.1, y2.1.1.2.2.1, y2.1.1.2.2.2.1, y2.1.1.2.2.2.2.1, y2.1.1.2.2.2.2.2.1, y2.1.1.2.2.2.2.2.2.1, y2.1.1.2.2.2.2.2.2.2.1, y2.1.1.2.2.2.2.2.2.2.2.1, y2.1.1.2.2.2.2.2.2.2.2.2.1, y2.1.1.2.2.2.2.2.2.2.2.2.2.1, y2.1.1.2.2.2.2.2.2.2.2.2.2.2.1, (0 : Int), y2.1.1.2.2.2.2.2.2.2.2.2.2.2.2.2), ([] : List TSegment), ()), ())
          else
            (F_spec_ClockLate a0.2.2.2.2.2.2.2.2.2.2.2.2.2.2).bind fun y3 =>
              bif (bif (decide (a0.1 = (2 : Int))) then true else (decide (a0.1 = (3 : Int)))) then
                (F_spec_l15First (y2.1.1.1, y2.1.1.2.1, y2.1.1.2.2.1, y2.1.1.2.2.2.1, y2.1.1.2.2.2.2.1, y2.1.1.2.2.2.2.2.1, y2.1.1.2.2.2.2.2.2.1, y2.1.1.2.2.2.2.2.2.2.1, y2.1.1.2.2.2.2.2.2.2.2.1, y2.1.1.2.2.2.2.2.2.2.2.2.1, y2.1.1.2.2.2.2.2.2.2.2.2.2.1, y2.1.1.2.2.2.2.2.2.2.2.2.2.2.1, (IntKind.i64.wrap (a1 + y3.1.1.2.2)), (IntKind.i64.wrap (a0.2.2.2.2.2.2.2.2.2.2.2.2.2.1 + (1 : Int))), y3.1.1)).bind fun y4 =>
                  some (((y2.1.1.1, y2.1.1.2.1, y2.1.1.2.2.1, y2.1.1.2.2.2.1, y2.1.1.2.2.2.2.1, y2.1.1.2.2.2.2.2.1, y2.1.1.2.2.2.2.2.2.1, y2.1.1.2.2.2.2.2.2.2.1, y2.1.1.2.2.2.2.2.2.2.2.1, y2.1.1.2.2.2.2.2.2.2.2.2.1, y2.1.1.2.2.2.2.2.2.2.2.2.2.1, y2.1.1.2.2.2.2.2.2.2.2.2.2.2.1, (IntKind.i64.wrap (a1 + y3.1.1.2.2)), (IntKind.i64.wrap (a0.2.2.2.2.2.2.2.2.2.2.2.2.2.1 + (1 : Int))), y3.1.1), ([y4.1.1]), ()), ())
              else
                bif (!decide (a0.1 = (4 : Int))) then
                  some (((y2.1.1.1, y2.1.1.2.1, y2.1.1.2.2.1, y2.1.1.2.2.2.1, y2.1.1.2.2.2.2.1, y2.1.1.2.2.2.2.2.1, y2.1.1.2.2.2.2.2.2.1, y2.1.1.2.2.2.2.2.2.2.1, y2.1.1.2.2.2.2.2.2.2.2.1, y2.1.1.2.2.2.2.2.2.2.2.2.1, y2.1.1.2.2.2.2.2.2.2.2.2.2.1, y2.1.1.2.2.2.2.2.2.2.2.2.2.2.1, (0 : Int), (IntKind.i64.wrap (a0.2.2.2.2.2.2.2.2.2.2.2.2.2.1 + (1 : Int))), y3.1.1), ([] : List TSegment), ()), ())
                else
                  bif (decide ((0 : Int) < a0.2.2.2.2.2.2.1.2.2.1)) then
                    (F_spec_MouthAgain y2.1.1.2.2.2.2.2.2.1 (12 : Int)).bind fun y5 =>
                      (F_spec_l15Segment (y2.1.1.1, y2.1.1.2.1, y2.1.1.2.2.1, y2.1.1.2.2.2.1, y2.1.1.2.2.2.2.1, y2.1.1.2.2.2.2.2.1, y2.1.1.2.2.2.2.2.2.1, y2.1.1.2.2.2.2.2.2.2.1, y2.1.1.2.2.2.2.2.2.2.2.1, y2.1.1.2.2.2.2.2.2.2.2.2.1, y2.1.1.2.2.2.2.2.2.2.2.2.2.1, y2.1.1.2.2.2.2.2.2.2.2.2.2.2.1, (IntKind.i64.wrap (a1 + y3.1.1.2.2)), (IntKind.i64.wrap (a0.2.2.2.2.2.2.2.2.2.2.2.2.2.1 + (1 : Int))), y3.1.1) y5.1.1).bind fun y6 =>
                        some (((y2.1.1.1, y2.1.1.2.1, y2.1.1.2.2.1, y2.1.1.2.2.2.1, y2.1.1.2.2.2.2.1, y2.1.1.2.2.2.2.2.1, y2.1.1.2.2.2.2.2.2.1, y2.1.1.2.2.2.2.2.2.2.1, y2.1.1.2.2.2.2.2.2.2.2.1, y2.1.1.2.2.2.2.2.2.2.2.2.1, y2.1.1.2.2.2.2.2.2.2.2.2.2.1, y2.1.1.2.2.2.2.2.2.2.2.2.2.2.1, (IntKind.i64.wrap (a1 + y3.1.1.2.2)), (IntKind.i64.wrap (a0.2.2.2.2.2.2.2.2.2.2.2.2.2.1 + (1 : Int))), y3.1.1), ([(y6.1.1.1, y6.1.1.2.1, y6.1.1.2.2.1, y6.1.1.2.2.2.1, y6.1.1.2.2.2.2.1, y6.1.1.2.2.2.2.2.1, y6.1.1.2.2.2.2.2.2.1, y6.1.1.2.2.2.2.2.2.2.1, y6.1.1.2.2.2.2.2.2.2.2.1, y6.1.1.2.2.2.2.2.2.2.2.2.1, y5.1.2.1)]), ()), ())
                  else
                    bif (bif a0.2.2.2.2.2.2.2.2.2.1 then (!a0.2.2.2.2.2.2.2.2.2.2.1) else false) then
                      (F_spec_l15Last (y2.1.1.1, y2.1.1.2.1, y2.1.1.2.2.1, y2.1.1.2.2.2.1, y2.1.1.2.2.2.2.1, y2.1.1.2.2.2.2.2.1, y2.1.1.2.2.2.2.2.2.1, y2.1.1.2.2.2.2.2.2.2.1, y2.1.1.2.2.2.2.2.2.2.2.1, y2.1.1.2.2.2.2.2.2.2.2.2.1, y2.1.1.2.2.2.2.2.2.2.2.2.2.1, y2.1.1.2.2.2.2.2.2.2.2.2.2.2.1, (IntKind.i64.wrap (a1 + y3.1.1.2.2)), (IntKind.i64.wrap (a0.2.2.2.2.2.2.2.2.2.2.2.2.2.1 + (1 : Int))), y3.1.1)).bind fun y7 =>
                        some (((y2.1.1.1, y2.1.1.2.1, y2.1.1.2.2.1, y2.1.1.2.2.2.1, y2.1.1.2.2.2.2.1, y2.1.1.2.2.2.2.2.1, y2.1.1.2.2.2.2.2.2.1, y2.1.1.2.2.2.2.2.2.2.1, y2.1.1.2.2.2.2.2.2.2.2.1, y2.1.1.2.2.2.2.2.2.2.2.2.1, y2.1.1.2.2.2.2.2.2.2.2.2.2.1, y2.1.1.2.2.2.2.2.2.2.2.2.2.2.1, (IntKind.i64.wrap (a1 + y3.1.1.2.2)), (IntKind.i64.wrap (a0.2.2.2.2.2.2.2.2.2.2.2.2.2.1 + (1 : Int))), y3.1.1), ([y7.1.1]), ()), ())
                    else
                      (F_spec_l15Segment (y2.1.1.1, y2.1.1.2.1, y2.1.1.2.2.1, y2.1.1.2.2.2.1, y2.1.1.2.2.2.2.1, y2.1.1.2.2.2.2.2.1, y2.1.1.2.2.2.2.2.2.1, y2.1.1.2.2.2.2.2.2.2.1, y2.1.1.2.2.2.2.2.2.2.2.1, y2.1.1.2.2.2.2.2.2.2.2.2.1, y2.1.1.2.2.2.2.2.2.2.2.2.2.1, y2.1.1.2.2.2.2.2.2.2.2.2.2.2.1, (IntKind.i64.wrap (a1 + y3.1.1.2.2)), (IntKind.i64.wrap (a0.2.2.2.2.2.2.2.2.2.2.2.2.2.1 + (1 : Int))), y3.1.1) (IntKind.i64.wrap (y2.1.1.2.2.2.2.2.2.1.1 - (1 : Int)))).bind fun y8 =>
                        some (((y2.1.1.1, y2.1.1.2.1, y2.1.1.2.2.1, y2.1.1.2.2.2.1, y2.1.1.2.2.2.2.1, y2.1.1.2.2.2.2.2.1, y2.1.1.2.2.2.2.2.2.1, y2.1.1.2.2.2.2.2.2.2.1, y2.1.1.2.2.2.2.2.2.2.2.1, y2.1.1.2.2.2.2.2.2.2.2.2.1, y2.1.1.2.2.2.2.2.2.2.2.2.2.1, y2.1.1.2.2.2.2.2.2.2.2.2.2.2.1, (IntKind.i64.wrap (a1 + y3.1.1.2.2)), (IntKind.i64.wrap (a0.2.2.2.2.2.2.2.2.2.2.2.2.2.1 + (1 : Int))), y3.1.1), ([y8.1.1]), ()), ())
/-! spec.SegmentOk (function 248) -/
noncomputable def L_spec_SegmentOk_4 : Nat → Unit × Int × TSegment × Unit → Option ((Bool × Unit) × (Unit))
  | 0, _ => none
  | n + 1, p =>
    bif (decide (p.2.1 < (((p.2.2.1.2.2.2.2.2.2.2.2.2.1.length) : Int)))) then
      bif (inR p.2.1 (p.2.2.1.2.2.2.2.2.2.2.2.2.1.length)) then
        bif ((inR p.2.1 (p.2.2.1.2.2.2.2.2.2.2.2.2.1.length)) || (!(!(!(F_spec_l1In (rdI ((0 : Int), (0 : Int)) p.2.2.1.2.2.2.2.2.2.2.2.2.1 (Int.toNat p.2.1)).1 (0 : Int) (65535 : Int)))))) then
          bif (bif (!(F_spec_l1In (rdI ((0 : Int), (0 : Int)) p.2.2.1.2.2.2.2.2.2.2.2.2.1 (Int.toNat p.2.1)).1 (0 : Int) (65535 : Int))) then true else (!(F_spec_l1In (rdI ((0 : Int), (0 : Int)) p.2.2.1.2.2.2.2.2.2.2.2.2.1 (Int.toNat p.2.1)).2 (0 : Int) (65535 : Int)))) then
            some ((false, ()), ())
          else
            L_spec_SegmentOk_4 n ((), (IntKind.i64.wrap (p.2.1 + (1 : Int))), p.2.2.1, ())
        else
          none
      else
        none
    else
      bif (bif (!p.2.2.1.2.2.2.2.2.2.1) then (bif (bif (!decide (p.2.2.1.2.2.2.1 = (0 : Int))) then true else (!decide (p.2.2.1.2.2.2.2.1 = (0 : Int)))) then true else (decide ((0 : Int) < (((p.2.2.1.2.2.2.2.2.2.2.2.2.1.length) : Int))))) else false) then
        some ((false, ()), ())
      else
        some (((bif (!p.2.2.1.2.2.2.2.2.2.2.2.1) then true else (bif (bif (!p.2.2.1.2.2.2.2.2.1) then (!p.2.2.1.2.2.2.2.2.2.2.1) else false) then (decide ((((p.2.2.1.2.2.2.2.2.2.2.2.2.2.length) : Int)) = (0 : Int))) else false)), ()), ())
noncomputable def F_spec_SegmentOk (a0 : TSegment) : Option ((Bool × Unit) × (Unit)) :=
  bif (bif (bif (bif (bif (bif (bif (!(F_spec_l1In a0.1 (1 : Int) (255 : Int))) then true else (!(F_spec_l1In a0.2.1 (1 : Int) (255 : Int)))) then true else (!(F_spec_l1In a0.2.2.1 (0 : Int) (65535 : Int)))) then true else (!(F_spec_l1In a0.2.2.2.1 (0 : Int) (65535 : Int)))) then true else (!(F_spec_l1In a0.2.2.2.2.1 (0 : Int) (255 : Int)))) then true else (decide ((2 : Int) < (((a0.2.2.2.2.2.2.2.2.2.1.length) : Int))))) then true else (decide ((12 : Int) < (((a0.2.2.2.2.2.2.2.2.2.2.length) : Int))))) then
    some ((false, ()), ())
  else
    L_spec_SegmentOk_4 fuel ((), (0 : Int), a0, ())
/-! spec.l15Flush (function 249) -/
noncomputable def F_spec_l15Flush (a0 : TEnd) : Option ((TEnd × (List TSegment) × Unit) × (Unit)) :=
  (F_spec_l15Bytes a0).bind fun y1 =>
    bif (bif (bif (bif (decide (y1.1.1.1 = (4 : Int))) then y1.1.1.2.2.2.2.2.2.2.2.1 else false) then (!y1.1.1.2.2.2.2.2.2.2.2.2.1) else false) then (decide (y1.1.1.2.2.2.2.2.2.1.2.2.1 = (((y1.1.1.2.2.2.2.2.2.1.2.1.length) : Int)))) else false) then
      (F_spec_l15Last (y1.1.1.1, y1.1.1.2.1, y1.1.1.2.2.1, y1.1.1.2.2.2.1, y1.1.1.2.2.2.2.1, y1.1.1.2.2.2.2.2.1, y1.1.1.2.2.2.2.2.2.1, y1.1.1.2.2.2.2.2.2.2.1, y1.1.1.2.2.2.2.2.2.2.2.1, true, y1.1.1.2.2.2.2.2.2.2.2.2.2)).bind fun y2 =>
        bif (Nat.ble (y1.1.2.1.length + ([y2.1.1]).length) big) then
          some (((y1.1.1.1, y1.1.1.2.1, y1.1.1.2.2.1, y1.1.1.2.2.2.1, y1.1.1.2.2.2.2.1, y1.1.1.2.2.2.2.2.1, y1.1.1.2.2.2.2.2.2.1, y1.1.1.2.2.2.2.2.2.2.1, y1.1.1.2.2.2.2.2.2.2.2.1, true, y1.1.1.2.2.2.2.2.2.2.2.2.2), (y1.1.2.1 ++ ([y2.1.1])), ()), ())
        else
          none
    else
      some ((y1.1.1, y1.1.2.1, ()), ())
/-! spec.SeqPlace (function 266) -/
noncomputable def F_spec_SeqPlace (a0 : Int) (a1 : Int) : Option ((Int × Unit) × (Unit)) :=
  bif (bif (!(F_spec_l1In a0 (0 : Int) (1000000 : Int))) then true else (!(F_spec_l1In a1 (0 : Int) (65535 : Int)))) then
    some ((a0, ()), ())
  else
    (F_spec_SeqOf a0).bind fun y1 =>
      (F_spec_SeqOf (IntKind.i64.wrap (a1 - y1.1.1))).bind fun y2 =>
        bif (decide ((32768 : Int) ≤ y2.1.1)) then
          some (((IntKind.i64.wrap (a0 + (IntKind.i64.wrap (y2.1.1 - (65536 : Int))))), ()), ())
        else
          some (((IntKind.i64.wrap (a0 + y2.1.1)), ()), ())
/-! spec.MouthHear (function 267) -/
noncomputable def L_spec_MouthHear_13 : Nat → Int × (List TRange) × Unit × Unit × Int × Int × TMouth × TMouth × Unit → Option ((TMouth × Int × Unit) × (Unit))
  | 0, _ => none
  | n + 1, p =>
    bif (decide (p.2.2.2.2.2.1 < (((p.2.1.length) : Int)))) then
      bif (inR p.2.2.2.2.2.1 (p.2.1.length)) then
        bif ((inR (IntKind.i64.wrap ((((p.2.2.2.2.2.2.2.1.2.2.2.2.length) : Int)) - (1 : Int))) (p.2.2.2.2.2.2.2.1.2.2.2.2.length)) || (!((bif (bif (bif (decide (p.1 < (rdI ((0 : Int), (0 : Int)) p.2.1 (Int.toNat p.2.2.2.2.2.1)).1)) then (decide ((rdI ((0 : Int), (0 : Int)) p.2.1 (Int.toNat p.2.2.2.2.2.1)).1 < (rdI ((0 : Int), (0 : Int)) p.2.1 (Int.toNat p.2.2.2.2.2.1)).2)) else false) then (decide ((rdI ((0 : Int), (0 : Int)) p.2.1 (Int.toNat p.2.2.2.2.2.1)).2 ≤ (IntKind.i64.wrap (p.1 + p.2.2.2.2.2.2.2.1.2.2.1)))) else false) then (decide ((((p.2.2.2.2.2.2.2.1.2.2.2.2.length) : Int)) < (2 : Int))) else false) && (!(decide ((IntKind.i64.wrap ((((p.2.2.2.2.2.2.2.1.2.2.2.2.length) : Int)) - (1 : Int))) < (0 : Int))))))) then
          bif (bif (bif (bif (bif (decide (p.1 < (rdI ((0 : Int), (0 : Int)) p.2.1 (Int.toNat p.2.2.2.2.2.1)).1)) then (decide ((rdI ((0 : Int), (0 : Int)) p.2.1 (Int.toNat p.2.2.2.2.2.1)).1 < (rdI ((0 : Int), (0 : Int)) p.2.1 (Int.toNat p.2.2.2.2.2.1)).2)) else false) then (decide ((rdI ((0 : Int), (0 : Int)) p.2.1 (Int.toNat p.2.2.2.2.2.1)).2 ≤ (IntKind.i64.wrap (p.1 + p.2.2.2.2.2.2.2.1.2.2.1)))) else false) then (decide ((((p.2.2.2.2.2.2.2.1.2.2.2.2.length) : Int)) < (2 : Int))) else false) then (bif (decide ((IntKind.i64.wrap ((((p.2.2.2.2.2.2.2.1.2.2.2.2.length) : Int)) - (1 : Int))) < (0 : Int))) then true else (decide ((rdI ((0 : Int), (0 : Int)) p.2.2.2.2.2.2.2.1.2.2.2.2 (Int.toNat (IntKind.i64.wrap ((((p.2.2.2.2.2.2.2.1.2.2.2.2.length) : Int)) - (1 : Int))))).2 < (rdI ((0 : Int), (0 : Int)) p.2.1 (Int.toNat p.2.2.2.2.2.1)).1))) else false) then
            bif (Nat.ble (p.2.2.2.2.2.2.2.1.2.2.2.2.length + ([(rdI ((0 : Int), (0 : Int)) p.2.1 (Int.toNat p.2.2.2.2.2.1))]).length) big) then
              L_spec_MouthHear_13 n (p.1, p.2.1, (), (), p.2.2.2.2.1, (IntKind.i64.wrap (p.2.2.2.2.2.1 + (1 : Int))), p.2.2.2.2.2.2.1, (p.2.2.2.2.2.2.2.1.1, p.2.2.2.2.2.2.2.1.2.1, p.2.2.2.2.2.2.2.1.2.2.1, p.2.2.2.2.2.2.2.1.2.2.2.1, (p.2.2.2.2.2.2.2.1.2.2.2.2 ++ ([(rdI ((0 : Int), (0 : Int)) p.2.1 (Int.toNat p.2.2.2.2.2.1))]))), ())
            else
              none
          else
            L_spec_MouthHear_13 n (p.1, p.2.1, (), (), p.2.2.2.2.1, (IntKind.i64.wrap (p.2.2.2.2.2.1 + (1 : Int))), p.2.2.2.2.2.2.1, p.2.2.2.2.2.2.2.1, ())
        else
          none
      else
        none
    else
      bif (decide ((1000000 : Int) < p.1)) then
        some ((((0 : Int), ([] : List Int), (0 : Int), (0 : Int), ([] : List TRange)), (0 : Int), ()), ())
      else
        some ((p.2.2.2.2.2.2.2.1, p.2.2.2.2.1, ()), ())
noncomputable def F_spec_MouthHear (a0 : TMouth) (a1 : Int) (a2 : Int) (a3 : (List TRange)) : Option ((TMouth × Int × Unit) × (Unit)) :=
  (F_spec_MouthOk a0).bind fun y1 =>
    bif (bif (!y1.1.1) then true else (!(F_spec_l1In a2 (0 : Int) (255 : Int)))) then
      some ((((0 : Int), ([] : List Int), (0 : Int), (0 : Int), ([] : List TRange)), (0 : Int), ()), ())
    else
      (F_spec_l13Copy a0).bind fun y2 =>
        bif (bif (decide (a1 < a0.1)) then true else (decide (a0.2.2.1 < (IntKind.i64.wrap (a1 - a0.1))))) then
          some ((y2.1.1, (0 : Int), ()), ())
        else
          bif (decide (0 ≤ (IntKind.i64.wrap (a1 - a0.1))) && decide ((IntKind.i64.wrap (a1 - a0.1)) ≤ ((a0.2.1.length) : Int))) then
            bif (Nat.ble (([] : List Int).length + (a0.2.1.drop (Int.toNat (IntKind.i64.wrap (a1 - a0.1)))).length) big) then
              L_spec_MouthHear_13 fuel (a1, a3, (), (), (IntKind.i64.wrap (a1 - a0.1)), (0 : Int), ((0 : Int), ([] : List Int), (0 : Int), (0 : Int), ([] : List TRange)), (a1, (([] : List Int) ++ (a0.2.1.drop (Int.toNat (IntKind.i64.wrap (a1 - a0.1))))), (IntKind.i64.wrap (a0.2.2.1 - (IntKind.i64.wrap (a1 - a0.1)))), a2, ([] : List TRange)), ())
            else
              none
          else
            none
/-! spec.l15Took (function 250) -/
noncomputable def L_spec_l15Took_10 : Nat → Unit × Unit × Unit × Int × Bool × (List TRange) × Int × TEnd × TSegment × TEnd × Unit → Option ((TEnd × Bool × Unit) × (Unit))
  | 0, _ => none
  | n + 1, p =>
    bif (decide (p.2.2.2.2.2.2.1 < (((p.2.2.2.2.2.2.2.2.1.2.2.2.2.2.2.2.2.2.1.length) : Int)))) then
      bif (inR p.2.2.2.2.2.2.1 (p.2.2.2.2.2.2.2.2.1.2.2.2.2.2.2.2.2.2.1.length)) then
        (F_spec_SeqPlace p.2.2.2.2.2.2.2.1.2.2.2.2.2.2.1.1 (rdI ((0 : Int), (0 : Int)) p.2.2.2.2.2.2.2.2.1.2.2.2.2.2.2.2.2.2.1 (Int.toNat p.2.2.2.2.2.2.1)).1).bind fun y1 =>
          bif (inR p.2.2.2.2.2.2.1 (p.2.2.2.2.2.2.2.2.1.2.2.2.2.2.2.2.2.2.1.length)) then
            (F_spec_SeqPlace p.2.2.2.2.2.2.2.1.2.2.2.2.2.2.1.1 (rdI ((0 : Int), (0 : Int)) p.2.2.2.2.2.2.2.2.1.2.2.2.2.2.2.2.2.2.1 (Int.toNat p.2.2.2.2.2.2.1)).2).bind fun y2 =>
              bif (Nat.ble (p.2.2.2.2.2.1.length + ([(y1.1.1, y2.1.1)]).length) big) then
                L_spec_l15Took_10 n ((), (), (), p.2.2.2.1, p.2.2.2.2.1, (p.2.2.2.2.2.1 ++ ([(y1.1.1, y2.1.1)])), (IntKind.i64.wrap (p.2.2.2.2.2.2.1 + (1 : Int))), p.2.2.2.2.2.2.2.1, p.2.2.2.2.2.2.2.2.1, p.2.2.2.2.2.2.2.2.2.1, ())
              else
                none
          else
            none
      else
        none
    else
      (F_spec_MouthHear p.2.2.2.2.2.2.2.1.2.2.2.2.2.2.1 p.2.2.2.1 p.2.2.2.2.2.2.2.2.1.2.2.2.2.1 p.2.2.2.2.2.1).bind fun y3 =>
        (F_spec_MouthOk y3.1.1).bind fun y4 =>
          bif (bif y4.1.1 then (decide (p.2.2.2.2.2.2.2.1.2.2.2.2.2.2.1.1 ≤ y3.1.1.1)) else false) then
            some (((p.2.2.2.2.2.2.2.1.1, p.2.2.2.2.2.2.2.1.2.1, p.2.2.2.2.2.2.2.1.2.2.1, p.2.2.2.2.2.2.2.1.2.2.2.1, p.2.2.2.2.2.2.2.1.2.2.2.2.1, p.2.2.2.2.2.2.2.1.2.2.2.2.2.1, y3.1.1, p.2.2.2.2.2.2.2.1.2.2.2.2.2.2.2), (bif (bif p.2.2.2.2.1 then true else (decide ((0 : Int) < y3.1.2.1))) then true else (bif (decide ((0 : Int) < y3.1.1.2.2.2.1)) then (decide (p.2.2.2.2.2.2.2.1.2.2.2.2.2.2.1.2.2.2.1 = (0 : Int))) else false)), ()), ())
          else
            some ((p.2.2.2.2.2.2.2.1, p.2.2.2.2.1, ()), ())
noncomputable def F_spec_l15Took (a0 : TEnd) (a1 : TSegment) : Option ((TEnd × Bool × Unit) × (Unit)) :=
  (F_spec_SeqPlace a0.2.2.2.2.2.2.1.1 a1.2.2.2.1).bind fun y1 =>
    bif (bif a0.2.2.2.2.2.2.2.2.2.1 then (decide (y1.1.1 = (IntKind.i64.wrap ((IntKind.i64.wrap (a0.2.2.2.2.2.2.1.1 + (((a0.2.2.2.2.2.2.1.2.1.length) : Int)))) + (1 : Int))))) else false) then
      L_spec_l15Took_10 fuel ((), (), (), (IntKind.i64.wrap (a0.2.2.2.2.2.2.1.1 + (((a0.2.2.2.2.2.2.1.2.1.length) : Int)))), (!a0.2.2.2.2.2.2.2.2.2.2.1), ([] : List TRange), (0 : Int), (a0.1, a0.2.1, a0.2.2.1, a0.2.2.2.1, a0.2.2.2.2.1, a0.2.2.2.2.2.1, a0.2.2.2.2.2.2.1, a0.2.2.2.2.2.2.2.1, a0.2.2.2.2.2.2.2.2.1, a0.2.2.2.2.2.2.2.2.2.1, true, a0.2.2.2.2.2.2.2.2.2.2.2), a1, ((0 : Int), (0 : Int), (0 : Int), (0 : Int), (0 : Int), (0 : Int), ((0 : Int), ([] : List Int), (0 : Int), (0 : Int), ([] : List TRange)), ((0 : Int), (0 : Int), ([] : List Int), ([] : List TEarly)), false, false, false, (0 : Int), (0 : Int), (0 : Int), (0 : Int), (0 : Int), (0 : Int)), ())
    else
      L_spec_l15Took_10 fuel ((), (), (), y1.1.1, false, ([] : List TRange), (0 : Int), a0, a1, ((0 : Int), (0 : Int), (0 : Int), (0 : Int), (0 : Int), (0 : Int), ((0 : Int), ([] : List Int), (0 : Int), (0 : Int), ([] : List TRange)), ((0 : Int), (0 : Int), ([] : List Int), ([] : List TEarly)), false, false, false, (0 : Int), (0 : Int), (0 : Int), (0 : Int), (0 : Int), (0 : Int)), ())
/-! spec.l12Put (function 281) -/
noncomputable def L_spec_l12Put_4 : Nat → (List TEarly) × Unit × (List TEarly) × Bool × Int × TEarly × Unit → Option (((List TEarly) × Unit) × (Unit))
  | 0, _ => none
  | n + 1, p =>
    bif (decide (p.2.2.2.2.1 < (((p.1.length) : Int)))) then
      bif ((inR p.2.2.2.2.1 (p.1.length)) || (!(!p.2.2.2.1))) then
        bif (bif (!p.2.2.2.1) then (decide (p.2.2.2.2.2.1.1 < (rdI ((0 : Int), (0 : Int)) p.1 (Int.toNat p.2.2.2.2.1)).1)) else false) then
          bif (Nat.ble (p.2.2.1.length + ([p.2.2.2.2.2.1]).length) big) then
            bif (inR p.2.2.2.2.1 (p.1.length)) then
              bif (decide (p.2.2.2.2.2.1.1 = (rdI ((0 : Int), (0 : Int)) p.1 (Int.toNat p.2.2.2.2.1)).1)) then
                bif (inR p.2.2.2.2.1 (p.1.length)) then
                  bif (Nat.ble ((p.2.2.1 ++ ([p.2.2.2.2.2.1])).length + ([(rdI ((0 : Int), (0 : Int)) p.1 (Int.toNat p.2.2.2.2.1))]).length) big) then
                    L_spec_l12Put_4 n (p.1, (), ((p.2.2.1 ++ ([p.2.2.2.2.2.1])) ++ ([(rdI ((0 : Int), (0 : Int)) p.1 (Int.toNat p.2.2.2.2.1))])), true, (IntKind.i64.wrap (p.2.2.2.2.1 + (1 : Int))), p.2.2.2.2.2.1, ())
                  else
                    none
                else
                  none
              else
                bif (inR p.2.2.2.2.1 (p.1.length)) then
                  bif (Nat.ble ((p.2.2.1 ++ ([p.2.2.2.2.2.1])).length + ([(rdI ((0 : Int), (0 : Int)) p.1 (Int.toNat p.2.2.2.2.1))]).length) big) then
                    L_spec_l12Put_4 n (p.1, (), ((p.2.2.1 ++ ([p.2.2.2.2.2.1])) ++ ([(rdI ((0 : Int), (0 : Int)) p.1 (Int.toNat p.2.2.2.2.1))])), true, (IntKind.i64.wrap (p.2.2.2.2.1 + (1 : Int))), p.2.2.2.2.2.1, ())
                  else
                    none
                else
                  none
            else
              none
          else
            none
        else
          bif (inR p.2.2.2.2.1 (p.1.length)) then
            bif (decide (p.2.2.2.2.2.1.1 = (rdI ((0 : Int), (0 : Int)) p.1 (Int.toNat p.2.2.2.2.1)).1)) then
              bif (inR p.2.2.2.2.1 (p.1.length)) then
                bif (Nat.ble (p.2.2.1.length + ([(rdI ((0 : Int), (0 : Int)) p.1 (Int.toNat p.2.2.2.2.1))]).length) big) then
                  L_spec_l12Put_4 n (p.1, (), (p.2.2.1 ++ ([(rdI ((0 : Int), (0 : Int)) p.1 (Int.toNat p.2.2.2.2.1))])), true, (IntKind.i64.wrap (p.2.2.2.2.1 + (1 : Int))), p.2.2.2.2.2.1, ())
                else
                  none
              else
                none
            else
              bif (inR p.2.2.2.2.1 (p.1.length)) then
                bif (Nat.ble (p.2.2.1.length + ([(rdI ((0 : Int), (0 : Int)) p.1 (Int.toNat p.2.2.2.2.1))]).length) big) then
                  L_spec_l12Put_4 n (p.1, (), (p.2.2.1 ++ ([(rdI ((0 : Int), (0 : Int)) p.1 (Int.toNat p.2.2.2.2.1))])), p.2.2.2.1, (IntKind.i64.wrap (p.2.2.2.2.1 + (1 : Int))), p.2.2.2.2.2.1, ())
                else
                  none
              else
                none
          else
            none
      else
        none
    else
      bif (!p.2.2.2.1) then
        bif (Nat.ble (p.2.2.1.length + ([p.2.2.2.2.2.1]).length) big) then
          some (((p.2.2.1 ++ ([p.2.2.2.2.2.1])), ()), ())
        else
          none
      else
        some ((p.2.2.1, ()), ())
noncomputable def F_spec_l12Put (a0 : (List TEarly)) (a1 : TEarly) : Option (((List TEarly) × Unit) × (Unit)) :=
  L_spec_l12Put_4 fuel (a0, (), ([] : List TEarly), false, (0 : Int), a1, ())
/-! spec.EarHear (function 268) -/
noncomputable def L_spec_EarHear_12 : Nat → Unit × (List TEarly) × Unit × Int × TEar × TEar × Unit → Option ((TEar × Unit) × (Unit))
  | 0, _ => none
  | n + 1, p =>
    bif ((inR p.2.2.2.1 (p.2.1.length)) || (!(decide (p.2.2.2.1 < (((p.2.1.length) : Int)))))) then
      bif (bif (decide (p.2.2.2.1 < (((p.2.1.length) : Int)))) then (decide ((rdI ((0 : Int), (0 : Int)) p.2.1 (Int.toNat p.2.2.2.1)).1 = p.2.2.2.2.2.1.1)) else false) then
        bif (inR p.2.2.2.1 (p.2.1.length)) then
          bif (Nat.ble (p.2.2.2.2.2.1.2.2.1.length + ([(rdI ((0 : Int), (0 : Int)) p.2.1 (Int.toNat p.2.2.2.1)).2]).length) big) then
            L_spec_EarHear_12 n ((), p.2.1, (), (IntKind.i64.wrap (p.2.2.2.1 + (1 : Int))), p.2.2.2.2.1, ((IntKind.i64.wrap (p.2.2.2.2.2.1.1 + (1 : Int))), p.2.2.2.2.2.1.2.1, (p.2.2.2.2.2.1.2.2.1 ++ ([(rdI ((0 : Int), (0 : Int)) p.2.1 (Int.toNat p.2.2.2.1)).2])), p.2.2.2.2.2.1.2.2.2), ())
          else
            none
        else
          none
      else
        bif (decide (0 ≤ p.2.2.2.1) && decide (p.2.2.2.1 ≤ ((p.2.1.length) : Int))) then
          bif (decide ((1000000 : Int) < p.2.2.2.2.2.1.1)) then
            some ((((0 : Int), (0 : Int), ([] : List Int), ([] : List TEarly)), ()), ())
          else
            some (((p.2.2.2.2.2.1.1, p.2.2.2.2.2.1.2.1, p.2.2.2.2.2.1.2.2.1, (p.2.1.drop (Int.toNat p.2.2.2.1))), ()), ())
        else
          none
    else
      none
noncomputable def L_spec_EarHear_6 : Nat → Int × (List Int) × Unit × Unit × Int × (List TEarly) × Int × TEar × TEar × Unit → Option ((TEar × Unit) × (Unit))
  | 0, _ => none
  | n + 1, p =>
    bif (decide (p.2.2.2.2.2.2.1 < (((p.2.1.length) : Int)))) then
      bif (bif (decide (p.2.2.2.2.2.2.2.1.1 ≤ (IntKind.i64.wrap (p.1 + p.2.2.2.2.2.2.1)))) then (decide ((IntKind.i64.wrap (p.1 + p.2.2.2.2.2.2.1)) < (IntKind.i64.wrap (p.2.2.2.2.2.2.2.1.1 + p.2.2.2.2.1)))) else false) then
        bif (inR p.2.2.2.2.2.2.1 (p.2.1.length)) then
          (F_spec_l12Put p.2.2.2.2.2.1 ((IntKind.i64.wrap (p.1 + p.2.2.2.2.2.2.1)), (rdI (0 : Int) p.2.1 (Int.toNat p.2.2.2.2.2.2.1)))).bind fun y1 =>
            L_spec_EarHear_6 n (p.1, p.2.1, (), (), p.2.2.2.2.1, y1.1.1, (IntKind.i64.wrap (p.2.2.2.2.2.2.1 + (1 : Int))), p.2.2.2.2.2.2.2.1, p.2.2.2.2.2.2.2.2.1, ())
        else
          none
      else
        L_spec_EarHear_6 n (p.1, p.2.1, (), (), p.2.2.2.2.1, p.2.2.2.2.2.1, (IntKind.i64.wrap (p.2.2.2.2.2.2.1 + (1 : Int))), p.2.2.2.2.2.2.2.1, p.2.2.2.2.2.2.2.2.1, ())
    else
      bif (Nat.ble (([] : List Int).length + p.2.2.2.2.2.2.2.1.2.2.1.length) big) then
        L_spec_EarHear_12 fuel ((), p.2.2.2.2.2.1, (), (0 : Int), p.2.2.2.2.2.2.2.2.1, (p.2.2.2.2.2.2.2.1.1, p.2.2.2.2.2.2.2.1.2.1, (([] : List Int) ++ p.2.2.2.2.2.2.2.1.2.2.1), ([] : List TEarly)), ())
      else
        none
noncomputable def F_spec_EarHear (a0 : TEar) (a1 : Int) (a2 : (List Int)) : Option ((TEar × Unit) × (Unit)) :=
  (F_spec_EarOk a0).bind fun y1 =>
    bif (bif (!y1.1.1) then true else (!(F_spec_l1In a1 (0 : Int) (1000000 : Int)))) then
      some ((((0 : Int), (0 : Int), ([] : List Int), ([] : List TEarly)), ()), ())
    else
      (F_spec_EarFree a0).bind fun y2 =>
        bif (Nat.ble (([] : List TEarly).length + a0.2.2.2.length) big) then
          L_spec_EarHear_6 fuel (a1, a2, (), (), y2.1.1, (([] : List TEarly) ++ a0.2.2.2), (0 : Int), a0, ((0 : Int), (0 : Int), ([] : List Int), ([] : List TEarly)), ())
        else
          none
/-! spec.l15Heard (function 251) -/
noncomputable def F_spec_l15Heard (a0 : TEnd) (a1 : TSegment) : Option ((TEnd × Unit) × (Unit)) :=
  (F_spec_SeqPlace a0.2.2.2.2.2.2.2.1.1 a1.2.2.1).bind fun y1 =>
    bif a1.2.2.2.2.2.1 then
      bif (bif (decide ((IntKind.i64.wrap (y1.1.1 + (1 : Int))) < (0 : Int))) then true else (bif (decide ((0 : Int) ≤ a0.2.2.2.2.2.2.2.2.2.2.2.1)) then (decide (a0.2.2.2.2.2.2.2.2.2.2.2.1 < (IntKind.i64.wrap ((IntKind.i64.wrap (y1.1.1 + (1 : Int))) + (((a1.2.2.2.2.2.2.2.2.2.2.length) : Int)))))) else false)) then
        some ((a0, ()), ())
      else
        (F_spec_EarHear a0.2.2.2.2.2.2.2.1 (IntKind.i64.wrap (y1.1.1 + (1 : Int))) a1.2.2.2.2.2.2.2.2.2.2).bind fun y2 =>
          (F_spec_EarOk y2.1.1).bind fun y3 =>
            bif (!y3.1.1) then
              some ((a0, ()), ())
            else
              bif (bif (bif a1.2.2.2.2.2.2.2.1 then (decide (a0.2.2.2.2.2.2.2.2.2.2.2.1 = (-1 : Int))) else false) then (decide (y2.1.1.1 ≤ (IntKind.i64.wrap ((IntKind.i64.wrap (y1.1.1 + (1 : Int))) + (((a1.2.2.2.2.2.2.2.2.2.2.length) : Int)))))) else false) then
                (F_spec_EarFree y2.1.1).bind fun y4 =>
                  bif ((inR (IntKind.i64.wrap ((((y2.1.1.2.2.2.length) : Int)) - (1 : Int))) (y2.1.1.2.2.2.length)) || (!((bif (decide ((IntKind.i64.wrap ((IntKind.i64.wrap (y1.1.1 + (1 : Int))) + (((a1.2.2.2.2.2.2.2.2.2.2.length) : Int)))) ≤ (IntKind.i64.wrap (y2.1.1.1 + y4.1.1)))) then (decide ((IntKind.i64.wrap ((IntKind.i64.wrap (y1.1.1 + (1 : Int))) + (((a1.2.2.2.2.2.2.2.2.2.2.length) : Int)))) ≤ (1000000 : Int))) else false) && (!(decide ((((y2.1.1.2.2.2.length) : Int)) = (0 : Int))))))) then
                    bif (bif (bif (decide ((IntKind.i64.wrap ((IntKind.i64.wrap (y1.1.1 + (1 : Int))) + (((a1.2.2.2.2.2.2.2.2.2.2.length) : Int)))) ≤ (IntKind.i64.wrap (y2.1.1.1 + y4.1.1)))) then (decide ((IntKind.i64.wrap ((IntKind.i64.wrap (y1.1.1 + (1 : Int))) + (((a1.2.2.2.2.2.2.2.2.2.2.length) : Int)))) ≤ (1000000 : Int))) else false) then (bif (decide ((((y2.1.1.2.2.2.length) : Int)) = (0 : Int))) then true else (decide ((rdI ((0 : Int), (0 : Int)) y2.1.1.2.2.2 (Int.toNat (IntKind.i64.wrap ((((y2.1.1.2.2.2.length) : Int)) - (1 : Int))))).1 < (IntKind.i64.wrap ((IntKind.i64.wrap (y1.1.1 + (1 : Int))) + (((a1.2.2.2.2.2.2.2.2.2.2.length) : Int))))))) else false) then
                      some (((a0.1, a0.2.1, a0.2.2.1, a0.2.2.2.1, a0.2.2.2.2.1, a0.2.2.2.2.2.1, a0.2.2.2.2.2.2.1, y2.1.1, a0.2.2.2.2.2.2.2.2.1, a0.2.2.2.2.2.2.2.2.2.1, a0.2.2.2.2.2.2.2.2.2.2.1, (IntKind.i64.wrap ((IntKind.i64.wrap (y1.1.1 + (1 : Int))) + (((a1.2.2.2.2.2.2.2.2.2.2.length) : Int)))), a0.2.2.2.2.2.2.2.2.2.2.2.2), ()), ())
                    else
                      some (((a0.1, a0.2.1, a0.2.2.1, a0.2.2.2.1, a0.2.2.2.2.1, a0.2.2.2.2.2.1, a0.2.2.2.2.2.2.1, y2.1.1, a0.2.2.2.2.2.2.2.2), ()), ())
                  else
                    none
              else
                bif ((inR (IntKind.i64.wrap ((((y2.1.1.2.2.2.length) : Int)) - (1 : Int))) (y2.1.1.2.2.2.length)) || true) then
                  some (((a0.1, a0.2.1, a0.2.2.1, a0.2.2.2.1, a0.2.2.2.2.1, a0.2.2.2.2.2.1, a0.2.2.2.2.2.2.1, y2.1.1, a0.2.2.2.2.2.2.2.2), ()), ())
                else
                  none
    else
      bif (bif (decide (y1.1.1 < (0 : Int))) then true else (bif (decide ((0 : Int) ≤ a0.2.2.2.2.2.2.2.2.2.2.2.1)) then (decide (a0.2.2.2.2.2.2.2.2.2.2.2.1 < (IntKind.i64.wrap (y1.1.1 + (((a1.2.2.2.2.2.2.2.2.2.2.length) : Int)))))) else false)) then
        some ((a0, ()), ())
      else
        (F_spec_EarHear a0.2.2.2.2.2.2.2.1 y1.1.1 a1.2.2.2.2.2.2.2.2.2.2).bind fun y5 =>
          (F_spec_EarOk y5.1.1).bind fun y6 =>
            bif (!y6.1.1) then
              some ((a0, ()), ())
            else
              bif (bif (bif a1.2.2.2.2.2.2.2.1 then (decide (a0.2.2.2.2.2.2.2.2.2.2.2.1 = (-1 : Int))) else false) then (decide (y5.1.1.1 ≤ (IntKind.i64.wrap (y1.1.1 + (((a1.2.2.2.2.2.2.2.2.2.2.length) : Int)))))) else false) then
                (F_spec_EarFree y5.1.1).bind fun y7 =>
                  bif ((inR (IntKind.i64.wrap ((((y5.1.1.2.2.2.length) : Int)) - (1 : Int))) (y5.1.1.2.2.2.length)) || (!((bif (decide ((IntKind.i64.wrap (y1.1.1 + (((a1.2.2.2.2.2.2.2.2.2.2.length) : Int)))) ≤ (IntKind.i64.wrap (y5.1.1.1 + y7.1.1)))) then (decide ((IntKind.i64.wrap (y1.1.1 + (((a1.2.2.2.2.2.2.2.2.2.2.length) : Int)))) ≤ (1000000 : Int))) else false) && (!(decide ((((y5.1.1.2.2.2.length) : Int)) = (0 : Int))))))) then
                    bif (bif (bif (decide ((IntKind.i64.wrap (y1.1.1 + (((a1.2.2.2.2.2.2.2.2.2.2.length) : Int)))) ≤ (IntKind.i64.wrap (y5.1.1.1 + y7.1.1)))) then (decide ((IntKind.i64.wrap (y1.1.1 + (((a1.2.2.2.2.2.2.2.2.2.2.length) : Int)))) ≤ (1000000 : Int))) else false) then (bif (decide ((((y5.1.1.2.2.2.length) : Int)) = (0 : Int))) then true else (decide ((rdI ((0 : Int), (0 : Int)) y5.1.1.2.2.2 (Int.toNat (IntKind.i64.wrap ((((y5.1.1.2.2.2.length) : Int)) - (1 : Int))))).1 < (IntKind.i64.wrap (y1.1.1 + (((a1.2.2.2.2.2.2.2.2.2.2.length) : Int))))))) else false) then
                      some (((a0.1, a0.2.1, a0.2.2.1, a0.2.2.2.1, a0.2.2.2.2.1, a0.2.2.2.2.2.1, a0.2.2.2.2.2.2.1, y5.1.1, a0.2.2.2.2.2.2.2.2.1, a0.2.2.2.2.2.2.2.2.2.1, a0.2.2.2.2.2.2.2.2.2.2.1, (IntKind.i64.wrap (y1.1.1 + (((a1.2.2.2.2.2.2.2.2.2.2.length) : Int)))), a0.2.2.2.2.2.2.2.2.2.2.2.2), ()), ())
                    else
                      some (((a0.1, a0.2.1, a0.2.2.1, a0.2.2.2.1, a0.2.2.2.2.1, a0.2.2.2.2.2.1, a0.2.2.2.2.2.2.1, y5.1.1, a0.2.2.2.2.2.2.2.2), ()), ())
                  else
                    none
              else
                bif ((inR (IntKind.i64.wrap ((((y5.1.1.2.2.2.length) : Int)) - (1 : Int))) (y5.1.1.2.2.2.length)) || true) then
                  some (((a0.1, a0.2.1, a0.2.2.1, a0.2.2.2.1, a0.2.2.2.2.1, a0.2.2.2.2.2.1, a0.2.2.2.2.2.2.1, y5.1.1, a0.2.2.2.2.2.2.2.2), ()), ())
                else
                  none
/-! spec.SegmentLong (function 252) -/
noncomputable def F_spec_SegmentLong (a0 : TSegment) : Option ((Int × Unit) × (Unit)) :=
  bif a0.2.2.2.2.2.1 then
    bif a0.2.2.2.2.2.2.2.1 then
      some (((IntKind.i64.wrap ((IntKind.i64.wrap ((((a0.2.2.2.2.2.2.2.2.2.2.length) : Int)) + (1 : Int))) + (1 : Int))), ()), ())
    else
      some (((IntKind.i64.wrap ((((a0.2.2.2.2.2.2.2.2.2.2.length) : Int)) + (1 : Int))), ()), ())
  else
    bif a0.2.2.2.2.2.2.2.1 then
      some (((IntKind.i64.wrap ((((a0.2.2.2.2.2.2.2.2.2.2.length) : Int)) + (1 : Int))), ()), ())
    else
      some (((((a0.2.2.2.2.2.2.2.2.2.2.length) : Int)), ()), ())
/-! spec.SeqLess (function 253) -/
noncomputable def F_spec_SeqLess (a0 : Int) (a1 : Int) : Option ((Bool × Unit) × (Unit)) :=
  (F_spec_SeqOf a1).bind fun y1 =>
    (F_spec_SeqOf a0).bind fun y2 =>
      (F_spec_SeqOf (IntKind.i64.wrap (y1.1.1 - y2.1.1))).bind fun y3 =>
        some (((bif (decide ((1 : Int) ≤ y3.1.1)) then (decide (y3.1.1 < (32768 : Int))) else false), ()), ())
/-! spec.EndHear (function 203) -/
noncomputable def L_spec_EndHear_12 (p : Unit × (List TSegment) × Unit × TEnd × TEnd × Unit) : Option ((TEnd × (List TSegment) × Unit) × (Unit)) :=
    some ((p.2.2.2.2.1, p.2.1, ()), ())
noncomputable def L_spec_EndHear_50 (p : Int × Unit × Unit × Bool × (List TSegment) × TEnd × TEnd × Unit) : Option ((TEnd × (List TSegment) × Unit) × (Unit)) :=
    (F_spec_l15Arm p.2.2.2.2.2.2.1 p.1 p.2.2.2.1).bind fun y1 =>
      some ((y1.1.1, p.2.2.2.2.1, ()), ())
noncomputable def L_spec_EndHear_46 (p : Int × Unit × Unit × Unit × Int × Bool × TSegment × TEnd × TEnd × Unit) : Option ((TEnd × (List TSegment) × Unit) × (Unit)) :=
    (F_spec_l15Heard p.2.2.2.2.2.2.2.2.1 p.2.2.2.2.2.2.1).bind fun y1 =>
      (F_spec_l15Flush y1.1.1).bind fun y2 =>
        bif (decide ((((y2.1.2.1.length) : Int)) = (0 : Int))) then
          (F_spec_SegmentLong p.2.2.2.2.2.2.1).bind fun y3 =>
            bif (decide ((0 : Int) < y3.1.1)) then
              (F_spec_l15Told y2.1.1).bind fun y4 =>
                (F_spec_l15Segment y2.1.1 (IntKind.i64.wrap ((IntKind.i64.wrap (y2.1.1.2.2.2.2.2.2.1.1 + y2.1.1.2.2.2.2.2.2.1.2.2.1)) + y4.1.1))).bind fun y5 =>
                  bif (Nat.ble (y2.1.2.1.length + ([y5.1.1]).length) big) then
                    L_spec_EndHear_50 (p.1, (), (), p.2.2.2.2.2.1, (y2.1.2.1 ++ ([y5.1.1])), p.2.2.2.2.2.2.2.1, y2.1.1, ())
                  else
                    none
            else
              (F_spec_SeqLess p.2.2.2.2.2.2.1.2.2.1 p.2.2.2.2.1).bind fun y6 =>
                bif y6.1.1 then
                  (F_spec_l15Told y2.1.1).bind fun y7 =>
                    (F_spec_l15Segment y2.1.1 (IntKind.i64.wrap ((IntKind.i64.wrap (y2.1.1.2.2.2.2.2.2.1.1 + y2.1.1.2.2.2.2.2.2.1.2.2.1)) + y7.1.1))).bind fun y8 =>
                      bif (Nat.ble (y2.1.2.1.length + ([y8.1.1]).length) big) then
                        L_spec_EndHear_50 (p.1, (), (), p.2.2.2.2.2.1, (y2.1.2.1 ++ ([y8.1.1])), p.2.2.2.2.2.2.2.1, y2.1.1, ())
                      else
                        none
                else
                  L_spec_EndHear_50 (p.1, (), (), p.2.2.2.2.2.1, y2.1.2.1, p.2.2.2.2.2.2.2.1, y2.1.1, ())
        else
          L_spec_EndHear_50 (p.1, (), (), p.2.2.2.2.2.1, y2.1.2.1, p.2.2.2.2.2.2.2.1, y2.1.1, ())
noncomputable def F_spec_EndHear (a0 : TEnd) (a1 : Int) (a2 : TSegment) (a3 : Int) : Option ((TEnd × (List TSegment) × Unit) × (Unit)) :=
  (F_spec_EndOk a0).bind fun y1 =>
    bif (!y1.1.1) then
      some ((((0 : Int), (0 : Int), (0 : Int), (0 : Int), (0 : Int), (0 : Int), ((0 : Int), ([] : List Int), (0 : Int), (0 : Int), ([] : List TRange)), ((0 : Int), (0 : Int), ([] : List Int), ([] : List TEarly)), false, false, false, (0 : Int), (0 : Int), (0 : Int), (0 : Int), (0 : Int), (0 : Int)), ([] : List TSegment), ()), ())
    else
      (F_spec_SegmentOk a2).bind fun y2 =>
        bif (bif (bif (!y2.1.1) then true else (!(F_spec_l1In a1 (0 : Int) (65535 : Int)))) then true else (!(F_spec_l1In a3 (0 : Int) (900000 : Int)))) then
          some ((((0 : Int), (0 : Int), (0 : Int), (0 : Int), (0 : Int), (0 : Int), ((0 : Int), ([] : List Int), (0 : Int), (0 : Int), ([] : List TRange)), ((0 : Int), (0 : Int), ([] : List Int), ([] : List TEarly)), false, false, false, (0 : Int), (0 : Int), (0 : Int), (0 : Int), (0 : Int), (0 : Int)), ([] : List TSegment), ()), ())
        else
          (F_spec_l15Copy a0).bind fun y3 =>
            bif (bif (bif (bif (!decide (a2.2.1 = a0.2.2.1)) then true else (decide (a0.1 = (0 : Int)))) then true else (decide (a0.1 = (5 : Int)))) then true else (bif (!decide (a0.1 = (1 : Int))) then (bif (!decide (a1 = a0.2.2.2.1)) then true else (!decide (a2.1 = a0.2.2.2.2.1))) else false)) then
              some ((y3.1.1, ([] : List TSegment), ()), ())
            else
              bif a2.2.2.2.2.2.2.1 then
                (F_spec_SeqOf (IntKind.i64.wrap (a0.2.2.2.2.2.1 + (1 : Int)))).bind fun y4 =>
                  bif a2.2.2.2.2.2.2.2.2.1 then
                    bif (bif (decide (a0.1 = (2 : Int))) then (decide (a2.2.2.2.1 = y4.1.1)) else false) then
                      bif ((!(decide ((3 : Int) ≤ a0.1))) || true) then
                        L_spec_EndHear_12 ((), ([] : List TSegment), (), ((0 : Int), (0 : Int), (0 : Int), (0 : Int), (0 : Int), (0 : Int), ((0 : Int), ([] : List Int), (0 : Int), (0 : Int), ([] : List TRange)), ((0 : Int), (0 : Int), ([] : List Int), ([] : List TEarly)), false, false, false, (0 : Int), (0 : Int), (0 : Int), (0 : Int), (0 : Int), (0 : Int)), ((5 : Int), y3.1.1.2.1, y3.1.1.2.2.1, y3.1.1.2.2.2.1, y3.1.1.2.2.2.2.1, y3.1.1.2.2.2.2.2.1, y3.1.1.2.2.2.2.2.2.1, y3.1.1.2.2.2.2.2.2.2.1, y3.1.1.2.2.2.2.2.2.2.2.1, y3.1.1.2.2.2.2.2.2.2.2.2.1, y3.1.1.2.2.2.2.2.2.2.2.2.2.1, y3.1.1.2.2.2.2.2.2.2.2.2.2.2.1, (0 : Int), y3.1.1.2.2.2.2.2.2.2.2.2.2.2.2.2), ())
                      else
                        none
                    else
                      bif (decide ((3 : Int) ≤ a0.1)) then
                        (F_spec_l15Wait a0).bind fun y5 =>
                          (F_spec_SeqOf y5.1.1).bind fun y6 =>
                            bif (decide (a2.2.2.1 = y6.1.1)) then
                              L_spec_EndHear_12 ((), ([] : List TSegment), (), ((0 : Int), (0 : Int), (0 : Int), (0 : Int), (0 : Int), (0 : Int), ((0 : Int), ([] : List Int), (0 : Int), (0 : Int), ([] : List TRange)), ((0 : Int), (0 : Int), ([] : List Int), ([] : List TEarly)), false, false, false, (0 : Int), (0 : Int), (0 : Int), (0 : Int), (0 : Int), (0 : Int)), ((5 : Int), y3.1.1.2.1, y3.1.1.2.2.1, y3.1.1.2.2.2.1, y3.1.1.2.2.2.2.1, y3.1.1.2.2.2.2.2.1, y3.1.1.2.2.2.2.2.2.1, y3.1.1.2.2.2.2.2.2.2.1, y3.1.1.2.2.2.2.2.2.2.2.1, y3.1.1.2.2.2.2.2.2.2.2.2.1, y3.1.1.2.2.2.2.2.2.2.2.2.2.1, y3.1.1.2.2.2.2.2.2.2.2.2.2.2.1, (0 : Int), y3.1.1.2.2.2.2.2.2.2.2.2.2.2.2.2), ())
                            else
                              L_spec_EndHear_12 ((), ([] : List TSegment), (), ((0 : Int), (0 : Int), (0 : Int), (0 : Int), (0 : Int), (0 : Int), ((0 : Int), ([] : List Int), (0 : Int), (0 : Int), ([] : List TRange)), ((0 : Int), (0 : Int), ([] : List Int), ([] : List TEarly)), false, false, false, (0 : Int), (0 : Int), (0 : Int), (0 : Int), (0 : Int), (0 : Int)), y3.1.1, ())
                      else
                        L_spec_EndHear_12 ((), ([] : List TSegment), (), ((0 : Int), (0 : Int), (0 : Int), (0 : Int), (0 : Int), (0 : Int), ((0 : Int), ([] : List Int), (0 : Int), (0 : Int), ([] : List TRange)), ((0 : Int), (0 : Int), ([] : List Int), ([] : List TEarly)), false, false, false, (0 : Int), (0 : Int), (0 : Int), (0 : Int), (0 : Int), (0 : Int)), y3.1.1, ())
                  else
                    bif (bif (decide (a0.1 = (1 : Int))) then true else (bif (decide (a0.1 = (2 : Int))) then (!a2.2.2.2.2.2.2.1) else false)) then
                      bif (bif (!a2.2.2.2.2.2.1) then true else a2.2.2.2.2.2.2.1) then
                        some ((y3.1.1, ([] : List TSegment), ()), ())
                      else
                        (F_spec_l15Arm ((3 : Int), y3.1.1.2.1, y3.1.1.2.2.1, a1, a2.1, y3.1.1.2.2.2.2.2.1, y3.1.1.2.2.2.2.2.2.1, ((IntKind.i64.wrap (a2.2.2.1 + (1 : Int))), y3.1.1.2.2.2.2.2.2.2.1.2.1, y3.1.1.2.2.2.2.2.2.2.1.2.2.1, ([] : List TEarly)), y3.1.1.2.2.2.2.2.2.2.2) a3 true).bind fun y7 =>
                          (F_spec_l15First ((3 : Int), y3.1.1.2.1, y3.1.1.2.2.1, a1, a2.1, y3.1.1.2.2.2.2.2.1, y3.1.1.2.2.2.2.2.2.1, ((IntKind.i64.wrap (a2.2.2.1 + (1 : Int))), y3.1.1.2.2.2.2.2.2.2.1.2.1, y3.1.1.2.2.2.2.2.2.2.1.2.2.1, ([] : List TEarly)), y3.1.1.2.2.2.2.2.2.2.2)).bind fun y8 =>
                            some ((y7.1.1, ([y8.1.1]), ()), ())
                    else
                      bif (decide (a0.1 = (2 : Int))) then
                        bif (bif (!a2.2.2.2.2.2.1) then true else (!(decide (a2.2.2.2.1 = y4.1.1)))) then
                          some ((y3.1.1, ([] : List TSegment), ()), ())
                        else
                          (F_spec_l15Flush ((4 : Int), y3.1.1.2.1, y3.1.1.2.2.1, y3.1.1.2.2.2.1, y3.1.1.2.2.2.2.1, y3.1.1.2.2.2.2.2.1, (y3.1.1.2.2.2.2.2.2.1.1, y3.1.1.2.2.2.2.2.2.1.2.1, y3.1.1.2.2.2.2.2.2.1.2.2.1, a2.2.2.2.2.1, y3.1.1.2.2.2.2.2.2.1.2.2.2.2), ((IntKind.i64.wrap (a2.2.2.1 + (1 : Int))), y3.1.1.2.2.2.2.2.2.2.1.2.1, y3.1.1.2.2.2.2.2.2.2.1.2.2.1, ([] : List TEarly)), y3.1.1.2.2.2.2.2.2.2.2)).bind fun y9 =>
                            bif (decide ((((y9.1.2.1.length) : Int)) = (0 : Int))) then
                              (F_spec_l15Told y9.1.1).bind fun y10 =>
                                (F_spec_l15Segment y9.1.1 (IntKind.i64.wrap ((IntKind.i64.wrap (y9.1.1.2.2.2.2.2.2.1.1 + y9.1.1.2.2.2.2.2.2.1.2.2.1)) + y10.1.1))).bind fun y11 =>
                                  bif (Nat.ble (y9.1.2.1.length + ([y11.1.1]).length) big) then
                                    (F_spec_l15Arm y9.1.1 a3 true).bind fun y12 =>
                                      some ((y12.1.1, (y9.1.2.1 ++ ([y11.1.1])), ()), ())
                                  else
                                    none
                            else
                              (F_spec_l15Arm y9.1.1 a3 true).bind fun y13 =>
                                some ((y13.1.1, y9.1.2.1, ()), ())
                      else
                        bif (decide (a0.1 = (3 : Int))) then
                          bif (!(decide (a2.2.2.2.1 = y4.1.1))) then
                            bif a2.2.2.2.2.2.1 then
                              (F_spec_SeqOf (IntKind.i64.wrap (a0.2.2.2.2.2.2.2.1.1 - (1 : Int)))).bind fun y14 =>
                                bif (decide (a2.2.2.1 = y14.1.1)) then
                                  (F_spec_l15First y3.1.1).bind fun y15 =>
                                    some ((y3.1.1, ([y15.1.1]), ()), ())
                                else
                                  some ((y3.1.1, ([] : List TSegment), ()), ())
                            else
                              some ((y3.1.1, ([] : List TSegment), ()), ())
                          else
                            (F_spec_l15Wait ((4 : Int), y3.1.1.2.1, y3.1.1.2.2.1, y3.1.1.2.2.2.1, y3.1.1.2.2.2.2.1, y3.1.1.2.2.2.2.2.1, (y3.1.1.2.2.2.2.2.2.1.1, y3.1.1.2.2.2.2.2.2.1.2.1, y3.1.1.2.2.2.2.2.2.1.2.2.1, a2.2.2.2.2.1, y3.1.1.2.2.2.2.2.2.1.2.2.2.2), y3.1.1.2.2.2.2.2.2.2)).bind fun y16 =>
                              bif a2.2.2.2.2.2.2.1 then
                                (F_spec_l15Took ((4 : Int), y3.1.1.2.1, y3.1.1.2.2.1, y3.1.1.2.2.2.1, y3.1.1.2.2.2.2.1, y3.1.1.2.2.2.2.2.1, (y3.1.1.2.2.2.2.2.2.1.1, y3.1.1.2.2.2.2.2.2.1.2.1, y3.1.1.2.2.2.2.2.2.1.2.2.1, a2.2.2.2.2.1, y3.1.1.2.2.2.2.2.2.1.2.2.2.2), y3.1.1.2.2.2.2.2.2.2) a2).bind fun y17 =>
                                  L_spec_EndHear_46 (a3, (), (), (), y16.1.1, (bif (!decide (a0.1 = (4 : Int))) then true else y17.1.2.1), a2, ((0 : Int), (0 : Int), (0 : Int), (0 : Int), (0 : Int), (0 : Int), ((0 : Int), ([] : List Int), (0 : Int), (0 : Int), ([] : List TRange)), ((0 : Int), (0 : Int), ([] : List Int), ([] : List TEarly)), false, false, false, (0 : Int), (0 : Int), (0 : Int), (0 : Int), (0 : Int), (0 : Int)), y17.1.1, ())
                              else
                                L_spec_EndHear_46 (a3, (), (), (), y16.1.1, (!decide (a0.1 = (4 : Int))), a2, ((0 : Int), (0 : Int), (0 : Int), (0 : Int), (0 : Int), (0 : Int), ((0 : Int), ([] : List Int), (0 : Int), (0 : Int), ([] : List TRange)), ((0 : Int), (0 : Int), ([] : List Int), ([] : List TEarly)), false, false, false, (0 : Int), (0 : Int), (0 : Int), (0 : Int), (0 : Int), (0 : Int)), ((4 : Int), y3.1.1.2.1, y3.1.1.2.2.1, y3.1.1.2.2.2.1, y3.1.1.2.2.2.2.1, y3.1.1.2.2.2.2.2.1, (y3.1.1.2.2.2.2.2.2.1.1, y3.1.1.2.2.2.2.2.2.1.2.1, y3.1.1.2.2.2.2.2.2.1.2.2.1, a2.2.2.2.2.1, y3.1.1.2.2.2.2.2.2.1.2.2.2.2), y3.1.1.2.2.2.2.2.2.2), ())
                        else
                          (F_spec_l15Wait y3.1.1).bind fun y18 =>
                            bif a2.2.2.2.2.2.2.1 then
                              (F_spec_l15Took y3.1.1 a2).bind fun y19 =>
                                L_spec_EndHear_46 (a3, (), (), (), y18.1.1, (bif (!decide (a0.1 = (4 : Int))) then true else y19.1.2.1), a2, ((0 : Int), (0 : Int), (0 : Int), (0 : Int), (0 : Int), (0 : Int), ((0 : Int), ([] : List Int), (0 : Int), (0 : Int), ([] : List TRange)), ((0 : Int), (0 : Int), ([] : List Int), ([] : List TEarly)), false, false, false, (0 : Int), (0 : Int), (0 : Int), (0 : Int), (0 : Int), (0 : Int)), y19.1.1, ())
                            else
                              L_spec_EndHear_46 (a3, (), (), (), y18.1.1, (!decide (a0.1 = (4 : Int))), a2, ((0 : Int), (0 : Int), (0 : Int), (0 : Int), (0 : Int), (0 : Int), ((0 : Int), ([] : List Int), (0 : Int), (0 : Int), ([] : List TRange)), ((0 : Int), (0 : Int), ([] : List Int), ([] : List TEarly)), false, false, false, (0 : Int), (0 : Int), (0 : Int), (0 : Int), (0 : Int), (0 : Int)), y3.1.1, ())
              else
                bif a2.2.2.2.2.2.2.2.2.1 then
                  bif (bif (decide (a0.1 = (2 : Int))) then false else false) then
                    bif ((!(decide ((3 : Int) ≤ a0.1))) || true) then
                      L_spec_EndHear_12 ((), ([] : List TSegment), (), ((0 : Int), (0 : Int), (0 : Int), (0 : Int), (0 : Int), (0 : Int), ((0 : Int), ([] : List Int), (0 : Int), (0 : Int), ([] : List TRange)), ((0 : Int), (0 : Int), ([] : List Int), ([] : List TEarly)), false, false, false, (0 : Int), (0 : Int), (0 : Int), (0 : Int), (0 : Int), (0 : Int)), ((5 : Int), y3.1.1.2.1, y3.1.1.2.2.1, y3.1.1.2.2.2.1, y3.1.1.2.2.2.2.1, y3.1.1.2.2.2.2.2.1, y3.1.1.2.2.2.2.2.2.1, y3.1.1.2.2.2.2.2.2.2.1, y3.1.1.2.2.2.2.2.2.2.2.1, y3.1.1.2.2.2.2.2.2.2.2.2.1, y3.1.1.2.2.2.2.2.2.2.2.2.2.1, y3.1.1.2.2.2.2.2.2.2.2.2.2.2.1, (0 : Int), y3.1.1.2.2.2.2.2.2.2.2.2.2.2.2.2), ())
                    else
                      none
                  else
                    bif (decide ((3 : Int) ≤ a0.1)) then
                      (F_spec_l15Wait a0).bind fun y20 =>
                        (F_spec_SeqOf y20.1.1).bind fun y21 =>
                          bif (decide (a2.2.2.1 = y21.1.1)) then
                            L_spec_EndHear_12 ((), ([] : List TSegment), (), ((0 : Int), (0 : Int), (0 : Int), (0 : Int), (0 : Int), (0 : Int), ((0 : Int), ([] : List Int), (0 : Int), (0 : Int), ([] : List TRange)), ((0 : Int), (0 : Int), ([] : List Int), ([] : List TEarly)), false, false, false, (0 : Int), (0 : Int), (0 : Int), (0 : Int), (0 : Int), (0 : Int)), ((5 : Int), y3.1.1.2.1, y3.1.1.2.2.1, y3.1.1.2.2.2.1, y3.1.1.2.2.2.2.1, y3.1.1.2.2.2.2.2.1, y3.1.1.2.2.2.2.2.2.1, y3.1.1.2.2.2.2.2.2.2.1, y3.1.1.2.2.2.2.2.2.2.2.1, y3.1.1.2.2.2.2.2.2.2.2.2.1, y3.1.1.2.2.2.2.2.2.2.2.2.2.1, y3.1.1.2.2.2.2.2.2.2.2.2.2.2.1, (0 : Int), y3.1.1.2.2.2.2.2.2.2.2.2.2.2.2.2), ())
                          else
                            L_spec_EndHear_12 ((), ([] : List TSegment), (), ((0 : Int), (0 : Int), (0 : Int), (0 : Int), (0 : Int), (0 : Int), ((0 : Int), ([] : List Int), (0 : Int), (0 : Int), ([] : List TRange)), ((0 : Int), (0 : Int), ([] : List Int), ([] : List TEarly)), false, false, false, (0 : Int), (0 : Int), (0 : Int), (0 : Int), (0 : Int), (0 : Int)), y3.1.1, ())
                    else
                      L_spec_EndHear_12 ((), ([] : List TSegment), (), ((0 : Int), (0 : Int), (0 : Int), (0 : Int), (0 : Int), (0 : Int), ((0 : Int), ([] : List Int), (0 : Int), (0 : Int), ([] : List TRange)), ((0 : Int), (0 : Int), ([] : List Int), ([] : List TEarly)), false, false, false, (0 : Int), (0 : Int), (0 : Int), (0 : Int), (0 : Int), (0 : Int)), y3.1.1, ())
                else
                  bif (bif (decide (a0.1 = (1 : Int))) then true else (bif (decide (a0.1 = (2 : Int))) then (!a2.2.2.2.2.2.2.1) else false)) then
                    bif (bif (!a2.2.2.2.2.2.1) then true else a2.2.2.2.2.2.2.1) then
                      some ((y3.1.1, ([] : List TSegment), ()), ())
                    else
                      (F_spec_l15Arm ((3 : Int), y3.1.1.2.1, y3.1.1.2.2.1, a1, a2.1, y3.1.1.2.2.2.2.2.1, y3.1.1.2.2.2.2.2.2.1, ((IntKind.i64.wrap (a2.2.2.1 + (1 : Int))), y3.1.1.2.2.2.2.2.2.2.1.2.1, y3.1.1.2.2.2.2.2.2.2.1.2.2.1, ([] : List TEarly)), y3.1.1.2.2.2.2.2.2.2.2) a3 true).bind fun y22 =>
                        (F_spec_l15First ((3 : Int), y3.1.1.2.1, y3.1.1.2.2.1, a1, a2.1, y3.1.1.2.2.2.2.2.1, y3.1.1.2.2.2.2.2.2.1, ((IntKind.i64.wrap (a2.2.2.1 + (1 : Int))), y3.1.1.2.2.2.2.2.2.2.1.2.1, y3.1.1.2.2.2.2.2.2.2.1.2.2.1, ([] : List TEarly)), y3.1.1.2.2.2.2.2.2.2.2)).bind fun y23 =>
                          some ((y22.1.1, ([y23.1.1]), ()), ())
                  else
                    bif (decide (a0.1 = (2 : Int))) then
                      bif (bif (!a2.2.2.2.2.2.1) then true else true) then
                        some ((y3.1.1, ([] : List TSegment), ()), ())
                      else
                        (F_spec_l15Flush ((4 : Int), y3.1.1.2.1, y3.1.1.2.2.1, y3.1.1.2.2.2.1, y3.1.1.2.2.2.2.1, y3.1.1.2.2.2.2.2.1, (y3.1.1.2.2.2.2.2.2.1.1, y3.1.1.2.2.2.2.2.2.1.2.1, y3.1.1.2.2.2.2.2.2.1.2.2.1, a2.2.2.2.2.1, y3.1.1.2.2.2.2.2.2.1.2.2.2.2), ((IntKind.i64.wrap (a2.2.2.1 + (1 : Int))), y3.1.1.2.2.2.2.2.2.2.1.2.1, y3.1.1.2.2.2.2.2.2.2.1.2.2.1, ([] : List TEarly)), y3.1.1.2.2.2.2.2.2.2.2)).bind fun y24 =>
                          bif (decide ((((y24.1.2.1.length) : Int)) = (0 : Int))) then
                            (F_spec_l15Told y24.1.1).bind fun y25 =>
                              (F_spec_l15Segment y24.1.1 (IntKind.i64.wrap ((IntKind.i64.wrap (y24.1.1.2.2.2.2.2.2.1.1 + y24.1.1.2.2.2.2.2.2.1.2.2.1)) + y25.1.1))).bind fun y26 =>
                                bif (Nat.ble (y24.1.2.1.length + ([y26.1.1]).length) big) then
                                  (F_spec_l15Arm y24.1.1 a3 true).bind fun y27 =>
                                    some ((y27.1.1, (y24.1.2.1 ++ ([y26.1.1])), ()), ())
                                else
                                  none
                          else
                            (F_spec_l15Arm y24.1.1 a3 true).bind fun y28 =>
                              some ((y28.1.1, y24.1.2.1, ()), ())
                    else
                      bif (decide (a0.1 = (3 : Int))) then
                        bif a2.2.2.2.2.2.1 then
                          (F_spec_SeqOf (IntKind.i64.wrap (a0.2.2.2.2.2.2.2.1.1 - (1 : Int)))).bind fun y29 =>
                            bif (decide (a2.2.2.1 = y29.1.1)) then
                              (F_spec_l15First y3.1.1).bind fun y30 =>
                                some ((y3.1.1, ([y30.1.1]), ()), ())
                            else
                              some ((y3.1.1, ([] : List TSegment), ()), ())
                        else
                          some ((y3.1.1, ([] : List TSegment), ()), ())
                      else
                        (F_spec_l15Wait y3.1.1).bind fun y31 =>
                          bif a2.2.2.2.2.2.2.1 then
                            (F_spec_l15Took y3.1.1 a2).bind fun y32 =>
                              L_spec_EndHear_46 (a3, (), (), (), y31.1.1, (bif (!decide (a0.1 = (4 : Int))) then true else y32.1.2.1), a2, ((0 : Int), (0 : Int), (0 : Int), (0 : Int), (0 : Int), (0 : Int), ((0 : Int), ([] : List Int), (0 : Int), (0 : Int), ([] : List TRange)), ((0 : Int), (0 : Int), ([] : List Int), ([] : List TEarly)), false, false, false, (0 : Int), (0 : Int), (0 : Int), (0 : Int), (0 : Int), (0 : Int)), y32.1.1, ())
                          else
                            L_spec_EndHear_46 (a3, (), (), (), y31.1.1, (!decide (a0.1 = (4 : Int))), a2, ((0 : Int), (0 : Int), (0 : Int), (0 : Int), (0 : Int), (0 : Int), ((0 : Int), ([] : List Int), (0 : Int), (0 : Int), ([] : List TRange)), ((0 : Int), (0 : Int), ([] : List Int), ([] : List TEarly)), false, false, false, (0 : Int), (0 : Int), (0 : Int), (0 : Int), (0 : Int), (0 : Int)), y3.1.1, ())
/-! spec.l20Ends (function 138) -/
noncomputable def L_spec_l20Ends_10 : Nat → Unit × Unit × Unit × Unit × Unit × (List TSegment) × (List TSegment) × Int × TEnd × TEnd × TEnd × TEnd × Ts_l20Rd × Unit → Option ((TEnd × TEnd × (List TSegment) × (List TSegment) × Unit) × (Ts_l20Rd × Unit))
  | 0, _ => none
  | n + 1, p =>
    bif (decide ((0 : Int) < p.2.2.2.2.2.2.2.1)) then
      (F_spec_l20Rd_pick p.2.2.2.2.2.2.2.2.2.2.2.2.1 (9 : Int)).bind fun y1 =>
        (F_spec_l20Rd_pick y1.2.1 (9 : Int)).bind fun y2 =>
          bif (decide (y2.1.1 = (0 : Int))) then
            (F_spec_l20Rd_pick y2.2.1 (9 : Int)).bind fun y3 =>
              (F_spec_l20Rd_bytes y3.2.1 y3.1.1).bind fun y4 =>
                (F_spec_EndWrite p.2.2.2.2.2.2.2.2.2.2.1 y4.1.1 (IntKind.i64.wrap ((IntKind.i64.wrap ((30 : Int) * (IntKind.i64.wrap ((30 : Int) - p.2.2.2.2.2.2.2.1)))) + y1.1.1))).bind fun y5 =>
                  bif (Nat.ble (p.2.2.2.2.2.2.1.length + y5.1.2.2.1.length) big) then
                    L_spec_l20Ends_10 n ((), (), (), (), (), p.2.2.2.2.2.1, (p.2.2.2.2.2.2.1 ++ y5.1.2.2.1), (IntKind.i64.wrap (p.2.2.2.2.2.2.2.1 - (1 : Int))), p.2.2.2.2.2.2.2.2.1, p.2.2.2.2.2.2.2.2.2.1, y5.1.1, p.2.2.2.2.2.2.2.2.2.2.2.1, y4.2.1, ())
                  else
                    none
          else
            bif (decide (y2.1.1 = (1 : Int))) then
              (F_spec_l20Rd_pick y2.2.1 (9 : Int)).bind fun y6 =>
                (F_spec_l20Rd_bytes y6.2.1 y6.1.1).bind fun y7 =>
                  (F_spec_EndWrite p.2.2.2.2.2.2.2.2.2.2.2.1 y7.1.1 (IntKind.i64.wrap ((IntKind.i64.wrap ((30 : Int) * (IntKind.i64.wrap ((30 : Int) - p.2.2.2.2.2.2.2.1)))) + y1.1.1))).bind fun y8 =>
                    bif (Nat.ble (p.2.2.2.2.2.1.length + y8.1.2.2.1.length) big) then
                      L_spec_l20Ends_10 n ((), (), (), (), (), (p.2.2.2.2.2.1 ++ y8.1.2.2.1), p.2.2.2.2.2.2.1, (IntKind.i64.wrap (p.2.2.2.2.2.2.2.1 - (1 : Int))), p.2.2.2.2.2.2.2.2.1, p.2.2.2.2.2.2.2.2.2.1, p.2.2.2.2.2.2.2.2.2.2.1, y8.1.1, y7.2.1, ())
                    else
                      none
            else
              bif (decide (y2.1.1 = (2 : Int))) then
                (F_spec_l20Rd_pick y2.2.1 (9 : Int)).bind fun y9 =>
                  (F_spec_EndRead p.2.2.2.2.2.2.2.2.2.2.2.1 y9.1.1 (IntKind.i64.wrap ((IntKind.i64.wrap ((30 : Int) * (IntKind.i64.wrap ((30 : Int) - p.2.2.2.2.2.2.2.1)))) + y1.1.1))).bind fun y10 =>
                    bif (Nat.ble (p.2.2.2.2.2.1.length + y10.1.2.2.1.length) big) then
                      L_spec_l20Ends_10 n ((), (), (), (), (), (p.2.2.2.2.2.1 ++ y10.1.2.2.1), p.2.2.2.2.2.2.1, (IntKind.i64.wrap (p.2.2.2.2.2.2.2.1 - (1 : Int))), p.2.2.2.2.2.2.2.2.1, p.2.2.2.2.2.2.2.2.2.1, p.2.2.2.2.2.2.2.2.2.2.1, y10.1.1, y9.2.1, ())
                    else
                      none
              else
                bif (decide (y2.1.1 = (3 : Int))) then
                  (F_spec_EndTick p.2.2.2.2.2.2.2.2.2.2.1 (IntKind.i64.wrap ((IntKind.i64.wrap ((30 : Int) * (IntKind.i64.wrap ((30 : Int) - p.2.2.2.2.2.2.2.1)))) + y1.1.1))).bind fun y11 =>
                    bif (Nat.ble (p.2.2.2.2.2.2.1.length + y11.1.2.1.length) big) then
                      (F_spec_EndTick p.2.2.2.2.2.2.2.2.2.2.2.1 (IntKind.i64.wrap ((IntKind.i64.wrap ((30 : Int) * (IntKind.i64.wrap ((30 : Int) - p.2.2.2.2.2.2.2.1)))) + y1.1.1))).bind fun y12 =>
                        bif (Nat.ble (p.2.2.2.2.2.1.length + y12.1.2.1.length) big) then
                          L_spec_l20Ends_10 n ((), (), (), (), (), (p.2.2.2.2.2.1 ++ y12.1.2.1), (p.2.2.2.2.2.2.1 ++ y11.1.2.1), (IntKind.i64.wrap (p.2.2.2.2.2.2.2.1 - (1 : Int))), p.2.2.2.2.2.2.2.2.1, p.2.2.2.2.2.2.2.2.2.1, y11.1.1, y12.1.1, y2.2.1, ())
                        else
                          none
                    else
                      none
                else
                  bif (decide (y2.1.1 = (4 : Int))) then
                    (F_spec_l20Rd_pick y2.2.1 (3 : Int)).bind fun y13 =>
                      bif (decide (y13.1.1 = (0 : Int))) then
                        (F_spec_EndClose p.2.2.2.2.2.2.2.2.2.2.1 (IntKind.i64.wrap ((IntKind.i64.wrap ((30 : Int) * (IntKind.i64.wrap ((30 : Int) - p.2.2.2.2.2.2.2.1)))) + y1.1.1))).bind fun y14 =>
                          bif (Nat.ble (p.2.2.2.2.2.2.1.length + y14.1.2.1.length) big) then
                            L_spec_l20Ends_10 n ((), (), (), (), (), p.2.2.2.2.2.1, (p.2.2.2.2.2.2.1 ++ y14.1.2.1), (IntKind.i64.wrap (p.2.2.2.2.2.2.2.1 - (1 : Int))), p.2.2.2.2.2.2.2.2.1, p.2.2.2.2.2.2.2.2.2.1, y14.1.1, p.2.2.2.2.2.2.2.2.2.2.2.1, y13.2.1, ())
                          else
                            none
                      else
                        L_spec_l20Ends_10 n ((), (), (), (), (), p.2.2.2.2.2.1, p.2.2.2.2.2.2.1, (IntKind.i64.wrap (p.2.2.2.2.2.2.2.1 - (1 : Int))), p.2.2.2.2.2.2.2.2.1, p.2.2.2.2.2.2.2.2.2.1, p.2.2.2.2.2.2.2.2.2.2.1, p.2.2.2.2.2.2.2.2.2.2.2.1, y13.2.1, ())
                  else
                    bif (decide (y2.1.1 = (5 : Int))) then
                      bif (decide (y2.1.1 = (5 : Int))) then
                        bif (decide ((0 : Int) < (((p.2.2.2.2.2.1.length) : Int)))) then
                          bif (inR (0 : Int) (p.2.2.2.2.2.1.length)) then
                            (F_spec_EndHear p.2.2.2.2.2.2.2.2.2.2.1 (2 : Int) (rdI ((0 : Int), (0 : Int), (0 : Int), (0 : Int), (0 : Int), false, false, false, false, ([] : List TRange), ([] : List Int)) p.2.2.2.2.2.1 (Int.toNat (0 : Int))) (IntKind.i64.wrap ((IntKind.i64.wrap ((30 : Int) * (IntKind.i64.wrap ((30 : Int) - p.2.2.2.2.2.2.2.1)))) + y1.1.1))).bind fun y15 =>
                              bif (Nat.ble (p.2.2.2.2.2.2.1.length + y15.1.2.1.length) big) then
                                bif (decide (0 ≤ (1 : Int)) && decide ((1 : Int) ≤ ((p.2.2.2.2.2.1.length) : Int))) then
                                  L_spec_l20Ends_10 n ((), (), (), (), (), (p.2.2.2.2.2.1.drop (Int.toNat (1 : Int))), (p.2.2.2.2.2.2.1 ++ y15.1.2.1), (IntKind.i64.wrap (p.2.2.2.2.2.2.2.1 - (1 : Int))), p.2.2.2.2.2.2.2.2.1, p.2.2.2.2.2.2.2.2.2.1, y15.1.1, p.2.2.2.2.2.2.2.2.2.2.2.1, y2.2.1, ())
                                else
                                  none
                              else
                                none
                          else
                            none
                        else
                          L_spec_l20Ends_10 n ((), (), (), (), (), p.2.2.2.2.2.1, p.2.2.2.2.2.2.1, (IntKind.i64.wrap (p.2.2.2.2.2.2.2.1 - (1 : Int))), p.2.2.2.2.2.2.2.2.1, p.2.2.2.2.2.2.2.2.2.1, p.2.2.2.2.2.2.2.2.2.2.1, p.2.2.2.2.2.2.2.2.2.2.2.1, y2.2.1, ())
                      else
                        bif (decide ((0 : Int) < (((p.2.2.2.2.2.2.1.length) : Int)))) then
                          bif (inR (0 : Int) (p.2.2.2.2.2.2.1.length)) then
                            (F_spec_EndHear p.2.2.2.2.2.2.2.2.2.2.2.1 (1 : Int) (rdI ((0 : Int), (0 : Int), (0 : Int), (0 : Int), (0 : Int), false, false, false, false, ([] : List TRange), ([] : List Int)) p.2.2.2.2.2.2.1 (Int.toNat (0 : Int))) (IntKind.i64.wrap ((IntKind.i64.wrap ((30 : Int) * (IntKind.i64.wrap ((30 : Int) - p.2.2.2.2.2.2.2.1)))) + y1.1.1))).bind fun y16 =>
                              bif (Nat.ble (p.2.2.2.2.2.1.length + y16.1.2.1.length) big) then
                                bif (decide (0 ≤ (1 : Int)) && decide ((1 : Int) ≤ ((p.2.2.2.2.2.2.1.length) : Int))) then
                                  L_spec_l20Ends_10 n ((), (), (), (), (), (p.2.2.2.2.2.1 ++ y16.1.2.1), (p.2.2.2.2.2.2.1.drop (Int.toNat (1 : Int))), (IntKind.i64.wrap (p.2.2.2.2.2.2.2.1 - (1 : Int))), p.2.2.2.2.2.2.2.2.1, p.2.2.2.2.2.2.2.2.2.1, p.2.2.2.2.2.2.2.2.2.2.1, y16.1.1, y2.2.1, ())
                                else
                                  none
                              else
                                none
                          else
                            none
                        else
                          L_spec_l20Ends_10 n ((), (), (), (), (), p.2.2.2.2.2.1, p.2.2.2.2.2.2.1, (IntKind.i64.wrap (p.2.2.2.2.2.2.2.1 - (1 : Int))), p.2.2.2.2.2.2.2.2.1, p.2.2.2.2.2.2.2.2.2.1, p.2.2.2.2.2.2.2.2.2.2.1, p.2.2.2.2.2.2.2.2.2.2.2.1, y2.2.1, ())
                    else
                      bif (decide (y2.1.1 = (6 : Int))) then
                        bif (decide ((0 : Int) < (((p.2.2.2.2.2.1.length) : Int)))) then
                          bif (inR (0 : Int) (p.2.2.2.2.2.1.length)) then
                            (F_spec_EndHear p.2.2.2.2.2.2.2.2.2.2.1 (2 : Int) (rdI ((0 : Int), (0 : Int), (0 : Int), (0 : Int), (0 : Int), false, false, false, false, ([] : List TRange), ([] : List Int)) p.2.2.2.2.2.1 (Int.toNat (0 : Int))) (IntKind.i64.wrap ((IntKind.i64.wrap ((30 : Int) * (IntKind.i64.wrap ((30 : Int) - p.2.2.2.2.2.2.2.1)))) + y1.1.1))).bind fun y17 =>
                              bif (Nat.ble (p.2.2.2.2.2.2.1.length + y17.1.2.1.length) big) then
                                bif (decide (0 ≤ (1 : Int)) && decide ((1 : Int) ≤ ((p.2.2.2.2.2.1.length) : Int))) then
                                  L_spec_l20Ends_10 n ((), (), (), (), (), (p.2.2.2.2.2.1.drop (Int.toNat (1 : Int))), (p.2.2.2.2.2.2.1 ++ y17.1.2.1), (IntKind.i64.wrap (p.2.2.2.2.2.2.2.1 - (1 : Int))), p.2.2.2.2.2.2.2.2.1, p.2.2.2.2.2.2.2.2.2.1, y17.1.1, p.2.2.2.2.2.2.2.2.2.2.2.1, y2.2.1, ())
                                else
                                  none
                              else
                                none
                          else
                            none
                        else
                          L_spec_l20Ends_10 n ((), (), (), (), (), p.2.2.2.2.2.1, p.2.2.2.2.2.2.1, (IntKind.i64.wrap (p.2.2.2.2.2.2.2.1 - (1 : Int))), p.2.2.2.2.2.2.2.2.1, p.2.2.2.2.2.2.2.2.2.1, p.2.2.2.2.2.2.2.2.2.2.1, p.2.2.2.2.2.2.2.2.2.2.2.1, y2.2.1, ())
                      else
                        bif (decide ((0 : Int) < (((p.2.2.2.2.2.2.1.length) : Int)))) then
                          bif (inR (0 : Int) (p.2.2.2.2.2.2.1.length)) then
                            (F_spec_EndHear p.2.2.2.2.2.2.2.2.2.2.2.1 (1 : Int) (rdI ((0 : Int), (0 : Int), (0 : Int), (0 : Int), (0 : Int), false, false, false, false, ([] : List TRange), ([] : List Int)) p.2.2.2.2.2.2.1 (Int.toNat (0 : Int))) (IntKind.i64.wrap ((IntKind.i64.wrap ((30 : Int) * (IntKind.i64.wrap ((30 : Int) - p.2.2.2.2.2.2.2.1)))) + y1.1.1))).bind fun y18 =>
                              bif (Nat.ble (p.2.2.2.2.2.1.length + y18.1.2.1.length) big) then
                                bif (decide (0 ≤ (1 : Int)) && decide ((1 : Int) ≤ ((p.2.2.2.2.2.2.1.length) : Int))) then
                                  L_spec_l20Ends_10 n ((), (), (), (), (), (p.2.2.2.2.2.1 ++ y18.1.2.1), (p.2.2.2.2.2.2.1.drop (Int.toNat (1 : Int))), (IntKind.i64.wrap (p.2.2.2.2.2.2.2.1 - (1 : Int))), p.2.2.2.2.2.2.2.2.1, p.2.2.2.2.2.2.2.2.2.1, p.2.2.2.2.2.2.2.2.2.2.1, y18.1.1, y2.2.1, ())
                                else
                                  none
                              else
                                none
                          else
                            none
                        else
                          L_spec_l20Ends_10 n ((), (), (), (), (), p.2.2.2.2.2.1, p.2.2.2.2.2.2.1, (IntKind.i64.wrap (p.2.2.2.2.2.2.2.1 - (1 : Int))), p.2.2.2.2.2.2.2.2.1, p.2.2.2.2.2.2.2.2.2.1, p.2.2.2.2.2.2.2.2.2.2.1, p.2.2.2.2.2.2.2.2.2.2.2.1, y2.2.1, ())
    else
      some ((p.2.2.2.2.2.2.2.2.2.2.1, p.2.2.2.2.2.2.2.2.2.2.2.1, p.2.2.2.2.2.1, p.2.2.2.2.2.2.1, ()), p.2.2.2.2.2.2.2.2.2.2.2.2.1, ())
noncomputable def F_spec_l20Ends (a0 : Ts_l20Rd) : Option ((TEnd × TEnd × (List TSegment) × (List TSegment) × Unit) × (Ts_l20Rd × Unit)) :=
  (F_spec_l20Rd_pick a0 (3 : Int)).bind fun y1 =>
    bif (inR y1.1.1 (([(5 : Int), (65530 : Int), (32760 : Int)]).length)) then
      (F_spec_l20Rd_pick y1.2.1 (16 : Int)).bind fun y2 =>
        (F_spec_EndNew (1 : Int) (7 : Int) (rdI (0 : Int) ([(5 : Int), (65530 : Int), (32760 : Int)]) (Int.toNat y1.1.1)) (IntKind.i64.wrap ((4 : Int) + y2.1.1))).bind fun y3 =>
          (F_spec_l20Rd_pick y2.2.1 (3 : Int)).bind fun y4 =>
            bif (inR y4.1.1 (([(100 : Int), (65534 : Int), (0 : Int)]).length)) then
              (F_spec_l20Rd_pick y4.2.1 (16 : Int)).bind fun y5 =>
                (F_spec_EndNew (2 : Int) (9 : Int) (rdI (0 : Int) ([(100 : Int), (65534 : Int), (0 : Int)]) (Int.toNat y4.1.1)) (IntKind.i64.wrap ((4 : Int) + y5.1.1))).bind fun y6 =>
                  (F_spec_EndListen y6.1.1).bind fun y7 =>
                    (F_spec_EndConnect y3.1.1 (2 : Int) (9 : Int) (0 : Int)).bind fun y8 =>
                      bif (Nat.ble (([] : List TSegment).length + y8.1.2.1.length) big) then
                        (F_spec_l20Rd_pick y5.2.1 (26 : Int)).bind fun y9 =>
                          L_spec_l20Ends_10 fuel ((), (), (), (), (), ([] : List TSegment), (([] : List TSegment) ++ y8.1.2.1), (IntKind.i64.wrap ((3 : Int) + y9.1.1)), ((0 : Int), (0 : Int), (0 : Int), (0 : Int), (0 : Int), (0 : Int), ((0 : Int), ([] : List Int), (0 : Int), (0 : Int), ([] : List TRange)), ((0 : Int), (0 : Int), ([] : List Int), ([] : List TEarly)), false, false, false, (0 : Int), (0 : Int), (0 : Int), (0 : Int), (0 : Int), (0 : Int)), ((0 : Int), (0 : Int), (0 : Int), (0 : Int), (0 : Int), (0 : Int), ((0 : Int), ([] : List Int), (0 : Int), (0 : Int), ([] : List TRange)), ((0 : Int), (0 : Int), ([] : List Int), ([] : List TEarly)), false, false, false, (0 : Int), (0 : Int), (0 : Int), (0 : Int), (0 : Int), (0 : Int)), y8.1.1, y7.1.1, y9.2.1, ())
                      else
                        none
            else
              none
    else
      none
/-! spec.l20End (function 72) -/
noncomputable def F_spec_l20End (a0 : Ts_l20Rd) (a1 : Int) : Option ((TEnd × Unit) × (Ts_l20Rd × Unit)) :=
  (F_spec_l20Ends a0).bind fun y1 =>
    (F_spec_l20Rd_pick y1.2.1 (2 : Int)).bind fun y2 =>
      bif (decide (y2.1.1 = (0 : Int))) then
        (F_spec_l20Rd_odd y2.2.1 a1).bind fun y3 =>
          bif y3.1.1 then
            (F_spec_l20Rd_pick y3.2.1 (6 : Int)).bind fun y4 =>
              bif (decide (y4.1.1 = (0 : Int))) then
                (F_spec_l20Rd_pick y4.2.1 (8 : Int)).bind fun y5 =>
                  some ((((IntKind.i64.wrap (y5.1.1 - (1 : Int))), y1.1.2.1.2), ()), y5.2.1, ())
              else
                bif (decide (y4.1.1 = (1 : Int))) then
                  (F_spec_l20Rd_pick y4.2.1 (3 : Int)).bind fun y6 =>
                    some (((y1.1.2.1.1, y1.1.2.1.2.1, y1.1.2.1.2.2.1, y1.1.2.1.2.2.2.1, y1.1.2.1.2.2.2.2.1, y1.1.2.1.2.2.2.2.2.1, y1.1.2.1.2.2.2.2.2.2.1, y1.1.2.1.2.2.2.2.2.2.2.1, y1.1.2.1.2.2.2.2.2.2.2.2.1, y1.1.2.1.2.2.2.2.2.2.2.2.2.1, y1.1.2.1.2.2.2.2.2.2.2.2.2.2.1, (IntKind.i64.wrap ((IntKind.i64.wrap (y1.1.2.1.2.2.2.2.2.2.2.1.1 - (1 : Int))) + y6.1.1)), y1.1.2.1.2.2.2.2.2.2.2.2.2.2.2.2), ()), y6.2.1, ())
                else
                  bif (decide (y4.1.1 = (2 : Int))) then
                    some (((y1.1.2.1.1, y1.1.2.1.2.1, y1.1.2.1.2.2.1, y1.1.2.1.2.2.2.1, y1.1.2.1.2.2.2.2.1, y1.1.2.1.2.2.2.2.2.1, y1.1.2.1.2.2.2.2.2.2.1, y1.1.2.1.2.2.2.2.2.2.2.1, y1.1.2.1.2.2.2.2.2.2.2.2.1, (!y1.1.2.1.2.2.2.2.2.2.2.2.2.1), y1.1.2.1.2.2.2.2.2.2.2.2.2.2), ()), y4.2.1, ())
                  else
                    bif (decide (y4.1.1 = (3 : Int))) then
                      some (((y1.1.2.1.1, y1.1.2.1.2.1, y1.1.2.1.2.2.1, y1.1.2.1.2.2.2.1, y1.1.2.1.2.2.2.2.1, y1.1.2.1.2.2.2.2.2.1, (y1.1.2.1.2.2.2.2.2.1, y1.1.2.1.2.2.2.2.2.2.1.2), y1.1.2.1.2.2.2.2.2.2.2), ()), y4.2.1, ())
                    else
                      bif (decide (y4.1.1 = (4 : Int))) then
                        some (((y1.1.2.1.1, y1.1.2.1.2.1, y1.1.2.1.2.2.1, y1.1.2.1.2.2.2.1, y1.1.2.1.2.2.2.2.1, y1.1.2.1.2.2.2.2.2.1, y1.1.2.1.2.2.2.2.2.2.1, y1.1.2.1.2.2.2.2.2.2.2.1, y1.1.2.1.2.2.2.2.2.2.2.2.1, y1.1.2.1.2.2.2.2.2.2.2.2.2.1, y1.1.2.1.2.2.2.2.2.2.2.2.2.2.1, y1.1.2.1.2.2.2.2.2.2.2.2.2.2.2.1, y1.1.2.1.2.2.2.2.2.2.2.2.2.2.2.2.1, (9 : Int), y1.1.2.1.2.2.2.2.2.2.2.2.2.2.2.2.2.2), ()), y4.2.1, ())
                      else
                        some (((y1.1.2.1.1, y1.1.2.1.2.1, (0 : Int), y1.1.2.1.2.2.2), ()), y4.2.1, ())
          else
            some ((y1.1.2.1, ()), y3.2.1, ())
      else
        (F_spec_l20Rd_odd y2.2.1 a1).bind fun y7 =>
          bif y7.1.1 then
            (F_spec_l20Rd_pick y7.2.1 (6 : Int)).bind fun y8 =>
              bif (decide (y8.1.1 = (0 : Int))) then
                (F_spec_l20Rd_pick y8.2.1 (8 : Int)).bind fun y9 =>
                  some ((((IntKind.i64.wrap (y9.1.1 - (1 : Int))), y1.1.1.2), ()), y9.2.1, ())
              else
                bif (decide (y8.1.1 = (1 : Int))) then
                  (F_spec_l20Rd_pick y8.2.1 (3 : Int)).bind fun y10 =>
                    some (((y1.1.1.1, y1.1.1.2.1, y1.1.1.2.2.1, y1.1.1.2.2.2.1, y1.1.1.2.2.2.2.1, y1.1.1.2.2.2.2.2.1, y1.1.1.2.2.2.2.2.2.1, y1.1.1.2.2.2.2.2.2.2.1, y1.1.1.2.2.2.2.2.2.2.2.1, y1.1.1.2.2.2.2.2.2.2.2.2.1, y1.1.1.2.2.2.2.2.2.2.2.2.2.1, (IntKind.i64.wrap ((IntKind.i64.wrap (y1.1.1.2.2.2.2.2.2.2.1.1 - (1 : Int))) + y10.1.1)), y1.1.1.2.2.2.2.2.2.2.2.2.2.2.2), ()), y10.2.1, ())
                else
                  bif (decide (y8.1.1 = (2 : Int))) then
                    some (((y1.1.1.1, y1.1.1.2.1, y1.1.1.2.2.1, y1.1.1.2.2.2.1, y1.1.1.2.2.2.2.1, y1.1.1.2.2.2.2.2.1, y1.1.1.2.2.2.2.2.2.1, y1.1.1.2.2.2.2.2.2.2.1, y1.1.1.2.2.2.2.2.2.2.2.1, (!y1.1.1.2.2.2.2.2.2.2.2.2.1), y1.1.1.2.2.2.2.2.2.2.2.2.2), ()), y8.2.1, ())
                  else
                    bif (decide (y8.1.1 = (3 : Int))) then
                      some (((y1.1.1.1, y1.1.1.2.1, y1.1.1.2.2.1, y1.1.1.2.2.2.1, y1.1.1.2.2.2.2.1, y1.1.1.2.2.2.2.2.1, (y1.1.1.2.2.2.2.2.1, y1.1.1.2.2.2.2.2.2.1.2), y1.1.1.2.2.2.2.2.2.2), ()), y8.2.1, ())
                    else
                      bif (decide (y8.1.1 = (4 : Int))) then
                        some (((y1.1.1.1, y1.1.1.2.1, y1.1.1.2.2.1, y1.1.1.2.2.2.1, y1.1.1.2.2.2.2.1, y1.1.1.2.2.2.2.2.1, y1.1.1.2.2.2.2.2.2.1, y1.1.1.2.2.2.2.2.2.2.1, y1.1.1.2.2.2.2.2.2.2.2.1, y1.1.1.2.2.2.2.2.2.2.2.2.1, y1.1.1.2.2.2.2.2.2.2.2.2.2.1, y1.1.1.2.2.2.2.2.2.2.2.2.2.2.1, y1.1.1.2.2.2.2.2.2.2.2.2.2.2.2.1, (9 : Int), y1.1.1.2.2.2.2.2.2.2.2.2.2.2.2.2.2), ()), y8.2.1, ())
                      else
                        some (((y1.1.1.1, y1.1.1.2.1, (0 : Int), y1.1.1.2.2.2), ()), y8.2.1, ())
          else
            some ((y1.1.1, ()), y7.2.1, ())
/-! spec.DrawEndConnect (function 18) -/
noncomputable def F_spec_DrawEndConnect (a0 : (List Int)) : Option ((TEnd × Int × Int × Int × Unit) × (Unit)) :=
  (F_spec_l20Open a0).bind fun y1 =>
    (F_spec_l20Rd_seq y1.1.1).bind fun y2 =>
      (F_spec_EndNew (1 : Int) (7 : Int) y2.1.1 (9 : Int)).bind fun y3 =>
        (F_spec_l20Rd_pick y2.2.1 (3 : Int)).bind fun y4 =>
          bif (decide (y4.1.1 = (0 : Int))) then
            (F_spec_l20End y4.2.1 (9 : Int)).bind fun y5 =>
              (F_spec_l20Rd_pick y5.2.1 (5 : Int)).bind fun y6 =>
                (F_spec_l20Rd_pick y6.2.1 (9 : Int)).bind fun y7 =>
                  (F_spec_l20Rd_pick y7.2.1 (100 : Int)).bind fun y8 =>
                    some ((y5.1.1, y6.1.1, y7.1.1, y8.1.1, ()), ())
          else
            (F_spec_l20Rd_pick y4.2.1 (5 : Int)).bind fun y9 =>
              (F_spec_l20Rd_pick y9.2.1 (9 : Int)).bind fun y10 =>
                (F_spec_l20Rd_pick y10.2.1 (100 : Int)).bind fun y11 =>
                  some ((y3.1.1, y9.1.1, y10.1.1, y11.1.1, ()), ())
/-! impl.word (function 66) -/
noncomputable def F_impl_word (a0 : Int) : Bool :=
  (F_impl_in a0 (0 : Int) (65535 : Int))
/-! impl.portOk (function 74) -/
noncomputable def F_impl_portOk (a0 : Int) : Bool :=
  (F_impl_in a0 (1 : Int) (255 : Int))
/-! slices.Equal[[]impl.Range,impl.Range] (function 149) -/
noncomputable def L_slices_Equal_impl_Range_impl_Range_4 : Nat → (List TRange) × (List TRange) × Int × Int × Unit → Option ((Bool × Unit) × (Unit))
  | 0, _ => none
  | n + 1, p =>
    bif (decide (p.2.2.2.1 < p.2.2.1)) then
      bif (inR p.2.2.2.1 (p.1.length)) then
        bif (inR p.2.2.2.1 (p.2.1.length)) then
          bif (!((decide ((rdI ((0 : Int), (0 : Int)) p.1 (Int.toNat p.2.2.2.1)).1 = (rdI ((0 : Int), (0 : Int)) p.2.1 (Int.toNat p.2.2.2.1)).1)) && ((decide ((rdI ((0 : Int), (0 : Int)) p.1 (Int.toNat p.2.2.2.1)).2 = (rdI ((0 : Int), (0 : Int)) p.2.1 (Int.toNat p.2.2.2.1)).2)) && true))) then
            some ((false, ()), ())
          else
            L_slices_Equal_impl_Range_impl_Range_4 n (p.1, p.2.1, p.2.2.1, (IntKind.i64.wrap (p.2.2.2.1 + (1 : Int))), ())
        else
          none
      else
        none
    else
      some ((true, ()), ())
noncomputable def F_slices_Equal_impl_Range_impl_Range (a0 : (List TRange)) (a1 : (List TRange)) : Option ((Bool × Unit) × (Unit)) :=
  bif (!decide ((((a0.length) : Int)) = (((a1.length) : Int)))) then
    some ((false, ()), ())
  else
    L_slices_Equal_impl_Range_impl_Range_4 fuel (a0, a1, (((a0.length) : Int)), (0 : Int), ())
/-! slices.Clip[[]impl.Range,impl.Range] (function 254) -/
noncomputable def F_slices_Clip_impl_Range_impl_Range (a0 : (List TRange)) : Option (((List TRange) × Unit) × (Unit)) :=
  bif ((decide (0 ≤ (((a0.length) : Int))) && decide ((((a0.length) : Int)) ≤ ((a0.length) : Int))) && (decide ((((a0.length) : Int)) = (((a0.length) : Int))))) then
    some (((a0.take (Int.toNat (((a0.length) : Int)))), ()), ())
  else
    none
/-! impl.clone[impl.Range] (function 204) -/
noncomputable def F_impl_clone_impl_Range (a0 : (List TRange)) : Option (((List TRange) × Unit) × (Unit)) :=
  bif (decide ((((a0.length) : Int)) = (0 : Int))) then
    some ((([] : List TRange), ()), ())
  else
    bif (Nat.ble (([] : List TRange).length + a0.length) big) then
      (F_slices_Clip_impl_Range_impl_Range (([] : List TRange) ++ a0)).bind fun y1 =>
        some ((y1.1.1, ()), ())
    else
      none
/-! impl.rangesOk (function 150) -/
noncomputable def L_impl_rangesOk_4 : Nat → Int × (List TRange) × Int × (List TRange) × Int × Int × Unit → Option (((List TRange) × Unit) × (Unit))
  | 0, _ => none
  | n + 1, p =>
    bif (decide (p.2.2.2.2.2.1 < p.2.2.2.2.1)) then
      bif (inR p.2.2.2.2.2.1 (p.2.2.2.1.length)) then
        bif (bif (bif (bif (decide (p.2.2.1 < (rdI ((0 : Int), (0 : Int)) p.2.2.2.1 (Int.toNat p.2.2.2.2.2.1)).1)) then (decide ((rdI ((0 : Int), (0 : Int)) p.2.2.2.1 (Int.toNat p.2.2.2.2.2.1)).1 < (rdI ((0 : Int), (0 : Int)) p.2.2.2.1 (Int.toNat p.2.2.2.2.2.1)).2)) else false) then (decide ((rdI ((0 : Int), (0 : Int)) p.2.2.2.1 (Int.toNat p.2.2.2.2.2.1)).2 ≤ p.1)) else false) then (decide ((((p.2.1.length) : Int)) < (2 : Int))) else false) then
          bif (Nat.ble (p.2.1.length + ([(rdI ((0 : Int), (0 : Int)) p.2.2.2.1 (Int.toNat p.2.2.2.2.2.1))]).length) big) then
            L_impl_rangesOk_4 n (p.1, (p.2.1 ++ ([(rdI ((0 : Int), (0 : Int)) p.2.2.2.1 (Int.toNat p.2.2.2.2.2.1))])), (rdI ((0 : Int), (0 : Int)) p.2.2.2.1 (Int.toNat p.2.2.2.2.2.1)).2, p.2.2.2.1, p.2.2.2.2.1, (IntKind.i64.wrap (p.2.2.2.2.2.1 + (1 : Int))), ())
          else
            none
        else
          L_impl_rangesOk_4 n (p.1, p.2.1, p.2.2.1, p.2.2.2.1, p.2.2.2.2.1, (IntKind.i64.wrap (p.2.2.2.2.2.1 + (1 : Int))), ())
      else
        none
    else
      (F_impl_clone_impl_Range p.2.1).bind fun y1 =>
        some ((y1.1.1, ()), ())
noncomputable def F_impl_rangesOk (a0 : (List TRange)) (a1 : Int) (a2 : Int) : Option (((List TRange) × Unit) × (Unit)) :=
  L_impl_rangesOk_4 fuel (a2, ([] : List TRange), a1, a0, (((a0.length) : Int)), (0 : Int), ())
/-! impl.MouthOk (function 86) -/
noncomputable def F_impl_MouthOk (a0 : TMouth) : Option ((Bool × Unit) × (Unit)) :=
  bif (bif (bif (bif (bif (F_impl_in a0.1 (0 : Int) (1000000 : Int)) then (decide ((((a0.2.1.length) : Int)) ≤ (32 : Int))) else false) then (F_impl_in a0.2.2.1 (0 : Int) (((a0.2.1.length) : Int))) else false) then (F_impl_in a0.2.2.2.1 (0 : Int) (255 : Int)) else false) then (decide ((((a0.2.2.2.2.length) : Int)) ≤ (2 : Int))) else false) then
    (F_impl_rangesOk a0.2.2.2.2 a0.1 (IntKind.i64.wrap (a0.1 + a0.2.2.1))).bind fun y1 =>
      (F_slices_Equal_impl_Range_impl_Range y1.1.1 a0.2.2.2.2).bind fun y2 =>
        some ((y2.1.1, ()), ())
  else
    some ((false, ()), ())
/-! (impl.Ear).free (function 151) -/
noncomputable def F_impl_Ear_free (a0 : TEar) : Int :=
  (IntKind.i64.wrap (a0.2.1 - (((a0.2.2.1.length) : Int))))
/-! impl.EarOk (function 87) -/
noncomputable def L_impl_EarOk_4 : Nat → Unit × (List TEarly) × Int × Int × TEar × Unit → Option ((Bool × Unit) × (Unit))
  | 0, _ => none
  | n + 1, p =>
    bif (decide (p.2.2.2.1 < p.2.2.1)) then
      bif (inR p.2.2.2.1 (p.2.1.length)) then
        bif ((inR (IntKind.i64.wrap (p.2.2.2.1 - (1 : Int))) (p.2.2.2.2.1.2.2.2.length)) || (!((!(!(F_impl_in (rdI ((0 : Int), (0 : Int)) p.2.1 (Int.toNat p.2.2.2.1)).1 (IntKind.i64.wrap (p.2.2.2.2.1.1 + (1 : Int))) (IntKind.i64.wrap ((IntKind.i64.wrap (p.2.2.2.2.1.1 + (F_impl_Ear_free p.2.2.2.2.1))) - (1 : Int)))))) && (decide ((0 : Int) < p.2.2.2.1))))) then
          bif (bif (!(F_impl_in (rdI ((0 : Int), (0 : Int)) p.2.1 (Int.toNat p.2.2.2.1)).1 (IntKind.i64.wrap (p.2.2.2.2.1.1 + (1 : Int))) (IntKind.i64.wrap ((IntKind.i64.wrap (p.2.2.2.2.1.1 + (F_impl_Ear_free p.2.2.2.2.1))) - (1 : Int))))) then true else (bif (decide ((0 : Int) < p.2.2.2.1)) then (decide ((rdI ((0 : Int), (0 : Int)) p.2.1 (Int.toNat p.2.2.2.1)).1 ≤ (rdI ((0 : Int), (0 : Int)) p.2.2.2.2.1.2.2.2 (Int.toNat (IntKind.i64.wrap (p.2.2.2.1 - (1 : Int))))).1)) else false)) then
            some ((false, ()), ())
          else
            L_impl_EarOk_4 n ((), p.2.1, p.2.2.1, (IntKind.i64.wrap (p.2.2.2.1 + (1 : Int))), p.2.2.2.2.1, ())
        else
          none
      else
        none
    else
      some ((true, ()), ())
noncomputable def F_impl_EarOk (a0 : TEar) : Option ((Bool × Unit) × (Unit)) :=
  bif (bif (bif (!(F_impl_in a0.1 (0 : Int) (1000000 : Int))) then true else (!(F_impl_in a0.2.1 (1 : Int) (32 : Int)))) then true else (decide ((F_impl_Ear_free a0) < (0 : Int)))) then
    some ((false, ()), ())
  else
    L_impl_EarOk_4 fuel ((), a0.2.2.2, (((a0.2.2.2.length) : Int)), (0 : Int), a0, ())
/-! impl.ClockOk (function 88) -/
noncomputable def F_impl_ClockOk (a0 : TClock) : Bool :=
  (bif (bif (F_impl_in a0.1 (0 : Int) (80000 : Int)) then (F_impl_in a0.2.1 (0 : Int) (80000 : Int)) else false) then (F_impl_in a0.2.2 (4 : Int) (200 : Int)) else false)
/-! (impl.End).lastOk (function 89) -/
noncomputable def L_impl_End_lastOk_6 : Nat → Unit × (List TEarly) × Int × Int × TEnd × Unit → Option ((Bool × Unit) × (Unit))
  | 0, _ => none
  | n + 1, p =>
    bif (decide (p.2.2.2.1 < p.2.2.1)) then
      bif (inR p.2.2.2.1 (p.2.1.length)) then
        bif (decide (p.2.2.2.2.1.2.2.2.2.2.2.2.2.2.2.2.1 ≤ (rdI ((0 : Int), (0 : Int)) p.2.1 (Int.toNat p.2.2.2.1)).1)) then
          some ((false, ()), ())
        else
          L_impl_End_lastOk_6 n ((), p.2.1, p.2.2.1, (IntKind.i64.wrap (p.2.2.2.1 + (1 : Int))), p.2.2.2.2.1, ())
      else
        none
    else
      some (((bif (F_impl_in p.2.2.2.2.1.2.2.2.2.2.2.2.2.2.2.2.1 p.2.2.2.2.1.2.2.2.2.2.2.2.1.1 (1000000 : Int)) then (decide ((4 : Int) ≤ p.2.2.2.2.1.1)) else false), ()), ())
noncomputable def F_impl_End_lastOk (a0 : TEnd) : Option ((Bool × Unit) × (Unit)) :=
  bif (bif (bif a0.2.2.2.2.2.2.2.2.2.2.1 then (!a0.2.2.2.2.2.2.2.2.2.1) else false) then true else (bif a0.2.2.2.2.2.2.2.2.2.1 then (bif (bif (!a0.2.2.2.2.2.2.2.2.1) then true else (!decide (a0.2.2.2.2.2.2.1.2.2.1 = (((a0.2.2.2.2.2.2.1.2.1.length) : Int))))) then true else (decide (a0.1 < (4 : Int)))) else false)) then
    some ((false, ()), ())
  else
    bif (decide (a0.2.2.2.2.2.2.2.2.2.2.2.1 = (-1 : Int))) then
      some ((true, ()), ())
    else
      L_impl_End_lastOk_6 fuel ((), a0.2.2.2.2.2.2.2.1.2.2.2, (((a0.2.2.2.2.2.2.2.1.2.2.2.length) : Int)), (0 : Int), a0, ())
/-! (impl.End).goes (function 90) -/
noncomputable def F_impl_End_goes (a0 : TEnd) : Bool :=
  (bif (bif (decide (a0.1 = (2 : Int))) then true else (decide (a0.1 = (3 : Int)))) then true else (bif (decide (a0.1 = (4 : Int))) then (bif (decide ((0 : Int) < (((a0.2.2.2.2.2.2.1.2.1.length) : Int)))) then true else (bif a0.2.2.2.2.2.2.2.2.2.1 then (!a0.2.2.2.2.2.2.2.2.2.2.1) else false)) else false))
/-! impl.EndOk (function 23) -/
noncomputable def F_impl_EndOk (a0 : TEnd) : Option ((Bool × Unit) × (Unit)) :=
  bif (bif (bif (bif (bif (bif (!(F_impl_in a0.1 (0 : Int) (5 : Int))) then true else (!(F_impl_word a0.2.1))) then true else (!(F_impl_portOk a0.2.2.1))) then true else (!(F_impl_word a0.2.2.2.1))) then true else (!(F_impl_in a0.2.2.2.2.1 (0 : Int) (255 : Int)))) then true else (!(F_impl_word a0.2.2.2.2.2.1))) then
    some ((false, ()), ())
  else
    (F_impl_MouthOk a0.2.2.2.2.2.2.1).bind fun y1 =>
      bif (bif (!y1.1.1) then true else (decide (a0.2.2.2.2.2.2.1.1 < (IntKind.i64.wrap (a0.2.2.2.2.2.1 + (1 : Int)))))) then
        some ((false, ()), ())
      else
        (F_impl_EarOk a0.2.2.2.2.2.2.2.1).bind fun y2 =>
          bif (bif (bif (bif (!y2.1.1) then true else (!(F_impl_ClockOk a0.2.2.2.2.2.2.2.2.2.2.2.2.2.2))) then true else (!(F_impl_in a0.2.2.2.2.2.2.2.2.2.2.2.2.1 (0 : Int) (1000000 : Int)))) then true else (!(F_impl_in a0.2.2.2.2.2.2.2.2.2.2.2.2.2.1 (0 : Int) (8 : Int)))) then
            some ((false, ()), ())
          else
            (F_impl_End_lastOk a0).bind fun y3 =>
              bif (bif (bif (!y3.1.1) then true else (bif (decide (a0.1 < (4 : Int))) then (bif (!decide (a0.2.2.2.2.2.2.1.2.2.1 = (0 : Int))) then true else (!decide (a0.2.2.2.2.2.2.1.1 = (IntKind.i64.wrap (a0.2.2.2.2.2.1 + (1 : Int)))))) else false)) then true else (!((decide (a0.2.2.2.2.1 = (0 : Int))) == (bif (decide (a0.1 = (0 : Int))) then true else (decide (a0.1 = (1 : Int))))))) then
                some ((false, ()), ())
              else
                some (((bif (F_impl_End_goes a0) then true else (bif (decide (a0.2.2.2.2.2.2.2.2.2.2.2.2.1 = (0 : Int))) then (bif (decide (a0.2.2.2.2.2.2.2.2.2.2.2.2.2.1 = (0 : Int))) then true else (decide (a0.1 = (5 : Int)))) else false)), ()), ())
/-! impl.asked (function 73) -/
noncomputable def F_impl_asked (a0 : TEnd) (a1 : Int) : Option ((Bool × Unit) × (Unit)) :=
  (F_impl_EndOk a0).bind fun y1 =>
    some (((bif y1.1.1 then (F_impl_in a1 (0 : Int) (900000 : Int)) else false), ()), ())
/-! slices.Clip[[]byte,byte] (function 198) -/
noncomputable def F_slices_Clip_byte_byte (a0 : (List Int)) : Option (((List Int) × Unit) × (Unit)) :=
  bif ((decide (0 ≤ (((a0.length) : Int))) && decide ((((a0.length) : Int)) ≤ ((a0.length) : Int))) && (decide ((((a0.length) : Int)) = (((a0.length) : Int))))) then
    some (((a0.take (Int.toNat (((a0.length) : Int)))), ()), ())
  else
    none
/-! impl.clone[byte] (function 132) -/
noncomputable def F_impl_clone_byte (a0 : (List Int)) : Option (((List Int) × Unit) × (Unit)) :=
  bif (decide ((((a0.length) : Int)) = (0 : Int))) then
    some ((([] : List Int), ()), ())
  else
    bif (Nat.ble (([] : List Int).length + a0.length) big) then
      (F_slices_Clip_byte_byte (([] : List Int) ++ a0)).bind fun y1 =>
        some ((y1.1.1, ()), ())
    else
      none
/-! (impl.Mouth).copy (function 139) -/
noncomputable def F_impl_Mouth_copy (a0 : TMouth) : Option ((TMouth × Unit) × (Unit)) :=
  (F_impl_clone_byte a0.2.1).bind fun y1 =>
    (F_impl_clone_impl_Range a0.2.2.2.2).bind fun y2 =>
      some (((a0.1, y1.1.1, a0.2.2.1, a0.2.2.2.1, y2.1.1), ()), ())
/-! slices.Clip[[]impl.Early,impl.Early] (function 255) -/
noncomputable def F_slices_Clip_impl_Early_impl_Early (a0 : (List TEarly)) : Option (((List TEarly) × Unit) × (Unit)) :=
  bif ((decide (0 ≤ (((a0.length) : Int))) && decide ((((a0.length) : Int)) ≤ ((a0.length) : Int))) && (decide ((((a0.length) : Int)) = (((a0.length) : Int))))) then
    some (((a0.take (Int.toNat (((a0.length) : Int)))), ()), ())
  else
    none
/-! impl.clone[impl.Early] (function 205) -/
noncomputable def F_impl_clone_impl_Early (a0 : (List TEarly)) : Option (((List TEarly) × Unit) × (Unit)) :=
  bif (decide ((((a0.length) : Int)) = (0 : Int))) then
    some ((([] : List TEarly), ()), ())
  else
    bif (Nat.ble (([] : List TEarly).length + a0.length) big) then
      (F_slices_Clip_impl_Early_impl_Early (([] : List TEarly) ++ a0)).bind fun y1 =>
        some ((y1.1.1, ()), ())
    else
      none
/-! (impl.Ear).copy (function 140) -/
noncomputable def F_impl_Ear_copy (a0 : TEar) : Option ((TEar × Unit) × (Unit)) :=
  (F_impl_clone_byte a0.2.2.1).bind fun y1 =>
    (F_impl_clone_impl_Early a0.2.2.2).bind fun y2 =>
      some (((a0.1, a0.2.1, y1.1.1, y2.1.1), ()), ())
/-! (impl.End).copy (function 75) -/
noncomputable def F_impl_End_copy (a0 : TEnd) : Option ((TEnd × Unit) × (Unit)) :=
  (F_impl_Mouth_copy a0.2.2.2.2.2.2.1).bind fun y1 =>
    (F_impl_Ear_copy a0.2.2.2.2.2.2.2.1).bind fun y2 =>
      some (((a0.1, a0.2.1, a0.2.2.1, a0.2.2.2.1, a0.2.2.2.2.1, a0.2.2.2.2.2.1, y1.1.1, y2.1.1, a0.2.2.2.2.2.2.2.2), ()), ())
/-! (*impl.End).arm (function 76) -/
noncomputable def F_impl_End_arm (a0 : TEnd) (a1 : Int) : Option ((Unit) × (TEnd × Unit)) :=
  bif (bif (decide (a0.2.2.2.2.2.2.2.2.2.2.2.2.1 = (0 : Int))) then (F_impl_End_goes a0) else false) then
    some ((), (a0.1, a0.2.1, a0.2.2.1, a0.2.2.2.1, a0.2.2.2.2.1, a0.2.2.2.2.2.1, a0.2.2.2.2.2.2.1, a0.2.2.2.2.2.2.2.1, a0.2.2.2.2.2.2.2.2.1, a0.2.2.2.2.2.2.2.2.2.1, a0.2.2.2.2.2.2.2.2.2.2.1, a0.2.2.2.2.2.2.2.2.2.2.2.1, (IntKind.i64.wrap (a1 + a0.2.2.2.2.2.2.2.2.2.2.2.2.2.2.2.2)), a0.2.2.2.2.2.2.2.2.2.2.2.2.2), ())
  else
    some ((), a0, ())
/-! impl.SeqOf (function 159) -/
noncomputable def F_impl_SeqOf (a0 : Int) : Option ((Int × Unit) × (Unit)) :=
  bif (!(decide ((65536 : Int) = 0))) then
    bif (!(decide ((65536 : Int) = 0))) then
      some ((((IntKind.i64.wrap ((a0.tmod (65536 : Int)) + (65536 : Int))).tmod (65536 : Int)), ()), ())
    else
      none
  else
    none
/-! (impl.End).waits (function 206) -/
noncomputable def F_impl_End_waits (a0 : TEnd) : Option ((Int × Unit) × (Unit)) :=
  bif (decide (a0.2.2.2.2.2.2.2.2.2.2.2.1 = a0.2.2.2.2.2.2.2.1.1)) then
    some (((IntKind.i64.wrap (a0.2.2.2.2.2.2.2.1.1 + (1 : Int))), ()), ())
  else
    some ((a0.2.2.2.2.2.2.2.1.1, ()), ())
/-! (impl.Ear).ranges (function 207) -/
noncomputable def L_impl_Ear_ranges_3 : Nat → (List TRange) × (List TEarly) × Int × Int × Unit → Option (((List TRange) × Unit) × (Unit))
  | 0, _ => none
  | n + 1, p =>
    bif (decide (p.2.2.2.1 < p.2.2.1)) then
      bif (inR p.2.2.2.1 (p.2.1.length)) then
        bif ((inR (IntKind.i64.wrap ((((p.1.length) : Int)) - (1 : Int))) (p.1.length)) || (!(decide ((0 : Int) < (((p.1.length) : Int)))))) then
          bif (bif (decide ((0 : Int) < (((p.1.length) : Int)))) then (decide ((rdI ((0 : Int), (0 : Int)) p.1 (Int.toNat (IntKind.i64.wrap ((((p.1.length) : Int)) - (1 : Int))))).2 = (rdI ((0 : Int), (0 : Int)) p.2.1 (Int.toNat p.2.2.2.1)).1)) else false) then
            bif (inR (IntKind.i64.wrap ((((p.1.length) : Int)) - (1 : Int))) (p.1.length)) then
              bif (inR (IntKind.i64.wrap ((((p.1.length) : Int)) - (1 : Int))) (p.1.length)) then
                L_impl_Ear_ranges_3 n ((p.1.set (Int.toNat (IntKind.i64.wrap ((((p.1.length) : Int)) - (1 : Int)))) ((rdI ((0 : Int), (0 : Int)) p.1 (Int.toNat (IntKind.i64.wrap ((((p.1.length) : Int)) - (1 : Int))))).1, (IntKind.i64.wrap ((rdI ((0 : Int), (0 : Int)) p.1 (Int.toNat (IntKind.i64.wrap ((((p.1.length) : Int)) - (1 : Int))))).2 + (1 : Int))))), p.2.1, p.2.2.1, (IntKind.i64.wrap (p.2.2.2.1 + (1 : Int))), ())
              else
                none
            else
              none
          else
            bif (Nat.ble (p.1.length + ([((rdI ((0 : Int), (0 : Int)) p.2.1 (Int.toNat p.2.2.2.1)).1, (IntKind.i64.wrap ((rdI ((0 : Int), (0 : Int)) p.2.1 (Int.toNat p.2.2.2.1)).1 + (1 : Int))))]).length) big) then
              L_impl_Ear_ranges_3 n ((p.1 ++ ([((rdI ((0 : Int), (0 : Int)) p.2.1 (Int.toNat p.2.2.2.1)).1, (IntKind.i64.wrap ((rdI ((0 : Int), (0 : Int)) p.2.1 (Int.toNat p.2.2.2.1)).1 + (1 : Int))))])), p.2.1, p.2.2.1, (IntKind.i64.wrap (p.2.2.2.1 + (1 : Int))), ())
            else
              none
        else
          none
      else
        none
    else
      bif (decide (0 ≤ (if (2 : Int) < (((p.1.length) : Int)) then (2 : Int) else (((p.1.length) : Int)))) && decide ((if (2 : Int) < (((p.1.length) : Int)) then (2 : Int) else (((p.1.length) : Int))) ≤ ((p.1.length) : Int))) then
        (F_impl_clone_impl_Range ((p.1.take (Int.toNat (if (2 : Int) < (((p.1.length) : Int)) then (2 : Int) else (((p.1.length) : Int))))).drop 0)).bind fun y1 =>
          some ((y1.1.1, ()), ())
      else
        none
noncomputable def F_impl_Ear_ranges (a0 : TEar) : Option (((List TRange) × Unit) × (Unit)) :=
  L_impl_Ear_ranges_3 fuel (([] : List TRange), a0.2.2.2, (((a0.2.2.2.length) : Int)), (0 : Int), ())
/-! (impl.Segment).copy (function 208) -/
noncomputable def F_impl_Segment_copy (a0 : TSegment) : Option ((TSegment × Unit) × (Unit)) :=
  (F_impl_clone_impl_Range a0.2.2.2.2.2.2.2.2.2.1).bind fun y1 =>
    (F_impl_clone_byte a0.2.2.2.2.2.2.2.2.2.2).bind fun y2 =>
      some (((a0.1, a0.2.1, a0.2.2.1, a0.2.2.2.1, a0.2.2.2.2.1, a0.2.2.2.2.2.1, a0.2.2.2.2.2.2.1, a0.2.2.2.2.2.2.2.1, a0.2.2.2.2.2.2.2.2.1, y1.1.1, y2.1.1), ()), ())
/-! (impl.End).segment (function 141) -/
noncomputable def L_impl_End_segment_3 : Nat → Unit × Unit × (List TRange) × Int × Int × TSegment × TSegment × Unit → Option ((TSegment × Unit) × (Unit))
  | 0, _ => none
  | n + 1, p =>
    bif (decide (p.2.2.2.2.1 < p.2.2.2.1)) then
      bif (inR p.2.2.2.2.1 (p.2.2.1.length)) then
        (F_impl_SeqOf (rdI ((0 : Int), (0 : Int)) p.2.2.1 (Int.toNat p.2.2.2.2.1)).1).bind fun y1 =>
          (F_impl_SeqOf (rdI ((0 : Int), (0 : Int)) p.2.2.1 (Int.toNat p.2.2.2.2.1)).2).bind fun y2 =>
            bif (Nat.ble (p.2.2.2.2.2.2.1.2.2.2.2.2.2.2.2.2.1.length + ([(y1.1.1, y2.1.1)]).length) big) then
              L_impl_End_segment_3 n ((), (), p.2.2.1, p.2.2.2.1, (IntKind.i64.wrap (p.2.2.2.2.1 + (1 : Int))), p.2.2.2.2.2.1, (p.2.2.2.2.2.2.1.1, p.2.2.2.2.2.2.1.2.1, p.2.2.2.2.2.2.1.2.2.1, p.2.2.2.2.2.2.1.2.2.2.1, p.2.2.2.2.2.2.1.2.2.2.2.1, p.2.2.2.2.2.2.1.2.2.2.2.2.1, p.2.2.2.2.2.2.1.2.2.2.2.2.2.1, p.2.2.2.2.2.2.1.2.2.2.2.2.2.2.1, p.2.2.2.2.2.2.1.2.2.2.2.2.2.2.2.1, (p.2.2.2.2.2.2.1.2.2.2.2.2.2.2.2.2.1 ++ ([(y1.1.1, y2.1.1)])), p.2.2.2.2.2.2.1.2.2.2.2.2.2.2.2.2.2), ())
            else
              none
      else
        none
    else
      (F_impl_Segment_copy p.2.2.2.2.2.2.1).bind fun y3 =>
        some ((y3.1.1, ()), ())
noncomputable def F_impl_End_segment (a0 : TEnd) (a1 : Int) (a2 : (List Int)) : Option ((TSegment × Unit) × (Unit)) :=
  (F_impl_SeqOf a1).bind fun y1 =>
    (F_impl_End_waits a0).bind fun y2 =>
      (F_impl_SeqOf y2.1.1).bind fun y3 =>
        (F_impl_Ear_ranges a0.2.2.2.2.2.2.2.1).bind fun y4 =>
          L_impl_End_segment_3 fuel ((), (), y4.1.1, (((y4.1.1.length) : Int)), (0 : Int), ((0 : Int), (0 : Int), (0 : Int), (0 : Int), (0 : Int), false, false, false, false, ([] : List TRange), ([] : List Int)), (a0.2.2.1, a0.2.2.2.2.1, y1.1.1, y3.1.1, (F_impl_Ear_free a0.2.2.2.2.2.2.2.1), false, true, false, false, ([] : List TRange), a2), ())
/-! (impl.End).first (function 77) -/
noncomputable def F_impl_End_first (a0 : TEnd) : Option ((TSegment × Unit) × (Unit)) :=
  bif (decide (a0.1 = (2 : Int))) then
    some (((a0.2.2.1, a0.2.2.2.2.1, a0.2.2.2.2.2.1, (0 : Int), (0 : Int), true, false, false, false, ([] : List TRange), ([] : List Int)), ()), ())
  else
    (F_impl_End_segment a0 a0.2.2.2.2.2.1 ([] : List Int)).bind fun y1 =>
      some (((y1.1.1.1, y1.1.1.2.1, y1.1.1.2.2.1, y1.1.1.2.2.2.1, y1.1.1.2.2.2.2.1, true, y1.1.1.2.2.2.2.2.2), ()), ())
/-! impl.EndConnect (function 19) -/
noncomputable def F_impl_EndConnect (a0 : TEnd) (a1 : Int) (a2 : Int) (a3 : Int) : Option ((TEnd × (List TSegment) × Unit) × (Unit)) :=
  (F_impl_asked a0 a3).bind fun y1 =>
    bif (bif (bif (!y1.1.1) then true else (!(F_impl_word a1))) then true else (!(F_impl_portOk a2))) then
      some ((((0 : Int), (0 : Int), (0 : Int), (0 : Int), (0 : Int), (0 : Int), ((0 : Int), ([] : List Int), (0 : Int), (0 : Int), ([] : List TRange)), ((0 : Int), (0 : Int), ([] : List Int), ([] : List TEarly)), false, false, false, (0 : Int), (0 : Int), (0 : Int), (0 : Int), (0 : Int), (0 : Int)), ([] : List TSegment), ()), ())
    else
      (F_impl_End_copy a0).bind fun y2 =>
        bif (!decide (a0.1 = (0 : Int))) then
          some ((y2.1.1, ([] : List TSegment), ()), ())
        else
          (F_impl_End_arm ((2 : Int), y2.1.1.2.1, y2.1.1.2.2.1, a1, a2, y2.1.1.2.2.2.2.2) a3).bind fun y3 =>
            (F_impl_End_first y3.2.1).bind fun y4 =>
              some ((y3.2.1, ([y4.1.1]), ()), ())
/-! laws.sameBytes (function 17) -/
noncomputable def F_laws_sameBytes (a0 : (List Int)) (a1 : (List Int)) : Bool :=
  (strEq (ByteArray.mk (a0.map fun n => UInt8.ofNat (Int.toNat n)).toArray) (ByteArray.mk (a1.map fun n => UInt8.ofNat (Int.toNat n)).toArray))
/-! laws.sameRanges (function 148) -/
noncomputable def L_laws_sameRanges_4 : Nat → (List TRange) × (List TRange) × Int × Unit → Option ((Bool × Unit) × (Unit))
  | 0, _ => none
  | n + 1, p =>
    bif (decide (p.2.2.1 < (((p.1.length) : Int)))) then
      bif (inR p.2.2.1 (p.1.length)) then
        bif (inR p.2.2.1 (p.2.1.length)) then
          bif (!((decide ((rdI ((0 : Int), (0 : Int)) p.1 (Int.toNat p.2.2.1)).1 = (rdI ((0 : Int), (0 : Int)) p.2.1 (Int.toNat p.2.2.1)).1)) && ((decide ((rdI ((0 : Int), (0 : Int)) p.1 (Int.toNat p.2.2.1)).2 = (rdI ((0 : Int), (0 : Int)) p.2.1 (Int.toNat p.2.2.1)).2)) && true))) then
            some ((false, ()), ())
          else
            L_laws_sameRanges_4 n (p.1, p.2.1, (IntKind.i64.wrap (p.2.2.1 + (1 : Int))), ())
        else
          none
      else
        none
    else
      some ((true, ()), ())
noncomputable def F_laws_sameRanges (a0 : (List TRange)) (a1 : (List TRange)) : Option ((Bool × Unit) × (Unit)) :=
  bif (!decide ((((a0.length) : Int)) = (((a1.length) : Int)))) then
    some ((false, ()), ())
  else
    L_laws_sameRanges_4 fuel (a0, a1, (0 : Int), ())
/-! laws.sameMouth (function 83) -/
noncomputable def F_laws_sameMouth (a0 : TMouth) (a1 : TMouth) : Option ((Bool × Unit) × (Unit)) :=
  bif (bif (bif (bif (decide (a0.1 = a1.1)) then (decide (a0.2.2.1 = a1.2.2.1)) else false) then (decide (a0.2.2.2.1 = a1.2.2.2.1)) else false) then (F_laws_sameBytes a0.2.1 a1.2.1) else false) then
    (F_laws_sameRanges a0.2.2.2.2 a1.2.2.2.2).bind fun y1 =>
      some ((y1.1.1, ()), ())
  else
    some ((false, ()), ())
/-! laws.sameEar (function 84) -/
noncomputable def L_laws_sameEar_4 : Nat → Unit × Unit × Int × TEar × TEar × Unit → Option ((Bool × Unit) × (Unit))
  | 0, _ => none
  | n + 1, p =>
    bif (decide (p.2.2.1 < (((p.2.2.2.1.2.2.2.length) : Int)))) then
      bif (inR p.2.2.1 (p.2.2.2.1.2.2.2.length)) then
        bif (inR p.2.2.1 (p.2.2.2.2.1.2.2.2.length)) then
          bif (!((decide ((rdI ((0 : Int), (0 : Int)) p.2.2.2.1.2.2.2 (Int.toNat p.2.2.1)).1 = (rdI ((0 : Int), (0 : Int)) p.2.2.2.2.1.2.2.2 (Int.toNat p.2.2.1)).1)) && ((decide ((rdI ((0 : Int), (0 : Int)) p.2.2.2.1.2.2.2 (Int.toNat p.2.2.1)).2 = (rdI ((0 : Int), (0 : Int)) p.2.2.2.2.1.2.2.2 (Int.toNat p.2.2.1)).2)) && true))) then
            some ((false, ()), ())
          else
            L_laws_sameEar_4 n ((), (), (IntKind.i64.wrap (p.2.2.1 + (1 : Int))), p.2.2.2.1, p.2.2.2.2.1, ())
        else
          none
      else
        none
    else
      some ((true, ()), ())
noncomputable def F_laws_sameEar (a0 : TEar) (a1 : TEar) : Option ((Bool × Unit) × (Unit)) :=
  bif (bif (bif (bif (!decide (a0.1 = a1.1)) then true else (!decide (a0.2.1 = a1.2.1))) then true else (!(F_laws_sameBytes a0.2.2.1 a1.2.2.1))) then true else (!decide ((((a0.2.2.2.length) : Int)) = (((a1.2.2.2.length) : Int))))) then
    some ((false, ()), ())
  else
    L_laws_sameEar_4 fuel ((), (), (0 : Int), a0, a1, ())
/-! laws.sameEnd (function 21) -/
noncomputable def F_laws_sameEnd (a0 : TEnd) (a1 : TEnd) : Option ((Bool × Unit) × (Unit)) :=
  (F_laws_sameMouth a0.2.2.2.2.2.2.1 a1.2.2.2.2.2.2.1).bind fun y1 =>
    bif (!y1.1.1) then
      some ((false, ()), ())
    else
      (F_laws_sameEar a0.2.2.2.2.2.2.2.1 a1.2.2.2.2.2.2.2.1).bind fun y2 =>
        bif (bif (!y2.1.1) then true else (!((decide (a0.2.2.2.2.2.2.2.2.2.2.2.2.2.2.1 = a1.2.2.2.2.2.2.2.2.2.2.2.2.2.2.1)) && ((decide (a0.2.2.2.2.2.2.2.2.2.2.2.2.2.2.2.1 = a1.2.2.2.2.2.2.2.2.2.2.2.2.2.2.2.1)) && ((decide (a0.2.2.2.2.2.2.2.2.2.2.2.2.2.2.2.2 = a1.2.2.2.2.2.2.2.2.2.2.2.2.2.2.2.2)) && true))))) then
          some ((false, ()), ())
        else
          bif (bif (bif (bif (bif (bif (!decide (a0.1 = a1.1)) then true else (!decide (a0.2.1 = a1.2.1))) then true else (!decide (a0.2.2.1 = a1.2.2.1))) then true else (!decide (a0.2.2.2.1 = a1.2.2.2.1))) then true else (!decide (a0.2.2.2.2.1 = a1.2.2.2.2.1))) then true else (!decide (a0.2.2.2.2.2.1 = a1.2.2.2.2.2.1))) then
            some ((false, ()), ())
          else
            some (((bif (bif (bif (bif (bif (a0.2.2.2.2.2.2.2.2.1 == a1.2.2.2.2.2.2.2.2.1) then (a0.2.2.2.2.2.2.2.2.2.1 == a1.2.2.2.2.2.2.2.2.2.1) else false) then (a0.2.2.2.2.2.2.2.2.2.2.1 == a1.2.2.2.2.2.2.2.2.2.2.1) else false) then (decide (a0.2.2.2.2.2.2.2.2.2.2.2.1 = a1.2.2.2.2.2.2.2.2.2.2.2.1)) else false) then (decide (a0.2.2.2.2.2.2.2.2.2.2.2.2.1 = a1.2.2.2.2.2.2.2.2.2.2.2.2.1)) else false) then (decide (a0.2.2.2.2.2.2.2.2.2.2.2.2.2.1 = a1.2.2.2.2.2.2.2.2.2.2.2.2.2.1)) else false), ()), ())
/-! laws.sameSegment (function 85) -/
noncomputable def F_laws_sameSegment (a0 : TSegment) (a1 : TSegment) : Option ((Bool × Unit) × (Unit)) :=
  bif (bif (bif (bif (bif (bif (bif (bif (bif (decide (a0.1 = a1.1)) then (decide (a0.2.1 = a1.2.1)) else false) then (decide (a0.2.2.1 = a1.2.2.1)) else false) then (decide (a0.2.2.2.1 = a1.2.2.2.1)) else false) then (decide (a0.2.2.2.2.1 = a1.2.2.2.2.1)) else false) then (a0.2.2.2.2.2.1 == a1.2.2.2.2.2.1) else false) then (a0.2.2.2.2.2.2.1 == a1.2.2.2.2.2.2.1) else false) then (a0.2.2.2.2.2.2.2.1 == a1.2.2.2.2.2.2.2.1) else false) then (a0.2.2.2.2.2.2.2.2.1 == a1.2.2.2.2.2.2.2.2.1) else false) then
    (F_laws_sameRanges a0.2.2.2.2.2.2.2.2.2.1 a1.2.2.2.2.2.2.2.2.2.1).bind fun y1 =>
      some (((bif y1.1.1 then (F_laws_sameBytes a0.2.2.2.2.2.2.2.2.2.2 a1.2.2.2.2.2.2.2.2.2.2) else false), ()), ())
  else
    some ((false, ()), ())
/-! laws.sameSegments (function 22) -/
noncomputable def L_laws_sameSegments_4 : Nat → (List TSegment) × (List TSegment) × Int × Unit → Option ((Bool × Unit) × (Unit))
  | 0, _ => none
  | n + 1, p =>
    bif (decide (p.2.2.1 < (((p.1.length) : Int)))) then
      bif (inR p.2.2.1 (p.1.length)) then
        bif (inR p.2.2.1 (p.2.1.length)) then
          (F_laws_sameSegment (rdI ((0 : Int), (0 : Int), (0 : Int), (0 : Int), (0 : Int), false, false, false, false, ([] : List TRange), ([] : List Int)) p.1 (Int.toNat p.2.2.1)) (rdI ((0 : Int), (0 : Int), (0 : Int), (0 : Int), (0 : Int), false, false, false, false, ([] : List TRange), ([] : List Int)) p.2.1 (Int.toNat p.2.2.1))).bind fun y1 =>
            bif (!y1.1.1) then
              some ((false, ()), ())
            else
              L_laws_sameSegments_4 n (p.1, p.2.1, (IntKind.i64.wrap (p.2.2.1 + (1 : Int))), ())
        else
          none
      else
        none
    else
      some ((true, ()), ())
noncomputable def F_laws_sameSegments (a0 : (List TSegment)) (a1 : (List TSegment)) : Option ((Bool × Unit) × (Unit)) :=
  bif (!decide ((((a0.length) : Int)) = (((a1.length) : Int)))) then
    some ((false, ()), ())
  else
    L_laws_sameSegments_4 fuel (a0, a1, (0 : Int), ())
/-! impl.ClockLate (function 91) -/
noncomputable def F_impl_ClockLate (a0 : TClock) : Option ((TClock × Unit) × (Unit)) :=
  bif (!(F_impl_ClockOk a0)) then
    some ((((0 : Int), (0 : Int), (0 : Int)), ()), ())
  else
    some (((a0.1, a0.2.1, (if (IntKind.i64.wrap ((2 : Int) * a0.2.2)) < (200 : Int) then (IntKind.i64.wrap ((2 : Int) * a0.2.2)) else (200 : Int))), ()), ())
/-! (impl.End).last (function 100) -/
noncomputable def F_impl_End_last (a0 : TEnd) : Option ((TSegment × Unit) × (Unit)) :=
  (F_impl_End_segment a0 (IntKind.i64.wrap (a0.2.2.2.2.2.2.1.1 + (((a0.2.2.2.2.2.2.1.2.1.length) : Int)))) ([] : List Int)).bind fun y1 =>
    some (((y1.1.1.1, y1.1.1.2.1, y1.1.1.2.2.1, y1.1.1.2.2.2.1, y1.1.1.2.2.2.2.1, y1.1.1.2.2.2.2.2.1, y1.1.1.2.2.2.2.2.2.1, true, y1.1.1.2.2.2.2.2.2.2.2), ()), ())
/-! (impl.Mouth).again (function 152) -/
noncomputable def F_impl_Mouth_again (a0 : TMouth) (a1 : Int) : Option (((List Int) × Unit) × (Unit)) :=
  bif (decide ((0 : Int) < (((a0.2.2.2.2.length) : Int)))) then
    bif (inR (0 : Int) (a0.2.2.2.2.length)) then
      bif (decide (0 ≤ (if (IntKind.i64.wrap ((rdI ((0 : Int), (0 : Int)) a0.2.2.2.2 (Int.toNat (0 : Int))).1 - a0.1)) < (if a0.2.2.1 < a1 then a0.2.2.1 else a1) then (IntKind.i64.wrap ((rdI ((0 : Int), (0 : Int)) a0.2.2.2.2 (Int.toNat (0 : Int))).1 - a0.1)) else (if a0.2.2.1 < a1 then a0.2.2.1 else a1))) && decide ((if (IntKind.i64.wrap ((rdI ((0 : Int), (0 : Int)) a0.2.2.2.2 (Int.toNat (0 : Int))).1 - a0.1)) < (if a0.2.2.1 < a1 then a0.2.2.1 else a1) then (IntKind.i64.wrap ((rdI ((0 : Int), (0 : Int)) a0.2.2.2.2 (Int.toNat (0 : Int))).1 - a0.1)) else (if a0.2.2.1 < a1 then a0.2.2.1 else a1)) ≤ ((a0.2.1.length) : Int))) then
        (F_impl_clone_byte (a0.2.1.take (Int.toNat (if (IntKind.i64.wrap ((rdI ((0 : Int), (0 : Int)) a0.2.2.2.2 (Int.toNat (0 : Int))).1 - a0.1)) < (if a0.2.2.1 < a1 then a0.2.2.1 else a1) then (IntKind.i64.wrap ((rdI ((0 : Int), (0 : Int)) a0.2.2.2.2 (Int.toNat (0 : Int))).1 - a0.1)) else (if a0.2.2.1 < a1 then a0.2.2.1 else a1))))).bind fun y1 =>
          some ((y1.1.1, ()), ())
      else
        none
    else
      none
  else
    bif (decide (0 ≤ (if a0.2.2.1 < a1 then a0.2.2.1 else a1)) && decide ((if a0.2.2.1 < a1 then a0.2.2.1 else a1) ≤ ((a0.2.1.length) : Int))) then
      (F_impl_clone_byte (a0.2.1.take (Int.toNat (if a0.2.2.1 < a1 then a0.2.2.1 else a1)))).bind fun y2 =>
        some ((y2.1.1, ()), ())
    else
      none
/-! (impl.End).again (function 92) -/
noncomputable def F_impl_End_again (a0 : TEnd) : Option ((TSegment × Unit) × (Unit)) :=
  bif (!decide (a0.1 = (4 : Int))) then
    (F_impl_End_first a0).bind fun y1 =>
      some ((y1.1.1, ()), ())
  else
    (F_impl_Mouth_again a0.2.2.2.2.2.2.1 (12 : Int)).bind fun y2 =>
      bif (decide ((0 : Int) < (((y2.1.1.length) : Int)))) then
        (F_impl_End_segment a0 a0.2.2.2.2.2.2.1.1 y2.1.1).bind fun y3 =>
          some ((y3.1.1, ()), ())
      else
        bif a0.2.2.2.2.2.2.2.2.2.1 then
          (F_impl_End_last a0).bind fun y4 =>
            some ((y4.1.1, ()), ())
        else
          (F_impl_End_segment a0 (IntKind.i64.wrap (a0.2.2.2.2.2.2.1.1 - (1 : Int))) ([] : List Int)).bind fun y5 =>
            some ((y5.1.1, ()), ())
/-! impl.EndTick (function 24) -/
noncomputable def F_impl_EndTick (a0 : TEnd) (a1 : Int) : Option ((TEnd × (List TSegment) × Unit) × (Unit)) :=
  (F_impl_asked a0 a1).bind fun y1 =>
    bif (!y1.1.1) then
      some ((((0 : Int), (0 : Int), (0 : Int), (0 : Int), (0 : Int), (0 : Int), ((0 : Int), ([] : List Int), (0 : Int), (0 : Int), ([] : List TRange)), ((0 : Int), (0 : Int), ([] : List Int), ([] : List TEarly)), false, false, false, (0 : Int), (0 : Int), (0 : Int), (0 : Int), (0 : Int), (0 : Int)), ([] : List TSegment), ()), ())
    else
      (F_impl_End_copy a0).bind fun y2 =>
        bif (bif (decide (a0.2.2.2.2.2.2.2.2.2.2.2.2.1 = (0 : Int))) then true else (decide (a1 < a0.2.2.2.2.2.2.2.2.2.2.2.2.1))) then
          some ((y2.1.1, ([] : List TSegment), ()), ())
        else
          bif (decide ((8 : Int) ≤ a0.2.2.2.2.2.2.2.2.2.2.2.2.2.1)) then
            some ((((5 : Int), y2.1.1.2.1, y2.1.1.2.2.1, y2.1.1.2.2.2.1, y2.1.1.2.2.2.2.1, y2.1.1.2.2.2.2.2.1, y2.1.1.2.2.2.2.2.2.1, y2.1.1.2.2.2.2.2.2.2.1, y2.1.1.2.2.2.2.2.2.2.2.1, y2.1.1.2.2.2.2.2.2.2.2.2.1, y2.1.1.2.2.2.2.2.2.2.2.2.2.1, y2.1.1.2.2.2.2.2.2.2.2.2.2.2.1, (0 : Int), y2.1.1.2.2.2.2.2.2.2.2.2.2.2.2.2), ([] : List TSegment), ()), ())
          else
            (F_impl_ClockLate a0.2.2.2.2.2.2.2.2.2.2.2.2.2.2).bind fun y3 =>
              (F_impl_End_again (y2.1.1.1, y2.1.1.2.1, y2.1.1.2.2.1, y2.1.1.2.2.2.1, y2.1.1.2.2.2.2.1, y2.1.1.2.2.2.2.2.1, y2.1.1.2.2.2.2.2.2.1, y2.1.1.2.2.2.2.2.2.2.1, y2.1.1.2.2.2.2.2.2.2.2.1, y2.1.1.2.2.2.2.2.2.2.2.2.1, y2.1.1.2.2.2.2.2.2.2.2.2.2.1, y2.1.1.2.2.2.2.2.2.2.2.2.2.2.1, (IntKind.i64.wrap (a1 + y3.1.1.2.2)), (IntKind.i64.wrap (y2.1.1.2.2.2.2.2.2.2.2.2.2.2.2.2.1 + (1 : Int))), y3.1.1)).bind fun y4 =>
                some (((y2.1.1.1, y2.1.1.2.1, y2.1.1.2.2.1, y2.1.1.2.2.2.1, y2.1.1.2.2.2.2.1, y2.1.1.2.2.2.2.2.1, y2.1.1.2.2.2.2.2.2.1, y2.1.1.2.2.2.2.2.2.2.1, y2.1.1.2.2.2.2.2.2.2.2.1, y2.1.1.2.2.2.2.2.2.2.2.2.1, y2.1.1.2.2.2.2.2.2.2.2.2.2.1, y2.1.1.2.2.2.2.2.2.2.2.2.2.2.1, (IntKind.i64.wrap (a1 + y3.1.1.2.2)), (IntKind.i64.wrap (y2.1.1.2.2.2.2.2.2.2.2.2.2.2.2.2.1 + (1 : Int))), y3.1.1), ([y4.1.1]), ()), ())
/-! impl.SegmentOk$1 (function 154) -/
noncomputable def F_impl_SegmentOk_1 (a0 : TRange) : Bool :=
  (bif (!(F_impl_word a0.1)) then true else (!(F_impl_word a0.2)))
/-! slices.IndexFunc[[]impl.Range,impl.Range] (function 213) -/
noncomputable def L_slices_IndexFunc_impl_Range_impl_Range_impl_SegmentOk_1_2 : Nat → (List TRange) × Unit × Int × Int × Unit → Option ((Int × Unit) × (Unit))
  | 0, _ => none
  | n + 1, p =>
    bif (decide (p.2.2.2.1 < p.2.2.1)) then
      bif (inR p.2.2.2.1 (p.1.length)) then
        bif (F_impl_SegmentOk_1 (rdI ((0 : Int), (0 : Int)) p.1 (Int.toNat p.2.2.2.1))) then
          some ((p.2.2.2.1, ()), ())
        else
          L_slices_IndexFunc_impl_Range_impl_Range_impl_SegmentOk_1_2 n (p.1, (), p.2.2.1, (IntKind.i64.wrap (p.2.2.2.1 + (1 : Int))), ())
      else
        none
    else
      some (((-1 : Int), ()), ())
noncomputable def F_slices_IndexFunc_impl_Range_impl_Range_impl_SegmentOk_1 (a0 : (List TRange)) (a1 : Unit) : Option ((Int × Unit) × (Unit)) :=
  L_slices_IndexFunc_impl_Range_impl_Range_impl_SegmentOk_1_2 fuel (a0, (), (((a0.length) : Int)), (0 : Int), ())
/-! slices.ContainsFunc[[]impl.Range,impl.Range] (function 153) -/
noncomputable def F_slices_ContainsFunc_impl_Range_impl_Range_impl_SegmentOk_1 (a0 : (List TRange)) (a1 : Unit) : Option ((Bool × Unit) × (Unit)) :=
  (F_slices_IndexFunc_impl_Range_impl_Range_impl_SegmentOk_1 a0 ()).bind fun y1 =>
    some (((decide ((0 : Int) ≤ y1.1.1)), ()), ())
/-! impl.SegmentOk (function 93) -/
noncomputable def F_impl_SegmentOk (a0 : TSegment) : Option ((Bool × Unit) × (Unit)) :=
  bif (bif (bif (bif (bif (bif (bif (!(F_impl_portOk a0.1)) then true else (!(F_impl_portOk a0.2.1))) then true else (!(F_impl_word a0.2.2.1))) then true else (!(F_impl_word a0.2.2.2.1))) then true else (!(F_impl_in a0.2.2.2.2.1 (0 : Int) (255 : Int)))) then true else (decide ((2 : Int) < (((a0.2.2.2.2.2.2.2.2.2.1.length) : Int))))) then true else (decide ((12 : Int) < (((a0.2.2.2.2.2.2.2.2.2.2.length) : Int))))) then
    some ((false, ()), ())
  else
    (F_slices_ContainsFunc_impl_Range_impl_Range_impl_SegmentOk_1 a0.2.2.2.2.2.2.2.2.2.1 ()).bind fun y1 =>
      bif y1.1.1 then
        some ((false, ()), ())
      else
        bif (bif (!a0.2.2.2.2.2.2.1) then (bif (bif (!decide (a0.2.2.2.1 = (0 : Int))) then true else (!decide (a0.2.2.2.2.1 = (0 : Int)))) then true else (decide ((0 : Int) < (((a0.2.2.2.2.2.2.2.2.2.1.length) : Int))))) else false) then
          some ((false, ()), ())
        else
          some (((bif (!a0.2.2.2.2.2.2.2.2.1) then true else (bif (bif (!a0.2.2.2.2.2.1) then (!a0.2.2.2.2.2.2.2.1) else false) then (decide ((((a0.2.2.2.2.2.2.2.2.2.2.length) : Int)) = (0 : Int))) else false)), ()), ())
/-! laws.goodSegments (function 25) -/
noncomputable def L_laws_goodSegments_2 : Nat → (List TSegment) × Int × Unit → Option ((Bool × Unit) × (Unit))
  | 0, _ => none
  | n + 1, p =>
    bif (decide (p.2.1 < (((p.1.length) : Int)))) then
      bif (inR p.2.1 (p.1.length)) then
        (F_impl_SegmentOk (rdI ((0 : Int), (0 : Int), (0 : Int), (0 : Int), (0 : Int), false, false, false, false, ([] : List TRange), ([] : List Int)) p.1 (Int.toNat p.2.1))).bind fun y1 =>
          bif (!y1.1.1) then
            some ((false, ()), ())
          else
            L_laws_goodSegments_2 n (p.1, (IntKind.i64.wrap (p.2.1 + (1 : Int))), ())
      else
        none
    else
      some ((true, ()), ())
noncomputable def F_laws_goodSegments (a0 : (List TSegment)) : Option ((Bool × Unit) × (Unit)) :=
  L_laws_goodSegments_2 fuel (a0, (0 : Int), ())
/-! laws.FnEndConnect (function 4) -/
noncomputable def F_laws_FnEndConnect (a0 : (List Int)) : Option ((Bool × Unit) × (Unit)) :=
  bif (decide ((1048576 : Int) < (((a0.length) : Int)))) then
    some ((true, ()), ())
  else
    (F_spec_DrawEndConnect a0).bind fun y1 =>
      (F_impl_EndConnect y1.1.1 y1.1.2.1 y1.1.2.2.1 y1.1.2.2.2.1).bind fun y2 =>
        (F_spec_EndConnect y1.1.1 y1.1.2.1 y1.1.2.2.1 y1.1.2.2.2.1).bind fun y3 =>
          (F_laws_sameEnd y2.1.1 y3.1.1).bind fun y4 =>
            bif (!y4.1.1) then
              some ((false, ()), ())
            else
              (F_laws_sameSegments y2.1.2.1 y3.1.2.1).bind fun y5 =>
                bif (!y5.1.1) then
                  some ((false, ()), ())
                else
                  (F_impl_EndOk y1.1.1).bind fun y6 =>
                    bif (bif (!y6.1.1) then true else (decide (y1.1.2.2.1 < (1 : Int)))) then
                      bif (decide ((((y2.1.2.1.length) : Int)) = (0 : Int))) then
                        (F_laws_alive).bind fun y7 =>
                          some ((y7.1.1, ()), ())
                      else
                        some ((false, ()), ())
                    else
                      bif (!decide (y1.1.1.1 = (0 : Int))) then
                        bif (decide ((((y2.1.2.1.length) : Int)) = (0 : Int))) then
                          (F_laws_sameEnd y2.1.1 y1.1.1).bind fun y8 =>
                            bif y8.1.1 then
                              (F_laws_alive).bind fun y9 =>
                                some ((y9.1.1, ()), ())
                            else
                              some ((false, ()), ())
                        else
                          some ((false, ()), ())
                      else
                        (F_impl_EndTick y2.1.1 y2.1.1.2.2.2.2.2.2.2.2.2.2.2.2.1).bind fun y10 =>
                          (F_impl_EndOk y2.1.1).bind fun y11 =>
                            bif y11.1.1 then
                              (F_laws_goodSegments y2.1.2.1).bind fun y12 =>
                                bif ((inR (0 : Int) (y2.1.2.1.length)) || (!(bif y12.1.1 then (decide ((((y2.1.2.1.length) : Int)) = (1 : Int))) else false))) then
                                  bif ((inR (0 : Int) (y2.1.2.1.length)) || (!(bif (bif y12.1.1 then (decide ((((y2.1.2.1.length) : Int)) = (1 : Int))) else false) then (rdI ((0 : Int), (0 : Int), (0 : Int), (0 : Int), (0 : Int), false, false, false, false, ([] : List TRange), ([] : List Int)) y2.1.2.1 (Int.toNat (0 : Int))).2.2.2.2.2.1 else false))) then
                                    bif ((inR (0 : Int) (y2.1.2.1.length)) || (!(bif (bif (bif y12.1.1 then (decide ((((y2.1.2.1.length) : Int)) = (1 : Int))) else false) then (rdI ((0 : Int), (0 : Int), (0 : Int), (0 : Int), (0 : Int), false, false, false, false, ([] : List TRange), ([] : List Int)) y2.1.2.1 (Int.toNat (0 : Int))).2.2.2.2.2.1 else false) then (!(rdI ((0 : Int), (0 : Int), (0 : Int), (0 : Int), (0 : Int), false, false, false, false, ([] : List TRange), ([] : List Int)) y2.1.2.1 (Int.toNat (0 : Int))).2.2.2.2.2.2.1) else false))) then
                                      bif (bif (bif (bif (bif y12.1.1 then (decide ((((y2.1.2.1.length) : Int)) = (1 : Int))) else false) then (rdI ((0 : Int), (0 : Int), (0 : Int), (0 : Int), (0 : Int), false, false, false, false, ([] : List TRange), ([] : List Int)) y2.1.2.1 (Int.toNat (0 : Int))).2.2.2.2.2.1 else false) then (!(rdI ((0 : Int), (0 : Int), (0 : Int), (0 : Int), (0 : Int), false, false, false, false, ([] : List TRange), ([] : List Int)) y2.1.2.1 (Int.toNat (0 : Int))).2.2.2.2.2.2.1) else false) then (decide ((rdI ((0 : Int), (0 : Int), (0 : Int), (0 : Int), (0 : Int), false, false, false, false, ([] : List TRange), ([] : List Int)) y2.1.2.1 (Int.toNat (0 : Int))).2.2.1 = y1.1.1.2.2.2.2.2.1)) else false) then
                                        (F_laws_sameSegments y10.1.2.1 y2.1.2.1).bind fun y13 =>
                                          bif y13.1.1 then
                                            (F_laws_alive).bind fun y14 =>
                                              some ((y14.1.1, ()), ())
                                          else
                                            some ((false, ()), ())
                                      else
                                        some ((false, ()), ())
                                    else
                                      none
                                  else
                                    none
                                else
                                  none
                            else
                              bif ((inR (0 : Int) (y2.1.2.1.length)) || true) then
                                bif ((inR (0 : Int) (y2.1.2.1.length)) || true) then
                                  bif ((inR (0 : Int) (y2.1.2.1.length)) || true) then
                                    some ((false, ()), ())
                                  else
                                    none
                                else
                                  none
                              else
                                none
/-! spec.DrawEndWrite (function 26) -/
noncomputable def F_spec_DrawEndWrite (a0 : (List Int)) : Option ((TEnd × (List Int) × Int × Unit) × (Unit)) :=
  (F_spec_l20Open a0).bind fun y1 =>
    (F_spec_l20End y1.1.1 (15 : Int)).bind fun y2 =>
      (F_spec_l20Rd_pick y2.2.1 (40 : Int)).bind fun y3 =>
        (F_spec_l20Rd_bytes y3.2.1 y3.1.1).bind fun y4 =>
          (F_spec_l20Rd_pick y4.2.1 (256 : Int)).bind fun y5 =>
            some ((y2.1.1, y4.1.1, (IntKind.i64.wrap (y5.1.1 * (4 : Int))), ()), ())
/-! slices.Grow[[]byte,byte] (function 214) -/
noncomputable def F_slices_Grow_byte_byte (a0 : Unit) (a1 : Int) : Option (((List Int) × Unit) × (Unit)) :=
  bif (decide (a1 < (0 : Int))) then
    none
  else
    bif (decide ((0 : Int) < (IntKind.i64.wrap (a1 - (IntKind.i64.wrap ((0 : Int) - (0 : Int))))))) then
      bif (decide (0 ≤ (0 : Int)) && decide ((0 : Int) ≤ (0 : Int))) then
        bif ((decide (0 ≤ (IntKind.i64.wrap (a1 - (IntKind.i64.wrap ((0 : Int) - (0 : Int))))))) && (Nat.ble (([] : List Int).length + (Int.toNat (IntKind.i64.wrap (a1 - (IntKind.i64.wrap ((0 : Int) - (0 : Int))))))) big)) then
          bif (decide (0 ≤ (0 : Int)) && decide ((0 : Int) ≤ (((([] : List Int) ++ List.replicate (Int.toNat (IntKind.i64.wrap (a1 - (IntKind.i64.wrap ((0 : Int) - (0 : Int)))))) (0 : Int)).length) : Int))) then
            some ((((([] : List Int) ++ List.replicate (Int.toNat (IntKind.i64.wrap (a1 - (IntKind.i64.wrap ((0 : Int) - (0 : Int)))))) (0 : Int)).take (Int.toNat (0 : Int))), ()), ())
          else
            none
        else
          none
      else
        none
    else
      some ((([] : List Int), ()), ())
/-! slices.Concat[[]byte,byte] (function 155) -/
noncomputable def L_slices_Concat_byte_byte_11 : Nat → (List Int) × (List (List Int)) × Int × Int × Unit → Option (((List Int) × Unit) × (Unit))
  | 0, _ => none
  | n + 1, p =>
    bif (decide (p.2.2.2.1 < p.2.2.1)) then
      bif (inR p.2.2.2.1 (p.2.1.length)) then
        bif (Nat.ble (p.1.length + (rdI ([] : List Int) p.2.1 (Int.toNat p.2.2.2.1)).length) big) then
          L_slices_Concat_byte_byte_11 n ((p.1 ++ (rdI ([] : List Int) p.2.1 (Int.toNat p.2.2.2.1))), p.2.1, p.2.2.1, (IntKind.i64.wrap (p.2.2.2.1 + (1 : Int))), ())
        else
          none
      else
        none
    else
      some ((p.1, ()), ())
noncomputable def L_slices_Concat_byte_byte_3 : Nat → (List (List Int)) × Int × (List (List Int)) × Int × Int × Unit → Option (((List Int) × Unit) × (Unit))
  | 0, _ => none
  | n + 1, p =>
    bif (decide (p.2.2.2.2.1 < p.2.2.2.1)) then
      bif (inR p.2.2.2.2.1 (p.2.2.1.length)) then
        bif (decide ((IntKind.i64.wrap (p.2.1 + ((((rdI ([] : List Int) p.2.2.1 (Int.toNat p.2.2.2.2.1)).length) : Int)))) < (0 : Int))) then
          none
        else
          L_slices_Concat_byte_byte_3 n (p.1, (IntKind.i64.wrap (p.2.1 + ((((rdI ([] : List Int) p.2.2.1 (Int.toNat p.2.2.2.2.1)).length) : Int)))), p.2.2.1, p.2.2.2.1, (IntKind.i64.wrap (p.2.2.2.2.1 + (1 : Int))), ())
      else
        none
    else
      (F_slices_Grow_byte_byte () p.2.1).bind fun y1 =>
        L_slices_Concat_byte_byte_11 fuel (y1.1.1, p.1, (((p.1.length) : Int)), (0 : Int), ())
noncomputable def F_slices_Concat_byte_byte (a0 : (List (List Int))) : Option (((List Int) × Unit) × (Unit)) :=
  L_slices_Concat_byte_byte_3 fuel (a0, (0 : Int), a0, (((a0.length) : Int)), (0 : Int), ())
/-! impl.MouthWrite (function 94) -/
noncomputable def F_impl_MouthWrite (a0 : TMouth) (a1 : (List Int)) : Option ((TMouth × Int × Unit) × (Unit)) :=
  (F_impl_MouthOk a0).bind fun y1 =>
    bif (!y1.1.1) then
      some ((((0 : Int), ([] : List Int), (0 : Int), (0 : Int), ([] : List TRange)), (0 : Int), ()), ())
    else
      bif (decide (0 ≤ (if (IntKind.i64.wrap ((32 : Int) - (((a0.2.1.length) : Int)))) < (((a1.length) : Int)) then (IntKind.i64.wrap ((32 : Int) - (((a0.2.1.length) : Int)))) else (((a1.length) : Int)))) && decide ((if (IntKind.i64.wrap ((32 : Int) - (((a0.2.1.length) : Int)))) < (((a1.length) : Int)) then (IntKind.i64.wrap ((32 : Int) - (((a0.2.1.length) : Int)))) else (((a1.length) : Int))) ≤ ((a1.length) : Int))) then
        (F_slices_Concat_byte_byte ([a0.2.1, (a1.take (Int.toNat (if (IntKind.i64.wrap ((32 : Int) - (((a0.2.1.length) : Int)))) < (((a1.length) : Int)) then (IntKind.i64.wrap ((32 : Int) - (((a0.2.1.length) : Int)))) else (((a1.length) : Int)))))])).bind fun y2 =>
          (F_impl_Mouth_copy (a0.1, y2.1.1, a0.2.2)).bind fun y3 =>
            some ((y3.1.1, (if (IntKind.i64.wrap ((32 : Int) - (((a0.2.1.length) : Int)))) < (((a1.length) : Int)) then (IntKind.i64.wrap ((32 : Int) - (((a0.2.1.length) : Int)))) else (((a1.length) : Int))), ()), ())
      else
        none
/-! (*impl.Mouth).next (function 156) -/
noncomputable def F_impl_Mouth_next (a0 : TMouth) (a1 : Int) : Option ((Int × (List Int) × Unit) × (TMouth × Unit)) :=
  bif (decide ((if (IntKind.i64.wrap (a0.2.2.2.1 - a0.2.2.1)) < (if (IntKind.i64.wrap ((((a0.2.1.length) : Int)) - a0.2.2.1)) < a1 then (IntKind.i64.wrap ((((a0.2.1.length) : Int)) - a0.2.2.1)) else a1) then (IntKind.i64.wrap (a0.2.2.2.1 - a0.2.2.1)) else (if (IntKind.i64.wrap ((((a0.2.1.length) : Int)) - a0.2.2.1)) < a1 then (IntKind.i64.wrap ((((a0.2.1.length) : Int)) - a0.2.2.1)) else a1)) ≤ (0 : Int))) then
    some (((IntKind.i64.wrap (a0.1 + a0.2.2.1)), ([] : List Int), ()), a0, ())
  else
    bif (decide (0 ≤ a0.2.2.1) && decide (a0.2.2.1 ≤ (IntKind.i64.wrap (a0.2.2.1 + (if (IntKind.i64.wrap (a0.2.2.2.1 - a0.2.2.1)) < (if (IntKind.i64.wrap ((((a0.2.1.length) : Int)) - a0.2.2.1)) < a1 then (IntKind.i64.wrap ((((a0.2.1.length) : Int)) - a0.2.2.1)) else a1) then (IntKind.i64.wrap (a0.2.2.2.1 - a0.2.2.1)) else (if (IntKind.i64.wrap ((((a0.2.1.length) : Int)) - a0.2.2.1)) < a1 then (IntKind.i64.wrap ((((a0.2.1.length) : Int)) - a0.2.2.1)) else a1))))) && decide ((IntKind.i64.wrap (a0.2.2.1 + (if (IntKind.i64.wrap (a0.2.2.2.1 - a0.2.2.1)) < (if (IntKind.i64.wrap ((((a0.2.1.length) : Int)) - a0.2.2.1)) < a1 then (IntKind.i64.wrap ((((a0.2.1.length) : Int)) - a0.2.2.1)) else a1) then (IntKind.i64.wrap (a0.2.2.2.1 - a0.2.2.1)) else (if (IntKind.i64.wrap ((((a0.2.1.length) : Int)) - a0.2.2.1)) < a1 then (IntKind.i64.wrap ((((a0.2.1.length) : Int)) - a0.2.2.1)) else a1)))) ≤ ((a0.2.1.length) : Int))) then
      (F_impl_clone_byte ((a0.2.1.take (Int.toNat (IntKind.i64.wrap (a0.2.2.1 + (if (IntKind.i64.wrap (a0.2.2.2.1 - a0.2.2.1)) < (if (IntKind.i64.wrap ((((a0.2.1.length) : Int)) - a0.2.2.1)) < a1 then (IntKind.i64.wrap ((((a0.2.1.length) : Int)) - a0.2.2.1)) else a1) then (IntKind.i64.wrap (a0.2.2.2.1 - a0.2.2.1)) else (if (IntKind.i64.wrap ((((a0.2.1.length) : Int)) - a0.2.2.1)) < a1 then (IntKind.i64.wrap ((((a0.2.1.length) : Int)) - a0.2.2.1)) else a1)))))).drop (Int.toNat a0.2.2.1))).bind fun y1 =>
        some (((IntKind.i64.wrap (a0.1 + a0.2.2.1)), y1.1.1, ()), (a0.1, a0.2.1, (IntKind.i64.wrap (a0.2.2.1 + (if (IntKind.i64.wrap (a0.2.2.2.1 - a0.2.2.1)) < (if (IntKind.i64.wrap ((((a0.2.1.length) : Int)) - a0.2.2.1)) < a1 then (IntKind.i64.wrap ((((a0.2.1.length) : Int)) - a0.2.2.1)) else a1) then (IntKind.i64.wrap (a0.2.2.2.1 - a0.2.2.1)) else (if (IntKind.i64.wrap ((((a0.2.1.length) : Int)) - a0.2.2.1)) < a1 then (IntKind.i64.wrap ((((a0.2.1.length) : Int)) - a0.2.2.1)) else a1)))), a0.2.2.2), ())
    else
      none
/-! (*impl.End).tellBytes (function 95) -/
noncomputable def L_impl_End_tellBytes_2 : Nat → Unit × (List TSegment) × TEnd × Unit → Option (((List TSegment) × Unit) × (TEnd × Unit))
  | 0, _ => none
  | n + 1, p =>
    bif (decide (p.2.2.1.1 = (4 : Int))) then
      (F_impl_Mouth_next p.2.2.1.2.2.2.2.2.2.1 (12 : Int)).bind fun y1 =>
        bif (decide ((((y1.1.2.1.length) : Int)) = (0 : Int))) then
          some ((p.2.1, ()), (p.2.2.1.1, p.2.2.1.2.1, p.2.2.1.2.2.1, p.2.2.1.2.2.2.1, p.2.2.1.2.2.2.2.1, p.2.2.1.2.2.2.2.2.1, y1.2.1, p.2.2.1.2.2.2.2.2.2.2), ())
        else
          (F_impl_End_segment (p.2.2.1.1, p.2.2.1.2.1, p.2.2.1.2.2.1, p.2.2.1.2.2.2.1, p.2.2.1.2.2.2.2.1, p.2.2.1.2.2.2.2.2.1, y1.2.1, p.2.2.1.2.2.2.2.2.2.2) y1.1.1 y1.1.2.1).bind fun y2 =>
            bif (Nat.ble (p.2.1.length + ([y2.1.1]).length) big) then
              L_impl_End_tellBytes_2 n ((), (p.2.1 ++ ([y2.1.1])), (p.2.2.1.1, p.2.2.1.2.1, p.2.2.1.2.2.1, p.2.2.1.2.2.2.1, p.2.2.1.2.2.2.2.1, p.2.2.1.2.2.2.2.2.1, y1.2.1, p.2.2.1.2.2.2.2.2.2.2), ())
            else
              none
    else
      some ((p.2.1, ()), p.2.2.1, ())
noncomputable def F_impl_End_tellBytes (a0 : TEnd) : Option (((List TSegment) × Unit) × (TEnd × Unit)) :=
  L_impl_End_tellBytes_2 fuel ((), ([] : List TSegment), a0, ())
/-! slices.Clip[[]impl.Segment,impl.Segment] (function 157) -/
noncomputable def F_slices_Clip_impl_Segment_impl_Segment (a0 : (List TSegment)) : Option (((List TSegment) × Unit) × (Unit)) :=
  bif ((decide (0 ≤ (((a0.length) : Int))) && decide ((((a0.length) : Int)) ≤ ((a0.length) : Int))) && (decide ((((a0.length) : Int)) = (((a0.length) : Int))))) then
    some (((a0.take (Int.toNat (((a0.length) : Int)))), ()), ())
  else
    none
/-! impl.clone[impl.Segment] (function 96) -/
noncomputable def F_impl_clone_impl_Segment (a0 : (List TSegment)) : Option (((List TSegment) × Unit) × (Unit)) :=
  bif (decide ((((a0.length) : Int)) = (0 : Int))) then
    some ((([] : List TSegment), ()), ())
  else
    bif (Nat.ble (([] : List TSegment).length + a0.length) big) then
      (F_slices_Clip_impl_Segment_impl_Segment (([] : List TSegment) ++ a0)).bind fun y1 =>
        some ((y1.1.1, ()), ())
    else
      none
/-! impl.EndWrite (function 27) -/
noncomputable def F_impl_EndWrite (a0 : TEnd) (a1 : (List Int)) (a2 : Int) : Option ((TEnd × Int × (List TSegment) × Unit) × (Unit)) :=
  (F_impl_asked a0 a2).bind fun y1 =>
    bif (!y1.1.1) then
      some ((((0 : Int), (0 : Int), (0 : Int), (0 : Int), (0 : Int), (0 : Int), ((0 : Int), ([] : List Int), (0 : Int), (0 : Int), ([] : List TRange)), ((0 : Int), (0 : Int), ([] : List Int), ([] : List TEarly)), false, false, false, (0 : Int), (0 : Int), (0 : Int), (0 : Int), (0 : Int), (0 : Int)), (0 : Int), ([] : List TSegment), ()), ())
    else
      (F_impl_End_copy a0).bind fun y2 =>
        bif (bif (!a0.2.2.2.2.2.2.2.2.1) then (!decide (a0.1 = (5 : Int))) else false) then
          (F_impl_MouthWrite y2.1.1.2.2.2.2.2.2.1 a1).bind fun y3 =>
            bif (!decide (a0.1 = (4 : Int))) then
              some (((y2.1.1.1, y2.1.1.2.1, y2.1.1.2.2.1, y2.1.1.2.2.2.1, y2.1.1.2.2.2.2.1, y2.1.1.2.2.2.2.2.1, y3.1.1, y2.1.1.2.2.2.2.2.2.2), y3.1.2.1, ([] : List TSegment), ()), ())
            else
              (F_impl_End_tellBytes (y2.1.1.1, y2.1.1.2.1, y2.1.1.2.2.1, y2.1.1.2.2.2.1, y2.1.1.2.2.2.2.1, y2.1.1.2.2.2.2.2.1, y3.1.1, y2.1.1.2.2.2.2.2.2.2)).bind fun y4 =>
                (F_impl_End_arm y4.2.1 a2).bind fun y5 =>
                  (F_impl_clone_impl_Segment y4.1.1).bind fun y6 =>
                    some ((y5.2.1, y3.1.2.1, y6.1.1, ()), ())
        else
          bif (!decide (a0.1 = (4 : Int))) then
            some ((y2.1.1, (0 : Int), ([] : List TSegment), ()), ())
          else
            (F_impl_End_tellBytes y2.1.1).bind fun y7 =>
              (F_impl_End_arm y7.2.1 a2).bind fun y8 =>
                (F_impl_clone_impl_Segment y7.1.1).bind fun y9 =>
                  some ((y8.2.1, (0 : Int), y9.1.1, ()), ())
/-! impl.seqPlace (function 99) -/
noncomputable def F_impl_seqPlace (a0 : Int) (a1 : Int) : Option ((Int × Unit) × (Unit)) :=
  (F_impl_SeqOf (IntKind.i64.wrap ((IntKind.i64.wrap (a1 - a0)) + (32768 : Int)))).bind fun y1 =>
    some (((IntKind.i64.wrap ((IntKind.i64.wrap (a0 - (32768 : Int))) + y1.1.1)), ()), ())
/-! impl.SeqPlace (function 29) -/
noncomputable def F_impl_SeqPlace (a0 : Int) (a1 : Int) : Option ((Int × Unit) × (Unit)) :=
  bif (bif (!(F_impl_in a0 (0 : Int) (1000000 : Int))) then true else (!(F_impl_in a1 (0 : Int) (65535 : Int)))) then
    some ((a0, ()), ())
  else
    (F_impl_seqPlace a0 a1).bind fun y1 =>
      some ((y1.1.1, ()), ())
/-! laws.FnEndWrite (function 5) -/
noncomputable def L_laws_FnEndWrite_11 : Nat → Unit × Unit × Int × (List TSegment) × Int × TEnd × TEnd × Unit → Option ((Bool × Unit) × (Unit))
  | 0, _ => none
  | n + 1, p =>
    bif (decide (p.2.2.2.2.1 < (((p.2.2.2.1.length) : Int)))) then
      bif (inR p.2.2.2.2.1 (p.2.2.2.1.length)) then
        (F_impl_SeqPlace p.2.2.2.2.2.2.1.2.2.2.2.2.2.1.1 (rdI ((0 : Int), (0 : Int), (0 : Int), (0 : Int), (0 : Int), false, false, false, false, ([] : List TRange), ([] : List Int)) p.2.2.2.1 (Int.toNat p.2.2.2.2.1)).2.2.1).bind fun y1 =>
          bif ((inR p.2.2.2.2.1 (p.2.2.2.1.length)) || (!(!(decide ((IntKind.i64.wrap (y1.1.1 - p.2.2.2.2.2.2.1.2.2.2.2.2.2.1.1)) < (0 : Int)))))) then
            bif ((inR p.2.2.2.2.1 (p.2.2.2.1.length)) || (!(!(bif (decide ((IntKind.i64.wrap (y1.1.1 - p.2.2.2.2.2.2.1.2.2.2.2.2.2.1.1)) < (0 : Int))) then true else (decide ((((p.2.2.2.2.2.2.1.2.2.2.2.2.2.1.2.1.length) : Int)) < (IntKind.i64.wrap ((IntKind.i64.wrap (y1.1.1 - p.2.2.2.2.2.2.1.2.2.2.2.2.2.1.1)) + ((((rdI ((0 : Int), (0 : Int), (0 : Int), (0 : Int), (0 : Int), false, false, false, false, ([] : List TRange), ([] : List Int)) p.2.2.2.1 (Int.toNat p.2.2.2.2.1)).2.2.2.2.2.2.2.2.2.2.length) : Int)))))))))) then
              bif ((inR p.2.2.2.2.1 (p.2.2.2.1.length)) || (!(!(bif (decide ((IntKind.i64.wrap (y1.1.1 - p.2.2.2.2.2.2.1.2.2.2.2.2.2.1.1)) < (0 : Int))) then true else (decide ((((p.2.2.2.2.2.2.1.2.2.2.2.2.2.1.2.1.length) : Int)) < (IntKind.i64.wrap ((IntKind.i64.wrap (y1.1.1 - p.2.2.2.2.2.2.1.2.2.2.2.2.2.1.1)) + ((((rdI ((0 : Int), (0 : Int), (0 : Int), (0 : Int), (0 : Int), false, false, false, false, ([] : List TRange), ([] : List Int)) p.2.2.2.1 (Int.toNat p.2.2.2.2.1)).2.2.2.2.2.2.2.2.2.2.length) : Int)))))))))) then
                bif ((decide (0 ≤ (IntKind.i64.wrap (y1.1.1 - p.2.2.2.2.2.2.1.2.2.2.2.2.2.1.1))) && decide ((IntKind.i64.wrap (y1.1.1 - p.2.2.2.2.2.2.1.2.2.2.2.2.2.1.1)) ≤ (IntKind.i64.wrap ((IntKind.i64.wrap (y1.1.1 - p.2.2.2.2.2.2.1.2.2.2.2.2.2.1.1)) + ((((rdI ((0 : Int), (0 : Int), (0 : Int), (0 : Int), (0 : Int), false, false, false, false, ([] : List TRange), ([] : List Int)) p.2.2.2.1 (Int.toNat p.2.2.2.2.1)).2.2.2.2.2.2.2.2.2.2.length) : Int))))) && decide ((IntKind.i64.wrap ((IntKind.i64.wrap (y1.1.1 - p.2.2.2.2.2.2.1.2.2.2.2.2.2.1.1)) + ((((rdI ((0 : Int), (0 : Int), (0 : Int), (0 : Int), (0 : Int), false, false, false, false, ([] : List TRange), ([] : List Int)) p.2.2.2.1 (Int.toNat p.2.2.2.2.1)).2.2.2.2.2.2.2.2.2.2.length) : Int)))) ≤ ((p.2.2.2.2.2.2.1.2.2.2.2.2.2.1.2.1.length) : Int))) || (!(!(bif (decide ((IntKind.i64.wrap (y1.1.1 - p.2.2.2.2.2.2.1.2.2.2.2.2.2.1.1)) < (0 : Int))) then true else (decide ((((p.2.2.2.2.2.2.1.2.2.2.2.2.2.1.2.1.length) : Int)) < (IntKind.i64.wrap ((IntKind.i64.wrap (y1.1.1 - p.2.2.2.2.2.2.1.2.2.2.2.2.2.1.1)) + ((((rdI ((0 : Int), (0 : Int), (0 : Int), (0 : Int), (0 : Int), false, false, false, false, ([] : List TRange), ([] : List Int)) p.2.2.2.1 (Int.toNat p.2.2.2.2.1)).2.2.2.2.2.2.2.2.2.2.length) : Int)))))))))) then
                  bif (bif (bif (decide ((IntKind.i64.wrap (y1.1.1 - p.2.2.2.2.2.2.1.2.2.2.2.2.2.1.1)) < (0 : Int))) then true else (decide ((((p.2.2.2.2.2.2.1.2.2.2.2.2.2.1.2.1.length) : Int)) < (IntKind.i64.wrap ((IntKind.i64.wrap (y1.1.1 - p.2.2.2.2.2.2.1.2.2.2.2.2.2.1.1)) + ((((rdI ((0 : Int), (0 : Int), (0 : Int), (0 : Int), (0 : Int), false, false, false, false, ([] : List TRange), ([] : List Int)) p.2.2.2.1 (Int.toNat p.2.2.2.2.1)).2.2.2.2.2.2.2.2.2.2.length) : Int))))))) then true else (!(F_laws_sameBytes (rdI ((0 : Int), (0 : Int), (0 : Int), (0 : Int), (0 : Int), false, false, false, false, ([] : List TRange), ([] : List Int)) p.2.2.2.1 (Int.toNat p.2.2.2.2.1)).2.2.2.2.2.2.2.2.2.2 ((p.2.2.2.2.2.2.1.2.2.2.2.2.2.1.2.1.take (Int.toNat (IntKind.i64.wrap ((IntKind.i64.wrap (y1.1.1 - p.2.2.2.2.2.2.1.2.2.2.2.2.2.1.1)) + ((((rdI ((0 : Int), (0 : Int), (0 : Int), (0 : Int), (0 : Int), false, false, false, false, ([] : List TRange), ([] : List Int)) p.2.2.2.1 (Int.toNat p.2.2.2.2.1)).2.2.2.2.2.2.2.2.2.2.length) : Int)))))).drop (Int.toNat (IntKind.i64.wrap (y1.1.1 - p.2.2.2.2.2.2.1.2.2.2.2.2.2.1.1))))))) then
                    some ((false, ()), ())
                  else
                    L_laws_FnEndWrite_11 n ((), (), p.2.2.1, p.2.2.2.1, (IntKind.i64.wrap (p.2.2.2.2.1 + (1 : Int))), p.2.2.2.2.2.1, p.2.2.2.2.2.2.1, ())
                else
                  none
              else
                none
            else
              none
          else
            none
      else
        none
    else
      (F_impl_EndOk p.2.2.2.2.2.2.1).bind fun y2 =>
        bif y2.1.1 then
          (F_laws_goodSegments p.2.2.2.1).bind fun y3 =>
            bif (bif y3.1.1 then (decide ((((p.2.2.2.2.2.2.1.2.2.2.2.2.2.1.2.1.length) : Int)) = (IntKind.i64.wrap ((((p.2.2.2.2.2.1.2.2.2.2.2.2.1.2.1.length) : Int)) + p.2.2.1)))) else false) then
              (F_laws_alive).bind fun y4 =>
                some ((y4.1.1, ()), ())
            else
              some ((false, ()), ())
        else
          some ((false, ()), ())
noncomputable def F_laws_FnEndWrite (a0 : (List Int)) : Option ((Bool × Unit) × (Unit)) :=
  bif (decide ((1048576 : Int) < (((a0.length) : Int)))) then
    some ((true, ()), ())
  else
    (F_spec_DrawEndWrite a0).bind fun y1 =>
      (F_impl_EndWrite y1.1.1 y1.1.2.1 y1.1.2.2.1).bind fun y2 =>
        (F_spec_EndWrite y1.1.1 y1.1.2.1 y1.1.2.2.1).bind fun y3 =>
          bif (!decide (y2.1.2.1 = y3.1.2.1)) then
            some ((false, ()), ())
          else
            (F_laws_sameEnd y2.1.1 y3.1.1).bind fun y4 =>
              bif (!y4.1.1) then
                some ((false, ()), ())
              else
                (F_laws_sameSegments y2.1.2.2.1 y3.1.2.2.1).bind fun y5 =>
                  bif (!y5.1.1) then
                    some ((false, ()), ())
                  else
                    (F_impl_EndOk y1.1.1).bind fun y6 =>
                      bif (!y6.1.1) then
                        bif (bif (decide (y2.1.2.1 = (0 : Int))) then (decide ((((y2.1.2.2.1.length) : Int)) = (0 : Int))) else false) then
                          (F_laws_alive).bind fun y7 =>
                            some ((y7.1.1, ()), ())
                        else
                          some ((false, ()), ())
                      else
                        L_laws_FnEndWrite_11 fuel ((), (), y2.1.2.1, y2.1.2.2.1, (0 : Int), y1.1.1, y2.1.1, ())
/-! spec.DrawEndClose (function 30) -/
noncomputable def F_spec_DrawEndClose (a0 : (List Int)) : Option ((TEnd × Int × Unit) × (Unit)) :=
  (F_spec_l20Open a0).bind fun y1 =>
    (F_spec_l20End y1.1.1 (15 : Int)).bind fun y2 =>
      (F_spec_l20Rd_pick y2.2.1 (256 : Int)).bind fun y3 =>
        some ((y2.1.1, (IntKind.i64.wrap (y3.1.1 * (4 : Int))), ()), ())
/-! impl.EndClose (function 31) -/
noncomputable def F_impl_EndClose (a0 : TEnd) (a1 : Int) : Option ((TEnd × (List TSegment) × Unit) × (Unit)) :=
  (F_impl_asked a0 a1).bind fun y1 =>
    bif (!y1.1.1) then
      some ((((0 : Int), (0 : Int), (0 : Int), (0 : Int), (0 : Int), (0 : Int), ((0 : Int), ([] : List Int), (0 : Int), (0 : Int), ([] : List TRange)), ((0 : Int), (0 : Int), ([] : List Int), ([] : List TEarly)), false, false, false, (0 : Int), (0 : Int), (0 : Int), (0 : Int), (0 : Int), (0 : Int)), ([] : List TSegment), ()), ())
    else
      (F_impl_End_copy a0).bind fun y2 =>
        bif (bif (bif (!decide (a0.1 = (4 : Int))) then true else a0.2.2.2.2.2.2.2.2.2.1) then true else (!decide (a0.2.2.2.2.2.2.1.2.2.1 = (((a0.2.2.2.2.2.2.1.2.1.length) : Int))))) then
          (F_impl_End_arm (y2.1.1.1, y2.1.1.2.1, y2.1.1.2.2.1, y2.1.1.2.2.2.1, y2.1.1.2.2.2.2.1, y2.1.1.2.2.2.2.2.1, y2.1.1.2.2.2.2.2.2.1, y2.1.1.2.2.2.2.2.2.2.1, true, y2.1.1.2.2.2.2.2.2.2.2.2) a1).bind fun y3 =>
            some ((y3.2.1, ([] : List TSegment), ()), ())
        else
          (F_impl_End_arm (y2.1.1.1, y2.1.1.2.1, y2.1.1.2.2.1, y2.1.1.2.2.2.1, y2.1.1.2.2.2.2.1, y2.1.1.2.2.2.2.2.1, y2.1.1.2.2.2.2.2.2.1, y2.1.1.2.2.2.2.2.2.2.1, true, true, y2.1.1.2.2.2.2.2.2.2.2.2.2) a1).bind fun y4 =>
            (F_impl_End_last y4.2.1).bind fun y5 =>
              some ((y4.2.1, ([y5.1.1]), ()), ())
/-! laws.FnEndClose (function 6) -/
noncomputable def F_laws_FnEndClose (a0 : (List Int)) : Option ((Bool × Unit) × (Unit)) :=
  bif (decide ((1048576 : Int) < (((a0.length) : Int)))) then
    some ((true, ()), ())
  else
    (F_spec_DrawEndClose a0).bind fun y1 =>
      (F_impl_EndClose y1.1.1 y1.1.2.1).bind fun y2 =>
        (F_spec_EndClose y1.1.1 y1.1.2.1).bind fun y3 =>
          (F_laws_sameEnd y2.1.1 y3.1.1).bind fun y4 =>
            bif (!y4.1.1) then
              some ((false, ()), ())
            else
              (F_laws_sameSegments y2.1.2.1 y3.1.2.1).bind fun y5 =>
                bif (!y5.1.1) then
                  some ((false, ()), ())
                else
                  (F_impl_EndOk y1.1.1).bind fun y6 =>
                    bif (!y6.1.1) then
                      bif (decide ((((y2.1.2.1.length) : Int)) = (0 : Int))) then
                        (F_laws_alive).bind fun y7 =>
                          some ((y7.1.1, ()), ())
                      else
                        some ((false, ()), ())
                    else
                      (F_impl_EndClose y2.1.1 y1.1.2.1).bind fun y8 =>
                        (F_impl_EndWrite y2.1.1 ([(1 : Int), (2 : Int)]) y1.1.2.1).bind fun y9 =>
                          (F_impl_EndOk y2.1.1).bind fun y10 =>
                            bif y10.1.1 then
                              (F_laws_goodSegments y2.1.2.1).bind fun y11 =>
                                bif (bif (bif y11.1.1 then y2.1.1.2.2.2.2.2.2.2.2.1 else false) then (decide (y9.1.2.1 = (0 : Int))) else false) then
                                  (F_laws_sameEnd y8.1.1 y2.1.1).bind fun y12 =>
                                    some (((bif y12.1.1 then (decide ((((y8.1.2.1.length) : Int)) = (0 : Int))) else false), ()), ())
                                else
                                  some ((false, ()), ())
                            else
                              some ((false, ()), ())
end Go.VI.EwcVi

/-
  The seat's types: instances, codecs, how arguments read. Printed by a program of mine (types.py).
-/
import Derived.Test.YtoejaggkedlfmaaFacts
import Derived.Test.YtoejaggkedlfmaaOpen
namespace Go.Proofs.Ytoejaggkedlfmaa
open Go Go.RowKit Go.ChangeShapes
set_option linter.unusedSimpArgs false
set_option linter.unnecessarySimpa false
set_option linter.unusedSectionVars false
set_option linter.unusedVariables false

instance sc_3 : Sc Try.prog 3 := ⟨Try.isAgg3, Try.sizeOf3⟩
instance sc_4 : Sc Try.prog 4 := ⟨Try.isAgg4, Try.sizeOf4⟩
instance sc_5 : Sc Try.prog 5 := ⟨Try.isAgg5, Try.sizeOf5⟩
instance sc_9 : Sc Try.prog 9 := ⟨Try.isAgg9, Try.sizeOf9⟩
instance sc_20 : Sc Try.prog 20 := ⟨Try.isAgg20, Try.sizeOf20⟩
instance sc_22 : Sc Try.prog 22 := ⟨Try.isAgg22, Try.sizeOf22⟩
instance sc_23 : Sc Try.prog 23 := ⟨Try.isAgg23, Try.sizeOf23⟩
instance sc_24 : Sc Try.prog 24 := ⟨Try.isAgg24, Try.sizeOf24⟩
instance sc_26 : Sc Try.prog 26 := ⟨Try.isAgg26, Try.sizeOf26⟩
instance sc_27 : Sc Try.prog 27 := ⟨Try.isAgg27, Try.sizeOf27⟩
instance sc_29 : Sc Try.prog 29 := ⟨Try.isAgg29, Try.sizeOf29⟩
instance sc_33 : Sc Try.prog 33 := ⟨Try.isAgg33, Try.sizeOf33⟩
instance sc_34 : Sc Try.prog 34 := ⟨Try.isAgg34, Try.sizeOf34⟩
instance ag_38 : Ag Try.prog 38 2 := ⟨Try.isAgg38, Try.sizeOf38⟩
instance ag_43 : Ag Try.prog 43 4 := ⟨Try.isAgg43, Try.sizeOf43⟩
instance sc_49 : Sc Try.prog 49 := ⟨Try.isAgg49, Try.sizeOf49⟩
instance ag_50 : Ag Try.prog 50 2 := ⟨Try.isAgg50, Try.sizeOf50⟩
instance sc_51 : Sc Try.prog 51 := ⟨Try.isAgg51, Try.sizeOf51⟩
instance ag_52 : Ag Try.prog 52 2 := ⟨Try.isAgg52, Try.sizeOf52⟩
instance ag_54 : Ag Try.prog 54 4 := ⟨Try.isAgg54, Try.sizeOf54⟩
instance sc_57 : Sc Try.prog 57 := ⟨Try.isAgg57, Try.sizeOf57⟩
instance ag_60 : Ag Try.prog 60 2 := ⟨Try.isAgg60, Try.sizeOf60⟩
instance sc_61 : Sc Try.prog 61 := ⟨Try.isAgg61, Try.sizeOf61⟩
instance sc_62 : Sc Try.prog 62 := ⟨Try.isAgg62, Try.sizeOf62⟩
instance ag_64 : Ag Try.prog 64 7 := ⟨Try.isAgg64, Try.sizeOf64⟩
instance ag_68 : Ag Try.prog 68 5 := ⟨Try.isAgg68, Try.sizeOf68⟩
instance sc_74 : Sc Try.prog 74 := ⟨Try.isAgg74, Try.sizeOf74⟩
instance sc_75 : Sc Try.prog 75 := ⟨Try.isAgg75, Try.sizeOf75⟩
instance sc_78 : Sc Try.prog 78 := ⟨Try.isAgg78, Try.sizeOf78⟩
instance ag_87 : Ag Try.prog 87 4 := ⟨Try.isAgg87, Try.sizeOf87⟩
instance ag_98 : Ag Try.prog 98 2 := ⟨Try.isAgg98, Try.sizeOf98⟩
instance sc_102 : Sc Try.prog 102 := ⟨Try.isAgg102, Try.sizeOf102⟩
instance sc_110 : Sc Try.prog 110 := ⟨Try.isAgg110, Try.sizeOf110⟩
instance sc_111 : Sc Try.prog 111 := ⟨Try.isAgg111, Try.sizeOf111⟩
instance ag_116 : Ag Try.prog 116 5 := ⟨Try.isAgg116, Try.sizeOf116⟩
instance sc_120 : Sc Try.prog 120 := ⟨Try.isAgg120, Try.sizeOf120⟩
instance sc_127 : Sc Try.prog 127 := ⟨Try.isAgg127, Try.sizeOf127⟩
instance sc_128 : Sc Try.prog 128 := ⟨Try.isAgg128, Try.sizeOf128⟩
instance ag_130 : Ag Try.prog 130 2 := ⟨Try.isAgg130, Try.sizeOf130⟩
instance sc_131 : Sc Try.prog 131 := ⟨Try.isAgg131, Try.sizeOf131⟩
instance ag_133 : Ag Try.prog 133 5 := ⟨Try.isAgg133, Try.sizeOf133⟩
instance ag_137 : Ag Try.prog 137 1 := ⟨Try.isAgg137, Try.sizeOf137⟩
instance ag_139 : Ag Try.prog 139 3 := ⟨Try.isAgg139, Try.sizeOf139⟩
instance ag_145 : Ag Try.prog 145 2 := ⟨Try.isAgg145, Try.sizeOf145⟩
instance ag_147 : Ag Try.prog 147 3 := ⟨Try.isAgg147, Try.sizeOf147⟩
instance ag_149 : Ag Try.prog 149 4 := ⟨Try.isAgg149, Try.sizeOf149⟩
instance ag_151 : Ag Try.prog 151 4 := ⟨Try.isAgg151, Try.sizeOf151⟩
instance sc_169 : Sc Try.prog 169 := ⟨Try.isAgg169, Try.sizeOf169⟩
instance sc_171 : Sc Try.prog 171 := ⟨Try.isAgg171, Try.sizeOf171⟩
instance ag_175 : Ag Try.prog 175 2 := ⟨Try.isAgg175, Try.sizeOf175⟩
instance zv_3 : Zv Try.prog 3 [(.int .i64 0)] := ⟨_, Try.zeroValue3, rfl⟩
instance zv_4 : Zv Try.prog 4 [(.bool false)] := ⟨_, Try.zeroValue4, rfl⟩
instance zv_5 : Zv Try.prog 5 [(bv 0)] := ⟨_, Try.zeroValue5, rfl⟩
instance zv_9 : Zv Try.prog 9 [(.string ⟨#[]⟩)] := ⟨_, Try.zeroValue9, rfl⟩
instance zv_20 : Zv Try.prog 20 [.nilIface] := ⟨_, Try.zeroValue20, rfl⟩
instance zv_22 : Zv Try.prog 22 [(.slice none 0 0)] := ⟨_, Try.zeroValue22, rfl⟩
instance zv_23 : Zv Try.prog 23 [(.slice none 0 0)] := ⟨_, Try.zeroValue23, rfl⟩
instance zv_24 : Zv Try.prog 24 [(.pointer none)] := ⟨_, Try.zeroValue24, rfl⟩
instance zv_26 : Zv Try.prog 26 [(.int .u32 0)] := ⟨_, Try.zeroValue26, rfl⟩
instance zv_27 : Zv Try.prog 27 [(.int .i64 0)] := ⟨_, Try.zeroValue27, rfl⟩
instance zv_29 : Zv Try.prog 29 [(.slice none 0 0)] := ⟨_, Try.zeroValue29, rfl⟩
instance zv_33 : Zv Try.prog 33 [(.slice none 0 0)] := ⟨_, Try.zeroValue33, rfl⟩
instance zv_34 : Zv Try.prog 34 [(.pointer none)] := ⟨_, Try.zeroValue34, rfl⟩
instance zv_38 : Zv Try.prog 38 [(.int .i64 0), (.bool false)] := ⟨_, Try.zeroValue38, rfl⟩
instance zv_43 : Zv Try.prog 43 [(.int .i64 0), (.int .i64 0), (.int .i64 0), (.int .i64 0)] := ⟨_, Try.zeroValue43, rfl⟩
instance zv_49 : Zv Try.prog 49 [(.slice none 0 0)] := ⟨_, Try.zeroValue49, rfl⟩
instance zv_50 : Zv Try.prog 50 [(.pointer none), (.pointer none)] := ⟨_, Try.zeroValue50, rfl⟩
instance zv_51 : Zv Try.prog 51 [(.pointer none)] := ⟨_, Try.zeroValue51, rfl⟩
instance zv_52 : Zv Try.prog 52 [(.pointer none), (.pointer none)] := ⟨_, Try.zeroValue52, rfl⟩
instance zv_54 : Zv Try.prog 54 [(.pointer none), (.pointer none), (.pointer none), (.pointer none)] := ⟨_, Try.zeroValue54, rfl⟩
instance zv_57 : Zv Try.prog 57 [(.pointer none)] := ⟨_, Try.zeroValue57, rfl⟩
instance zv_60 : Zv Try.prog 60 [(.pointer none), (.pointer none)] := ⟨_, Try.zeroValue60, rfl⟩
instance zv_61 : Zv Try.prog 61 [(.slice none 0 0)] := ⟨_, Try.zeroValue61, rfl⟩
instance zv_62 : Zv Try.prog 62 [(.slice none 0 0)] := ⟨_, Try.zeroValue62, rfl⟩
instance zv_64 : Zv Try.prog 64 [(.int .i64 0), (.int .i64 0), (.int .i64 0), (.int .i64 0), (.int .i64 0), (.int .u32 0), (.int .i64 0)] := ⟨_, Try.zeroValue64, rfl⟩
instance zv_68 : Zv Try.prog 68 [(.slice none 0 0), (.int .i64 0), (bv 0), (.string ⟨#[]⟩), (.bool false)] := ⟨_, Try.zeroValue68, rfl⟩
instance zv_74 : Zv Try.prog 74 [(.slice none 0 0)] := ⟨_, Try.zeroValue74, rfl⟩
instance zv_75 : Zv Try.prog 75 [(.pointer none)] := ⟨_, Try.zeroValue75, rfl⟩
instance zv_78 : Zv Try.prog 78 [(.pointer none)] := ⟨_, Try.zeroValue78, rfl⟩
instance zv_87 : Zv Try.prog 87 [(.bool false), (.int .i64 0), (.int .i64 0), (.int .u32 0)] := ⟨_, Try.zeroValue87, rfl⟩
instance zv_98 : Zv Try.prog 98 [(.int .i64 0), (.slice none 0 0)] := ⟨_, Try.zeroValue98, rfl⟩
instance zv_102 : Zv Try.prog 102 [(.slice none 0 0)] := ⟨_, Try.zeroValue102, rfl⟩
instance zv_110 : Zv Try.prog 110 [(.slice none 0 0)] := ⟨_, Try.zeroValue110, rfl⟩
instance zv_111 : Zv Try.prog 111 [(.pointer none)] := ⟨_, Try.zeroValue111, rfl⟩
instance zv_116 : Zv Try.prog 116 [(.int .i64 0), (.int .i64 0), (.int .i64 0), (.int .i64 0), (.int .i64 0)] := ⟨_, Try.zeroValue116, rfl⟩
instance zv_120 : Zv Try.prog 120 [(.slice none 0 0)] := ⟨_, Try.zeroValue120, rfl⟩
instance zv_127 : Zv Try.prog 127 [(.slice none 0 0)] := ⟨_, Try.zeroValue127, rfl⟩
instance zv_128 : Zv Try.prog 128 [(.slice none 0 0)] := ⟨_, Try.zeroValue128, rfl⟩
instance zv_130 : Zv Try.prog 130 [(.slice none 0 0), (.slice none 0 0)] := ⟨_, Try.zeroValue130, rfl⟩
instance zv_131 : Zv Try.prog 131 [(.int .u64 0)] := ⟨_, Try.zeroValue131, rfl⟩
instance zv_133 : Zv Try.prog 133 [(.int .u64 0), (.int .u32 0), (bv 0), (.int .i64 0), (.slice none 0 0)] := ⟨_, Try.zeroValue133, rfl⟩
instance zv_137 : Zv Try.prog 137 [(.slice none 0 0)] := ⟨_, Try.zeroValue137, rfl⟩
instance zv_139 : Zv Try.prog 139 [(.slice none 0 0), (.int .u32 0), (.int .i64 0)] := ⟨_, Try.zeroValue139, rfl⟩
instance zv_145 : Zv Try.prog 145 [(.int .i64 0), (.slice none 0 0)] := ⟨_, Try.zeroValue145, rfl⟩
instance zv_147 : Zv Try.prog 147 [(.int .i64 0), (.int .u32 0), (.int .u32 0)] := ⟨_, Try.zeroValue147, rfl⟩
instance zv_149 : Zv Try.prog 149 [(.slice none 0 0), (.int .i64 0), (.int .u32 0), (.int .u32 0)] := ⟨_, Try.zeroValue149, rfl⟩
instance zv_151 : Zv Try.prog 151 [(.slice none 0 0), (.int .i64 0), (.int .i64 0), (.int .i64 0)] := ⟨_, Try.zeroValue151, rfl⟩
instance zv_169 : Zv Try.prog 169 [.nilFunc] := ⟨_, Try.zeroValue169, rfl⟩
instance zv_171 : Zv Try.prog 171 [(.slice none 0 0)] := ⟨_, Try.zeroValue171, rfl⟩
instance zv_175 : Zv Try.prog 175 [(.int .i64 0), (.int .i64 0)] := ⟨_, Try.zeroValue175, rfl⟩
structure T_pithlaw07_Bit where
  I : Int
  One : Bool
def T_pithlaw07_Bit.zero : T_pithlaw07_Bit := ⟨0, false⟩
def T_pithlaw07_Bit.enc (b : T_pithlaw07_Bit) : List Value := [.int .i64 b.I, .bool b.One]
structure T_pithlaw07_Op where
  Kind : Int
  f_E : Int
  S : Int
  I : Int
  Bit : Int
  V : Int
  N : Int
def T_pithlaw07_Op.zero : T_pithlaw07_Op := ⟨0, 0, 0, 0, 0, 0, 0⟩
def T_pithlaw07_Op.enc (b : T_pithlaw07_Op) : List Value := [.int .i64 b.Kind, .int .i64 b.f_E, .int .i64 b.S, .int .i64 b.I, .int .i64 b.Bit, .int .u32 b.V, .int .i64 b.N]
structure T_pithlaw07_Pair where
  f_E : Option Addr
  R : Option Addr
def T_pithlaw07_Pair.zero : T_pithlaw07_Pair := ⟨none, none⟩
def T_pithlaw07_Pair.enc (b : T_pithlaw07_Pair) : List Value := [.pointer b.f_E, .pointer b.R]
structure T_pithlaw07_Held where
  B : (Sl × List UInt8)
  N : Int
  Mark : UInt8
  Want : List UInt8
  Kept : Bool
def T_pithlaw07_Held.zero : T_pithlaw07_Held := ⟨(⟨none, 0⟩, []), 0, 0, [], false⟩
def T_pithlaw07_Held.enc (b : T_pithlaw07_Held) : List Value := [.slice b.B.1.a b.B.2.length b.B.1.c, .int .i64 b.N, bv b.Mark, .string ⟨List.toArray b.Want⟩, .bool b.Kept]
structure T_pithlaw08_Ask where
  Direct : Bool
  I : Int
  N : Int
  V : Int
def T_pithlaw08_Ask.zero : T_pithlaw08_Ask := ⟨false, 0, 0, 0⟩
def T_pithlaw08_Ask.enc (b : T_pithlaw08_Ask) : List Value := [.bool b.Direct, .int .i64 b.I, .int .i64 b.N, .int .u32 b.V]
structure T_pithlaw08_Plan where
  N : Int
  Asks : (Sl × List T_pithlaw08_Ask)
def T_pithlaw08_Plan.zero : T_pithlaw08_Plan := ⟨0, (⟨none, 0⟩, [])⟩
def T_pithlaw08_Plan.enc (b : T_pithlaw08_Plan) : List Value := [.int .i64 b.N, .slice b.Asks.1.a b.Asks.2.length b.Asks.1.c]
structure T_pithlaw09_Op where
  Kind : Int
  Row : Int
  At : Int
  N : Int
  V : Int
def T_pithlaw09_Op.zero : T_pithlaw09_Op := ⟨0, 0, 0, 0, 0⟩
def T_pithlaw09_Op.enc (b : T_pithlaw09_Op) : List Value := [.int .i64 b.Kind, .int .i64 b.Row, .int .i64 b.At, .int .i64 b.N, .int .i64 b.V]
structure T_pithref09_Step where
  At : Int
  Bit : Int
def T_pithref09_Step.zero : T_pithref09_Step := ⟨0, 0⟩
def T_pithref09_Step.enc (b : T_pithref09_Step) : List Value := [.int .i64 b.At, .int .i64 b.Bit]
def cd_int : Cd Int := { e := 3, size := 1, bytes := 8, zero := 0, enc := fun b => [.int .i64 b], len := fun _ => rfl, one := by intro b u hu; simp only [List.mem_cons, List.not_mem_nil, or_false] at hu; subst hu; rfl }
instance bt_int : Bt cd_int 8 := ⟨rfl⟩
def cd_bool : Cd Bool := { e := 4, size := 1, bytes := 1, zero := false, enc := fun b => [.bool b], len := fun _ => rfl, one := by intro b u hu; simp only [List.mem_cons, List.not_mem_nil, or_false] at hu; subst hu; rfl }
instance bt_bool : Bt cd_bool 1 := ⟨rfl⟩
def cd_uint8 : Cd UInt8 := { e := 5, size := 1, bytes := 1, zero := 0, enc := fun b => [bv b], len := fun _ => rfl, one := by intro b u hu; simp only [List.mem_cons, List.not_mem_nil, or_false] at hu; subst hu; rfl }
instance bt_uint8 : Bt cd_uint8 1 := ⟨rfl⟩
def cd_uint32 : Cd Int := { e := 26, size := 1, bytes := 4, zero := 0, enc := fun b => [.int .u32 b], len := fun _ => rfl, one := by intro b u hu; simp only [List.mem_cons, List.not_mem_nil, or_false] at hu; subst hu; rfl }
instance bt_uint32 : Bt cd_uint32 4 := ⟨rfl⟩
def cd_sl_uint8 : Cd (Sl × List UInt8) := { e := 29, size := 1, bytes := 24, zero := (⟨none, 0⟩, []), enc := fun b => [.slice b.1.a b.2.length b.1.c], len := fun _ => rfl, one := by intro b u hu; simp only [List.mem_cons, List.not_mem_nil, or_false] at hu; subst hu; rfl }
instance bt_sl_uint8 : Bt cd_sl_uint8 24 := ⟨rfl⟩
def cd_p_prob_Set : Cd (Option Addr) := { e := 34, size := 1, bytes := 8, zero := none, enc := fun b => [.pointer b], len := fun _ => rfl, one := by intro b u hu; simp only [List.mem_cons, List.not_mem_nil, or_false] at hu; subst hu; rfl }
instance bt_p_prob_Set : Bt cd_p_prob_Set 8 := ⟨rfl⟩
def cd_pithlaw07_Bit : Cd T_pithlaw07_Bit := { e := 38, size := 2, bytes := 16, zero := T_pithlaw07_Bit.zero, enc := T_pithlaw07_Bit.enc, len := fun _ => rfl, one := by intro b u hu; simp only [T_pithlaw07_Bit.enc, T_pithlaw07_Held.enc, T_pithlaw07_Op.enc, T_pithlaw07_Pair.enc, T_pithlaw08_Ask.enc, T_pithlaw08_Plan.enc, T_pithlaw09_Op.enc, T_pithref09_Step.enc, List.mem_cons, List.mem_append, List.not_mem_nil, or_false] at hu; rcases hu with rfl|rfl <;> rfl }
instance bt_pithlaw07_Bit : Bt cd_pithlaw07_Bit 16 := ⟨rfl⟩
def cd_p_pithref06_Set : Cd (Option Addr) := { e := 51, size := 1, bytes := 8, zero := none, enc := fun b => [.pointer b], len := fun _ => rfl, one := by intro b u hu; simp only [List.mem_cons, List.not_mem_nil, or_false] at hu; subst hu; rfl }
instance bt_p_pithref06_Set : Bt cd_p_pithref06_Set 8 := ⟨rfl⟩
def cd_pithlaw07_Pair : Cd T_pithlaw07_Pair := { e := 60, size := 2, bytes := 16, zero := T_pithlaw07_Pair.zero, enc := T_pithlaw07_Pair.enc, len := fun _ => rfl, one := by intro b u hu; simp only [T_pithlaw07_Bit.enc, T_pithlaw07_Held.enc, T_pithlaw07_Op.enc, T_pithlaw07_Pair.enc, T_pithlaw08_Ask.enc, T_pithlaw08_Plan.enc, T_pithlaw09_Op.enc, T_pithref09_Step.enc, List.mem_cons, List.mem_append, List.not_mem_nil, or_false] at hu; rcases hu with rfl|rfl <;> rfl }
instance bt_pithlaw07_Pair : Bt cd_pithlaw07_Pair 16 := ⟨rfl⟩
def cd_pithlaw07_Op : Cd T_pithlaw07_Op := { e := 64, size := 7, bytes := 56, zero := T_pithlaw07_Op.zero, enc := T_pithlaw07_Op.enc, len := fun _ => rfl, one := by intro b u hu; simp only [T_pithlaw07_Bit.enc, T_pithlaw07_Held.enc, T_pithlaw07_Op.enc, T_pithlaw07_Pair.enc, T_pithlaw08_Ask.enc, T_pithlaw08_Plan.enc, T_pithlaw09_Op.enc, T_pithref09_Step.enc, List.mem_cons, List.mem_append, List.not_mem_nil, or_false] at hu; rcases hu with rfl|rfl|rfl|rfl|rfl|rfl|rfl <;> rfl }
instance bt_pithlaw07_Op : Bt cd_pithlaw07_Op 56 := ⟨rfl⟩
def cd_pithlaw07_Held : Cd T_pithlaw07_Held := { e := 68, size := 5, bytes := 64, zero := T_pithlaw07_Held.zero, enc := T_pithlaw07_Held.enc, len := fun _ => rfl, one := by intro b u hu; simp only [T_pithlaw07_Bit.enc, T_pithlaw07_Held.enc, T_pithlaw07_Op.enc, T_pithlaw07_Pair.enc, T_pithlaw08_Ask.enc, T_pithlaw08_Plan.enc, T_pithlaw09_Op.enc, T_pithref09_Step.enc, List.mem_cons, List.mem_append, List.not_mem_nil, or_false] at hu; rcases hu with rfl|rfl|rfl|rfl|rfl <;> rfl }
instance bt_pithlaw07_Held : Bt cd_pithlaw07_Held 64 := ⟨rfl⟩
def cd_pithlaw08_Ask : Cd T_pithlaw08_Ask := { e := 87, size := 4, bytes := 32, zero := T_pithlaw08_Ask.zero, enc := T_pithlaw08_Ask.enc, len := fun _ => rfl, one := by intro b u hu; simp only [T_pithlaw07_Bit.enc, T_pithlaw07_Held.enc, T_pithlaw07_Op.enc, T_pithlaw07_Pair.enc, T_pithlaw08_Ask.enc, T_pithlaw08_Plan.enc, T_pithlaw09_Op.enc, T_pithref09_Step.enc, List.mem_cons, List.mem_append, List.not_mem_nil, or_false] at hu; rcases hu with rfl|rfl|rfl|rfl <;> rfl }
instance bt_pithlaw08_Ask : Bt cd_pithlaw08_Ask 32 := ⟨rfl⟩
def cd_pithlaw08_Plan : Cd T_pithlaw08_Plan := { e := 98, size := 2, bytes := 32, zero := T_pithlaw08_Plan.zero, enc := T_pithlaw08_Plan.enc, len := fun _ => rfl, one := by intro b u hu; simp only [T_pithlaw07_Bit.enc, T_pithlaw07_Held.enc, T_pithlaw07_Op.enc, T_pithlaw07_Pair.enc, T_pithlaw08_Ask.enc, T_pithlaw08_Plan.enc, T_pithlaw09_Op.enc, T_pithref09_Step.enc, List.mem_cons, List.mem_append, List.not_mem_nil, or_false] at hu; rcases hu with rfl|rfl <;> rfl }
instance bt_pithlaw08_Plan : Bt cd_pithlaw08_Plan 32 := ⟨rfl⟩
def cd_pithlaw09_Op : Cd T_pithlaw09_Op := { e := 116, size := 5, bytes := 40, zero := T_pithlaw09_Op.zero, enc := T_pithlaw09_Op.enc, len := fun _ => rfl, one := by intro b u hu; simp only [T_pithlaw07_Bit.enc, T_pithlaw07_Held.enc, T_pithlaw07_Op.enc, T_pithlaw07_Pair.enc, T_pithlaw08_Ask.enc, T_pithlaw08_Plan.enc, T_pithlaw09_Op.enc, T_pithref09_Step.enc, List.mem_cons, List.mem_append, List.not_mem_nil, or_false] at hu; rcases hu with rfl|rfl|rfl|rfl|rfl <;> rfl }
instance bt_pithlaw09_Op : Bt cd_pithlaw09_Op 40 := ⟨rfl⟩
def cd_pithref09_Step : Cd T_pithref09_Step := { e := 175, size := 2, bytes := 16, zero := T_pithref09_Step.zero, enc := T_pithref09_Step.enc, len := fun _ => rfl, one := by intro b u hu; simp only [T_pithlaw07_Bit.enc, T_pithlaw07_Held.enc, T_pithlaw07_Op.enc, T_pithlaw07_Pair.enc, T_pithlaw08_Ask.enc, T_pithlaw08_Plan.enc, T_pithlaw09_Op.enc, T_pithref09_Step.enc, List.mem_cons, List.mem_append, List.not_mem_nil, or_false] at hu; rcases hu with rfl|rfl <;> rfl }
instance bt_pithref09_Step : Bt cd_pithref09_Step 16 := ⟨rfl⟩
theorem flat_uint8 (l : List UInt8) : cd_uint8.flat l = bvs l := cd_uint8.flat_single bv (fun _ => rfl) l
instance row_22 : Row Try.prog 22 Int cd_uint32 := ⟨⟨(.int .u32 0), ⟨Try.underlying22, info_parts (by kernel_rfl), rfl, by decide⟩, rfl⟩, by decide⟩
instance row_23 : Row Try.prog 23 Int cd_int := ⟨⟨(.int .i64 0), ⟨Try.underlying23, info_parts (by kernel_rfl), rfl, by decide⟩, rfl⟩, by decide⟩
instance row_29 : Row Try.prog 29 UInt8 cd_uint8 := ⟨⟨(.int .u8 0), ⟨Try.underlying29, info_parts (by kernel_rfl), rfl, by decide⟩, rfl⟩, by decide⟩
instance row_33 : Row Try.prog 33 T_pithlaw07_Bit cd_pithlaw07_Bit := ⟨⟨(.agg #[(.int .i64 0), (.bool false)]), ⟨Try.underlying33, info_parts (by kernel_rfl), rfl, by decide⟩, rfl⟩, by decide⟩
instance row_49 : Row Try.prog 49 T_pithlaw07_Op cd_pithlaw07_Op := ⟨⟨(.agg #[(.int .i64 0), (.int .i64 0), (.int .i64 0), (.int .i64 0), (.int .i64 0), (.int .u32 0), (.int .i64 0)]), ⟨Try.underlying49, info_parts (by kernel_rfl), rfl, by decide⟩, rfl⟩, by decide⟩
instance row_61 : Row Try.prog 61 T_pithlaw07_Pair cd_pithlaw07_Pair := ⟨⟨(.agg #[(.pointer none), (.pointer none)]), ⟨Try.underlying61, info_parts (by kernel_rfl), rfl, by decide⟩, rfl⟩, by decide⟩
instance row_62 : Row Try.prog 62 T_pithlaw07_Held cd_pithlaw07_Held := ⟨⟨(.agg #[(.slice none 0 0), (.int .i64 0), (.int .u8 0), (.string ⟨#[]⟩), (.bool false)]), ⟨Try.underlying62, info_parts (by kernel_rfl), rfl, by decide⟩, rfl⟩, by decide⟩
instance row_74 : Row Try.prog 74 T_pithlaw08_Ask cd_pithlaw08_Ask := ⟨⟨(.agg #[(.bool false), (.int .i64 0), (.int .i64 0), (.int .u32 0)]), ⟨Try.underlying74, info_parts (by kernel_rfl), rfl, by decide⟩, rfl⟩, by decide⟩
instance row_102 : Row Try.prog 102 Bool cd_bool := ⟨⟨(.bool false), ⟨Try.underlying102, info_parts (by kernel_rfl), rfl, by decide⟩, rfl⟩, by decide⟩
instance row_110 : Row Try.prog 110 T_pithlaw09_Op cd_pithlaw09_Op := ⟨⟨(.agg #[(.int .i64 0), (.int .i64 0), (.int .i64 0), (.int .i64 0), (.int .i64 0)]), ⟨Try.underlying110, info_parts (by kernel_rfl), rfl, by decide⟩, rfl⟩, by decide⟩
instance row_120 : Row Try.prog 120 (Sl × List UInt8) cd_sl_uint8 := ⟨⟨(.slice none 0 0), ⟨Try.underlying120, info_parts (by kernel_rfl), rfl, by decide⟩, rfl⟩, by decide⟩
instance row_127 : Row Try.prog 127 (Option Addr) cd_p_prob_Set := ⟨⟨(.pointer none), ⟨Try.underlying127, info_parts (by kernel_rfl), rfl, by decide⟩, rfl⟩, by decide⟩
instance row_128 : Row Try.prog 128 (Option Addr) cd_p_pithref06_Set := ⟨⟨(.pointer none), ⟨Try.underlying128, info_parts (by kernel_rfl), rfl, by decide⟩, rfl⟩, by decide⟩
instance row_171 : Row Try.prog 171 T_pithref09_Step cd_pithref09_Step := ⟨⟨(.agg #[(.int .i64 0), (.int .i64 0)]), ⟨Try.underlying171, info_parts (by kernel_rfl), rfl, by decide⟩, rfl⟩, by decide⟩
section
variable [Pan] {w : World} {K : Value → World → Prop} {J : Value → Prop}
instance fa_38_0 : FA Try.prog 38 0 0 := ⟨fun a w => by kernel_rfl⟩
instance fa_38_1 : FA Try.prog 38 1 1 := ⟨fun a w => by kernel_rfl⟩
instance fa_54_0 : FA Try.prog 54 0 0 := ⟨fun a w => by kernel_rfl⟩
instance fa_54_1 : FA Try.prog 54 1 2 := ⟨fun a w => by kernel_rfl⟩
instance fa_60_0 : FA Try.prog 60 0 0 := ⟨fun a w => by kernel_rfl⟩
instance fa_60_1 : FA Try.prog 60 1 1 := ⟨fun a w => by kernel_rfl⟩
instance fa_64_0 : FA Try.prog 64 0 0 := ⟨fun a w => by kernel_rfl⟩
instance fa_64_1 : FA Try.prog 64 1 1 := ⟨fun a w => by kernel_rfl⟩
instance fa_64_2 : FA Try.prog 64 2 2 := ⟨fun a w => by kernel_rfl⟩
instance fa_64_3 : FA Try.prog 64 3 3 := ⟨fun a w => by kernel_rfl⟩
instance fa_64_4 : FA Try.prog 64 4 4 := ⟨fun a w => by kernel_rfl⟩
instance fa_64_5 : FA Try.prog 64 5 5 := ⟨fun a w => by kernel_rfl⟩
instance fa_64_6 : FA Try.prog 64 6 6 := ⟨fun a w => by kernel_rfl⟩
instance fa_68_0 : FA Try.prog 68 0 0 := ⟨fun a w => by kernel_rfl⟩
instance fa_68_1 : FA Try.prog 68 1 1 := ⟨fun a w => by kernel_rfl⟩
instance fa_68_2 : FA Try.prog 68 2 2 := ⟨fun a w => by kernel_rfl⟩
instance fa_68_3 : FA Try.prog 68 3 3 := ⟨fun a w => by kernel_rfl⟩
instance fa_68_4 : FA Try.prog 68 4 4 := ⟨fun a w => by kernel_rfl⟩
instance fa_87_0 : FA Try.prog 87 0 0 := ⟨fun a w => by kernel_rfl⟩
instance fa_87_1 : FA Try.prog 87 1 1 := ⟨fun a w => by kernel_rfl⟩
instance fa_87_2 : FA Try.prog 87 2 2 := ⟨fun a w => by kernel_rfl⟩
instance fa_87_3 : FA Try.prog 87 3 3 := ⟨fun a w => by kernel_rfl⟩
instance fa_98_0 : FA Try.prog 98 0 0 := ⟨fun a w => by kernel_rfl⟩
instance fa_98_1 : FA Try.prog 98 1 1 := ⟨fun a w => by kernel_rfl⟩
instance fa_116_0 : FA Try.prog 116 0 0 := ⟨fun a w => by kernel_rfl⟩
instance fa_116_1 : FA Try.prog 116 1 1 := ⟨fun a w => by kernel_rfl⟩
instance fa_116_2 : FA Try.prog 116 2 2 := ⟨fun a w => by kernel_rfl⟩
instance fa_116_3 : FA Try.prog 116 3 3 := ⟨fun a w => by kernel_rfl⟩
instance fa_116_4 : FA Try.prog 116 4 4 := ⟨fun a w => by kernel_rfl⟩
instance fa_130_0 : FA Try.prog 130 0 0 := ⟨fun a w => by kernel_rfl⟩
instance fa_130_1 : FA Try.prog 130 1 1 := ⟨fun a w => by kernel_rfl⟩
instance fa_133_0 : FA Try.prog 133 0 0 := ⟨fun a w => by kernel_rfl⟩
instance fa_133_1 : FA Try.prog 133 1 1 := ⟨fun a w => by kernel_rfl⟩
instance fa_133_2 : FA Try.prog 133 2 2 := ⟨fun a w => by kernel_rfl⟩
instance fa_133_3 : FA Try.prog 133 3 3 := ⟨fun a w => by kernel_rfl⟩
instance fa_133_4 : FA Try.prog 133 4 4 := ⟨fun a w => by kernel_rfl⟩
instance fa_137_0 : FA Try.prog 137 0 0 := ⟨fun a w => by kernel_rfl⟩
instance fa_139_0 : FA Try.prog 139 0 0 := ⟨fun a w => by kernel_rfl⟩
instance fa_139_1 : FA Try.prog 139 1 1 := ⟨fun a w => by kernel_rfl⟩
instance fa_139_2 : FA Try.prog 139 2 2 := ⟨fun a w => by kernel_rfl⟩
instance fa_145_0 : FA Try.prog 145 0 0 := ⟨fun a w => by kernel_rfl⟩
instance fa_145_1 : FA Try.prog 145 1 1 := ⟨fun a w => by kernel_rfl⟩
instance fa_147_0 : FA Try.prog 147 0 0 := ⟨fun a w => by kernel_rfl⟩
instance fa_147_1 : FA Try.prog 147 1 1 := ⟨fun a w => by kernel_rfl⟩
instance fa_147_2 : FA Try.prog 147 2 2 := ⟨fun a w => by kernel_rfl⟩
instance fa_149_0 : FA Try.prog 149 0 0 := ⟨fun a w => by kernel_rfl⟩
instance fa_149_1 : FA Try.prog 149 1 1 := ⟨fun a w => by kernel_rfl⟩
instance fa_151_0 : FA Try.prog 151 0 0 := ⟨fun a w => by kernel_rfl⟩
instance fa_151_1 : FA Try.prog 151 1 1 := ⟨fun a w => by kernel_rfl⟩
instance fa_151_2 : FA Try.prog 151 2 2 := ⟨fun a w => by kernel_rfl⟩
instance fa_151_3 : FA Try.prog 151 3 3 := ⟨fun a w => by kernel_rfl⟩
instance fa_175_0 : FA Try.prog 175 0 0 := ⟨fun a w => by kernel_rfl⟩
instance fa_175_1 : FA Try.prog 175 1 1 := ⟨fun a w => by kernel_rfl⟩
instance tob_3_5 : ToB Try.prog 3 5 := ⟨fun _ k n => run_conv_int k Try.underlying3 Try.underlying5 n⟩
instance ofb_5_3 : OfB Try.prog 5 3 .i64 := ⟨fun _ k n => run_conv_int k Try.underlying5 Try.underlying3 n, fun n h1 h2 => wrap_i64 (by omega)⟩
instance ofb_5_26 : OfB Try.prog 5 26 .u32 := ⟨fun _ k n => run_conv_int k Try.underlying5 Try.underlying26 n, fun n h1 h2 => w_u32 (by omega)⟩
instance ofb_5_131 : OfB Try.prog 5 131 .u64 := ⟨fun _ k n => run_conv_int k Try.underlying5 Try.underlying131 n, fun n h1 h2 => w_u64 (by omega)⟩
instance strt_29_9 : StrT Try.prog 29 9 cd_uint8 := ⟨⟨_, Try.underlying29, Try.underlying5⟩, Try.underlying9, rfl, fun _ => rfl⟩
instance tob_131_5 : ToB Try.prog 131 5 := ⟨fun _ k n => run_conv_int k Try.underlying131 Try.underlying5 n⟩
theorem pN_shl_26_u64_1 (xo yo : Operand) (a : Int) : pN Try.prog (oBin .shl 26 xo yo (.int .u32 a) (.int .u64 1)) w K = K (.int .u32 (IntKind.wrap .u32 (a * 2))) w := pN_shln 1 1 2 rfl (by decide) (by decide)
theorem pA_shl_26_u64_1 (xo yo : Operand) (a : Int) : pA Try.prog (oBin .shl 26 xo yo (.int .u32 a) (.int .u64 1)) J = J (.int .u32 (IntKind.wrap .u32 (a * 2))) := pA_shln 1 1 2 rfl (by decide) (by decide)
theorem pN_shl_26_u64_8 (xo yo : Operand) (a : Int) : pN Try.prog (oBin .shl 26 xo yo (.int .u32 a) (.int .u64 8)) w K = K (.int .u32 (IntKind.wrap .u32 (a * 256))) w := pN_shln 8 8 256 rfl (by decide) (by decide)
theorem pA_shl_26_u64_8 (xo yo : Operand) (a : Int) : pA Try.prog (oBin .shl 26 xo yo (.int .u32 a) (.int .u64 8)) J = J (.int .u32 (IntKind.wrap .u32 (a * 256))) := pA_shln 8 8 256 rfl (by decide) (by decide)
theorem pN_shl_131_u64_8 (xo yo : Operand) (a : Int) : pN Try.prog (oBin .shl 131 xo yo (.int .u64 a) (.int .u64 8)) w K = K (.int .u64 (IntKind.wrap .u64 (a * 256))) w := pN_shln 8 8 256 rfl (by decide) (by decide)
theorem pA_shl_131_u64_8 (xo yo : Operand) (a : Int) : pA Try.prog (oBin .shl 131 xo yo (.int .u64 a) (.int .u64 8)) J = J (.int .u64 (IntKind.wrap .u64 (a * 256))) := pA_shln 8 8 256 rfl (by decide) (by decide)
theorem pN_shr_3_u64_5 (xo yo : Operand) (a : Int) : pN Try.prog (oBin .shr 3 xo yo (.int .i64 a) (.int .u64 5)) w K = K (.int .i64 (a / 32)) w := pN_shrn 5 5 32 rfl (by decide) (by decide)
theorem pA_shr_3_u64_5 (xo yo : Operand) (a : Int) : pA Try.prog (oBin .shr 3 xo yo (.int .i64 a) (.int .u64 5)) J = J (.int .i64 (a / 32)) := pA_shrn 5 5 32 rfl (by decide) (by decide)
theorem pN_shr_26_u64_11 (xo yo : Operand) (a : Int) : pN Try.prog (oBin .shr 26 xo yo (.int .u32 a) (.int .u64 11)) w K = K (.int .u32 (a / 2048)) w := pN_shrn 11 11 2048 rfl (by decide) (by decide)
theorem pA_shr_26_u64_11 (xo yo : Operand) (a : Int) : pA Try.prog (oBin .shr 26 xo yo (.int .u32 a) (.int .u64 11)) J = J (.int .u32 (a / 2048)) := pA_shrn 11 11 2048 rfl (by decide) (by decide)
theorem pN_shr_131_u64_24 (xo yo : Operand) (a : Int) : pN Try.prog (oBin .shr 131 xo yo (.int .u64 a) (.int .u64 24)) w K = K (.int .u64 (a / 16777216)) w := pN_shrn 24 24 16777216 rfl (by decide) (by decide)
theorem pA_shr_131_u64_24 (xo yo : Operand) (a : Int) : pA Try.prog (oBin .shr 131 xo yo (.int .u64 a) (.int .u64 24)) J = J (.int .u64 (a / 16777216)) := pA_shrn 24 24 16777216 rfl (by decide) (by decide)
theorem pN_shr_131_u64_32 (xo yo : Operand) (a : Int) : pN Try.prog (oBin .shr 131 xo yo (.int .u64 a) (.int .u64 32)) w K = K (.int .u64 (a / 4294967296)) w := pN_shrn 32 32 4294967296 rfl (by decide) (by decide)
theorem pA_shr_131_u64_32 (xo yo : Operand) (a : Int) : pA Try.prog (oBin .shr 131 xo yo (.int .u64 a) (.int .u64 32)) J = J (.int .u64 (a / 4294967296)) := pA_shrn 32 32 4294967296 rfl (by decide) (by decide)
theorem pN_and_3_1 (xo yo : Operand) (a : Int) : pN Try.prog (oBin .and 3 xo yo (.int .i64 a) (.int .i64 1)) w K = K (.int .i64 (a % 2)) w := pN_andn 1 1 2 rfl rfl (by decide) (wrap_i64 (by omega))
theorem pA_and_3_1 (xo yo : Operand) (a : Int) : pA Try.prog (oBin .and 3 xo yo (.int .i64 a) (.int .i64 1)) J = J (.int .i64 (a % 2)) := pA_andn 1 1 2 rfl rfl (by decide) (wrap_i64 (by omega))
theorem pN_and_26_1 (xo yo : Operand) (a : Int) : pN Try.prog (oBin .and 26 xo yo (.int .u32 a) (.int .u32 1)) w K = K (.int .u32 (a % 2)) w := pN_andn 1 1 2 rfl rfl (by decide) (w_u32 (by omega))
theorem pA_and_26_1 (xo yo : Operand) (a : Int) : pA Try.prog (oBin .and 26 xo yo (.int .u32 a) (.int .u32 1)) J = J (.int .u32 (a % 2)) := pA_andn 1 1 2 rfl rfl (by decide) (w_u32 (by omega))
theorem pN_and_131_16777215 (xo yo : Operand) (a : Int) : pN Try.prog (oBin .and 131 xo yo (.int .u64 a) (.int .u64 16777215)) w K = K (.int .u64 (a % 16777216)) w := pN_andn 24 16777215 16777216 rfl rfl (by decide) (w_u64 (by omega))
theorem pA_and_131_16777215 (xo yo : Operand) (a : Int) : pA Try.prog (oBin .and 131 xo yo (.int .u64 a) (.int .u64 16777215)) J = J (.int .u64 (a % 16777216)) := pA_andn 24 16777215 16777216 rfl rfl (by decide) (w_u64 (by omega))
theorem run_bld_60_0_1 (x0 : Option Addr) (x1 : Option Addr) (w : World) : (oBuild 60 [(0, .pointer x0), (1, .pointer x1)]).run Try.prog w = .ok (.value (.agg #[(.pointer x0), (.pointer x1)])) w := by kernel_rfl
theorem pN_bld_60_0_1 (x0 : Option Addr) (x1 : Option Addr) : pN Try.prog (oBuild 60 [(0, .pointer x0), (1, .pointer x1)]) w K = K (.agg #[(.pointer x0), (.pointer x1)]) w := by rw [pN_def, run_bld_60_0_1, rN_value]
theorem run_bld_68_0_1_2_3_4 (x0 : Option Addr) (x0n x0c : Nat) (x1 : Int) (x2 : UInt8) (x3 : ByteArray) (x4 : Bool) (w : World) : (oBuild 68 [(0, .slice x0 x0n x0c), (1, .int .i64 x1), (2, bv x2), (3, .string x3), (4, .bool x4)]).run Try.prog w = .ok (.value (.agg #[(.slice x0 x0n x0c), (.int .i64 x1), (bv x2), (.string x3), (.bool x4)])) w := by kernel_rfl
theorem pN_bld_68_0_1_2_3_4 (x0 : Option Addr) (x0n x0c : Nat) (x1 : Int) (x2 : UInt8) (x3 : ByteArray) (x4 : Bool) : pN Try.prog (oBuild 68 [(0, .slice x0 x0n x0c), (1, .int .i64 x1), (2, bv x2), (3, .string x3), (4, .bool x4)]) w K = K (.agg #[(.slice x0 x0n x0c), (.int .i64 x1), (bv x2), (.string x3), (.bool x4)]) w := by rw [pN_def, run_bld_68_0_1_2_3_4, rN_value]
theorem run_bld_130_  (w : World) : (oBuild 130 []).run Try.prog w = .ok (.value (.agg #[(.slice none 0 0), (.slice none 0 0)])) w := by kernel_rfl
theorem pN_bld_130_  : pN Try.prog (oBuild 130 []) w K = K (.agg #[(.slice none 0 0), (.slice none 0 0)]) w := by rw [pN_def, run_bld_130_, rN_value]
theorem run_bld_133_1 (x1 : Int) (w : World) : (oBuild 133 [(1, .int .u32 x1)]).run Try.prog w = .ok (.value (.agg #[(.int .u64 0), (.int .u32 x1), (bv 0), (.int .i64 0), (.slice none 0 0)])) w := by kernel_rfl
theorem pN_bld_133_1 (x1 : Int) : pN Try.prog (oBuild 133 [(1, .int .u32 x1)]) w K = K (.agg #[(.int .u64 0), (.int .u32 x1), (bv 0), (.int .i64 0), (.slice none 0 0)]) w := by rw [pN_def, run_bld_133_1, rN_value]
theorem run_bld_137_0 (x0 : Option Addr) (x0n x0c : Nat) (w : World) : (oBuild 137 [(0, .slice x0 x0n x0c)]).run Try.prog w = .ok (.value (.agg #[(.slice x0 x0n x0c)])) w := by kernel_rfl
theorem pN_bld_137_0 (x0 : Option Addr) (x0n x0c : Nat) : pN Try.prog (oBuild 137 [(0, .slice x0 x0n x0c)]) w K = K (.agg #[(.slice x0 x0n x0c)]) w := by rw [pN_def, run_bld_137_0, rN_value]
theorem run_bld_139_0_1 (x0 : Option Addr) (x0n x0c : Nat) (x1 : Int) (w : World) : (oBuild 139 [(0, .slice x0 x0n x0c), (1, .int .u32 x1)]).run Try.prog w = .ok (.value (.agg #[(.slice x0 x0n x0c), (.int .u32 x1), (.int .i64 0)])) w := by kernel_rfl
theorem pN_bld_139_0_1 (x0 : Option Addr) (x0n x0c : Nat) (x1 : Int) : pN Try.prog (oBuild 139 [(0, .slice x0 x0n x0c), (1, .int .u32 x1)]) w K = K (.agg #[(.slice x0 x0n x0c), (.int .u32 x1), (.int .i64 0)]) w := by rw [pN_def, run_bld_139_0_1, rN_value]
theorem run_bld_139_0_1_2 (x0 : Option Addr) (x0n x0c : Nat) (x1 : Int) (x2 : Int) (w : World) : (oBuild 139 [(0, .slice x0 x0n x0c), (1, .int .u32 x1), (2, .int .i64 x2)]).run Try.prog w = .ok (.value (.agg #[(.slice x0 x0n x0c), (.int .u32 x1), (.int .i64 x2)])) w := by kernel_rfl
theorem pN_bld_139_0_1_2 (x0 : Option Addr) (x0n x0c : Nat) (x1 : Int) (x2 : Int) : pN Try.prog (oBuild 139 [(0, .slice x0 x0n x0c), (1, .int .u32 x1), (2, .int .i64 x2)]) w K = K (.agg #[(.slice x0 x0n x0c), (.int .u32 x1), (.int .i64 x2)]) w := by rw [pN_def, run_bld_139_0_1_2, rN_value]
theorem run_bld_145_0_1 (x0 : Int) (x1 : Option Addr) (x1n x1c : Nat) (w : World) : (oBuild 145 [(0, .int .i64 x0), (1, .slice x1 x1n x1c)]).run Try.prog w = .ok (.value (.agg #[(.int .i64 x0), (.slice x1 x1n x1c)])) w := by kernel_rfl
theorem pN_bld_145_0_1 (x0 : Int) (x1 : Option Addr) (x1n x1c : Nat) : pN Try.prog (oBuild 145 [(0, .int .i64 x0), (1, .slice x1 x1n x1c)]) w K = K (.agg #[(.int .i64 x0), (.slice x1 x1n x1c)]) w := by rw [pN_def, run_bld_145_0_1, rN_value]
theorem run_bld_147_0_1 (x0 : Int) (x1 : Int) (w : World) : (oBuild 147 [(0, .int .i64 x0), (1, .int .u32 x1)]).run Try.prog w = .ok (.value (.agg #[(.int .i64 x0), (.int .u32 x1), (.int .u32 0)])) w := by kernel_rfl
theorem pN_bld_147_0_1 (x0 : Int) (x1 : Int) : pN Try.prog (oBuild 147 [(0, .int .i64 x0), (1, .int .u32 x1)]) w K = K (.agg #[(.int .i64 x0), (.int .u32 x1), (.int .u32 0)]) w := by rw [pN_def, run_bld_147_0_1, rN_value]
theorem run_bld_151_1_2_3 (x1 : Int) (x2 : Int) (x3 : Int) (w : World) : (oBuild 151 [(1, .int .i64 x1), (2, .int .i64 x2), (3, .int .i64 x3)]).run Try.prog w = .ok (.value (.agg #[(.slice none 0 0), (.int .i64 x1), (.int .i64 x2), (.int .i64 x3)])) w := by kernel_rfl
theorem pN_bld_151_1_2_3 (x1 : Int) (x2 : Int) (x3 : Int) : pN Try.prog (oBuild 151 [(1, .int .i64 x1), (2, .int .i64 x2), (3, .int .i64 x3)]) w K = K (.agg #[(.slice none 0 0), (.int .i64 x1), (.int .i64 x2), (.int .i64 x3)]) w := by rw [pN_def, run_bld_151_1_2_3, rN_value]
theorem run_bld_175_0_1 (x0 : Int) (x1 : Int) (w : World) : (oBuild 175 [(0, .int .i64 x0), (1, .int .i64 x1)]).run Try.prog w = .ok (.value (.agg #[(.int .i64 x0), (.int .i64 x1)])) w := by kernel_rfl
theorem pN_bld_175_0_1 (x0 : Int) (x1 : Int) : pN Try.prog (oBuild 175 [(0, .int .i64 x0), (1, .int .i64 x1)]) w K = K (.agg #[(.int .i64 x0), (.int .i64 x1)]) w := by rw [pN_def, run_bld_175_0_1, rN_value]
theorem run_bld_43_0_1_2_3 (x0 : Int) (x1 : Int) (x2 : Int) (x3 : Int) (w : World) : (oBuild 43 [(0, .int .i64 x0), (1, .int .i64 x1), (2, .int .i64 x2), (3, .int .i64 x3)]).run Try.prog w = .ok (.value (.agg #[(.int .i64 x0), (.int .i64 x1), (.int .i64 x2), (.int .i64 x3)])) w := by kernel_rfl
theorem pN_bld_43_0_1_2_3 (x0 : Int) (x1 : Int) (x2 : Int) (x3 : Int) : pN Try.prog (oBuild 43 [(0, .int .i64 x0), (1, .int .i64 x1), (2, .int .i64 x2), (3, .int .i64 x3)]) w K = K (.agg #[(.int .i64 x0), (.int .i64 x1), (.int .i64 x2), (.int .i64 x3)]) w := by rw [pN_def, run_bld_43_0_1_2_3, rN_value]
end
attribute [go_sem] pN_shl_26_u64_1 pA_shl_26_u64_1 pN_shl_26_u64_8 pA_shl_26_u64_8 pN_shl_131_u64_8 pA_shl_131_u64_8 pN_shr_3_u64_5 pA_shr_3_u64_5 pN_shr_26_u64_11 pA_shr_26_u64_11 pN_shr_131_u64_24 pA_shr_131_u64_24 pN_shr_131_u64_32 pA_shr_131_u64_32 pN_and_3_1 pA_and_3_1 pN_and_26_1 pA_and_26_1 pN_and_131_16777215 pA_and_131_16777215 pN_bld_60_0_1 pN_bld_68_0_1_2_3_4 pN_bld_130_ pN_bld_133_1 pN_bld_137_0 pN_bld_139_0_1 pN_bld_139_0_1_2 pN_bld_145_0_1 pN_bld_147_0_1 pN_bld_151_1_2_3 pN_bld_175_0_1 pN_bld_43_0_1_2_3
theorem cells_3 : Try.prog.cellsOf 3 = 1 := by kernel_rfl
theorem bytes_3 : Try.prog.bytesOf 3 = 8 := by kernel_rfl
theorem cells_4 : Try.prog.cellsOf 4 = 1 := by kernel_rfl
theorem bytes_4 : Try.prog.bytesOf 4 = 1 := by kernel_rfl
theorem cells_5 : Try.prog.cellsOf 5 = 1 := by kernel_rfl
theorem bytes_5 : Try.prog.bytesOf 5 = 1 := by kernel_rfl
theorem cells_9 : Try.prog.cellsOf 9 = 1 := by kernel_rfl
theorem bytes_9 : Try.prog.bytesOf 9 = 16 := by kernel_rfl
theorem cells_22 : Try.prog.cellsOf 22 = 1 := by kernel_rfl
theorem bytes_22 : Try.prog.bytesOf 22 = 24 := by kernel_rfl
theorem cells_23 : Try.prog.cellsOf 23 = 1 := by kernel_rfl
theorem bytes_23 : Try.prog.bytesOf 23 = 24 := by kernel_rfl
theorem cells_26 : Try.prog.cellsOf 26 = 1 := by kernel_rfl
theorem bytes_26 : Try.prog.bytesOf 26 = 4 := by kernel_rfl
theorem cells_27 : Try.prog.cellsOf 27 = 1 := by kernel_rfl
theorem bytes_27 : Try.prog.bytesOf 27 = 8 := by kernel_rfl
theorem cells_29 : Try.prog.cellsOf 29 = 1 := by kernel_rfl
theorem bytes_29 : Try.prog.bytesOf 29 = 24 := by kernel_rfl
theorem cells_33 : Try.prog.cellsOf 33 = 1 := by kernel_rfl
theorem bytes_33 : Try.prog.bytesOf 33 = 24 := by kernel_rfl
theorem cells_38 : Try.prog.cellsOf 38 = 2 := by kernel_rfl
theorem bytes_38 : Try.prog.bytesOf 38 = 16 := by kernel_rfl
theorem cells_49 : Try.prog.cellsOf 49 = 1 := by kernel_rfl
theorem bytes_49 : Try.prog.bytesOf 49 = 24 := by kernel_rfl
theorem cells_62 : Try.prog.cellsOf 62 = 1 := by kernel_rfl
theorem bytes_62 : Try.prog.bytesOf 62 = 24 := by kernel_rfl
theorem cells_64 : Try.prog.cellsOf 64 = 7 := by kernel_rfl
theorem bytes_64 : Try.prog.bytesOf 64 = 56 := by kernel_rfl
theorem cells_68 : Try.prog.cellsOf 68 = 5 := by kernel_rfl
theorem bytes_68 : Try.prog.bytesOf 68 = 64 := by kernel_rfl
theorem cells_74 : Try.prog.cellsOf 74 = 1 := by kernel_rfl
theorem bytes_74 : Try.prog.bytesOf 74 = 24 := by kernel_rfl
theorem cells_87 : Try.prog.cellsOf 87 = 4 := by kernel_rfl
theorem bytes_87 : Try.prog.bytesOf 87 = 32 := by kernel_rfl
theorem cells_98 : Try.prog.cellsOf 98 = 2 := by kernel_rfl
theorem bytes_98 : Try.prog.bytesOf 98 = 32 := by kernel_rfl
theorem cells_102 : Try.prog.cellsOf 102 = 1 := by kernel_rfl
theorem bytes_102 : Try.prog.bytesOf 102 = 24 := by kernel_rfl
theorem cells_110 : Try.prog.cellsOf 110 = 1 := by kernel_rfl
theorem bytes_110 : Try.prog.bytesOf 110 = 24 := by kernel_rfl
theorem cells_116 : Try.prog.cellsOf 116 = 5 := by kernel_rfl
theorem bytes_116 : Try.prog.bytesOf 116 = 40 := by kernel_rfl
theorem piece (cs : List Value) (o s : Nat) : cs.drop o = (cs.drop o).take s ++ cs.drop (o + s) := by rw [← List.drop_drop, List.take_append_drop]
def T_pithlaw07_Bit.ok (W : World) (b : T_pithlaw07_Bit) (k : Nat) : Prop := (-9223372036854775808 ≤ b.I ∧ b.I < 9223372036854775808) ∧ True
theorem opn_pithlaw07_Bit (W : World) : Opn Try.prog W 38 T_pithlaw07_Bit.enc (T_pithlaw07_Bit.ok W) := by
  refine ⟨fun {H} en fuel cs x hx hw => ?_⟩
  obtain ⟨xs, n, _, rfl, hl, hlen, hf⟩ := DataW.trod_struct Try.underlying38 hx
  have hlen : xs.length = 2 := hlen
  rw [cells_38] at hl
  obtain ⟨b0, e0, k0, m0, o0⟩ := opn_field Try.underlying38 hw hf 0 3 0 1 ⟨_, rfl, rfl, rfl⟩ cells_3 (by omega) (opn_i64 Try.underlying3)
  have q0 := piece cs 0 1
  rw [e0] at q0
  obtain ⟨b1, e1, k1, m1, o1⟩ := opn_field Try.underlying38 hw hf 1 4 1 1 ⟨_, rfl, rfl, rfl⟩ cells_4 (by omega) (opn_bool Try.underlying4)
  have q1 := piece cs 1 1
  rw [e1] at q1
  have hz : cs.drop 2 = [] := List.drop_of_length_le (by omega)
  refine ⟨⟨b0, b1⟩, ?_, ⟨o0, o1⟩⟩
  have q : cs.drop 0 = _ := q0
  simp only [Nat.zero_add, Nat.reduceAdd, hz, List.drop_zero] at q q1
  rw [q1] at q
  exact q
def T_pithlaw07_Op.ok (W : World) (b : T_pithlaw07_Op) (k : Nat) : Prop := (-9223372036854775808 ≤ b.Kind ∧ b.Kind < 9223372036854775808) ∧ (-9223372036854775808 ≤ b.f_E ∧ b.f_E < 9223372036854775808) ∧ (-9223372036854775808 ≤ b.S ∧ b.S < 9223372036854775808) ∧ (-9223372036854775808 ≤ b.I ∧ b.I < 9223372036854775808) ∧ (-9223372036854775808 ≤ b.Bit ∧ b.Bit < 9223372036854775808) ∧ (0 ≤ b.V ∧ b.V < 4294967296) ∧ (-9223372036854775808 ≤ b.N ∧ b.N < 9223372036854775808)
theorem opn_pithlaw07_Op (W : World) : Opn Try.prog W 64 T_pithlaw07_Op.enc (T_pithlaw07_Op.ok W) := by
  refine ⟨fun {H} en fuel cs x hx hw => ?_⟩
  obtain ⟨xs, n, _, rfl, hl, hlen, hf⟩ := DataW.trod_struct Try.underlying64 hx
  have hlen : xs.length = 7 := hlen
  rw [cells_64] at hl
  obtain ⟨b0, e0, k0, m0, o0⟩ := opn_field Try.underlying64 hw hf 0 3 0 1 ⟨_, rfl, rfl, rfl⟩ cells_3 (by omega) (opn_i64 Try.underlying3)
  have q0 := piece cs 0 1
  rw [e0] at q0
  obtain ⟨b1, e1, k1, m1, o1⟩ := opn_field Try.underlying64 hw hf 1 3 1 1 ⟨_, rfl, rfl, rfl⟩ cells_3 (by omega) (opn_i64 Try.underlying3)
  have q1 := piece cs 1 1
  rw [e1] at q1
  obtain ⟨b2, e2, k2, m2, o2⟩ := opn_field Try.underlying64 hw hf 2 3 2 1 ⟨_, rfl, rfl, rfl⟩ cells_3 (by omega) (opn_i64 Try.underlying3)
  have q2 := piece cs 2 1
  rw [e2] at q2
  obtain ⟨b3, e3, k3, m3, o3⟩ := opn_field Try.underlying64 hw hf 3 3 3 1 ⟨_, rfl, rfl, rfl⟩ cells_3 (by omega) (opn_i64 Try.underlying3)
  have q3 := piece cs 3 1
  rw [e3] at q3
  obtain ⟨b4, e4, k4, m4, o4⟩ := opn_field Try.underlying64 hw hf 4 3 4 1 ⟨_, rfl, rfl, rfl⟩ cells_3 (by omega) (opn_i64 Try.underlying3)
  have q4 := piece cs 4 1
  rw [e4] at q4
  obtain ⟨b5, e5, k5, m5, o5⟩ := opn_field Try.underlying64 hw hf 5 26 5 1 ⟨_, rfl, rfl, rfl⟩ cells_26 (by omega) (opn_u32 Try.underlying26)
  have q5 := piece cs 5 1
  rw [e5] at q5
  obtain ⟨b6, e6, k6, m6, o6⟩ := opn_field Try.underlying64 hw hf 6 3 6 1 ⟨_, rfl, rfl, rfl⟩ cells_3 (by omega) (opn_i64 Try.underlying3)
  have q6 := piece cs 6 1
  rw [e6] at q6
  have hz : cs.drop 7 = [] := List.drop_of_length_le (by omega)
  refine ⟨⟨b0, b1, b2, b3, b4, b5, b6⟩, ?_, ⟨o0, o1, o2, o3, o4, o5, o6⟩⟩
  have q : cs.drop 0 = _ := q0
  simp only [Nat.zero_add, Nat.reduceAdd, hz, List.drop_zero] at q q1 q2 q3 q4 q5 q6
  rw [q1] at q
  rw [q2] at q
  rw [q3] at q
  rw [q4] at q
  rw [q5] at q
  rw [q6] at q
  exact q
def T_pithlaw07_Held.ok (W : World) (b : T_pithlaw07_Held) (k : Nat) : Prop := (∃ k', k' ≤ k ∧ (RdP cd_uint8 (old W) b.B.1 b.B.2 ∧ b.B.2.length * 1 ≤ reachBytes ∧ b.B.2.length + 1 ≤ k' ∧ ∀ c0 ∈ b.B.2, ∃ k0, k0 ≤ k' ∧ True)) ∧ (-9223372036854775808 ≤ b.N ∧ b.N < 9223372036854775808) ∧ True ∧ (∃ k', k' ≤ k ∧ (b.Want.length ≤ reachBytes ∧ b.Want.length + 1 ≤ k')) ∧ True
theorem opn_pithlaw07_Held (W : World) : Opn Try.prog W 68 T_pithlaw07_Held.enc (T_pithlaw07_Held.ok W) := by
  refine ⟨fun {H} en fuel cs x hx hw => ?_⟩
  obtain ⟨xs, n, _, rfl, hl, hlen, hf⟩ := DataW.trod_struct Try.underlying68 hx
  have hlen : xs.length = 5 := hlen
  rw [cells_68] at hl
  obtain ⟨b0, e0, k0, m0, o0⟩ := opn_field Try.underlying68 hw hf 0 29 0 1 ⟨_, rfl, rfl, rfl⟩ cells_29 (by omega) (opn_slice (C := cd_uint8) Try.underlying29 cells_5 bytes_5 (opn_u8 Try.underlying5))
  have q0 := piece cs 0 1
  rw [e0] at q0
  obtain ⟨b1, e1, k1, m1, o1⟩ := opn_field Try.underlying68 hw hf 1 3 1 1 ⟨_, rfl, rfl, rfl⟩ cells_3 (by omega) (opn_i64 Try.underlying3)
  have q1 := piece cs 1 1
  rw [e1] at q1
  obtain ⟨b2, e2, k2, m2, o2⟩ := opn_field Try.underlying68 hw hf 2 5 2 1 ⟨_, rfl, rfl, rfl⟩ cells_5 (by omega) (opn_u8 Try.underlying5)
  have q2 := piece cs 2 1
  rw [e2] at q2
  obtain ⟨b3, e3, k3, m3, o3⟩ := opn_field Try.underlying68 hw hf 3 9 3 1 ⟨_, rfl, rfl, rfl⟩ cells_9 (by omega) (opn_str Try.underlying9)
  have q3 := piece cs 3 1
  rw [e3] at q3
  obtain ⟨b4, e4, k4, m4, o4⟩ := opn_field Try.underlying68 hw hf 4 4 4 1 ⟨_, rfl, rfl, rfl⟩ cells_4 (by omega) (opn_bool Try.underlying4)
  have q4 := piece cs 4 1
  rw [e4] at q4
  have hz : cs.drop 5 = [] := List.drop_of_length_le (by omega)
  refine ⟨⟨b0, b1, b2, b3, b4⟩, ?_, ⟨⟨_, m0, o0⟩, o1, o2, ⟨_, m3, o3⟩, o4⟩⟩
  have q : cs.drop 0 = _ := q0
  simp only [Nat.zero_add, Nat.reduceAdd, hz, List.drop_zero] at q q1 q2 q3 q4
  rw [q1] at q
  rw [q2] at q
  rw [q3] at q
  rw [q4] at q
  exact q
def T_pithlaw08_Ask.ok (W : World) (b : T_pithlaw08_Ask) (k : Nat) : Prop := True ∧ (-9223372036854775808 ≤ b.I ∧ b.I < 9223372036854775808) ∧ (-9223372036854775808 ≤ b.N ∧ b.N < 9223372036854775808) ∧ (0 ≤ b.V ∧ b.V < 4294967296)
theorem opn_pithlaw08_Ask (W : World) : Opn Try.prog W 87 T_pithlaw08_Ask.enc (T_pithlaw08_Ask.ok W) := by
  refine ⟨fun {H} en fuel cs x hx hw => ?_⟩
  obtain ⟨xs, n, _, rfl, hl, hlen, hf⟩ := DataW.trod_struct Try.underlying87 hx
  have hlen : xs.length = 4 := hlen
  rw [cells_87] at hl
  obtain ⟨b0, e0, k0, m0, o0⟩ := opn_field Try.underlying87 hw hf 0 4 0 1 ⟨_, rfl, rfl, rfl⟩ cells_4 (by omega) (opn_bool Try.underlying4)
  have q0 := piece cs 0 1
  rw [e0] at q0
  obtain ⟨b1, e1, k1, m1, o1⟩ := opn_field Try.underlying87 hw hf 1 3 1 1 ⟨_, rfl, rfl, rfl⟩ cells_3 (by omega) (opn_i64 Try.underlying3)
  have q1 := piece cs 1 1
  rw [e1] at q1
  obtain ⟨b2, e2, k2, m2, o2⟩ := opn_field Try.underlying87 hw hf 2 3 2 1 ⟨_, rfl, rfl, rfl⟩ cells_3 (by omega) (opn_i64 Try.underlying3)
  have q2 := piece cs 2 1
  rw [e2] at q2
  obtain ⟨b3, e3, k3, m3, o3⟩ := opn_field Try.underlying87 hw hf 3 26 3 1 ⟨_, rfl, rfl, rfl⟩ cells_26 (by omega) (opn_u32 Try.underlying26)
  have q3 := piece cs 3 1
  rw [e3] at q3
  have hz : cs.drop 4 = [] := List.drop_of_length_le (by omega)
  refine ⟨⟨b0, b1, b2, b3⟩, ?_, ⟨o0, o1, o2, o3⟩⟩
  have q : cs.drop 0 = _ := q0
  simp only [Nat.zero_add, Nat.reduceAdd, hz, List.drop_zero] at q q1 q2 q3
  rw [q1] at q
  rw [q2] at q
  rw [q3] at q
  exact q
def T_pithlaw08_Plan.ok (W : World) (b : T_pithlaw08_Plan) (k : Nat) : Prop := (-9223372036854775808 ≤ b.N ∧ b.N < 9223372036854775808) ∧ (∃ k', k' ≤ k ∧ (RdP cd_pithlaw08_Ask (old W) b.Asks.1 b.Asks.2 ∧ b.Asks.2.length * 32 ≤ reachBytes ∧ b.Asks.2.length + 1 ≤ k' ∧ ∀ c0 ∈ b.Asks.2, ∃ k0, k0 ≤ k' ∧ c0.ok W k0))
theorem opn_pithlaw08_Plan (W : World) : Opn Try.prog W 98 T_pithlaw08_Plan.enc (T_pithlaw08_Plan.ok W) := by
  refine ⟨fun {H} en fuel cs x hx hw => ?_⟩
  obtain ⟨xs, n, _, rfl, hl, hlen, hf⟩ := DataW.trod_struct Try.underlying98 hx
  have hlen : xs.length = 2 := hlen
  rw [cells_98] at hl
  obtain ⟨b0, e0, k0, m0, o0⟩ := opn_field Try.underlying98 hw hf 0 3 0 1 ⟨_, rfl, rfl, rfl⟩ cells_3 (by omega) (opn_i64 Try.underlying3)
  have q0 := piece cs 0 1
  rw [e0] at q0
  obtain ⟨b1, e1, k1, m1, o1⟩ := opn_field Try.underlying98 hw hf 1 74 1 1 ⟨_, rfl, rfl, rfl⟩ cells_74 (by omega) (opn_slice (C := cd_pithlaw08_Ask) Try.underlying74 cells_87 bytes_87 (opn_pithlaw08_Ask W))
  have q1 := piece cs 1 1
  rw [e1] at q1
  have hz : cs.drop 2 = [] := List.drop_of_length_le (by omega)
  refine ⟨⟨b0, b1⟩, ?_, ⟨o0, ⟨_, m1, o1⟩⟩⟩
  have q : cs.drop 0 = _ := q0
  simp only [Nat.zero_add, Nat.reduceAdd, hz, List.drop_zero] at q q1
  rw [q1] at q
  exact q
def T_pithlaw09_Op.ok (W : World) (b : T_pithlaw09_Op) (k : Nat) : Prop := (-9223372036854775808 ≤ b.Kind ∧ b.Kind < 9223372036854775808) ∧ (-9223372036854775808 ≤ b.Row ∧ b.Row < 9223372036854775808) ∧ (-9223372036854775808 ≤ b.At ∧ b.At < 9223372036854775808) ∧ (-9223372036854775808 ≤ b.N ∧ b.N < 9223372036854775808) ∧ (-9223372036854775808 ≤ b.V ∧ b.V < 9223372036854775808)
theorem opn_pithlaw09_Op (W : World) : Opn Try.prog W 116 T_pithlaw09_Op.enc (T_pithlaw09_Op.ok W) := by
  refine ⟨fun {H} en fuel cs x hx hw => ?_⟩
  obtain ⟨xs, n, _, rfl, hl, hlen, hf⟩ := DataW.trod_struct Try.underlying116 hx
  have hlen : xs.length = 5 := hlen
  rw [cells_116] at hl
  obtain ⟨b0, e0, k0, m0, o0⟩ := opn_field Try.underlying116 hw hf 0 3 0 1 ⟨_, rfl, rfl, rfl⟩ cells_3 (by omega) (opn_i64 Try.underlying3)
  have q0 := piece cs 0 1
  rw [e0] at q0
  obtain ⟨b1, e1, k1, m1, o1⟩ := opn_field Try.underlying116 hw hf 1 3 1 1 ⟨_, rfl, rfl, rfl⟩ cells_3 (by omega) (opn_i64 Try.underlying3)
  have q1 := piece cs 1 1
  rw [e1] at q1
  obtain ⟨b2, e2, k2, m2, o2⟩ := opn_field Try.underlying116 hw hf 2 3 2 1 ⟨_, rfl, rfl, rfl⟩ cells_3 (by omega) (opn_i64 Try.underlying3)
  have q2 := piece cs 2 1
  rw [e2] at q2
  obtain ⟨b3, e3, k3, m3, o3⟩ := opn_field Try.underlying116 hw hf 3 3 3 1 ⟨_, rfl, rfl, rfl⟩ cells_3 (by omega) (opn_i64 Try.underlying3)
  have q3 := piece cs 3 1
  rw [e3] at q3
  obtain ⟨b4, e4, k4, m4, o4⟩ := opn_field Try.underlying116 hw hf 4 3 4 1 ⟨_, rfl, rfl, rfl⟩ cells_3 (by omega) (opn_i64 Try.underlying3)
  have q4 := piece cs 4 1
  rw [e4] at q4
  have hz : cs.drop 5 = [] := List.drop_of_length_le (by omega)
  refine ⟨⟨b0, b1, b2, b3, b4⟩, ?_, ⟨o0, o1, o2, o3, o4⟩⟩
  have q : cs.drop 0 = _ := q0
  simp only [Nat.zero_add, Nat.reduceAdd, hz, List.drop_zero] at q q1 q2 q3 q4
  rw [q1] at q
  rw [q2] at q
  rw [q3] at q
  rw [q4] at q
  exact q
end Go.Proofs.Ytoejaggkedlfmaa

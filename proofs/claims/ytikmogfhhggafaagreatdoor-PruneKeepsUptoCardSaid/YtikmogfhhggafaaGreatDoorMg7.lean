import Derived.Test.YtikmogfhhggafaaGreatDoorRows
import Derived.Sort.Grow
import Derived.Shelf.GgSortFunc.RowK
import Derived.Shelf.SlSortCmp.NoneTotal
import Derived.Lib.Bytealg
import Derived.Lib.BytesEntry
import Derived.Test.YtikmogfhhggafaaGreatDoorMg6
set_option linter.all false
namespace Go.Proofs.YtikmogfhhggafaaGreatDoor
open Go
open Go.Proofs.Tryz renaming prog→zp
section
variable [Pan] {x0 x1 x2 x3:Value} {w:World} {Q:QQ}
set_option maxRecDepth 100000
def pithref04_Sum.F (x0:Value) (w:World) (Q:QQ):Prop:=
 pN zp (oAlloc 57) w fun x2 w1=>
 pN zp (oCall 214 []) w1 fun x4 w2=>
 pN zp (oNil x4) w2 fun x7 w3=>
 pN zp (oFld 300 x7 2) w3 fun x8 w4=>
 pN zp (oStore 47 x8 x0) w4 fun _ w5=>
 pN zp (oCall 215 [x4]) w5 fun x10 w6=>
 pN zp (oStore 57 x2 x10) w6 fun _ w7=>
 pL zp (oRes 57 x2) w7 fun r2=>
 Q r2 w7
theorem pithref04_Sum.calls (h:pithref04_Sum.F x0 w Q):Calls zp 198 #[x0] w (retP Q):=cl .z [x0] Tryz.func198 h
def pithref04_New.F (w:World) (Q:QQ):Prop:=
 pN zp (oCall 222 []) w fun x1 w1=>
 pN zp (oBuild 300 [(0,x1)]) w1 fun x2 w2=>
 pN zp (oBox 300 x2) w2 fun x3 w3=>
 Q x3 w3
theorem pithref04_New.calls (h:pithref04_New.F w Q):Calls zp 214 #[] w (retP Q):=cl .z [] Tryz.func214 h
def pithref04_Hash_Sum.H:Hints:={ cut:=fun _=>none,loop:=fun|7=>([6],140728898420800)|12=>([8],36893347409930748160)|_=>([],0),order:=fun|3=>(ot 14)|9=>(ot 9)|14=>(ot 15)|_=>[] }
def pithref04_Hash_Sum.F (x0:Value) (w:World) (Q:QQ):Prop:=
 pN zp (oAlloc 57) w fun x2 w1=>
 pN zp (oNil x0) w1 fun x11 w2=>
 pN zp (oFld 300 x11 2) w2 fun x12 w3=>
 pN zp (oLoad 47 x12) w3 fun x13 w4=>
 pN zp (oBi .append #[47,47] 47 [false,false] [(.slice none 0 0),x13]) w4 fun x14 w5=>
 pDr w5 fun w6=>
 pA zp (oNil x0) fun x17=>
 pA zp (oFld 300 x17 1) fun x18=>
 pL zp (oLoad 3 x18) w6 fun x19=>
 pA zp (oNil x0) fun x21=>
 pA zp (oFld 300 x21 2) fun x22=>
 pL zp (oLoad 47 x22) w6 fun x23=>
 pA zp (oBi .len #[47] 3 [false] [x23]) fun x24=>
 pA zp (oBin .add 3 (.tmp 19) (.tmp 24) x19 x24) fun x25=>
 pN zp (oCall 223 [x25]) w6 fun x26 w7=>
 (True)∧(pN zp (oBi .append #[47,47] 47 [false,false] [x14,x26]) w7 fun x27 w8=>
 (True)∧(pN zp (oCall 224 []) w8 fun x28 w9=>
 pN zp (oNil x0) w9 fun x30 w10=>
 pN zp (oFld 300 x30 0) w10 fun x31 w11=>
 pN zp (oLoad 214 x31) w11 fun x32 w12=>
 pN zp (oAlloc 214) w12 fun x5 w13=>
 pN zp (oStore 214 x5 x32) w13 fun _ w14=>
 ∃(L7:Value→World→Prop) (m7:Value→World→Nat),
 L7 (.int .i64 0) w14∧
 ∀(_k7:Env) (i6l7:Value) (w15:World),L7 i6l7 w15→
 pN zp (oBi .len #[47] 3 [false] [x27]) w15 fun x35 w16=>
 pN zp (oBin .lss 3 (.tmp 33) (.tmp 35) i6l7 x35) w16 fun x36 w17=>
 pIf x36
 (pDr w17 fun w18=>
 pL zp (oLoad 214 x5) w18 fun x39=>
 pA zp (oBin .add 3 (.tmp 42) (.const (.int .i64 64)) i6l7 (.int .i64 64)) fun x43=>
 pA zp (oSl 47 x27 (some i6l7) (some x43) none) fun x44=>
 pN zp (oCall 225 [x39,x44,x28]) w18 fun x46 w19=>
 (True)∧(pN zp (oStore 214 x5 x46) w19 fun _ w20=>
 (True)∧(pN zp (oBin .add 3 (.tmp 37) (.const (.int .i64 64)) i6l7 (.int .i64 64)) w20 fun x38 w21=>
 (L7 x38 w21∧m7 x38 w21<m7 i6l7 w15))))
 (pN zp (oAlloc 57) w17 fun x7 w22=>
 ∃(L12:Value→World→Prop) (m12:Value→World→Nat),
 L12 (.int .i64 0) w22∧
 ∀(_k12:Env) (i8l12:Value) (w23:World),L12 i8l12 w23→
 pN zp (oBin .lss 3 (.tmp 47) (.const (.int .i64 32)) i8l12 (.int .i64 32)) w23 fun x48 w24=>
 pIf x48
 (pDr w24 fun w25=>
 pA zp (oBin .quo 3 (.tmp 52) (.const (.int .i64 4)) i8l12 (.int .i64 4)) fun x53=>
 pA zp (oIdx 214 x5 x53) fun x54=>
 pL zp (oLoad 213 x54) w25 fun x55=>
 pA zp (oBin .rem 3 (.tmp 56) (.const (.int .i64 4)) i8l12 (.int .i64 4)) fun x57=>
 pA zp (oBin .mul 3 (.const (.int .i64 8)) (.tmp 57) (.int .i64 8) x57) fun x58=>
 pA zp (oBin .sub 3 (.const (.int .i64 24)) (.tmp 58) (.int .i64 24) x58) fun x59=>
 pN zp (oCall 226 [x59]) w25 fun x60 w26=>
 ((Sem.run zp (oLoad 213 x54) w26= .ok (.value x55) w26)∧True)∧(pA zp (oBin .quo 213 (.tmp 55) (.tmp 60) x55 x60) fun x61=>
 pA zp (oBin .rem 213 (.tmp 61) (.const (.int .u32 256)) x61 (.int .u32 256)) fun x62=>
 pL zp (oConv 213 5 x62) w26 fun x63=>
 pA zp (oIdx 57 x7 i8l12) fun x64=>
 pN zp (oStore 5 x64 x63) w26 fun _ w27=>
 (True)∧(pN zp (oBin .add 3 (.tmp 49) (.const (.int .i64 1)) i8l12 (.int .i64 1)) w27 fun x50 w28=>
 (L12 x50 w28∧m12 x50 w28<m12 i8l12 w23))))
 (pN zp (oLoad 57 x7) w24 fun x65 w29=>
 pN zp (oStore 57 x2 x65) w29 fun _ w30=>
 pL zp (oRes 57 x2) w30 fun r2=>
 Q r2 w30))))
theorem pithref04_Hash_Sum.calls (h:pithref04_Hash_Sum.F x0 w Q):Calls zp 215 #[x0] w (retP Q):=cl pithref04_Hash_Sum.H [x0] Tryz.func215 h
def pithref04_First.F (w:World) (Q:QQ):Prop:=
 pN zp (oAlloc 214) w fun x0 w1=>
 pN zp (oBuild 214 [(0,(.int .u32 1779033703)),(1,(.int .u32 3144134277)),(2,(.int .u32 1013904242)),(3,(.int .u32 2773480762)),(4,(.int .u32 1359893119)),(5,(.int .u32 2600822924)),(6,(.int .u32 528734635)),(7,(.int .u32 1541459225))]) w1 fun x1 w2=>
 pN zp (oStore 214 x0 x1) w2 fun _ w3=>
 pL zp (oRes 214 x0) w3 fun r0=>
 Q r0 w3
theorem pithref04_First.calls (h:pithref04_First.F w Q):Calls zp 222 #[] w (retP Q):=cl .z [] Tryz.func222 h
def pithref04_Pad.H:Hints:={ cut:=fun _=>none,loop:=fun|4=>([3],4192264)|9=>([4,5,6],137405399152)|14=>([3,7],281337537757320)|_=>([],0),order:=fun _=>[] }
def pithref04_Pad.F (x0:Value) (w:World) (Q:QQ):Prop:=
 pN zp (oBin .lss 3 (.tmp 8) (.const (.int .i64 0)) x0 (.int .i64 0)) w fun x9 w1=>
 pIf x9
 (Q (.slice none 0 0) w1)
 (pN zp (oBs 47 1 [(0,(bv 128))]) w1 fun x10 w2=>
 ∃(L4:Value→World→Prop) (m4:Value→World→Nat),
 L4 x10 w2∧
 ∀(_k4:Env) (b3l4:Value) (w3:World),L4 b3l4 w3→
 pN zp (oBin .rem 3 (.tmp 11) (.const (.int .i64 64)) x0 (.int .i64 64)) w3 fun x12 w4=>
 pN zp (oBi .len #[47] 3 [false] [b3l4]) w4 fun x14 w5=>
 pN zp (oBin .add 3 (.tmp 12) (.tmp 14) x12 x14) w5 fun x15 w6=>
 pN zp (oBin .add 3 (.tmp 15) (.const (.int .i64 8)) x15 (.int .i64 8)) w6 fun x16 w7=>
 pN zp (oBin .rem 3 (.tmp 16) (.const (.int .i64 64)) x16 (.int .i64 64)) w7 fun x17 w8=>
 pN zp (oBin .neq 3 (.tmp 17) (.const (.int .i64 0)) x17 (.int .i64 0)) w8 fun x18 w9=>
 pIf x18
 (pN zp (oBs 47 1 [(0,(bv 0))]) w9 fun x20 w10=>
 pN zp (oBi .append #[47,47] 47 [false,false] [b3l4,x20]) w10 fun x21 w11=>
 (L4 x21 w11∧m4 x21 w11<m4 b3l4 w3))
 (pN zp (oConv 3 212 x0) w9 fun x23 w12=>
 pN zp (oBin .mul 212 (.tmp 23) (.const (.int .u64 8)) x23 (.int .u64 8)) w12 fun x24 w13=>
 ∃(L9:Value→Value→Value→World→Prop) (m9:Value→Value→Value→World→Nat),
 L9 x24 (.slice none 0 0) (.int .i64 0) w13∧
 ∀(_k9:Env) (bits4l9:Value) (low5l9:Value) (i6l9:Value) (w14:World),L9 bits4l9 low5l9 i6l9 w14→
 pN zp (oBin .lss 3 (.tmp 25) (.const (.int .i64 8)) i6l9 (.int .i64 8)) w14 fun x26 w15=>
 pIf x26
 (pN zp (oBin .rem 212 (.tmp 30) (.const (.int .u64 256)) bits4l9 (.int .u64 256)) w15 fun x31 w16=>
 pN zp (oConv 212 5 x31) w16 fun x32 w17=>
 pN zp (oBs 47 1 [(0,x32)]) w17 fun x33 w18=>
 pN zp (oBi .append #[47,47] 47 [false,false] [low5l9,x33]) w18 fun x34 w19=>
 pN zp (oBin .quo 212 (.tmp 35) (.const (.int .u64 256)) bits4l9 (.int .u64 256)) w19 fun x36 w20=>
 pN zp (oBin .add 3 (.tmp 27) (.const (.int .i64 1)) i6l9 (.int .i64 1)) w20 fun x28 w21=>
 (L9 x36 x34 x28 w21∧m9 x36 x34 x28 w21<m9 bits4l9 low5l9 i6l9 w14))
 (∃(L14:Value→Value→World→Prop) (m14:Value→Value→World→Nat),
 L14 b3l4 (.int .i64 7) w15∧
 ∀(_k14:Env) (b3l14:Value) (i7l14:Value) (w22:World),L14 b3l14 i7l14 w22→
 pN zp (oBin .geq 3 (.tmp 37) (.const (.int .i64 0)) i7l14 (.int .i64 0)) w22 fun x38 w23=>
 pIf x38
 (pN zp (oIdx 47 low5l9 i7l14) w23 fun x44 w24=>
 pN zp (oLoad 5 x44) w24 fun x45 w25=>
 pN zp (oBs 47 1 [(0,x45)]) w25 fun x46 w26=>
 pN zp (oBi .append #[47,47] 47 [false,false] [b3l14,x46]) w26 fun x47 w27=>
 pN zp (oBin .sub 3 (.tmp 39) (.const (.int .i64 1)) i7l14 (.int .i64 1)) w27 fun x40 w28=>
 (L14 x47 x40 w28∧m14 x47 x40 w28<m14 b3l14 i7l14 w22))
 (Q b3l14 w23))))
theorem pithref04_Pad.calls (h:pithref04_Pad.F x0 w Q):Calls zp 223 #[x0] w (retP Q):=cl pithref04_Pad.H [x0] Tryz.func223 h
def pithref04_Constants.F (w:World) (Q:QQ):Prop:=
 pN zp (oBs 307 64 [(0,(.int .u32 1116352408)),(1,(.int .u32 1899447441)),(2,(.int .u32 3049323471)),(3,(.int .u32 3921009573)),(4,(.int .u32 961987163)),(5,(.int .u32 1508970993)),(6,(.int .u32 2453635748)),(7,(.int .u32 2870763221)),(8,(.int .u32 3624381080)),(9,(.int .u32 310598401)),(10,(.int .u32 607225278)),(11,(.int .u32 1426881987)),(12,(.int .u32 1925078388)),(13,(.int .u32 2162078206)),(14,(.int .u32 2614888103)),(15,(.int .u32 3248222580)),(16,(.int .u32 3835390401)),(17,(.int .u32 4022224774)),(18,(.int .u32 264347078)),(19,(.int .u32 604807628)),(20,(.int .u32 770255983)),(21,(.int .u32 1249150122)),(22,(.int .u32 1555081692)),(23,(.int .u32 1996064986)),(24,(.int .u32 2554220882)),(25,(.int .u32 2821834349)),(26,(.int .u32 2952996808)),(27,(.int .u32 3210313671)),(28,(.int .u32 3336571891)),(29,(.int .u32 3584528711)),(30,(.int .u32 113926993)),(31,(.int .u32 338241895)),(32,(.int .u32 666307205)),(33,(.int .u32 773529912)),(34,(.int .u32 1294757372)),(35,(.int .u32 1396182291)),(36,(.int .u32 1695183700)),(37,(.int .u32 1986661051)),(38,(.int .u32 2177026350)),(39,(.int .u32 2456956037)),(40,(.int .u32 2730485921)),(41,(.int .u32 2820302411)),(42,(.int .u32 3259730800)),(43,(.int .u32 3345764771)),(44,(.int .u32 3516065817)),(45,(.int .u32 3600352804)),(46,(.int .u32 4094571909)),(47,(.int .u32 275423344)),(48,(.int .u32 430227734)),(49,(.int .u32 506948616)),(50,(.int .u32 659060556)),(51,(.int .u32 883997877)),(52,(.int .u32 958139571)),(53,(.int .u32 1322822218)),(54,(.int .u32 1537002063)),(55,(.int .u32 1747873779)),(56,(.int .u32 1955562222)),(57,(.int .u32 2024104815)),(58,(.int .u32 2227730452)),(59,(.int .u32 2361852424)),(60,(.int .u32 2428436474)),(61,(.int .u32 2756734187)),(62,(.int .u32 3204031479)),(63,(.int .u32 3329325298))]) w fun x1 w1=>
 Q x1 w1
theorem pithref04_Constants.calls (h:pithref04_Constants.F w Q):Calls zp 224 #[] w (retP Q):=cl .z [] Tryz.func224 h
def pithref04_Step.H:Hints:={ cut:=fun _=>none,loop:=fun|4=>([9],37778931862957161647616)|10=>([12],309447230889482111563075584)|_=>([],0),order:=fun|6=>[(0,0),(1,1),(2,3),(3,7),(6,15),(7,79),(8,207),(9,463),(10,975),(11,1999),(14,4047),(15,20431),(16,53199),(17,118735),(19,249807),(20,774095),(21,1822671),(22,3919823),(4,8114127),(5,8114143),(12,8114175),(13,8118271),(18,8126463),(23,8388607),(24,16777215)]|7=>[(0,0),(1,1),(3,3),(4,11),(5,27),(6,59),(7,123),(8,251),(2,507),(9,511),(10,1023),(11,2047)]|12=>(ot 10)|_=>[] }
def pithref04_Step.F (x0 x1 x2:Value) (w:World) (Q:QQ):Prop:=
 pN zp (oBox 214 x0) w fun x3 w1=>
 pN zp (oAlloc 214) w1 fun x6 w2=>
 pN zp (oCall 232 [x1]) w2 fun x14 w3=>
 pN zp (oLoad 214 x3) w3 fun x15 w4=>
 pN zp (oAlloc 214) w4 fun x8 w5=>
 pN zp (oStore 214 x8 x15) w5 fun _ w6=>
 ∃(L4:Value→World→Prop) (m4:Value→World→Nat),
 L4 (.int .i64 0) w6∧
 ∀(_k4:Env) (t9l4:Value) (w7:World),L4 t9l4 w7→
 pN zp (oBin .lss 3 (.tmp 16) (.const (.int .i64 64)) t9l4 (.int .i64 64)) w7 fun x17 w8=>
 pIf x17
 (pDr w8 fun w9=>
 pA zp (oIdx 214 x8 (.int .i64 7)) fun x20=>
 pL zp (oLoad 213 x20) w9 fun x21=>
 pA zp (oIdx 214 x8 (.int .i64 4)) fun x22=>
 pL zp (oLoad 213 x22) w9 fun x23=>
 pA zp (oIdx 214 x8 (.int .i64 4)) fun x26=>
 pL zp (oLoad 213 x26) w9 fun x27=>
 pA zp (oIdx 214 x8 (.int .i64 5)) fun x28=>
 pL zp (oLoad 213 x28) w9 fun x29=>
 pA zp (oIdx 214 x8 (.int .i64 6)) fun x30=>
 pL zp (oLoad 213 x30) w9 fun x31=>
 pA zp (oIdx 307 x2 t9l4) fun x36=>
 pL zp (oLoad 213 x36) w9 fun x37=>
 pA zp (oIdx 307 x14 t9l4) fun x41=>
 pL zp (oLoad 213 x41) w9 fun x42=>
 pN zp (oCall 233 [x23,(.int .i64 6),(.int .i64 11),(.int .i64 25)]) w9 fun x24 w10=>
 ((Sem.run zp (oLoad 213 x41) w10= .ok (.value x42) w10)∧(Sem.run zp (oLoad 213 x36) w10= .ok (.value x37) w10)∧(Sem.run zp (oLoad 213 x30) w10= .ok (.value x31) w10)∧(Sem.run zp (oLoad 213 x28) w10= .ok (.value x29) w10)∧(Sem.run zp (oLoad 213 x26) w10= .ok (.value x27) w10)∧(Sem.run zp (oLoad 213 x20) w10= .ok (.value x21) w10)∧True)∧(pA zp (oBin .add 213 (.tmp 21) (.tmp 24) x21 x24) fun x25=>
 pN zp (oCall 234 [x27,x29,x31]) w10 fun x32 w11=>
 ((Sem.run zp (oLoad 213 x41) w11= .ok (.value x42) w11)∧(Sem.run zp (oLoad 213 x36) w11= .ok (.value x37) w11)∧(Sem.run zp (oLoad 213 x20) w11= .ok (.value x21) w11)∧True)∧(pA zp (oBin .add 213 (.tmp 25) (.tmp 32) x25 x32) fun x33=>
 pA zp (oBin .add 213 (.tmp 33) (.tmp 37) x33 x37) fun x38=>
 pA zp (oBin .add 213 (.tmp 38) (.tmp 42) x38 x42) fun x43=>
 pDr w11 fun w12=>
 pA zp (oIdx 214 x8 (.int .i64 0)) fun x44=>
 pL zp (oLoad 213 x44) w12 fun x45=>
 pA zp (oIdx 214 x8 (.int .i64 0)) fun x47=>
 pL zp (oLoad 213 x47) w12 fun x48=>
 pA zp (oIdx 214 x8 (.int .i64 1)) fun x49=>
 pL zp (oLoad 213 x49) w12 fun x50=>
 pA zp (oIdx 214 x8 (.int .i64 2)) fun x51=>
 pL zp (oLoad 213 x51) w12 fun x52=>
 pN zp (oCall 233 [x45,(.int .i64 2),(.int .i64 13),(.int .i64 22)]) w12 fun x46 w13=>
 ((Sem.run zp (oLoad 213 x51) w13= .ok (.value x52) w13)∧(Sem.run zp (oLoad 213 x49) w13= .ok (.value x50) w13)∧(Sem.run zp (oLoad 213 x47) w13= .ok (.value x48) w13)∧True)∧(pN zp (oCall 235 [x48,x50,x52]) w13 fun x53 w14=>
 (True)∧(pA zp (oBin .add 213 (.tmp 46) (.tmp 53) x46 x53) fun x54=>
 pN zp (oBin .add 213 (.tmp 55) (.tmp 56) x43 x54) w14 fun x57 w15=>
 pN zp (oIdx 214 x8 (.int .i64 0)) w15 fun x58 w16=>
 pN zp (oLoad 213 x58) w16 fun x59 w17=>
 pN zp (oIdx 214 x8 (.int .i64 1)) w17 fun x60 w18=>
 pN zp (oLoad 213 x60) w18 fun x61 w19=>
 pN zp (oIdx 214 x8 (.int .i64 2)) w19 fun x62 w20=>
 pN zp (oLoad 213 x62) w20 fun x63 w21=>
 pN zp (oIdx 214 x8 (.int .i64 3)) w21 fun x64 w22=>
 pN zp (oLoad 213 x64) w22 fun x65 w23=>
 pN zp (oBin .add 213 (.tmp 65) (.tmp 66) x65 x43) w23 fun x67 w24=>
 pN zp (oIdx 214 x8 (.int .i64 4)) w24 fun x68 w25=>
 pN zp (oLoad 213 x68) w25 fun x69 w26=>
 pN zp (oIdx 214 x8 (.int .i64 5)) w26 fun x70 w27=>
 pN zp (oLoad 213 x70) w27 fun x71 w28=>
 pN zp (oIdx 214 x8 (.int .i64 6)) w28 fun x72 w29=>
 pN zp (oLoad 213 x72) w29 fun x73 w30=>
 pN zp (oBuild 214 [(0,x57),(1,x59),(2,x61),(3,x63),(4,x67),(5,x69),(6,x71),(7,x73)]) w30 fun x74 w31=>
 pN zp (oStore 214 x8 x74) w31 fun _ w32=>
 pN zp (oBin .add 3 (.tmp 18) (.const (.int .i64 1)) t9l4 (.int .i64 1)) w32 fun x19 w33=>
 (L4 x19 w33∧m4 x19 w33<m4 t9l4 w7))))))
 (∃(L10:Value→World→Prop) (m10:Value→World→Nat),
 L10 (.int .i64 0) w8∧
 ∀(_k10:Env) (i12l10:Value) (w34:World),L10 i12l10 w34→
 pN zp (oBin .lss 3 (.tmp 75) (.const (.int .i64 8)) i12l10 (.int .i64 8)) w34 fun x76 w35=>
 pIf x76
 (pDr w35 fun w36=>
 pA zp (oIdx 214 x8 i12l10) fun x81=>
 pL zp (oLoad 213 x81) w36 fun x82=>
 pA zp (oIdx 214 x3 i12l10) fun x84=>
 pL zp (oLoad 213 x84) w36 fun x85=>
 pA zp (oBin .add 213 (.tmp 82) (.tmp 85) x82 x85) fun x86=>
 pA zp (oIdx 214 x8 i12l10) fun x87=>
 pN zp (oStore 213 x87 x86) w36 fun _ w37=>
 (True)∧(pN zp (oBin .add 3 (.tmp 77) (.const (.int .i64 1)) i12l10 (.int .i64 1)) w37 fun x78 w38=>
 (L10 x78 w38∧m10 x78 w38<m10 i12l10 w34)))
 (pN zp (oLoad 214 x8) w35 fun x88 w39=>
 pN zp (oStore 214 x6 x88) w39 fun _ w40=>
 pL zp (oRes 214 x6) w40 fun r6=>
 Q r6 w40))
theorem pithref04_Step.calls (h:pithref04_Step.F x0 x1 x2 w Q):Calls zp 225 #[x0,x1,x2] w (retP Q):=cl pithref04_Step.H [x0,x1,x2] Tryz.func225 h
def pithref04_power.H:Hints:={ cut:=fun _=>none,loop:=fun|3=>([3,4],4088)|_=>([],0),order:=fun _=>[] }
def pithref04_power.F (x0:Value) (w:World) (Q:QQ):Prop:=
 ∃(L3:Value→Value→World→Prop) (m3:Value→Value→World→Nat),
 L3 (.int .u32 1) (.int .i64 0) w∧
 ∀(_k3:Env) (p3l3:Value) (i4l3:Value) (w1:World),L3 p3l3 i4l3 w1→
 pN zp (oBin .lss 3 (.tmp 5) (.tmp 6) i4l3 x0) w1 fun x7 w2=>
 pIf x7
 (pN zp (oBin .mul 213 (.const (.int .u32 2)) (.tmp 10) (.int .u32 2) p3l3) w2 fun x11 w3=>
 pN zp (oBin .add 3 (.tmp 8) (.const (.int .i64 1)) i4l3 (.int .i64 1)) w3 fun x9 w4=>
 (L3 x11 x9 w4∧m3 x11 x9 w4<m3 p3l3 i4l3 w1))
 (Q p3l3 w2)
theorem pithref04_power.calls (h:pithref04_power.F x0 w Q):Calls zp 226 #[x0] w (retP Q):=cl pithref04_power.H [x0] Tryz.func226 h
def pithref04_words.H:Hints:={ cut:=fun _=>none,loop:=fun|3=>([3,4],8589933688)|7=>([5,6],536854624)|12=>([3,7],158456325028528675178497966984)|_=>([],0),order:=fun|14=>[(0,0),(1,1),(2,3),(3,7),(4,15),(6,31),(7,95),(8,223),(9,479),(10,991),(13,2015),(14,10207),(15,26591),(16,59359),(17,124895),(5,255967),(11,255999),(12,258047),(18,262143),(19,524287),(20,1048575),(21,2097151)]|15=>[(0,0),(1,1),(2,3),(3,7),(4,15),(6,31),(7,95),(8,223),(9,479),(10,991),(13,2015),(14,10207),(15,26591),(16,59359),(17,124895),(5,255967),(11,255999),(12,258047),(18,262143),(19,524287),(20,1048575),(21,2097151)]|16=>(ot 19)|_=>[] }
def pithref04_words.F (x0:Value) (w:World) (Q:QQ):Prop:=
 ∃(L3:Value→Value→World→Prop) (m3:Value→Value→World→Nat),
 L3 (.slice none 0 0) (.int .i64 0) w∧
 ∀(_k3:Env) (w3l3:Value) (t4l3:Value) (w1:World),L3 w3l3 t4l3 w1→
 pN zp (oBin .lss 3 (.tmp 10) (.const (.int .i64 16)) t4l3 (.int .i64 16)) w1 fun x11 w2=>
 pIf x11
 (∃(L7:Value→Value→World→Prop) (m7:Value→Value→World→Nat),
 L7 (.int .u32 0) (.int .i64 0) w2∧
 ∀(_k7:Env) (v5l7:Value) (i6l7:Value) (w3:World),L7 v5l7 i6l7 w3→
 pN zp (oBin .lss 3 (.tmp 14) (.const (.int .i64 4)) i6l7 (.int .i64 4)) w3 fun x15 w4=>
 pIf x15
 (pN zp (oBin .mul 213 (.const (.int .u32 256)) (.tmp 18) (.int .u32 256) v5l7) w4 fun x19 w5=>
 pN zp (oBin .mul 3 (.const (.int .i64 4)) (.tmp 21) (.int .i64 4) t4l3) w5 fun x22 w6=>
 pN zp (oBin .add 3 (.tmp 22) (.tmp 23) x22 i6l7) w6 fun x24 w7=>
 pN zp (oIdx 47 x0 x24) w7 fun x25 w8=>
 pN zp (oLoad 5 x25) w8 fun x26 w9=>
 pN zp (oConv 5 213 x26) w9 fun x27 w10=>
 pN zp (oBin .add 213 (.tmp 19) (.tmp 27) x19 x27) w10 fun x28 w11=>
 pN zp (oBin .add 3 (.tmp 16) (.const (.int .i64 1)) i6l7 (.int .i64 1)) w11 fun x17 w12=>
 (L7 x28 x17 w12∧m7 x28 x17 w12<m7 v5l7 i6l7 w3))
 (pN zp (oBs 307 1 [(0,v5l7)]) w4 fun x31 w13=>
 pN zp (oBi .append #[307,307] 307 [false,false] [w3l3,x31]) w13 fun x32 w14=>
 pN zp (oBin .add 3 (.tmp 12) (.const (.int .i64 1)) t4l3 (.int .i64 1)) w14 fun x13 w15=>
 (L3 x32 x13 w15∧m3 x32 x13 w15<m3 w3l3 t4l3 w1)))
 (∃(L12:Value→Value→World→Prop) (m12:Value→Value→World→Nat),
 L12 w3l3 (.int .i64 16) w2∧
 ∀(_k12:Env) (w3l12:Value) (t7l12:Value) (w16:World),L12 w3l12 t7l12 w16→
 pN zp (oBin .lss 3 (.tmp 33) (.const (.int .i64 64)) t7l12 (.int .i64 64)) w16 fun x34 w17=>
 pIf x34
 (pDr w17 fun w18=>
 pA zp (oBin .sub 3 (.tmp 38) (.const (.int .i64 2)) t7l12 (.int .i64 2)) fun x39=>
 pA zp (oIdx 307 w3l12 x39) fun x40=>
 pL zp (oLoad 213 x40) w18 fun x41=>
 pA zp (oBin .sub 3 (.tmp 44) (.const (.int .i64 2)) t7l12 (.int .i64 2)) fun x45=>
 pA zp (oIdx 307 w3l12 x45) fun x46=>
 pL zp (oLoad 213 x46) w18 fun x47=>
 pA zp (oBin .sub 3 (.tmp 51) (.const (.int .i64 2)) t7l12 (.int .i64 2)) fun x52=>
 pA zp (oIdx 307 w3l12 x52) fun x53=>
 pL zp (oLoad 213 x53) w18 fun x54=>
 pN zp (oCall 238 [x41,(.int .i64 17)]) w18 fun x42 w19=>
 ((Sem.run zp (oLoad 213 x53) w19= .ok (.value x54) w19)∧(Sem.run zp (oLoad 213 x46) w19= .ok (.value x47) w19)∧True)∧(pN zp (oCall 238 [x47,(.int .i64 19)]) w19 fun x48 w20=>
 ((Sem.run zp (oLoad 213 x53) w20= .ok (.value x54) w20)∧True)∧(pA zp (oBin .xor 213 (.tmp 42) (.tmp 48) x42 x48) fun x49=>
 pN zp (oCall 226 [(.int .i64 10)]) w20 fun x55 w21=>
 ((Sem.run zp (oLoad 213 x53) w21= .ok (.value x54) w21)∧True)∧(pA zp (oBin .quo 213 (.tmp 54) (.tmp 55) x54 x55) fun x56=>
 pA zp (oBin .xor 213 (.tmp 49) (.tmp 56) x49 x56) fun x57=>
 pDr w21 fun w22=>
 pA zp (oBin .sub 3 (.tmp 59) (.const (.int .i64 15)) t7l12 (.int .i64 15)) fun x60=>
 pA zp (oIdx 307 w3l12 x60) fun x61=>
 pL zp (oLoad 213 x61) w22 fun x62=>
 pA zp (oBin .sub 3 (.tmp 65) (.const (.int .i64 15)) t7l12 (.int .i64 15)) fun x66=>
 pA zp (oIdx 307 w3l12 x66) fun x67=>
 pL zp (oLoad 213 x67) w22 fun x68=>
 pA zp (oBin .sub 3 (.tmp 72) (.const (.int .i64 15)) t7l12 (.int .i64 15)) fun x73=>
 pA zp (oIdx 307 w3l12 x73) fun x74=>
 pL zp (oLoad 213 x74) w22 fun x75=>
 pN zp (oCall 238 [x62,(.int .i64 7)]) w22 fun x63 w23=>
 ((Sem.run zp (oLoad 213 x74) w23= .ok (.value x75) w23)∧(Sem.run zp (oLoad 213 x67) w23= .ok (.value x68) w23)∧True)∧(pN zp (oCall 238 [x68,(.int .i64 18)]) w23 fun x69 w24=>
 ((Sem.run zp (oLoad 213 x74) w24= .ok (.value x75) w24)∧True)∧(pA zp (oBin .xor 213 (.tmp 63) (.tmp 69) x63 x69) fun x70=>
 pN zp (oCall 226 [(.int .i64 3)]) w24 fun x76 w25=>
 ((Sem.run zp (oLoad 213 x74) w25= .ok (.value x75) w25)∧True)∧(pA zp (oBin .quo 213 (.tmp 75) (.tmp 76) x75 x76) fun x77=>
 pA zp (oBin .xor 213 (.tmp 70) (.tmp 77) x70 x77) fun x78=>
 pDr w25 fun w26=>
 pA zp (oBin .sub 3 (.tmp 82) (.const (.int .i64 7)) t7l12 (.int .i64 7)) fun x83=>
 pA zp (oIdx 307 w3l12 x83) fun x84=>
 pL zp (oLoad 213 x84) w26 fun x85=>
 pA zp (oBin .add 213 (.tmp 80) (.tmp 85) x57 x85) fun x86=>
 pA zp (oBin .add 213 (.tmp 86) (.tmp 87) x86 x78) fun x88=>
 pA zp (oBin .sub 3 (.tmp 90) (.const (.int .i64 16)) t7l12 (.int .i64 16)) fun x91=>
 pA zp (oIdx 307 w3l12 x91) fun x92=>
 pL zp (oLoad 213 x92) w26 fun x93=>
 pA zp (oBin .add 213 (.tmp 88) (.tmp 93) x88 x93) fun x94=>
 pN zp (oBs 307 1 [(0,x94)]) w26 fun x95 w27=>
 (True)∧(pN zp (oBi .append #[307,307] 307 [false,false] [w3l12,x95]) w27 fun x96 w28=>
 (True)∧(pN zp (oBin .add 3 (.tmp 35) (.const (.int .i64 1)) t7l12 (.int .i64 1)) w28 fun x36 w29=>
 (L12 x96 x36 w29∧m12 x96 x36 w29<m12 w3l12 t7l12 w16))))))))))
 (Q w3l12 w17))
theorem pithref04_words.calls (h:pithref04_words.F x0 w Q):Calls zp 232 #[x0] w (retP Q):=cl pithref04_words.H [x0] Tryz.func232 h
def pithref04_three.F (x0 x1 x2 x3:Value) (w:World) (Q:QQ):Prop:=
 pN zp (oCall 238 [x0,x1]) w fun x11 w1=>
 pN zp (oCall 238 [x0,x2]) w1 fun x14 w2=>
 pN zp (oBin .xor 213 (.tmp 11) (.tmp 14) x11 x14) w2 fun x15 w3=>
 pN zp (oCall 238 [x0,x3]) w3 fun x18 w4=>
 pN zp (oBin .xor 213 (.tmp 15) (.tmp 18) x15 x18) w4 fun x19 w5=>
 Q x19 w5
theorem pithref04_three.calls (h:pithref04_three.F x0 x1 x2 x3 w Q):Calls zp 233 #[x0,x1,x2,x3] w (retP Q):=cl .z [x0,x1,x2,x3] Tryz.func233 h
def pithref04_choose.F (x0 x1 x2:Value) (w:World) (Q:QQ):Prop:=
 pN zp (oBin .and 213 (.tmp 7) (.tmp 8) x0 x1) w fun x9 w1=>
 pN zp (oBin .xor 213 (.tmp 10) (.const (.int .u32 4294967295)) x0 (.int .u32 4294967295)) w1 fun x11 w2=>
 pN zp (oBin .and 213 (.tmp 11) (.tmp 12) x11 x2) w2 fun x13 w3=>
 pN zp (oBin .or 213 (.tmp 9) (.tmp 13) x9 x13) w3 fun x14 w4=>
 Q x14 w4
theorem pithref04_choose.calls (h:pithref04_choose.F x0 x1 x2 w Q):Calls zp 234 #[x0,x1,x2] w (retP Q):=cl .z [x0,x1,x2] Tryz.func234 h
def pithref04_most.F (x0 x1 x2:Value) (w:World) (Q:QQ):Prop:=
 pN zp (oBin .and 213 (.tmp 7) (.tmp 8) x0 x1) w fun x9 w1=>
 pN zp (oBin .and 213 (.tmp 10) (.tmp 11) x0 x2) w1 fun x12 w2=>
 pN zp (oBin .or 213 (.tmp 9) (.tmp 12) x9 x12) w2 fun x13 w3=>
 pN zp (oBin .and 213 (.tmp 14) (.tmp 15) x1 x2) w3 fun x16 w4=>
 pN zp (oBin .or 213 (.tmp 13) (.tmp 16) x13 x16) w4 fun x17 w5=>
 Q x17 w5
theorem pithref04_most.calls (h:pithref04_most.F x0 x1 x2 w Q):Calls zp 235 #[x0,x1,x2] w (retP Q):=cl .z [x0,x1,x2] Tryz.func235 h
def pithref04_turned.H:Hints:={ cut:=fun _=>none,loop:=fun _=>([],0),order:=fun|1=>[(0,0),(1,1),(4,3),(5,19),(8,51),(9,307),(2,819),(3,823),(6,831),(7,895),(10,1023),(11,2047),(12,4095),(13,8191)]|_=>[] }
def pithref04_turned.F (x0 x1:Value) (w:World) (Q:QQ):Prop:=
 pDr w fun w1=>
 pA zp (oBin .sub 3 (.const (.int .i64 32)) (.tmp 13) (.int .i64 32) x1) fun x14=>
 pN zp (oCall 226 [x1]) w1 fun x7 w2=>
 (True)∧(pA zp (oBin .quo 213 (.tmp 5) (.tmp 7) x0 x7) fun x8=>
 pN zp (oCall 226 [x1]) w2 fun x11 w3=>
 (True)∧(pA zp (oBin .rem 213 (.tmp 9) (.tmp 11) x0 x11) fun x12=>
 pN zp (oCall 226 [x14]) w3 fun x15 w4=>
 (True)∧(pA zp (oBin .mul 213 (.tmp 12) (.tmp 15) x12 x15) fun x16=>
 pA zp (oBin .add 213 (.tmp 8) (.tmp 16) x8 x16) fun x17=>
 Q x17 w4)))
theorem pithref04_turned.calls (h:pithref04_turned.F x0 x1 w Q):Calls zp 238 #[x0,x1] w (retP Q):=cl pithref04_turned.H [x0,x1] Tryz.func238 h
end
section
attribute [local irreducible] oMv oV oU oCall oCallV oBi oBin oUn oLoad oStore oNil oFld oField oIdx oIndex oPick oAlloc oBox oBuild oBs oConv oMk oSl oExt oFn oIface oMap oLook oMapUp oRange oNext oEntry oInv oAssert oPanic oRes pN pA pL pDr pIf gA pGd Calls
section
namespace H
theorem turned_eq (x:W) {n:Nat} (h1:0<n) (h2:n<32):(rot x (32-n)).toNat=x.toNat / 2^n+x.toNat%2^n*2^(32-n):=by
 have hp:2^32=2^n*2^(32-n):=by rw[←Nat.pow_add];congr 1;omega
 have hl:x.toNat / 2^n<2^(32-n):=Nat.div_lt_of_lt_mul (by rw[←hp];exact x.isLt)
 unfold rot
 rw[BitVec.toNat_or,BitVec.toNat_shiftLeft,BitVec.toNat_ushiftRight,Nat.shiftLeft_eq,Nat.shiftRight_eq_div_pow,show 32-(32-n)=n by omega,hp,Nat.mul_mod_mul_right,Nat.mul_comm (x.toNat%2^n),←Nat.two_pow_add_eq_or_of_lt hl,Nat.add_comm]
theorem most_eq (a b c:W):(a&&& b|||a&&& c|||b&&& c)=(a&&& b^^^a&&& c^^^b&&& c):=by
 apply BitVec.eq_of_getLsbD_eq
 intro i hi
 simp only[BitVec.getLsbD_or,BitVec.getLsbD_and,BitVec.getLsbD_xor]
 cases a.getLsbD i<;>cases b.getLsbD i<;>cases c.getLsbD i<;>rfl
theorem choose_eq (a b c:W):(a&&& b|||((a^^^4294967295)&&& c))=(a&&& b^^^(~~~a&&& c)):=by
 have e:a^^^4294967295= ~~~a:=by
  apply BitVec.eq_of_getLsbD_eq
  intro i hi
  have h:(4294967295:W)=BitVec.allOnes 32:=by decide
  rw[h,BitVec.getLsbD_xor,BitVec.getLsbD_not,BitVec.getLsbD_allOnes]
  simp[hi]
 rw[e]
 apply BitVec.eq_of_getLsbD_eq
 intro i hi
 simp only[BitVec.getLsbD_or,BitVec.getLsbD_and,BitVec.getLsbD_xor,BitVec.getLsbD_not]
 cases a.getLsbD i<;>cases b.getLsbD i<;>cases c.getLsbD i<;>simp
end H
section
variable [Pan] {P:Program} {t:TypeId} {xo yo:Operand} {J:Value→Prop} {K:Value→World→Prop} {w:World} {a b:Nat}
theorem pA_quoU (hb:0<b) (ha:a<4294967296) (hk:J (.int .u32 ((a / b:Nat):Int))):pA P (oBin .quo t xo yo (.int .u32 (a:Int)) (.int .u32 (b:Int))) J:=by
 have h1:a / b≤a:=Nat.div_le_self a b
 rw[pA_quo _ _ _ _ _ _ (by omega),←Int.ofNat_tdiv,w32_nat (by omega)]
 exact hk
theorem pA_remU (hb:0<b) (hk:J (.int .u32 ((a%b:Nat):Int))):pA P (oBin .rem t xo yo (.int .u32 (a:Int)) (.int .u32 (b:Int))) J:=by
 rw[pA_rem _ _ _ _ _ _ (by omega),←Int.ofNat_tmod]
 exact hk
theorem pA_mulU (h:a*b<4294967296) (hk:J (.int .u32 ((a*b:Nat):Int))):pA P (oBin .mul t xo yo (.int .u32 (a:Int)) (.int .u32 (b:Int))) J:=by
 rw[pA_mul,←Int.natCast_mul,w32_nat h]
 exact hk
theorem pA_addU (h:a+b<4294967296) (hk:J (.int .u32 ((a+b:Nat):Int))):pA P (oBin .add t xo yo (.int .u32 (a:Int)) (.int .u32 (b:Int))) J:=by
 rw[pA_add,←Int.natCast_add,w32_nat h]
 exact hk
end
section
variable [Pan] {E w W:World} {K Q:Value→World→Prop} {J:Value→Prop} {L M N:List HA}
theorem rpower_ok {n:Nat} (hn:n≤31) (hQ:Q (.int .u32 ((2^n:Nat):Int)) w):Calls zp 226 #[.int .i64 n] w (retP Q):=by
 refine pithref04_power.calls ?_
 unfold pithref04_power.F
 refine⟨fun p i w'=>∃j:Nat,j≤n∧i= .int .i64 j∧p= .int .u32 ((2^j:Nat):Int)∧w'=w,fun _ i _=>n-(RowKit.intOf i).toNat,⟨0,Nat.zero_le _,rfl,rfl,rfl⟩,?_⟩
 rintro _ _ _ _ ⟨j,hj,rfl,rfl,rfl⟩
 by_cases hlt:j<n
 ·have h1:2^(j+1)=2*2^j:=by rw[Nat.pow_succ];omega
  have h2:2^(j+1)≤2^31:=Nat.pow_le_pow_right (by decide) (by omega)
  have h3:(2:Nat)^31=2147483648:=rfl
  rw[h3,h1] at h2
  generalize hP:2^j=P at*
  repeat' (first|(refine pN_lss_s ?_ ?_<;>intro hc<;>try (exfalso;omega))|refine pIf_t ?_|refine pN_v (hk:=?_)|fail)
  exact⟨⟨j+1,by omega,rfl,by rw[h1,Int.natCast_mul];rfl,rfl⟩,by simp[RowKit.intOf]<;>omega⟩
 ·obtain rfl:j=n:=by omega
  repeat' (first|(refine pN_lss_s ?_ ?_<;>intro hc<;>try (exfalso;omega))|refine pIf_f ?_|fail)
  exact hQ
theorem rturned_ok {x:H.W} {n:Nat} (h1:0<n) (h2:n<32) (hS:Sat E w M) (hQ:∀w,Sat E w M→Q (wv (H.rot x (32-n))) w):Calls zp 238 #[wv x,.int .i64 n] w (retP Q):=by
 refine pithref04_turned.calls ?_
 unfold pithref04_turned.F
 have he:=H.turned_eq x h1 h2
 have hv:Value.int .u32 ((x.toNat / 2^n+x.toNat%2^n*2^(32-n):Nat):Int)=wv (H.rot x (32-n)):=by rw[←he];rfl
 have hpl:(H.rot x (32-n)).toNat<4294967296:=(H.rot x (32-n)).isLt
 rw[he] at hpl
 have hp0:0<2^n:=Nat.pow_pos (by decide)
 generalize hP:2^n=P at*
 generalize hR:2^(32-n)=R at*
 have hx:=x.isLt
 have hpw:∀(K:Value→World→Prop) w,K (.int .u32 (P:Int)) w→pN zp (oCall 226 [.int .i64 n]) w K:=fun K w h=>pcq (f:=226) (rpower_ok (n:=n) (by omega) (by rw[hP];exact h))
 have hrw:∀(K:Value→World→Prop) w,K (.int .u32 (R:Int)) w→pN zp (oCall 226 [.int .i64 (32-n)]) w K:=fun K w h=>by
  rw[show(32-(n:Int))=((32-n:Nat):Int) by omega]
  exact pcq (f:=226) (rpower_ok (n:=32-n) (by omega) (by rw[hR];exact h))
 repeat' (first|refine hpw _ _ ?_|refine hrw _ _ ?_|(refine pA_quoU (a:=x.toNat) (b:=P) hp0 hx ?_)|(refine pA_remU (a:=x.toNat) (b:=P) hp0 ?_)|(refine pA_mulU (a:=x.toNat%P) (b:=R) (Nat.lt_of_le_of_lt (Nat.le_add_left _ _) hpl) ?_)|(refine pA_addU (a:=x.toNat / P) (b:=x.toNat%P*R) hpl ?_)|(refine pDr_go hS ?_;clear hS;intro w hS)|refine⟨trivial,?_⟩|refine pA_v (hk:=?_)|fail)
 rw[hv]
 exact hQ _ hS
theorem rthree_ok {x:H.W} {a b c:Nat} (ha:0<a∧a<32) (hb:0<b∧b<32) (hc:0<c∧c<32) (hS:Sat E w M) (hQ:∀w,Sat E w M→Q (wv (H.rot x (32-a)^^^H.rot x (32-b)^^^H.rot x (32-c))) w):Calls zp 233 #[wv x,.int .i64 a,.int .i64 b,.int .i64 c] w (retP Q):=by
 refine pithref04_three.calls ?_
 unfold pithref04_three.F
 repeat' (first|(refine pcq (f:=238) (rturned_ok (x:=x) (n:=a) ha.1 ha.2 hS ?_);clear hS;intro w hS)|(refine pcq (f:=238) (rturned_ok (x:=x) (n:=b) hb.1 hb.2 hS ?_);clear hS;intro w hS)|(refine pcq (f:=238) (rturned_ok (x:=x) (n:=c) hc.1 hc.2 hS ?_);clear hS;intro w hS)|refine pN_xor_w ?_|fail)
 exact hQ _ hS
theorem rmost_ok {a b c:H.W} (hQ:Q (wv (a&&& b^^^a&&& c^^^b&&& c)) w):Calls zp 235 #[wv a,wv b,wv c] w (retP Q):=by
 refine pithref04_most.calls ?_
 unfold pithref04_most.F
 rw[←H.most_eq] at hQ
 repeat' (first|refine pN_and_w ?_|refine pN_or_w ?_|fail)
 exact hQ
theorem rchoose_ok {a b c:H.W} (hQ:Q (wv (a&&& b^^^(~~~a&&& c))) w):Calls zp 234 #[wv a,wv b,wv c] w (retP Q):=by
 refine pithref04_choose.calls ?_
 unfold pithref04_choose.F
 rw[←H.choose_eq] at hQ
 repeat' (first|refine pN_and_w ?_|refine pN_or_w ?_|refine pN_xor_w (b:=(4294967295:H.W)) ?_|fail)
 exact hQ
end
end
section
namespace H
def wds (blk:List UInt8):Nat→List W
 |0=>[]
 |t+1=>wds blk t++[word blk (wds blk t) t]
theorem wds_len (blk:List UInt8):∀t,(wds blk t).length=t
 |0=>rfl
 |t+1=>by rw[wds,List.length_append,wds_len blk t];rfl
theorem nth_app {l m:List W} {i:Nat} (h:i<l.length):nth (l++m) i=nth l i:=by
 unfold nth
 rw[List.getD_eq_getElem?_getD,List.getD_eq_getElem?_getD,List.getElem?_append_left h]
theorem words_wds (blk:List UInt8):∀t,t≤64→words blk t=wds blk t++List.replicate (64-t) 0
 |0,_=>rfl
 |t+1,h=>by
  have ih:=words_wds blk t (by omega)
  have hl:=wds_len blk t
  have hw:word blk (words blk t) t=word blk (wds blk t) t:=by
   by_cases h16:t<16
   ·rw[word_lo h16,word_lo h16]
   ·rw[word_hi h16,word_hi h16,ih,nth_app (by omega),nth_app (by omega),nth_app (by omega),nth_app (by omega)]
  rw[words_s,hw,ih,wds,List.set_append_right _ _ (by omega),hl,Nat.sub_self,show 64-t=(64-(t+1))+1 by omega,List.replicate_succ,List.set_cons_zero,List.append_assoc]
  rfl
theorem words_all (blk:List UInt8):words blk 64=wds blk 64:=by rw[words_wds blk 64 (Nat.le_refl _),Nat.sub_self,List.replicate_zero,List.append_nil]
def ints (l:List W):List Int:=l.map fun x=>(x.toNat:Int)
theorem ints_len (l:List W):(ints l).length=l.length:=List.length_map ..
theorem ints_snoc (l:List W) (x:W):ints (l++[x])=ints l++[(x.toNat:Int)]:=List.map_append
theorem ints_nil:ints []=[]:=rfl
theorem ints_at {l:List W} {i:Nat} (h:i<l.length):(ints l)[i]? =some ((nth l i).toNat:Int):=by
 unfold ints nth
 rw[List.getElem?_map,List.getD_eq_getElem?_getD,List.getElem?_eq_getElem h];rfl
theorem wds_0 (blk:List UInt8):wds blk 0=[]:=rfl
theorem wds_s (blk:List UInt8) (t:Nat):wds blk (t+1)=wds blk t++[word blk (wds blk t) t]:=rfl
theorem horner (a b c d:UInt8):((BitVec.ofNat 32 a.toNat<<<24|||BitVec.ofNat 32 b.toNat<<<16|||BitVec.ofNat 32 c.toNat<<<8|||BitVec.ofNat 32 d.toNat:W)).toNat=256*(256*(256*a.toNat+b.toNat)+c.toNat)+d.toNat:=by
 have ha:=a.toNat_lt
 have hb:=b.toNat_lt
 have hc:=c.toNat_lt
 have hd:=d.toNat_lt
 have e1:(2:Nat)^8*a.toNat+b.toNat=2^8*a.toNat|||b.toNat:=Nat.two_pow_add_eq_or_of_lt (by omega) _
 rw[BitVec.toNat_or,BitVec.toNat_or,BitVec.toNat_or,BitVec.toNat_shiftLeft,BitVec.toNat_shiftLeft,BitVec.toNat_shiftLeft,BitVec.toNat_ofNat,BitVec.toNat_ofNat,BitVec.toNat_ofNat,BitVec.toNat_ofNat,Nat.shiftLeft_eq,Nat.shiftLeft_eq,Nat.shiftLeft_eq]
 rw[Nat.mod_eq_of_lt (a:=a.toNat) (by omega),Nat.mod_eq_of_lt (a:=b.toNat) (by omega),Nat.mod_eq_of_lt (a:=c.toNat) (by omega),Nat.mod_eq_of_lt (a:=d.toNat) (by omega)]
 rw[Nat.mod_eq_of_lt (a:=a.toNat*2^24) (by omega),Nat.mod_eq_of_lt (a:=b.toNat*2^16) (by omega),Nat.mod_eq_of_lt (a:=c.toNat*2^8) (by omega)]
 have h1:a.toNat*2^24|||b.toNat*2^16=(256*a.toNat+b.toNat)*2^16:=by
  have:=Nat.two_pow_add_eq_or_of_lt (i:=24) (b:=b.toNat*2^16) (by omega) a.toNat
  rw[Nat.mul_comm a.toNat,←this];omega
 have h2:(256*a.toNat+b.toNat)*2^16|||c.toNat*2^8=(256*(256*a.toNat+b.toNat)+c.toNat)*2^8:=by
  have:=Nat.two_pow_add_eq_or_of_lt (i:=16) (b:=c.toNat*2^8) (by omega) (256*a.toNat+b.toNat)
  rw[Nat.mul_comm (256*a.toNat+b.toNat) (2^16),←this];omega
 have h3:(256*(256*a.toNat+b.toNat)+c.toNat)*2^8|||d.toNat=256*(256*(256*a.toNat+b.toNat)+c.toNat)+d.toNat:=by
  have:=Nat.two_pow_add_eq_or_of_lt (i:=8) (b:=d.toNat) (by omega) (256*(256*a.toNat+b.toNat)+c.toNat)
  rw[Nat.mul_comm (256*(256*a.toNat+b.toNat)+c.toNat) (2^8),←this]
 rw[h1,h2,h3]
def horn (l:List UInt8):Nat:=l.foldl (fun v b=>256*v+b.toNat) 0
theorem horn_s (l:List UInt8) (b:UInt8):horn (l++[b])=256*horn l+b.toNat:=by
 unfold horn;rw[List.foldl_append];rfl
theorem horn_0:horn []=0:=rfl
theorem horn_4 {blk:List UInt8} {w:List W} {j:Nat} (h:blk.length=64) (hj:j<16):(word blk w j).toNat=horn ((blk.drop (4*j)).take 4):=by
 have e:∀i,i<4→(blk.drop (4*j))[i]? =some (blk.getD (4*j+i) 0):=fun i hi=>by
  rw[List.getElem?_drop,List.getD_eq_getElem?_getD,List.getElem?_eq_getElem (show 4*j+i<blk.length by omega)];rfl
 have e2:(blk.drop (4*j)).take 4=[blk.getD (4*j) 0,blk.getD (4*j+1) 0,blk.getD (4*j+2) 0,blk.getD (4*j+3) 0]:=by
  rw[List.take_add_one,List.take_add_one,List.take_add_one,List.take_add_one,e 0 (by omega),e 1 (by omega),e 2 (by omega),e 3 (by omega)]
  rfl
 rw[word_lo hj,e2]
 unfold by_
 rw[horner]
 show _=256*(256*(256*(256*0+(blk.getD (4*j) 0).toNat)+(blk.getD (4*j+1) 0).toNat)+(blk.getD (4*j+2) 0).toNat)+(blk.getD (4*j+3) 0).toNat
 omega
theorem horn_lt:∀(l:List UInt8),l.length≤3→horn l<16777216
 | [],_=>by decide
 | [a],_=>by have:=a.toNat_lt;show 256*0+a.toNat<_;omega
 | [a,b],_=>by have:=a.toNat_lt;have:=b.toNat_lt;show 256*(256*0+a.toNat)+b.toNat<_;omega
 | [a,b,c],_=>by have:=a.toNat_lt;have:=b.toNat_lt;have:=c.toNat_lt;show 256*(256*(256*0+a.toNat)+b.toNat)+c.toNat<_;omega
 |_::_::_::_::_,h=>by simp only[List.length_cons] at h;omega
end H
section
variable [Pan] {E w W:World} {K Q:Value→World→Prop} {J:Value→Prop} {L M N:List HA} {s:Sl} {blk:List UInt8}
set_option maxRecDepth 100000 in
theorem rconst_ok (hS:Sat E w M) (hQ:∀s w,Sat E w (rows cd_uint32 s (H.ints H.consts)::M)→Q (.slice s.a (H.ints H.consts).length s.c) w):Calls zp 224 #[] w (retP Q):=by
 refine pithref04_Constants.calls ?_
 unfold pithref04_Constants.F
 refine pN_bl (C:=cd_uint32) ((H.ints H.consts).map fun x=> .int .u32 x) (H.ints H.consts) rfl rfl rfl (Nat.succ_pos _) hS (Nat.le_of_ble_eq_true rfl) ?_
 exact fun s w hS=>hQ s w hS
theorem firstV:([.int .u32 1779033703,.int .u32 3144134277,.int .u32 1013904242,.int .u32 2773480762,.int .u32 1359893119,.int .u32 2600822924,.int .u32 528734635,.int .u32 1541459225]:List Value)=ws H.first:=by kernel_rfl
end
attribute [local irreducible] H.wds H.word H.horn H.ints
section
variable [Pan] {E w W:World} {K Q:Value→World→Prop} {J:Value→Prop} {L M N:List HA} {s:Sl} {blk:List UInt8}
theorem rfirst_ok (hS:Sat E w M) (hQ:∀w,Sat E w M→Q (.agg (ws H.first).toArray) w):Calls zp 222 #[] w (retP Q):=by
 refine pithref04_First.calls ?_
 unfold pithref04_First.F
 repeat' (first|refine pL_ra hS (by rfl) ?_|(refine pN_sa hS (by rfl) (by rfl) (by rfl) ?_;clear hS;intro w hS;try dsimp only at hS)|(refine pN_nz hS ?_;clear hS;intro a w hS)|refine pN_v (hk:=?_)|fail)
 dsimp only
 rw[firstV]
 exact hQ _ hS.to
set_option maxHeartbeats 2000000 in
theorem rwords_ok (hS:Sat E w M) [hr:Rds cd_uint8 M s blk] (h64:blk.length=64) (hQ:∀s2 w,Sat E w (rows cd_uint32 s2 (H.ints (H.wds blk 64))::M)→Q (.slice s2.a (H.ints (H.wds blk 64)).length s2.c) w):
  Calls zp 232 #[.slice s.a blk.length s.c] w (retP Q):=by
 refine pithref04_words.calls ?_
 unfold pithref04_words.F
 have h8:Sat E w (rows cd_uint32 ⟨none,0⟩ (H.ints (H.wds blk 0))::M):=by
  rw[H.wds_0,H.ints_nil]
  exact hS.nil cd_uint32.e cd_uint32.size
 refine⟨fun v t w=>∃(s2:Sl) (j:Nat),v= .slice s2.a (H.ints (H.wds blk j)).length s2.c∧t= .int .i64 j∧j≤16∧Sat E w (rows cd_uint32 s2 (H.ints (H.wds blk j))::M),fun _ t _=>16-(RowKit.intOf t).toNat,⟨⟨none,0⟩,0,by rw[H.wds_0,H.ints_nil];rfl,rfl,by omega,h8⟩,?_⟩
 clear hS h8
 rintro _ _ _ w ⟨s2,j,rfl,rfl,hj,hS⟩
 have hwl:(H.ints (H.wds blk j)).length=j:=by rw[H.ints_len,H.wds_len]
 by_cases hlt:j<16
 ·repeat' (first|(refine pN_lss_s ?_ ?_<;>intro hc<;>try (exfalso;omega))|refine pIf_t ?_|fail)
  have hn:=H.horn_4 (w:=H.wds blk j) h64 hlt
  have hs:=H.wds_s blk j
  refine⟨fun v i w=>∃z:Nat,z≤4∧i= .int .i64 z∧v= .int .u32 ((H.horn ((blk.drop (4*j)).take z):Nat):Int)∧Sat E w (rows cd_uint32 s2 (H.ints (H.wds blk j))::M),fun _ i _=>4-(RowKit.intOf i).toNat,⟨0,by omega,rfl,by rw[List.take_zero,H.horn_0];rfl,hS⟩,?_⟩
  clear hS
  rintro _ _ _ w ⟨z,hz,rfl,rfl,hS⟩
  by_cases hlz:z<4
  ·obtain⟨b,hb⟩:∃b,blk[4*j+z]? =some b:=⟨blk[4*j+z]'(by omega),List.getElem?_eq_getElem _⟩
   have hb8:=b.toNat_lt
   have hlt2:=H.horn_lt ((blk.drop (4*j)).take z) (by rw[List.length_take];omega)
   have hnx:H.horn ((blk.drop (4*j)).take (z+1))=256*H.horn ((blk.drop (4*j)).take z)+b.toNat:=by
    rw[List.take_add_one,List.getElem?_drop,hb]
    exact H.horn_s _ _
   generalize H.horn ((blk.drop (4*j)).take z)=hh at*
   repeat' (first|refine pN_ixk (C:=cd_uint8) (s:=s) (l:=blk) hS (4*j+z) (by omega) (by omega) hb fun ad ha hel=>?_|(refine pN_lss_s ?_ ?_<;>intro hc<;>try (exfalso;omega))|refine pIf_t ?_|refine pN_ofb ?_|refine pN_ld1 ha hS ?_|refine pN_v (hk:=?_)|fail)
   refine⟨⟨z+1,hlz,rfl,?_,hS⟩,by simp[RowKit.intOf]<;>omega⟩
   rw[hnx]
   congr 1
  obtain rfl:z=4:=by omega
  rw[←hn]
  generalize H.word blk (H.wds blk j) j=wd at*
  repeat' (first|(refine pN_app (C:=cd_uint32) (l:=H.ints (H.wds blk j)) hS rfl rfl (by rw[List.length_singleton];omega) ?_;clear hS;intro s6 w hS)|(refine pN_lss_s ?_ ?_<;>intro hc<;>try (exfalso;omega))|refine pIf_f ?_|(refine pN_b1 hS (by rfl) (by decide) ?_;clear hS;intro s w hS)|refine pN_v (hk:=?_)|fail)
  rw[←H.ints_snoc,←hs] at hS ⊢
  exact⟨⟨s6,j+1,rfl,rfl,hlt,hS.to⟩,by simp[RowKit.intOf]<;>omega⟩
 ·obtain rfl:j=16:=by omega
  repeat' (first|(refine pN_lss_s ?_ ?_<;>intro hc<;>try (exfalso;omega))|refine pIf_f ?_|fail)
  clear hlt hj
  refine⟨fun v t w=>∃(s2:Sl) (j:Nat),v= .slice s2.a (H.ints (H.wds blk j)).length s2.c∧t= .int .i64 j∧16≤j∧j≤64∧Sat E w (rows cd_uint32 s2 (H.ints (H.wds blk j))::M),fun _ t _=>64-(RowKit.intOf t).toNat,⟨s2,16,rfl,rfl,by omega,by omega,hS⟩,?_⟩
  clear hS hwl
  rintro _ _ _ w ⟨s2,j,rfl,rfl,hj1,hj2,hS⟩
  have hwl:(H.ints (H.wds blk j)).length=j:=by rw[H.ints_len,H.wds_len]
  by_cases hlt:j<64
  ·have hs:=H.wds_s blk j
   have hw:=H.word_hi (blk:=blk) (w:=H.wds blk j) (t:=j) (by omega)
   have hat:∀i,i<j→(H.ints (H.wds blk j))[i]? =some ((H.nth (H.wds blk j) i).toNat:Int):=fun i hi=>H.ints_at (by rw[H.wds_len];exact hi)
   have h2:=hat (j-2) (by omega)
   have h7:=hat (j-7) (by omega)
   have h15:=hat (j-15) (by omega)
   have h16:=hat (j-16) (by omega)
   generalize H.nth (H.wds blk j) (j-2)=a2 at*
   generalize H.nth (H.wds blk j) (j-7)=a7 at*
   generalize H.nth (H.wds blk j) (j-15)=a15 at*
   generalize H.nth (H.wds blk j) (j-16)=a16 at*
   have hw:H.word blk (H.wds blk j) j=(H.rot a2 (32-17)^^^H.rot a2 (32-19)^^^a2>>>10)+a7+(H.rot a15 (32-7)^^^H.rot a15 (32-18)^^^a15>>>3)+a16:=hw
   have q10:Value.int .u32 ((a2.toNat / 2^10:Nat):Int)=wv (a2>>>10):=by unfold wv;rw[BitVec.toNat_ushiftRight,Nat.shiftRight_eq_div_pow]
   have q3:Value.int .u32 ((a15.toNat / 2^3:Nat):Int)=wv (a15>>>3):=by unfold wv;rw[BitVec.toNat_ushiftRight,Nat.shiftRight_eq_div_pow]
   repeat' (first|refine pA_ixk (C:=cd_uint32) (s:=s2) hS (j-2) (by omega) rfl h2 fun ad ha hel=>?_|refine pA_ixk (C:=cd_uint32) (s:=s2) hS (j-7) (by omega) rfl h7 fun ad ha hel=>?_|refine pA_ixk (C:=cd_uint32) (s:=s2) hS (j-15) (by omega) rfl h15 fun ad ha hel=>?_|refine pA_ixk (C:=cd_uint32) (s:=s2) hS (j-16) (by omega) rfl h16 fun ad ha hel=>?_|(refine pcq (f:=238) (rturned_ok (x:=a2) (n:=17) (by decide) (by decide) hS ?_);clear hS;intro w hS)|(refine pcq (f:=238) (rturned_ok (x:=a2) (n:=19) (by decide) (by decide) hS ?_);clear hS;intro w hS)|(refine pcq (f:=238) (rturned_ok (x:=a15) (n:=7) (by decide) (by decide) hS ?_);clear hS;intro w hS)|(refine pcq (f:=238) (rturned_ok (x:=a15) (n:=18) (by decide) (by decide) hS ?_);clear hS;intro w hS)|refine And.intro ?_ ?_|exact trivial|exact run_ld1 (by assumption) hS|refine pcq (f:=226) (rpower_ok (n:=10) (by decide) ?_)|refine pcq (f:=226) (rpower_ok (n:=3) (by decide) ?_)|(refine pA_quoU (a:=a2.toNat) (b:=2^10) (by decide) a2.isLt ?_;rw[q10])|(refine pA_quoU (a:=a15.toNat) (b:=2^3) (by decide) a15.isLt ?_;rw[q3])|refine pA_xor_w ?_|refine pA_add_w (a:=_) (b:=a7) ?_|refine pA_add_w (a:=_) (b:=a16) ?_|refine pA_add_w ?_|(refine pN_lss_s ?_ ?_<;>intro hc<;>try (exfalso;omega))|refine pIf_t ?_|refine pL_ld1 ha hS ?_|(refine pDr_go hS ?_;clear hS;intro w hS)|(refine pN_b1 hS (by rfl) (by decide) ?_;clear hS;intro s w hS)|(refine pN_app hS (by first|rfl|omega|simpa only[go_sem] using True.intro|(simp only[go_sem];omega)) (by first|rfl|omega|simpa only[go_sem] using True.intro|(simp only[go_sem];omega)) (by first|omega|(simp only[go_sem];omega)) ?_;clear hS;intro s w hS)|refine pN_v (hk:=?_)|refine pA_v (hk:=?_)|fail)
   ·rw[←hw,←H.ints_snoc,←hs] at hS ⊢
    exact⟨_,j+1,rfl,rfl,by omega,hlt,hS.to⟩
   ·simp[RowKit.intOf]<;>omega
  ·obtain rfl:j=64:=by omega
   repeat' (first|(refine pN_lss_s ?_ ?_<;>intro hc<;>try (exfalso;omega))|refine pIf_f ?_|fail)
   exact hQ _ _ hS
end
end
section
namespace H
theorem consts_len:(ints consts).length=64:=by rw[ints_len];rfl
theorem consts_at {t:Nat} (h:t<64):(ints consts)[t]? =some ((nth consts t).toNat:Int):=ints_at h
theorem step_wds (st:List W) (blk:List UInt8):step st blk=added (rounds st (wds blk 64) 64) st 8:=by rw[step,words_all]
theorem round_eq2 (s:List W) (k x:W):round s k x=[nth s 7+(rot (nth s 4) (32-6)^^^rot (nth s 4) (32-11)^^^rot (nth s 4) (32-25))+(nth s 4&&& nth s 5^^^ ~~~nth s 4&&& nth s 6)+k+x+((rot (nth s 0) (32-2)^^^rot (nth s 0) (32-13)^^^rot (nth s 0) (32-22))+(nth s 0&&& nth s 1^^^nth s 0&&& nth s 2^^^nth s 1&&& nth s 2)),nth s 0,nth s 1,nth s 2,
  nth s 3+(nth s 7+(rot (nth s 4) (32-6)^^^rot (nth s 4) (32-11)^^^rot (nth s 4) (32-25))+(nth s 4&&& nth s 5^^^ ~~~nth s 4&&& nth s 6)+k+x),nth s 4,nth s 5,nth s 6]:=rfl
end H
attribute [local irreducible] H.wds H.word H.ints H.rounds H.added H.round
section
variable [Pan] {E w W:World} {K Q:Value→World→Prop} {J:Value→Prop} {L M N:List HA} {s sb sk:Sl} {blk:List UInt8} {st:List H.W}
set_option maxRecDepth 8000 in
set_option maxHeartbeats 4000000 in
theorem rStep_ok (h8:st.length=8) (h64:blk.length=64) (hS:Sat E w M) [hrb:Rds cd_uint8 M sb blk] [hrk:Rds cd_uint32 M sk (H.ints H.consts)] (hQ:∀w,Sat E w M→Q (.agg (ws (H.step st blk)).toArray) w):
  Calls zp 225 #[.agg (ws st).toArray,.slice sb.a blk.length sb.c,.slice sk.a (H.ints H.consts).length sk.c] w (retP Q):=by
 refine pithref04_Step.calls ?_
 unfold pithref04_Step.F
 refine pN_bx (z:=ws st) hS rfl ?_
 clear hS
 intro b3 w hS
 refine pN_nz hS ?_
 clear hS
 intro b6 w hS
 refine pcq (f:=232) (rwords_ok (s:=sb) (blk:=blk) hS h64 ?_)
 clear hS
 intro s2 w hS
 have hwl:(H.ints (H.wds blk 64)).length=64:=by rw[H.ints_len,H.wds_len]
 have hwx:∀t,t<64→(H.ints (H.wds blk 64))[t]? =some ((H.nth (H.wds blk 64) t).toNat:Int):=fun t ht=>H.ints_at (by rw[H.wds_len];exact ht)
 have hcl:=H.consts_len
 have hstp:=H.step_wds st blk
 generalize H.wds blk 64=WL at*
 have hst:(ws st).length=8:=by rw[ws_len];exact h8
 refine pN_la (P:=zp) (t:=214) (b:=b3) (o:=⟨214,ws st⟩) hS hst.symm ?_
 refine pN_nz hS ?_
 clear hS
 intro b8 w hS
 refine pN_sa (P:=zp) (t:=214) (b:=b8) (us:=ws st) hS hst.symm (by rw[hst];rfl) (ws_one st) ?_
 clear hS
 intro w hS
 have hS:Sat E w (cel b8 ⟨214,ws (H.rounds st WL 0)⟩::cel b6 ⟨214,ws (List.replicate 8 0)⟩::cel b3 ⟨214,ws st⟩::rows cd_uint32 s2 (H.ints WL)::M):=by
  rw[H.rounds_0,←zeros8]
  dsimp only at hS
  exact hS.to
 refine⟨fun v w=>∃t:Nat,v= .int .i64 t∧t≤64∧Sat E w (cel b8 ⟨214,ws (H.rounds st WL t)⟩::cel b6 ⟨214,ws (List.replicate 8 0)⟩::cel b3 ⟨214,ws st⟩::rows cd_uint32 s2 (H.ints WL)::M),fun v _=>64-(RowKit.intOf v).toNat,⟨0,rfl,by omega,hS⟩,?_⟩
 clear hS
 rintro _ _ w ⟨t,rfl,ht,hS⟩
 have hrl:=H.rounds_len (w:=WL) h8 t
 have hrs:∀i,i<8→(ws (H.rounds st WL t))[i]? =some (wv (H.nth (H.rounds st WL t) i)):=fun i hi=>ws_at (by omega)
 by_cases h64t:t<64
 ·have hkt:=H.consts_at h64t
  have hwt:=hwx t h64t
  have hsucc:=H.rounds_s st WL t
  rw[H.round_eq2] at hsucc
  generalize H.rounds st WL t=R at*
  repeat' (first|refine pA_ai0 0 rfl (by omega) ?_|refine pA_ai0 1 rfl (by omega) ?_|refine pA_ai0 2 rfl (by omega) ?_|refine pA_ai0 4 rfl (by omega) ?_|refine pA_ai0 5 rfl (by omega) ?_|refine pA_ai0 6 rfl (by omega) ?_|refine pA_ai0 7 rfl (by omega) ?_|refine pN_ai0 0 rfl (by omega) ?_|refine pN_ai0 1 rfl (by omega) ?_|refine pN_ai0 2 rfl (by omega) ?_|refine pN_ai0 3 rfl (by omega) ?_|refine pN_ai0 4 rfl (by omega) ?_|refine pN_ai0 5 rfl (by omega) ?_|refine pN_ai0 6 rfl (by omega) ?_|refine pL_l hS (hrs _ (by omega)) ?_|refine pN_l hS (hrs _ (by omega)) ?_|refine pA_ixk (C:=cd_uint32) (s:=sk) (l:=H.ints H.consts) hS t (by omega) rfl hkt fun ad ha hel=>?_|refine pA_ixk (C:=cd_uint32) (s:=s2) (l:=H.ints WL) hS t (by omega) rfl hwt fun ad ha hel=>?_|(refine pcq (f:=233) (rthree_ok (x:=H.nth R 4) (a:=6) (b:=11) (c:=25) (by decide) (by decide) (by decide) hS ?_);clear hS;intro w hS)|(refine pcq (f:=233) (rthree_ok (x:=H.nth R 0) (a:=2) (b:=13) (c:=22) (by decide) (by decide) (by decide) hS ?_);clear hS;intro w hS)|refine pcq (f:=234) (rchoose_ok (a:=H.nth R 4) (b:=H.nth R 5) (c:=H.nth R 6) ?_)|refine pcq (f:=235) (rmost_ok (a:=H.nth R 0) (b:=H.nth R 1) (c:=H.nth R 2) ?_)|refine And.intro ?_ ?_|exact trivial|exact run_l hS (hrs _ (by omega))|exact run_ld1 (by assumption) hS|refine pA_add_w (b:=H.nth H.consts t) ?_|refine pA_add_w (b:=H.nth WL t) ?_|refine pA_add_w ?_|refine pN_add_w ?_|(refine pN_lss_s ?_ ?_<;>intro hc<;>try (exfalso;omega))|refine pIf_t ?_|refine pL_ld1 ha hS ?_|(refine pDr_go hS ?_;clear hS;intro w hS)|fail)
  refine pN_b8 ?_
  rw[←hsucc]
  have hsl:(ws (H.rounds st WL (t+1))).length=8:=by rw[ws_len];exact H.rounds_len h8 (t+1)
  refine pN_sa (P:=zp) (t:=214) (b:=b8) (us:=ws (H.rounds st WL (t+1))) hS hsl.symm (by rw[hsl];show 8=(ws R).length;rw[ws_len,hrl]) (ws_one _) ?_
  clear hS
  intro w hS
  repeat' (first|refine pN_v (hk:=?_)|fail)
  exact⟨⟨t+1,rfl,by omega,hS.to⟩,by simp[RowKit.intOf]<;>omega⟩
 ·obtain rfl:t=64:=by omega
  clear hrs
  generalize hRd:H.rounds st WL 64=R at*
  repeat' (first|(refine pN_lss_s ?_ ?_<;>intro hc<;>try (exfalso;omega))|refine pIf_f ?_|fail)
  have hS:Sat E w (cel b8 ⟨214,ws (H.added R st 0)⟩::cel b6 ⟨214,ws (List.replicate 8 0)⟩::cel b3 ⟨214,ws st⟩::rows cd_uint32 s2 (H.ints WL)::M):=by
   rw[H.added_0];exact hS
  refine⟨fun v w=>∃t:Nat,v= .int .i64 t∧t≤8∧Sat E w (cel b8 ⟨214,ws (H.added R st t)⟩::cel b6 ⟨214,ws (List.replicate 8 0)⟩::cel b3 ⟨214,ws st⟩::rows cd_uint32 s2 (H.ints WL)::M),fun v _=>8-(RowKit.intOf v).toNat,⟨0,rfl,by omega,hS⟩,?_⟩
  clear hS
  rintro _ _ w ⟨t,rfl,ht,hS⟩
  have hal:=H.added_len (s:=R) (o:=st) t
  rw[hrl] at hal
  have has:∀i,i<8→(ws (H.added R st t))[i]? =some (wv (H.nth (H.added R st t) i)):=fun i hi=>ws_at (by omega)
  have hss:∀i,i<8→(ws st)[i]? =some (wv (H.nth st i)):=fun i hi=>ws_at (by omega)
  by_cases h8t:t<8
  ·have hsucc:=H.added_s R st t
   have hset:=ws_set (H.added R st t) t (H.nth (H.added R st t) t+H.nth st t)
   rw[←hsucc] at hset
   have hlt:t<(ws (H.added R st t)).length:=by rw[ws_len];omega
   generalize H.added R st t=D at*
   repeat' (first|refine pA_ai0 t (by omega) (by omega) ?_|refine pL_l hS (has _ (by omega)) ?_|refine pL_l hS (hss _ (by omega)) ?_|refine pA_add_w ?_|(refine pN_s hS hlt (by rfl) ?_;clear hS;intro w hS)|(refine pN_lss_s ?_ ?_<;>intro hc<;>try (exfalso;omega))|refine pIf_t ?_|(refine pDr_go hS ?_;clear hS;intro w hS)|refine⟨trivial,?_⟩|refine pN_v (hk:=?_)|fail)
   dsimp only at hS
   rw[hset] at hS
   first
    |exact⟨⟨t+1,rfl,by omega,hS⟩,by simp[RowKit.intOf]<;>omega⟩
    |exact⟨trivial,⟨t+1,rfl,by omega,hS⟩,by simp[RowKit.intOf]<;>omega⟩
  ·obtain rfl:t=8:=by omega
   rw[←hstp] at hS
   have hl8:=H.step_len h8 blk
   generalize H.step st blk=D at*
   have hDl:(ws D).length=8:=by rw[ws_len];exact hl8
   repeat' (first|(refine pN_lss_s ?_ ?_<;>intro hc<;>try (exfalso;omega))|refine pIf_f ?_|fail)
   refine pN_la (P:=zp) (t:=214) (b:=b8) (o:=⟨214,ws D⟩) hS hDl.symm ?_
   refine pN_sa (P:=zp) (t:=214) (b:=b6) (us:=ws D) hS hDl.symm (by rw[hDl];rfl) (ws_one _) ?_
   clear hS
   intro w hS
   refine pL_ra (P:=zp) (t:=214) (b:=b6) (o:=⟨214,ws D⟩) hS hDl.symm ?_
   exact hQ _ hS.to
end
end
section
namespace H
theorem byteOf_mod (y:Nat):byteOf ((y%256:Nat):Int)=byteOf (y:Int):=by
 unfold byteOf
 congr 2
 omega
theorem bes_rev {x i:Nat} (h:i<8):(bes x 8).reverse[i]? =some (byteOf ((x / 256^i:Nat):Int)):=by
 rw[List.getElem?_reverse (by rw[bes_len];exact h),bes_len,bes_get _ _ _ (by omega)]
 congr 5
 omega
end H
attribute [local irreducible] H.pad H.bes
section
variable [Pan] {E w W:World} {K Q:Value→World→Prop} {J:Value→Prop} {L M N:List HA} {s:Sl}
set_option maxHeartbeats 2000000 in
theorem rPad_ok {n:Nat} (hn:n≤1152921504606846976) (hS:Sat E w M) (hQ:∀s w,Sat E w (rows cd_uint8 s (H.pad n)::M)→Q (.slice s.a (H.pad n).length s.c) w):
  Calls zp 223 #[.int .i64 n] w (retP Q):=by
 refine pithref04_Pad.calls ?_
 unfold pithref04_Pad.F
 obtain⟨Z,hZ⟩:∃Z,Z=(119-n%64)%64:=⟨_,rfl⟩
 have hx:n*8%18446744073709551616=n*8:=Nat.mod_eq_of_lt (by omega)
 have hp:H.pad n=(128::List.replicate Z 0)++H.bes (n*8) 8:=by rw[H.pad_eq,hx,hZ]
 have hBl:(H.bes (n*8) 8).length=8:=H.bes_len _ 8
 have hrev:=fun i (h:i<8)=>H.bes_rev (x:=n*8) h
 generalize H.bes (n*8) 8=B at*
 repeat' (first|(refine pN_b1 (C:=cd_uint8) (x:=128) hS rfl (by decide) ?_;clear hS;intro s5 w hS)|(refine pN_lss_s ?_ ?_<;>intro hc<;>try (exfalso;omega))|refine pIf_f ?_|fail)
 refine⟨fun v w=>∃(s:Sl) (z:Nat),v= .slice s.a (128::List.replicate z (0:UInt8)).length s.c∧z≤Z∧Sat E w (rows cd_uint8 s (128::List.replicate z 0)::M),fun v _=>100-(match v with| .slice _ n _=>n|_=>0),⟨_,0,rfl,by omega,hS⟩,?_⟩
 clear hS
 rintro _ _ w ⟨s,z,rfl,hz,hS⟩
 have hzl:(128::List.replicate z (0:UInt8)).length=z+1:=by rw[List.length_cons,List.length_replicate]
 have hsn:(128::List.replicate z (0:UInt8))++[0]=128::List.replicate (z+1) 0:=by rw[List.cons_append,List.replicate_succ']
 by_cases hlt:z<Z
 ·generalize hA:(128::List.replicate z (0:UInt8))=A at*
  repeat' (first|(refine pN_b1 (C:=cd_uint8) (x:=0) hS rfl (by decide) ?_;clear hS;intro s5 w hS)|(refine pN_app (C:=cd_uint8) (l:=A) hS rfl rfl (by rw[List.length_singleton];omega) ?_;clear hS;intro s6 w hS)|(refine pN_neq_s ?_ ?_<;>intro hc<;>try (exfalso;first|omega|exact gone hc|exact gon2 hc))|refine pIf_t ?_|refine pN_v (hk:=?_)|fail)
  rw[hsn] at hS ⊢
  refine⟨⟨s6,z+1,rfl,by omega,hS.to⟩,?_⟩
  show 100-(128::List.replicate (z+1) (0:UInt8)).length<100-A.length
  rw[List.length_cons,List.length_replicate]
  omega
 ·obtain rfl:z=Z:=by omega
  generalize hA:(128::List.replicate z (0:UInt8))=A at*
  repeat' (first|(refine pN_neq_s ?_ ?_<;>intro hc<;>try (exfalso;first|omega|exact gone hc|exact gon2 hc))|refine pIf_f ?_|refine pN_v (hk:=?_)|fail)
  have hrl:B.reverse.length=8:=by rw[List.length_reverse];exact hBl
  have h8:Sat E w (rows cd_uint8 ⟨none,0⟩ (B.reverse.take 0)::rows cd_uint8 s A::M):=by rw[List.take_zero];exact hS.nil cd_uint8.e cd_uint8.size
  refine⟨fun bits low v w=>∃(sl:Sl) (i:Nat),bits= .int .u64 ((n*8 / 256^i:Nat):Int)∧low= .slice sl.a (B.reverse.take i).length sl.c∧v= .int .i64 i∧i≤8∧Sat E w (rows cd_uint8 sl (B.reverse.take i)::rows cd_uint8 s A::M),fun _ _ v _=>8-(RowKit.intOf v).toNat,⟨⟨none,0⟩,0,by rw[Nat.pow_zero,Nat.div_one,Int.natCast_mul];rfl,rfl,rfl,by omega,h8⟩,?_⟩
  clear hS h8
  rintro _ _ _ _ w ⟨sl,i,rfl,rfl,rfl,hi,hS⟩
  by_cases hli:i<8
  ·have hri:=hrev i hli
   have htk:B.reverse.take (i+1)=B.reverse.take i++[byteOf ((n*8 / 256^i:Nat):Int)]:=by rw[List.take_add_one,hri];rfl
   have hdv:n*8 / 256^(i+1)=n*8 / 256^i / 256:=by rw[Nat.pow_succ,Nat.div_div_eq_div_mul]
   have hyb:n*8 / 256^i≤n*8:=Nat.div_le_self _ _
   have hlt2:(B.reverse.take i).length=i:=by rw[List.length_take];omega
   generalize n*8 / 256^i=y at*
   generalize hT:B.reverse.take i=T at*
   repeat' (first|(refine pN_app (C:=cd_uint8) (l:=T) hS rfl rfl (by rw[List.length_singleton];omega) ?_;clear hS;intro s6 w hS)|(refine pN_lss_s ?_ ?_<;>intro hc<;>try (exfalso;omega))|refine pIf_t ?_|refine pN_tob ?_|(refine pN_b1 hS (by rfl) (by decide) ?_;clear hS;intro s w hS)|refine pN_v (hk:=?_)|fail)
   have hbm:byteOf ((y:Int)%256)=byteOf (y:Int):=by rw[show(y:Int)%256=((y%256:Nat):Int) by omega];exact H.byteOf_mod y
   rw[hbm,←htk] at hS ⊢
   exact⟨⟨s6,i+1,by rw[hdv,Int.natCast_ediv];rfl,rfl,rfl,hli,hS.to⟩,by simp[RowKit.intOf]<;>omega⟩
  ·obtain rfl:i=8:=by omega
   have e8:B.reverse.take 8=B.reverse:=List.take_of_length_le (by omega)
   rw[e8] at hS ⊢
   repeat' (first|(refine pN_lss_s ?_ ?_<;>intro hc<;>try (exfalso;omega))|refine pIf_f ?_|fail)
   have hS:Sat E w (rows cd_uint8 s (A++B.take 0)::rows cd_uint8 sl B.reverse::M):=by rw[List.take_zero,List.append_nil];exact hS.to
   refine⟨fun v x w=>∃(s:Sl) (k:Nat),v= .slice s.a (A++B.take k).length s.c∧x= .int .i64 (7-(k:Int))∧k≤8∧Sat E w (rows cd_uint8 s (A++B.take k)::rows cd_uint8 sl B.reverse::M),fun _ x _=>(RowKit.intOf x+1).toNat,⟨s,0,by rw[List.take_zero,List.append_nil],rfl,by omega,hS⟩,?_⟩
   clear hS
   rintro _ _ _ w ⟨s,k,rfl,rfl,hk,hS⟩
   by_cases hlk:k<8
   ·obtain⟨b,hb⟩:∃b,B[k]? =some b:=⟨B[k]'(by omega),List.getElem?_eq_getElem _⟩
    have hlow:B.reverse[7-k]? =some b:=by
     rw[List.getElem?_reverse (by omega),hBl,show 8-1-(7-k)=k by omega]
     exact hb
    have htk:A++B.take (k+1)=(A++B.take k)++[b]:=by rw[List.take_add_one,hb,List.append_assoc];rfl
    have hll:(A++B.take k).length≤100:=by rw[List.length_append,List.length_take];omega
    generalize A++B.take k=D at*
    repeat' (first|refine pN_ixk (C:=cd_uint8) (s:=sl) (l:=B.reverse) hS (7-k) (by omega) rfl hlow fun ad ha hel=>?_|(refine pN_app (C:=cd_uint8) (l:=D) hS rfl rfl (by rw[List.length_singleton];omega) ?_;clear hS;intro s6 w hS)|(refine pN_geq_s ?_ ?_<;>intro hc<;>try (exfalso;omega))|refine pIf_t ?_|refine pN_ld1 ha hS ?_|(refine pN_b1 hS (by rfl) (by decide) ?_;clear hS;intro s w hS)|refine pN_v (hk:=?_)|fail)
    rw[←htk] at hS ⊢
    refine⟨⟨s6,k+1,rfl,?_,hlk,hS.to⟩,by simp[RowKit.intOf]<;>omega⟩
    congr 1
    omega
   ·obtain rfl:k=8:=by omega
    have e9:A++B.take 8=H.pad n:=by rw[hp,List.take_of_length_le (by omega)]
    rw[e9] at hS ⊢
    repeat' (first|(refine pN_geq_s ?_ ?_<;>intro hc<;>try (exfalso;omega))|refine pIf_f ?_|fail)
    exact hQ _ _ hS.to
end
end
end
section
namespace H
def eats (s:List W) (l:List UInt8):Nat→List W
 |0=>s
 |k+1=>step (eats s l k) ((l.drop (64*k)).take 64)
theorem eats_0 (s:List W) (l:List UInt8):eats s l 0=s:=rfl
theorem eats_s (s:List W) (l:List UInt8) (k:Nat):eats s l (k+1)=step (eats s l k) ((l.drop (64*k)).take 64):=rfl
theorem eats_len {s:List W} {l:List UInt8} (h:s.length=8):∀k,(eats s l k).length=8
 |0=>h
 |k+1=>step_len (eats_len h k) _
theorem part_set {c b:List UInt8} {j:Nat} {x:UInt8} (hx:c[j]? =some x) (hb:j<b.length):(c.take j++b.drop j).set j x=c.take (j+1)++b.drop (j+1):=by
 have hj:=(List.getElem?_eq_some_iff.1 hx).1
 have hl:(c.take j).length=j:=by rw[List.length_take];omega
 rw[List.set_append_right _ _ (by omega),hl,Nat.sub_self,List.drop_eq_getElem_cons hb,List.set_cons_zero,List.take_add_one,hx,List.append_assoc]
 rfl
theorem write_part {h:T} {c:List UInt8} (h0:h.n%64=0) (hb:h.blk.length=64) (hc:c.length=64):∀j,j≤63→h.write (c.take j)=⟨h.st,c.take j++h.blk.drop j,h.n+j⟩
 |0,_=>by rw[List.take_zero,write_nil,List.drop_zero,List.nil_append];rfl
 |j+1,hj=>by
  have ih:=write_part h0 hb hc j (by omega)
  obtain⟨x,hx⟩:∃x,c[j]? =some x:=⟨c[j]'(by omega),List.getElem?_eq_getElem _⟩
  have hs:=part_set hx (b:=h.blk) (by omega)
  rw[List.take_add_one,hx,write_app,ih,write_one,put_lo (by show ¬(h.n+j)%64=63;omega)]
  rw[List.take_add_one,hx] at hs
  have hm:(h.n+j)%64=j:=by omega
  show(⟨h.st,(c.take j++h.blk.drop j).set ((h.n+j)%64) x,h.n+j+1⟩:T)=_
  rw[hm,hs]
  rfl
theorem write_blk {h:T} {c:List UInt8} (h0:h.n%64=0) (hb:h.blk.length=64) (hc:c.length=64):h.write c=⟨step h.st c,c,h.n+64⟩:=by
 have hp:=write_part h0 hb hc 63 (Nat.le_refl _)
 obtain⟨x,hx⟩:∃x,c[63]? =some x:=⟨c[63]'(by omega),List.getElem?_eq_getElem _⟩
 have he:c=c.take 63++[x]:=by
  have h1:c.take (63+1)=c:=List.take_of_length_le (by omega)
  rw[List.take_add_one,hx] at h1
  exact h1.symm
 have hs:=part_set hx (b:=h.blk) (by omega)
 have hd:h.blk.drop (63+1)=[]:=List.drop_of_length_le (by omega)
 have ht:c.take (63+1)=c:=List.take_of_length_le (by omega)
 rw[hd,List.append_nil,ht] at hs
 have h1:h.write c=(h.write (c.take 63)).write (some x).toList:=by rw[←write_app];exact congrArg h.write he
 rw[h1,hp,write_one,put_63 (by show(h.n+63)%64=63;omega)]
 show(⟨step h.st ((c.take 63++h.blk.drop 63).set 63 x),(c.take 63++h.blk.drop 63).set 63 x,h.n+63+1⟩:T)=_
 rw[hs]
theorem write_eats {l:List UInt8}:∀k,64*k≤l.length→∃b,b.length=64∧T.new.write (l.take (64*k))=⟨eats first l k,b,64*k⟩
 |0,_=>⟨T.new.blk,new_blk,by rw[Nat.mul_zero,List.take_zero,write_nil];rfl⟩
 |k+1,h=>by
  obtain⟨b,hb,he⟩:=write_eats (l:=l) k (by omega)
  have hc:((l.drop (64*k)).take 64).length=64:=by rw[List.length_take,List.length_drop];omega
  refine⟨(l.drop (64*k)).take 64,hc,?_⟩
  rw[show 64*(k+1)=64*k+64 by omega,List.take_add,write_app,he,write_blk (by show(64*k)%64=0;omega) hb hc]
  rfl
theorem pad_len (n:Nat):(pad n).length=9+(119-n%64)%64:=by
 rw[pad_eq,List.length_append,List.length_cons,List.length_replicate,bes_len];omega
theorem raw_eats (b:List UInt8) {k:Nat} (hk:64*k=(b++pad b.length).length):raw b=outs (eats first (b++pad b.length) k):=by
 have hn:=(write_ok b new_st new_blk).2.2
 have hn0:T.new.n+b.length=b.length:=by show 0+b.length=_;omega
 obtain⟨x,_,he⟩:=write_eats (l:=b++pad b.length) k (by omega)
 rw[hk,List.take_length,write_app] at he
 unfold raw T.sum
 rw[hn,hn0,he]
theorem blocks (b:List UInt8):∃k,64*k=(b++pad b.length).length:=by
 refine⟨(b++pad b.length).length / 64,?_⟩
 rw[List.length_append,pad_len]
 omega
end H
end
section
attribute [local irreducible] oMv oV oU oCall oCallV oBi oBin oUn oLoad oStore oNil oFld oField oIdx oIndex oPick oAlloc oBox oBuild oBs oConv oMk oSl oExt oFn oIface oMap oLook oMapUp oRange oNext oEntry oInv oAssert oPanic oRes pN pA pL pDr pIf gA pGd Calls
section
attribute [local irreducible] H.pad H.bes H.eats H.step H.raw
section
variable [Pan] {E w W:World} {K Q:Value→World→Prop} {J:Value→Prop} {L LL M N:List HA} {s sb:Sl} {b:List UInt8} {hb:Nat}
abbrev rHC (sb:Sl) (n:Nat):List Value:=ws H.first++[.int .i64 0,.slice sb.a n sb.c]
theorem run_brHash (w:World):(oBuild 300 [(0,.agg (ws H.first).toArray)]).run zp w= .ok (.value (.agg (ws H.first++[Value.int .i64 0,Value.slice none 0 0]).toArray)) w:=by kernel_rfl
theorem pN_brHash (hk:K (.agg (ws H.first++[Value.int .i64 0,Value.slice none 0 0]).toArray) w):pN zp (oBuild 300 [(0,.agg (ws H.first).toArray)]) w K:=by rw[pN_def,run_brHash,rN_value];exact hk
set_option maxRecDepth 8000 in
set_option maxHeartbeats 4000000 in
theorem rHSum_ok (hS:Sat E w LL) [hf:Fnd (cel hb) LL ⟨300,rHC sb b.length⟩ M] [hr:Rds cd_uint8 M sb b] (hbl:b.length≤1099511627776) (hQ:∀w,Sat E w (cel hb ⟨300,rHC sb b.length⟩::M)→Q (.agg (bvs (H.raw b)).toArray) w):
  Calls zp 215 #[.pointer (some ⟨hb,0,none⟩)] w (retP Q):=by
 refine pithref04_Hash_Sum.calls ?_
 unfold pithref04_Hash_Sum.F
 have hS1:=hS.fd (cel hb)
 clear hS hf
 have hS:=hS1
 clear hS1
 obtain⟨k,hk⟩:=H.blocks b
 have hraw:=H.raw_eats b hk
 have hpl:=H.pad_len b.length
 have hall:(b++H.pad b.length).length≤1099511629000:=by rw[List.length_append];omega
 repeat' (first|(refine pN_app0 (C:=cd_uint8) (s2:=sb) (m:=b) hS rfl (by omega) ?_;clear hS;intro s1 w hS)|(rw[Int.zero_add];refine pcq (f:=223) (rPad_ok (n:=b.length) (by omega) hS ?_);clear hS;intro s2 w hS)|(refine pN_app (C:=cd_uint8) (l:=b) (m:=H.pad b.length) hS rfl rfl (by omega) ?_;clear hS;intro s3 w hS)|(refine pcq (f:=224) (rconst_ok hS ?_);clear hS;intro s4 w hS)|refine pN_la_at (n:=8) hS (ws H.first) rfl rfl ?_|(refine pN_sa (P:=zp) (t:=214) (us:=ws H.first) hS rfl rfl (ws_one _) ?_;clear hS;intro w hS)|refine pN_l hS (by first|rfl|assumption) ?_|refine pL_l hS (by first|rfl|assumption) ?_|(refine pDr_go hS ?_;clear hS;intro w hS)|(refine pN_nz hS ?_;clear hS;intro a w hS)|refine⟨trivial,?_⟩|refine pN_v (hk:=?_)|refine pA_v (hk:=?_)|fail)
 rename Nat=>b5
 rw[zeros32] at hS
 generalize b++H.pad b.length=A at*
 refine⟨fun v w=>∃j:Nat,v= .int .i64 ((64*j:Nat):Int)∧j≤k∧Sat E w (cel b5 ⟨214,ws (H.eats H.first A j)⟩::rows cd_uint32 s4 (H.ints H.consts)::rows cd_uint8 s3 A::cel a ⟨57,bvs (List.replicate 32 0)⟩::cel hb ⟨300,rHC sb b.length⟩::M),fun v _=>A.length-(RowKit.intOf v).toNat,⟨0,rfl,by omega,by rw[H.eats_0];dsimp only at hS;exact hS.to⟩,?_⟩
 clear hS
 rintro _ _ w ⟨j,rfl,hj,hS⟩
 have heL:=H.eats_len (l:=A) (show H.first.length=8 from rfl) j
 have hws:(ws (H.eats H.first A j)).length=8:=by rw[ws_len];exact heL
 by_cases hlt:j<k
 ·have hsl:((A.drop (64*j)).take 64).length=64:=by rw[List.length_take,List.length_drop];omega
  have hes:=H.eats_s H.first A j
  have hes8:=H.eats_len (l:=A) (show H.first.length=8 from rfl) (j+1)
  generalize H.eats H.first A j=R at*
  repeat' (first|refine pL_la_at (n:=8) hS (ws R) (by rw[List.drop_zero];exact List.take_of_length_le (by rw[hws];exact Nat.le_refl _)) hws.symm ?_|(refine pA_sl2w (C:=cd_uint8) (s:=s3) (l:=A) hS (64*j) (64*j+64) (by omega) (by omega) rfl (by omega) (by omega) ?_;rw[show 64*j+64-64*j=64 by omega];intro hp)|(refine pN_lss_s ?_ ?_<;>intro hc<;>try (exfalso;omega))|refine pIf_t ?_|(refine pDr_go hS ?_;clear hS;intro w hS)|refine pN_v (hk:=?_)|refine pA_v (hk:=?_)|fail)
  haveI:=hp
  have hst:=fun(Q:Value→World→Prop)=>rStep_ok (Q:=Q) (st:=R) (blk:=(A.drop (64*j)).take 64) (sb:=s3.sub (64*j) cd_uint8.size) (sk:=s4) heL hsl hS
  rw[hsl] at hst
  refine pcq (f:=225) (hst _ ?_)
  clear hS hst this hp
  intro w hS
  rw[←hes]
  have hws1:(ws (H.eats H.first A (j+1))).length=8:=by rw[ws_len];exact hes8
  refine⟨trivial,?_⟩
  refine pN_sa (P:=zp) (t:=214) (b:=b5) (us:=ws (H.eats H.first A (j+1))) hS hws1.symm (by rw[hws1];exact hws.symm) (ws_one _) ?_
  clear hS
  intro w hS
  refine⟨trivial,?_⟩
  repeat' (first|refine pN_v (hk:=?_)|fail)
  exact⟨⟨j+1,by congr 1,hlt,hS.to⟩,by simp[RowKit.intOf]<;>omega⟩
 ·obtain rfl:j=k:=by omega
  rw[hraw] at hQ
  generalize H.eats H.first A j=G at*
  have hOg:∀i k,i<8→k<4→(H.outs G)[4*i+k]? =some (byteOf (((H.nth G i).toNat / 256^(3-k):Nat):Int)):=fun i k hi hk=>H.outs_get G i k hk (by omega)
  have hOl:(H.outs G).length=32:=by rw[H.outs_len,heL]
  have hgs:∀i,i<8→(ws G)[i]? =some (wv (H.nth G i)):=fun i hi=>ws_at (by omega)
  generalize hOO:H.outs G=O at*
  have h00:List.replicate 32 (0:UInt8)=H.sofar [] O 0:=by rw[H.sofar,hOl];rfl
  have h0e:(List.replicate 32 (0:UInt8)).length=32:=by rw[List.length_replicate]
  have hSl:∀j,j≤32→(bvs (H.sofar [] O j)).length=32:=fun j hj=>by rw[bvs_length,H.sofar_len _ _ (by omega),hOl];rfl
  have hfin:H.sofar [] O 32=O:=by rw[←hOl,H.sofar_all];rfl
  repeat' (first|(refine pN_lss_s ?_ ?_<;>intro hc<;>try (exfalso;omega))|refine pIf_f ?_|(refine pN_nz hS ?_;clear hS;intro a w hS)|refine pN_v (hk:=?_)|fail)
  rename Nat=>a7
  rw[zeros32] at hS
  refine⟨fun v w=>∃i:Nat,v= .int .i64 i∧i≤32∧Sat E w (cel a7 ⟨57,bvs (H.sofar [] O i)⟩::cel b5 ⟨214,ws G⟩::rows cd_uint32 s4 (H.ints H.consts)::rows cd_uint8 s3 A::cel a ⟨57,bvs (List.replicate 32 0)⟩::cel hb ⟨300,rHC sb b.length⟩::M),fun v _=>32-(RowKit.intOf v).toNat,⟨0,rfl,by omega,by rw[←h00];exact hS⟩,?_⟩
  clear hS
  rintro _ _ w ⟨i,rfl,hi,hS⟩
  by_cases hi32:i<32
  ·have h48:i / 4<8:=by omega
   have hset:=H.sofar_set [] (hOg (i / 4) (i%4) h48 (by omega))
   rw[List.length_nil,Nat.zero_add,show 4*(i / 4)+i%4=i by omega] at hset
   have hlt:i<(bvs (H.sofar [] O i)).length:=by rw[hSl _ (by omega)];omega
   have hbs:=bvs_set (H.sofar [] O i) i (byteOf (((H.nth G (i / 4)).toNat / 256^(3-i%4):Nat):Int))
   rw[hset] at hbs
   have hpw:2^(24-8*(i%4))=256^(3-i%4):=by rw[show 24-8*(i%4)=8*(3-i%4) by omega,Nat.pow_mul]
   have hp0:0<256^(3-i%4):=Nat.pow_pos (by decide)
   have hgx:=(H.nth G (i / 4)).isLt
   have hgi:=hgs (i / 4) h48
   have hbm:=H.byteOf_mod ((H.nth G (i / 4)).toNat / 256^(3-i%4))
   generalize H.sofar [] O i=D at*
   repeat' (first|refine pA_ai0 (i / 4) (by omega) (by omega) ?_|refine pL_l hS hgi ?_|(rw[show(24-8*((i:Int)%4))=((24-8*(i%4):Nat):Int) by omega];refine pcq (f:=226) (rpower_ok (n:=24-8*(i%4)) (by omega) ?_);rw[hpw])|refine And.intro ?_ ?_|exact trivial|exact run_l hS hgi|refine pA_quoU (a:=(H.nth G (i / 4)).toNat) (b:=256^(3-i%4)) hp0 hgx ?_|refine pA_remU (a:=(H.nth G (i / 4)).toNat / 256^(3-i%4)) (b:=256) (by decide) ?_|refine pA_ai0 i (by omega) (by omega) ?_|(refine pN_s hS hlt (by rfl) ?_;clear hS;intro w hS)|(refine pN_lss_s ?_ ?_<;>intro hc<;>try (exfalso;omega))|refine pIf_t ?_|refine pL_tob ?_|(refine pDr_go hS ?_;clear hS;intro w hS)|refine pN_v (hk:=?_)|refine pA_v (hk:=?_)|fail)
   ·dsimp only at hS
    rw[hbm,hbs] at hS
    exact⟨i+1,rfl,hi32,hS⟩
   ·simp[RowKit.intOf]<;>omega
  ·obtain rfl:i=32:=by omega
   have hO32:(bvs O).length=32:=by rw[bvs_length,hOl]
   have h32:(bvs (List.replicate 32 (0:UInt8))).length=32:=by rw[bvs_length,h0e]
   rw[hfin] at hS
   repeat' (first|(refine pN_lss_s ?_ ?_<;>intro hc<;>try (exfalso;omega))|refine pIf_f ?_|fail)
   refine pN_la (P:=zp) (t:=57) (b:=a7) (o:=⟨57,bvs O⟩) hS hO32.symm ?_
   refine pN_sa (P:=zp) (t:=57) (b:=a) (us:=bvs O) hS hO32.symm (by rw[hO32];exact h32.symm) (bvs_all _) ?_
   clear hS
   intro w hS
   refine pL_ra (P:=zp) (t:=57) (b:=a) (o:=⟨57,bvs O⟩) hS hO32.symm ?_
   exact hQ _ hS.to
theorem rNew_ok (hS:Sat E w M) (hQ:∀hb w,Sat E w (cel hb ⟨300,ws H.first++[.int .i64 0,.slice none 0 0]⟩::M)→Q (.pointer (some ⟨hb,0,none⟩)) w):
  Calls zp 214 #[] w (retP Q):=by
 refine pithref04_New.calls ?_
 unfold pithref04_New.F
 repeat' (first|(refine pcq (f:=222) (rfirst_ok hS ?_);clear hS;intro w hS)|fail)
 refine pN_brHash ?_
 refine pN_bx (z:=ws H.first++[.int .i64 0,.slice none 0 0]) hS rfl ?_
 clear hS
 intro hb w hS
 exact hQ hb w hS
theorem hash_set (v:Value):(ws H.first++[Value.int .i64 0,Value.slice none 0 0]).set 9 v=ws H.first++[Value.int .i64 0,v]:=by
 rw[List.set_append_right _ _ (by rw[ws_len];decide),ws_len]
 rfl
theorem rSum_ok (hS:Sat E w M) [hr:Rds cd_uint8 M sb b] (hbl:b.length≤1099511627776) (hQ:∀w,Sat E w M→Q (.agg (bvs (H.raw b)).toArray) w):
  Calls zp 198 #[.slice sb.a b.length sb.c] w (retP Q):=by
 refine pithref04_Sum.calls ?_
 unfold pithref04_Sum.F
 repeat' (first|(refine pcq (f:=214) (rNew_ok hS ?_);clear hS;intro hb w hS)|(refine pN_s hS (by first|exact Nat.le_of_ble_eq_true rfl|assumption) (by rfl) ?_;clear hS;intro w hS;try simp only[List.set_cons_zero,List.set_cons_succ] at hS)|(refine pN_nz hS ?_;clear hS;intro a w hS)|refine pN_v (hk:=?_)|fail)
 rw[hash_set,zeros32] at hS
 refine pcq (f:=215) (rHSum_ok (sb:=sb) (b:=b) hS hbl ?_)
 clear hS
 intro w hS
 have hl:(bvs (H.raw b)).length=32:=by rw[bvs_length];exact H.raw_len b
 have h32:(bvs (List.replicate 32 (0:UInt8))).length=32:=by rw[bvs_length,List.length_replicate]
 refine pN_sa (P:=zp) (t:=57) (us:=bvs (H.raw b)) hS hl.symm (by rw[hl];exact h32.symm) (bvs_all _) ?_
 clear hS
 intro w hS
 refine pL_ra (P:=zp) (t:=57) (o:=⟨57,bvs (H.raw b)⟩) hS hl.symm ?_
 exact hQ _ hS.to
end
end
end
section
variable [Pan] {x0 x1 x2:Value} {w:World} {Q:QQ}
set_option maxRecDepth 100000
def pithref35_New.F (x0 x1:Value) (w:World) (Q:QQ):Prop:=
 pN zp (oBox 25 x0) w fun x2 w1=>
 pN zp (oBox 27 x1) w1 fun x3 w2=>
 pN zp (oLoad 25 x2) w2 fun x6 w3=>
 pN zp (oCall 108 [x6]) w3 fun x7 w4=>
 pN zp (oBin .neq 3 (.tmp 7) (.const (.int .i64 0)) x7 (.int .i64 0)) w4 fun x8 w5=>
 pGd (gB x8 false) (pN zp (oLoad 27 x3) w5) w5 fun x10 w6=>
 pGd (gB x8 false) (pN zp (oCall 109 [x10]) w6) w6 fun x11 w7=>
 pGd (gB x8 false) (pN zp (oBin .neq 3 (.tmp 11) (.const (.int .i64 0)) x11 (.int .i64 0)) w7) w7 fun x12 w8=>
 pN zp (oPick x8 (.bool true) x12) w8 fun x13 w9=>
 pIf x13
 (Q (.tuple #[(.pointer none),(.int .i64 6)]) w9)
 (pN zp (oLoad 25 x2) w9 fun x14 w10=>
 pN zp (oLoad 27 x3) w10 fun x15 w11=>
 pN zp (oBuild 189 [(0,x14),(1,x15)]) w11 fun x16 w12=>
 pN zp (oBox 189 x16) w12 fun x17 w13=>
 Q (.tuple #[x17,(.int .i64 0)]) w13)
theorem pithref35_New.calls (h:pithref35_New.F x0 x1 w Q):Calls zp 78 #[x0,x1] w (retP Q):=cl .z [x0,x1] Tryz.func78 h
def pithref35_Legal.F (x0:Value) (w:World) (Q:QQ):Prop:=
 pN zp (oBi .len #[9] 3 [false] [x0]) w fun x4 w1=>
 pN zp (oBin .gtr 3 (.tmp 4) (.const (.int .i64 254)) x4 (.int .i64 254)) w1 fun x5 w2=>
 pIf x5
 (Q (.int .i64 8) w2)
 (Q (.int .i64 0) w2)
theorem pithref35_Legal.calls (h:pithref35_Legal.F x0 w Q):Calls zp 110 #[x0] w (retP Q):=cl .z [x0] Tryz.func110 h
def pithref35_Depot_Put.H:Hints:={ cut:=fun _=>none,loop:=fun|5=>([7,8,9],2199022732160)|_=>([],0),order:=fun _=>[] }
def pithref35_Depot_Put.F (x0 x1:Value) (w:World) (Q:QQ):Prop:=
 pN zp (oNil x0) w fun x13 w1=>
 pN zp (oFld 189 x13 1) w1 fun x14 w2=>
 pN zp (oLoad 27 x14) w2 fun x15 w3=>
 pN zp (oCall 148 [x1,x15]) w3 fun x16 w4=>
 pN zp (oExt x16 0) w4 fun x17 w5=>
 pN zp (oExt x16 1) w5 fun _ w6=>
 ∃(L5:Value→Value→Value→World→Prop) (m5:Value→Value→Value→World→Nat),
 L5 (.slice none 0 0) (.int .i64 0) (.int .i64 0) w6∧
 ∀(_k5:Env) (l7l5:Value) (from8l5:Value) (i9l5:Value) (w7:World),L5 l7l5 from8l5 i9l5 w7→
 pN zp (oBi .len #[46] 3 [false] [x17]) w7 fun x21 w8=>
 pN zp (oBin .lss 3 (.tmp 19) (.tmp 21) i9l5 x21) w8 fun x22 w9=>
 pIf x22
 (pN zp (oIdx 46 x17 i9l5) w9 fun x31 w10=>
 pN zp (oLoad 3 x31) w10 fun x32 w11=>
 pN zp (oSl 47 x1 (some from8l5) (some x32) none) w11 fun x33 w12=>
 pN zp (oCall 149 [x0,x33]) w12 fun x34 w13=>
 pN zp (oBs 52 1 [(0,x34)]) w13 fun x35 w14=>
 pN zp (oBi .append #[52,52] 52 [false,false] [l7l5,x35]) w14 fun x36 w15=>
 pN zp (oIdx 46 x17 i9l5) w15 fun x39 w16=>
 pN zp (oLoad 3 x39) w16 fun x40 w17=>
 pN zp (oBin .add 3 (.tmp 23) (.const (.int .i64 1)) i9l5 (.int .i64 1)) w17 fun x24 w18=>
 (L5 x36 x40 x24 w18∧m5 x36 x40 x24 w18<m5 l7l5 from8l5 i9l5 w7))
 (Q l7l5 w9)
theorem pithref35_Depot_Put.calls (h:pithref35_Depot_Put.F x0 x1 w Q):Calls zp 112 #[x0,x1] w (retP Q):=cl pithref35_Depot_Put.H [x0,x1] Tryz.func112 h
def pithref35_Depot_Set.H:Hints:={ cut:=fun|10=>some ([9,10],4611686009837458944)|15=>some ([9,10],18013298997855744)|19=>some ([9],1175979934698983916032)|_=>none,loop:=fun|9=>([9,10,11],4611686018410618368)|_=>([],0),order:=fun _=>[] }
def pithref35_Depot_Set.F (x0 x1 x2:Value) (w:World) (Q:QQ):Prop:=
 pN zp (oCall 110 [x1]) w fun x14 w1=>
 pN zp (oBin .neq 3 (.tmp 15) (.const (.int .i64 0)) x14 (.int .i64 0)) w1 fun x16 w2=>
 pIf x16
 (Q x14 w2)
 (pN zp (oBi .append #[52,52] 52 [false,false] [(.slice none 0 0),x2]) w2 fun x20 w3=>
 pN zp (oBi .len #[52] 3 [false] [x2]) w3 fun x22 w4=>
 pN zp (oBin .eql 3 (.tmp 22) (.const (.int .i64 0)) x22 (.int .i64 0)) w4 fun x23 w5=>
 ∃(L9:Value→Value→Value→World→Prop) (m9:Value→Value→Value→World→Nat),
 L9 (.slice none 0 0) x23 (.int .i64 0) w5∧
 ∀(_k9:Env) (roots9l9:Value) (laid10l9:Value) (i11l9:Value) (w6:World),L9 roots9l9 laid10l9 i11l9 w6→
 pN zp (oNil x0) w6 fun x26 w7=>
 pN zp (oFld 189 x26 3) w7 fun x27 w8=>
 pN zp (oLoad 187 x27) w8 fun x28 w9=>
 pN zp (oBi .len #[187] 3 [false] [x28]) w9 fun x29 w10=>
 pN zp (oBin .lss 3 (.tmp 24) (.tmp 29) i11l9 x29) w10 fun x30 w11=>
 pIf x30
 (∃I10:Value→Value→World→Prop,
 (pN zp (oNil x0) w11 fun x34 w12=>
 pN zp (oFld 189 x34 3) w12 fun x35 w13=>
 pN zp (oLoad 187 x35) w13 fun x36 w14=>
 pN zp (oIdx 187 x36 i11l9) w14 fun x38 w15=>
 pN zp (oLoad 247 x38) w15 fun x39 w16=>
 pN zp (oAlloc 247) w16 fun x12 w17=>
 pN zp (oStore 247 x12 x39) w17 fun _ w18=>
 ∃I15:Value→Value→World→Prop,
 (pN zp (oUn .not laid10l9) w18 fun x41 w19=>
 pGd (gB x41 true) (pN zp (oMv x1) w19) w19 fun x43 w20=>
 pGd (gB x41 true) (pN zp (oFld 247 x12 0) w20) w20 fun x44 w21=>
 pGd (gB x41 true) (pN zp (oLoad 9 x44) w21) w21 fun x45 w22=>
 pGd (gB x41 true) (pN zp (oBin .leq 9 (.tmp 43) (.tmp 45) x43 x45) w22) w22 fun x46 w23=>
 pN zp (oPick x41 x46 (.bool false)) w23 fun x47 w24=>
 pIf x47
 (pN zp (oBuild 247 [(0,x1),(1,x20)]) w24 fun x51 w25=>
 pN zp (oBs 187 1 [(0,x51)]) w25 fun x52 w26=>
 pN zp (oBi .append #[187,187] 187 [false,false] [roots9l9,x52]) w26 fun x53 w27=>
 I15 x53 (.bool true) w27)
 (I15 roots9l9 laid10l9 w24))∧
 ∀(_j15:Env) (roots9c15:Value) (laid10c15:Value) (w28:World),I15 roots9c15 laid10c15 w28→
 pN zp (oFld 247 x12 0) w28 fun x54 w29=>
 pN zp (oLoad 9 x54) w29 fun x55 w30=>
 pN zp (oBin .neq 9 (.tmp 55) (.tmp 56) x55 x1) w30 fun x57 w31=>
 pIf x57
 (pN zp (oLoad 247 x12) w31 fun x59 w32=>
 pN zp (oBs 187 1 [(0,x59)]) w32 fun x60 w33=>
 pN zp (oBi .append #[187,187] 187 [false,false] [roots9c15,x60]) w33 fun x61 w34=>
 I10 x61 laid10c15 w34)
 (I10 roots9c15 laid10c15 w31))∧
 ∀(_j10:Env) (roots9c10:Value) (laid10c10:Value) (w35:World),I10 roots9c10 laid10c10 w35→
 pN zp (oBin .add 3 (.tmp 31) (.const (.int .i64 1)) i11l9 (.int .i64 1)) w35 fun x32 w36=>
 (L9 roots9c10 laid10c10 x32 w36∧m9 roots9c10 laid10c10 x32 w36<m9 roots9l9 laid10l9 i11l9 w6))
 (∃I19:Value→World→Prop,
 (pN zp (oUn .not laid10l9) w11 fun x63 w37=>
 pIf x63
 (pN zp (oBuild 247 [(0,x1),(1,x20)]) w37 fun x67 w38=>
 pN zp (oBs 187 1 [(0,x67)]) w38 fun x68 w39=>
 pN zp (oBi .append #[187,187] 187 [false,false] [roots9l9,x68]) w39 fun x69 w40=>
 I19 x69 w40)
 (I19 roots9l9 w37))∧
 ∀(_j19:Env) (roots9c19:Value) (w41:World),I19 roots9c19 w41→
 pN zp (oNil x0) w41 fun x72 w42=>
 pN zp (oFld 189 x72 3) w42 fun x73 w43=>
 pN zp (oStore 187 x73 roots9c19) w43 fun _ w44=>
 Q (.int .i64 0) w44))
theorem pithref35_Depot_Set.calls (h:pithref35_Depot_Set.F x0 x1 x2 w Q):Calls zp 113 #[x0,x1,x2] w (retP Q):=cl pithref35_Depot_Set.H [x0,x1,x2] Tryz.func113 h
def pithref35_Depot_keep.H:Hints:={ cut:=fun _=>none,loop:=fun|6=>([6,7],140737488339136)|_=>([],0),order:=fun|6=>[(0,0),(1,1),(2,3),(3,7),(4,15),(5,31),(6,63),(7,127),(8,255),(9,511),(10,1023),(11,2047),(12,4095),(13,8191),(14,16383),(15,32767),(17,65535),(16,196607),(18,262143),(19,524287),(20,1048575)]|_=>[] }
def pithref35_Depot_keep.F (x0 x1:Value) (w:World) (Q:QQ):Prop:=
 pN zp (oAlloc 58) w fun x4 w1=>
 pN zp (oCall 198 [x1]) w1 fun x9 w2=>
 pN zp (oAlloc 58) w2 fun x5 w3=>
 pN zp (oStore 58 x5 x9) w3 fun _ w4=>
 pN zp (oLoad 58 x5) w4 fun x11 w5=>
 pN zp (oCall 199 [x0,x11]) w5 fun x12 w6=>
 pIf x12
 (pN zp (oLoad 58 x5) w6 fun x13 w7=>
 pN zp (oStore 58 x4 x13) w7 fun _ w8=>
 pL zp (oRes 58 x4) w8 fun r4=>
 Q r4 w8)
 (∃(L6:Value→Value→World→Prop) (m6:Value→Value→World→Nat),
 L6 (.slice none 0 0) (.int .i64 0) w6∧
 ∀(_k6:Env) (l6l6:Value) (i7l6:Value) (w9:World),L6 l6l6 i7l6 w9→
 pDr w9 fun w10=>
 pA zp (oNil x0) fun x16=>
 pA zp (oFld 189 x16 2) fun x17=>
 pL zp (oLoad 186 x17) w10 fun x18=>
 pA zp (oBi .len #[186] 3 [false] [x18]) fun x19=>
 pA zp (oBin .lss 3 (.tmp 14) (.tmp 19) i7l6 x19) fun x20=>
 gA (gB x20 true) (pA zp (oMv x0)) fun x22=>
 gA (gB x20 true) (pA zp (oNil x22)) fun x23=>
 gA (gB x20 true) (pA zp (oFld 189 x23 2)) fun x24=>
 gA (gB x20 true) (pL zp (oLoad 186 x24) w10) fun x25=>
 gA (gB x20 true) (pA zp (oMv i7l6)) fun x26=>
 gA (gB x20 true) (pA zp (oIdx 186 x25 x26)) fun x27=>
 gA (gB x20 true) (pA zp (oFld 281 x27 0)) fun x28=>
 gA (gB x20 true) (pL zp (oLoad 58 x28) w10) fun x29=>
 gA (gB x20 true) (pL zp (oLoad 58 x5) w10) fun x31=>
 pGd (gB x20 true) (pN zp (oCall 200 [x29]) w10) w10 fun x30 w11=>
 ((((gB x20 true)=true→Sem.run zp (oLoad 58 x5) w11= .ok (.value x31) w11))∧True)∧(pGd (gB x20 true) (pN zp (oCall 200 [x31]) w11) w11 fun x32 w12=>
 (True)∧(gA (gB x20 true) (pA zp (oBin .lss 9 (.tmp 30) (.tmp 32) x30 x32)) fun x33=>
 pA zp (oPick x20 x33 (.bool false)) fun x34=>
 pIf x34
 (pN zp (oNil x0) w12 fun x37 w13=>
 pN zp (oFld 189 x37 2) w13 fun x38 w14=>
 pN zp (oLoad 186 x38) w14 fun x39 w15=>
 pN zp (oIdx 186 x39 i7l6) w15 fun x41 w16=>
 pN zp (oLoad 281 x41) w16 fun x42 w17=>
 pN zp (oBs 186 1 [(0,x42)]) w17 fun x43 w18=>
 pN zp (oBi .append #[186,186] 186 [false,false] [l6l6,x43]) w18 fun x44 w19=>
 pN zp (oBin .add 3 (.tmp 45) (.const (.int .i64 1)) i7l6 (.int .i64 1)) w19 fun x46 w20=>
 (L6 x44 x46 w20∧m6 x44 x46 w20<m6 l6l6 i7l6 w9))
 (pN zp (oLoad 58 x5) w12 fun x48 w21=>
 pN zp (oBuild 281 [(0,x48),(1,x1)]) w21 fun x50 w22=>
 pN zp (oBs 186 1 [(0,x50)]) w22 fun x51 w23=>
 pN zp (oBi .append #[186,186] 186 [false,false] [l6l6,x51]) w23 fun x52 w24=>
 pN zp (oNil x0) w24 fun x56 w25=>
 pN zp (oFld 189 x56 2) w25 fun x57 w26=>
 pN zp (oLoad 186 x57) w26 fun x58 w27=>
 pN zp (oSl 186 x58 (some i7l6) none none) w27 fun x60 w28=>
 pN zp (oBi .append #[186,186] 186 [false,false] [x52,x60]) w28 fun x61 w29=>
 pN zp (oNil x0) w29 fun x62 w30=>
 pN zp (oFld 189 x62 2) w30 fun x63 w31=>
 pN zp (oStore 186 x63 x61) w31 fun _ w32=>
 pN zp (oLoad 58 x5) w32 fun x64 w33=>
 pN zp (oStore 58 x4 x64) w33 fun _ w34=>
 pL zp (oRes 58 x4) w34 fun r4=>
 Q r4 w34))))
theorem pithref35_Depot_keep.calls (h:pithref35_Depot_keep.F x0 x1 w Q):Calls zp 149 #[x0,x1] w (retP Q):=cl pithref35_Depot_keep.H [x0,x1] Tryz.func149 h
def pithref35_Depot_Root.H:Hints:={ cut:=fun _=>none,loop:=fun|2=>([6],17179869168)|_=>([],0),order:=fun _=>[] }
def pithref35_Depot_Root.F (x0 x1:Value) (w:World) (Q:QQ):Prop:=
 ∃(L2:Value→World→Prop) (m2:Value→World→Nat),
 L2 (.int .i64 0) w∧
 ∀(_k2:Env) (i6l2:Value) (w1:World),L2 i6l2 w1→
 pN zp (oNil x0) w1 fun x9 w2=>
 pN zp (oFld 189 x9 3) w2 fun x10 w3=>
 pN zp (oLoad 187 x10) w3 fun x11 w4=>
 pN zp (oBi .len #[187] 3 [false] [x11]) w4 fun x12 w5=>
 pN zp (oBin .lss 3 (.tmp 7) (.tmp 12) i6l2 x12) w5 fun x13 w6=>
 pIf x13
 (pN zp (oNil x0) w6 fun x17 w7=>
 pN zp (oFld 189 x17 3) w7 fun x18 w8=>
 pN zp (oLoad 187 x18) w8 fun x19 w9=>
 pN zp (oIdx 187 x19 i6l2) w9 fun x21 w10=>
 pN zp (oFld 247 x21 0) w10 fun x22 w11=>
 pN zp (oLoad 9 x22) w11 fun x23 w12=>
 pN zp (oBin .eql 9 (.tmp 23) (.tmp 24) x23 x1) w12 fun x25 w13=>
 pIf x25
 (pN zp (oNil x0) w13 fun x27 w14=>
 pN zp (oFld 189 x27 3) w14 fun x28 w15=>
 pN zp (oLoad 187 x28) w15 fun x29 w16=>
 pN zp (oIdx 187 x29 i6l2) w16 fun x31 w17=>
 pN zp (oFld 247 x31 1) w17 fun x32 w18=>
 pN zp (oLoad 52 x32) w18 fun x33 w19=>
 Q (.tuple #[x33,(.int .i64 0)]) w19)
 (pN zp (oBin .add 3 (.tmp 14) (.const (.int .i64 1)) i6l2 (.int .i64 1)) w13 fun x15 w20=>
 (L2 x15 w20∧m2 x15 w20<m2 i6l2 w1)))
 (Q (.tuple #[(.slice none 0 0),(.int .i64 8)]) w6)
theorem pithref35_Depot_Root.calls (h:pithref35_Depot_Root.F x0 x1 w Q):Calls zp 151 #[x0,x1] w (retP Q):=cl pithref35_Depot_Root.H [x0,x1] Tryz.func151 h
def pithref35_Depot_Get.H:Hints:={ cut:=fun _=>none,loop:=fun|3=>([6,7],8589934576)|_=>([],0),order:=fun _=>[] }
def pithref35_Depot_Get.F (x0 x1:Value) (w:World) (Q:QQ):Prop:=
 ∃(L3:Value→Value→World→Prop) (m3:Value→Value→World→Nat),
 L3 (.slice none 0 0) (.int .i64 0) w∧
 ∀(_k3:Env) (all6l3:Value) (i7l3:Value) (w1:World),L3 all6l3 i7l3 w1→
 pN zp (oBi .len #[52] 3 [false] [x1]) w1 fun x11 w2=>
 pN zp (oBin .lss 3 (.tmp 9) (.tmp 11) i7l3 x11) w2 fun x12 w3=>
 pIf x12
 (pN zp (oIdx 52 x1 i7l3) w3 fun x18 w4=>
 pN zp (oLoad 58 x18) w4 fun x19 w5=>
 pN zp (oCall 202 [x0,x19]) w5 fun x20 w6=>
 pN zp (oBin .lss 3 (.tmp 21) (.const (.int .i64 0)) x20 (.int .i64 0)) w6 fun x22 w7=>
 pIf x22
 (Q (.tuple #[(.slice none 0 0),(.int .i64 8)]) w7)
 (pN zp (oNil x0) w7 fun x25 w8=>
 pN zp (oFld 189 x25 2) w8 fun x26 w9=>
 pN zp (oLoad 186 x26) w9 fun x27 w10=>
 pN zp (oIdx 186 x27 x20) w10 fun x29 w11=>
 pN zp (oFld 281 x29 1) w11 fun x30 w12=>
 pN zp (oLoad 47 x30) w12 fun x31 w13=>
 pN zp (oBi .append #[47,47] 47 [false,false] [all6l3,x31]) w13 fun x32 w14=>
 pN zp (oBin .add 3 (.tmp 13) (.const (.int .i64 1)) i7l3 (.int .i64 1)) w14 fun x14 w15=>
 (L3 x32 x14 w15∧m3 x32 x14 w15<m3 all6l3 i7l3 w1)))
 (Q (.tuple #[all6l3,(.int .i64 0)]) w3)
theorem pithref35_Depot_Get.calls (h:pithref35_Depot_Get.F x0 x1 w Q):Calls zp 152 #[x0,x1] w (retP Q):=cl pithref35_Depot_Get.H [x0,x1] Tryz.func152 h
def pithref35_Depot_Has.F (x0 x1:Value) (w:World) (Q:QQ):Prop:=
 pN zp (oBox 58 x1) w fun x3 w1=>
 pN zp (oLoad 58 x3) w1 fun x6 w2=>
 pN zp (oCall 202 [x0,x6]) w2 fun x7 w3=>
 pN zp (oBin .geq 3 (.tmp 7) (.const (.int .i64 0)) x7 (.int .i64 0)) w3 fun x8 w4=>
 Q x8 w4
theorem pithref35_Depot_Has.calls (h:pithref35_Depot_Has.F x0 x1 w Q):Calls zp 199 #[x0,x1] w (retP Q):=cl .z [x0,x1] Tryz.func199 h
def pithref35_text.F (x0:Value) (w:World) (Q:QQ):Prop:=
 pN zp (oBox 58 x0) w fun x1 w1=>
 pN zp (oSl 58 x1 none none none) w1 fun x3 w2=>
 pN zp (oConv 47 9 x3) w2 fun x4 w3=>
 Q x4 w3
theorem pithref35_text.calls (h:pithref35_text.F x0 w Q):Calls zp 200 #[x0] w (retP Q):=cl .z [x0] Tryz.func200 h
def pithref35_Depot_find.H:Hints:={ cut:=fun _=>none,loop:=fun|2=>([5],67108848)|_=>([],0),order:=fun|4=>(ot 10)|_=>[] }
def pithref35_Depot_find.F (x0 x1:Value) (w:World) (Q:QQ):Prop:=
 pN zp (oBox 58 x1) w fun x3 w1=>
 ∃(L2:Value→World→Prop) (m2:Value→World→Nat),
 L2 (.int .i64 0) w1∧
 ∀(_k2:Env) (i5l2:Value) (w2:World),L2 i5l2 w2→
 pN zp (oNil x0) w2 fun x8 w3=>
 pN zp (oFld 189 x8 2) w3 fun x9 w4=>
 pN zp (oLoad 186 x9) w4 fun x10 w5=>
 pN zp (oBi .len #[186] 3 [false] [x10]) w5 fun x11 w6=>
 pN zp (oBin .lss 3 (.tmp 6) (.tmp 11) i5l2 x11) w6 fun x12 w7=>
 pIf x12
 (pDr w7 fun w8=>
 pA zp (oNil x0) fun x16=>
 pA zp (oFld 189 x16 2) fun x17=>
 pL zp (oLoad 186 x17) w8 fun x18=>
 pA zp (oIdx 186 x18 i5l2) fun x20=>
 pA zp (oFld 281 x20 0) fun x21=>
 pL zp (oLoad 58 x21) w8 fun x22=>
 pL zp (oLoad 58 x3) w8 fun x23=>
 pA zp (oBin .eql 58 (.tmp 22) (.tmp 23) x22 x23) fun x24=>
 pIf x24
 (Q i5l2 w8)
 (pN zp (oBin .add 3 (.tmp 13) (.const (.int .i64 1)) i5l2 (.int .i64 1)) w8 fun x14 w9=>
 (L2 x14 w9∧m2 x14 w9<m2 i5l2 w2)))
 (Q (.int .i64 (-1)) w7)
theorem pithref35_Depot_find.calls (h:pithref35_Depot_find.F x0 x1 w Q):Calls zp 202 #[x0,x1] w (retP Q):=cl pithref35_Depot_find.H [x0,x1] Tryz.func202 h
end
section
section
variable [Pan] {P:Program} {J:Value→Prop} {t:TypeId} {xo yo:Operand} {a b:I32}
theorem pA_eql_id [h:A32 P t] (ht:a=b→J (.bool true)) (hf:¬a=b→J (.bool false)):pA P (oBin .eql t xo yo (.agg (bvs a.l).toArray) (.agg (bvs b.l).toArray)) J:=by
 refine pA_of (v:= .bool (decide (a=b))) (fun w=>run_eql_id w) ?_
 by_cases e:a=b
 ·rw[decide_eq_true e];exact ht e
 ·rw[decide_eq_false e];exact hf e
end
end
section
theorem putCells_take {α:Type} [Inhabited α] (enc:α→Value) (d:Array α) (c:Array Value) (h:d.size≤c.size):(Sort.putCells enc 0 d c).toList.take d.size=d.toList.map enc:=by
 refine List.ext_getElem? fun i=>?_
 by_cases hi:i<d.size
 ·have h2:i<c.size:=by omega
  rw[List.getElem?_take_of_lt hi,List.getElem?_map,Array.getElem?_toList,Array.getElem?_toList]
  simp[Sort.putCells,hi,h2]
 ·rw[List.getElem?_eq_none (by rw[List.length_take];omega),List.getElem?_eq_none (by simpa using hi)]
theorem putCells_size {α:Type} [Inhabited α] (enc:α→Value) (d:Array α) (c:Array Value):(Sort.putCells enc 0 d c).size=c.size:=by simp[Sort.putCells]
theorem flatK_flat {α:Type} [Inhabited α] (C:Cd α) (l:List α):(Sort.flatK C.enc C.size l.toArray).toList=C.flat l:=by
 refine List.ext_getElem? fun t=>?_
 have hlen:=C.flat_len l
 by_cases ht:t<l.length*C.size
 ·have hs:0<C.size:=Nat.pos_of_ne_zero fun e=>by rw[e] at ht;omega
  have hi:t / C.size<l.length:=(Nat.div_lt_iff_lt_mul hs).2 ht
  have hj:t%C.size<C.size:=Nat.mod_lt _ hs
  have hx:l[t / C.size]? =some (l[t / C.size]'hi):=List.getElem?_eq_getElem hi
  have hg:=C.flat_get l _ _ hx
  have hl:=C.len (l[t / C.size]'hi)
  have e1:(C.flat l)[t]? =(C.enc (l[t / C.size]'hi))[t%C.size]? :=by
   rw[←hg,List.getElem?_take_of_lt hj,List.getElem?_drop,Nat.mul_comm,Nat.div_add_mod]
  have hjl:t%C.size<(C.enc (l[t / C.size]'hi)).length:=by rw[hl];exact hj
  rw[e1,Array.getElem?_toList,List.getElem?_eq_getElem hjl]
  simp[Sort.flatK,ht,hi,hjl]
 ·rw[List.getElem?_eq_none (by simp[Sort.flatK];omega),List.getElem?_eq_none (by rw[hlen];omega)]
section
variable {α:Type} {C:Cd α} {E w w':World} {M:List HA} {s:Sl} {l l2:List α} {g:Nat}
theorem rows_blk (hS:Sat E w (rows C s l::M)) (h0:l≠[]):∃g cur,s.a=some ⟨g,0,none⟩∧w.heap[g]? =some (.cells cur C.e (0,0))∧l.length*C.size≤cur.size∧cur.toList.take (l.length*C.size)=C.flat l:=by
 obtain⟨h1,⟨hl,h|⟨g,cap,cur,hv,hg,hn,hm,hsz,ht⟩⟩,hs⟩:=hS.head
 ·exact absurd (List.length_eq_zero_iff.1 h.2) h0
 ·have e1:s.a=some ⟨g,0,none⟩:=by injection hv
  exact⟨g,cur,e1,hs _ _ hg,by rw[hsz];exact Nat.mul_le_mul_right _ hn,ht⟩
theorem rows_cell {cur:Array Value} (hw:w.heap[g]? =some (.cells cur C.e (0,0))) {j:Nat} (hj:j<cur.size):w.cell? ⟨g,j,none⟩=cur[j]? ∧w.frozen? ⟨g,j,none⟩=false:=by
 constructor
 ·rw[cell_of_blk hw]
 ·simp[World.frozen?,hw]
theorem Sat.put (hS:Sat E w (rows C s l::M)) (ha:s.a=some ⟨g,0,none⟩) (h0:l≠[]) {f:Array Value→Array Value} {n:Nat} {os:Array Obj} (hw:w'=Sort.grow (Sort.mapBlock (Sort.ahead w n) g f) os)
  (hl:l2.length=l.length) (hf:∀cur:Array Value,l.length*C.size≤cur.size→(f cur).size=cur.size∧(f cur).toList.take (l.length*C.size)=C.flat l2):Sat E w' (rows C s l2::M):=by
 subst hw
 refine hS.turn rfl rfl rfl fun h1 hA s1=>?_
 obtain⟨_,h|⟨g',cap,cur,hv,hg,hn,hm,hsz,ht⟩⟩:=hA
 ·exact absurd (List.length_eq_zero_iff.1 h.2) h0
 ·have e1:s.a=some ⟨g',0,none⟩:=by injection hv
  rw[ha] at e1
  obtain rfl:g=g':=by injection e1 with e;injection e
  have hlt:g<w.heap.size:=(Array.getElem?_eq_some_iff.1 (s1 _ _ hg)).1
  obtain⟨f1,f2⟩:=hf cur (by rw[hsz];exact Nat.mul_le_mul_right _ hn)
  have hgh:(Sort.grow (Sort.mapBlock (Sort.ahead w n) g f) os).heap[g]? =some (.cells (f cur) C.e (0,0)):=by
   rw[Sort.heap_grow_old _ _ (by simp[Sort.mapBlock,Sort.ahead];exact hlt)]
   simp[Sort.mapBlock,Sort.ahead,Array.getElem?_modify,s1 _ _ hg,Sort.onCells]
  have hoth:∀k o,k≠g→w.heap[k]? =some o→(Sort.grow (Sort.mapBlock (Sort.ahead w n) g f) os).heap[k]? =some o:=fun k o hk ho=>by
   have hkl:k<w.heap.size:=(Array.getElem?_eq_some_iff.1 ho).1
   rw[Sort.heap_grow_old _ _ (by simp[Sort.mapBlock,Sort.ahead];exact hkl)]
   simp[Sort.mapBlock,Sort.ahead,Array.getElem?_modify,Ne.symm hk,ho]
  refine⟨fun k=>if k=g then some (.cells (f cur) C.e (0,0)) else none,⟨by rw[C.flat_len],.inr ⟨g,cap,f cur,by rw[hl];exact hv,if_pos rfl,by rw[hl];exact hn,hm,by rw[f1];exact hsz,by rw[hl];exact f2⟩⟩,?_,?_⟩
  ·intro k o ek
   dsimp only at ek
   split at ek
   ·rename_i hk;subst hk;cases ek;exact hgh
   ·cases ek
  ·intro k o ek hn1
   have hk:k≠g:=fun e=>by subst e;rw[hg] at hn1;cases hn1
   exact⟨hoth k o hk ek,if_neg hk⟩
end
instance:Inhabited I32:=⟨⟨List.replicate 32 0,by rw[List.length_replicate]⟩⟩
namespace S
theorem le_less:∀x y:List UInt8,decide (x≤y)= !Op.bytesLess y x
 | [],y=>by
  have h:Op.bytesLess y []=false:=by cases y<;>rfl
  rw[h];exact decide_eq_true (List.nil_le y)
 |a::x,[]=>by
  rw[show Op.bytesLess [] (a::x)=true from rfl]
  exact decide_eq_false (fun h=>h (List.nil_lt_cons a x))
 |a::x,b::y=>by
  have ih:=le_less x y
  have h1:(a::x≤b::y)↔¬(b<a∨b=a∧y<x):=by
   show ¬(b::y<a::x)↔_
   rw[List.cons_lt_cons_iff]
  have h2:=less_cons b a y x
  have h3:Op.bytesLess y x=true↔y<x:=by
   have h4:decide (x≤y)= !Op.bytesLess y x:=ih
   constructor
   ·intro h
    rw[h] at h4
    exact Classical.not_not.1 (of_decide_eq_false h4)
   ·intro h
    cases e:Op.bytesLess y x with
    |true=>rfl
    |false=>rw[e] at h4;exact absurd h (of_decide_eq_true h4)
  cases e:Op.bytesLess (b::y) (a::x) with
  |true=>
   refine decide_eq_false fun h=>h1.1 h ?_
   rcases h2.1 e with h|⟨h,h'⟩
   ·exact .inl (UInt8.lt_iff_toNat_lt.2 h)
   ·exact .inr ⟨h,h3.1 h'⟩
  |false=>
   refine decide_eq_true (h1.2 fun h=>?_)
   have:Op.bytesLess (b::y) (a::x)=true:=h2.2 (by
    rcases h with h|⟨h,h'⟩
    ·exact .inl (UInt8.lt_iff_toNat_lt.1 h)
    ·exact .inr ⟨h,h3.2 h'⟩)
   rw[e] at this;cases this
def sortN (l:List D.B):List D.B:=l.mergeSort fun x y=> !Op.bytesLess y x
def lessI (a b:I32):Bool:=Op.bytesLess a.l b.l
def sortI (l:List I32):List I32:=l.mergeSort fun x y=> !lessI y x
theorem sortN_perm (l:List D.B):(sortN l).Perm l:=List.mergeSort_perm _ _
theorem sortI_perm (l:List I32):(sortI l).Perm l:=List.mergeSort_perm _ _
theorem lessI_ord:U.Ord lessI:=⟨fun x=>less_irr _,fun x y z=>less_tr _ _ _,fun x y z=>less_nt _ _ _⟩
theorem lessI_tri {x y:I32} (h1:lessI x y=false) (h2:lessI y x=false):x=y:=by
 obtain⟨x,hx⟩:=x
 obtain⟨y,hy⟩:=y
 have:=less_tri x y h1 h2
 subst this
 rfl
theorem sortN_up (l:List D.B):U.Up Op.bytesLess (sortN l):=by
 have h:=List.pairwise_mergeSort (le:=fun x y:D.B=> !Op.bytesLess y x) (fun a b c h1 h2=>by
  simp only[Bool.not_eq_true'] at h1 h2 ⊢
  exact less_ord.nt _ _ _ h2 h1) (fun a b=>by
  cases h:Op.bytesLess b a with
  |false=>simp
  |true=>simp[less_ord.asym h]) l
 exact h.imp fun h=>by simpa using h
theorem sortI_up (l:List I32):U.Up lessI (sortI l):=by
 have h:=List.pairwise_mergeSort (le:=fun x y:I32=> !lessI y x) (fun a b c h1 h2=>by
  simp only[Bool.not_eq_true'] at h1 h2 ⊢
  exact lessI_ord.nt _ _ _ h2 h1) (fun a b=>by
  cases h:lessI b a with
  |false=>simp
  |true=>simp[lessI_ord.asym h]) l
 exact h.imp fun h=>by simpa using h
end S
end
section
namespace S
def comp (l:List I32):List I32:=l.foldl (fun acc x=>if acc.getLast?=some x then acc else acc++[x]) []
theorem comp_nil:comp []=[]:=rfl
theorem comp_snoc (l:List I32) (x:I32):comp (l++[x])=if (comp l).getLast?=some x then comp l else comp l++[x]:=by
 unfold comp
 rw[List.foldl_append];rfl
theorem comp_last:∀(n:Nat) (l:List I32),l.length=n→(comp l).getLast?=l.getLast?
 |0,l,h=>by rw[List.length_eq_zero_iff.1 h];rfl
 |n+1,l,h=>by
  obtain⟨m,x,rfl⟩:∃m x,l=m++[x]:=⟨l.dropLast,l.getLast (by intro e;rw[e] at h;cases h),(List.dropLast_concat_getLast _).symm⟩
  rw[comp_snoc,List.getLast?_concat]
  split
  ·rename_i h1;exact h1
  ·rw[List.getLast?_concat]
theorem comp_at (l:List I32) (x:I32):comp (l++[x])=if l.getLast?=some x then comp l else comp l++[x]:=by
 rw[comp_snoc,comp_last l.length l rfl]
theorem comp_mem:∀(n:Nat) (l:List I32),l.length=n→∀y,y∈comp l↔y∈l
 |0,l,h,y=>by rw[List.length_eq_zero_iff.1 h];exact Iff.rfl
 |n+1,l,h,y=>by
  obtain⟨m,x,rfl⟩:∃m x,l=m++[x]:=⟨l.dropLast,l.getLast (by intro e;rw[e] at h;cases h),(List.dropLast_concat_getLast _).symm⟩
  have ih:=comp_mem n m (by simpa using h) y
  rw[comp_at]
  split
  ·rename_i h1
   rw[ih,List.mem_append]
   constructor
   ·exact .inl
   ·rintro(h2|h2)
    ·exact h2
    ·rw[List.mem_singleton.1 h2];exact List.mem_of_getLast? h1
  ·rw[List.mem_append,List.mem_append,ih]
theorem comp_len:∀(n:Nat) (l:List I32),l.length=n→(comp l).length≤l.length
 |0,l,h=>by rw[List.length_eq_zero_iff.1 h];exact Nat.le_refl _
 |n+1,l,h=>by
  obtain⟨m,x,rfl⟩:∃m x,l=m++[x]:=⟨l.dropLast,l.getLast (by intro e;rw[e] at h;cases h),(List.dropLast_concat_getLast _).symm⟩
  have ih:=comp_len n m (by simpa using h)
  rw[comp_at]
  split
  ·rw[List.length_append];omega
  ·rw[List.length_append,List.length_append];simp only[List.length_singleton];omega
def allsOf (r:List I32) (es:List L.En):List I32:=r++(es.map (·.sums)).flatten
def needsOf (r:List I32) (es:List L.En):List I32:=comp (sortI (allsOf r es))
theorem needs_mem {r:List I32} {es:List L.En} {i:I32}:i∈needsOf r es↔i∈r∨∃e∈es,i∈e.sums:=by
 unfold needsOf allsOf
 rw[comp_mem _ _ rfl,(sortI_perm _).mem_iff,List.mem_append,List.mem_flatten]
 constructor
 ·rintro(h|⟨L,hL,h⟩)
  ·exact .inl h
  ·obtain⟨e,he,rfl⟩:=List.mem_map.1 hL
   exact .inr ⟨e,he,h⟩
 ·rintro(h|⟨e,he,h⟩)
  ·exact .inl h
  ·exact .inr ⟨_,List.mem_map.2 ⟨e,he,rfl⟩,h⟩
theorem needs_len (r:List I32) (es:List L.En):(needsOf r es).length≤(allsOf r es).length:=by
 have:=comp_len _ (sortI (allsOf r es)) rfl
 rw[(sortI_perm _).length_eq] at this
 exact this
theorem alls_take {r:List I32} {es:List L.En} {j:Nat} {e:L.En} (h:es[j]? =some e):allsOf r (es.take (j+1))=allsOf r (es.take j)++e.sums:=by
 unfold allsOf
 rw[List.take_add_one,h]
 simp
theorem alls_le (r:List I32) (es:List L.En) (j:Nat):(allsOf r (es.take j)).length≤(allsOf r es).length:=by
 unfold allsOf
 have h:es=es.take j++es.drop j:=(List.take_append_drop j es).symm
 conv=>rhs;rw[h]
 simp only[List.map_append,List.flatten_append,List.length_append]
 omega
end S
end
section
def laysSf_ren:Go.Shelf.Ren:=⟨fun|6=>66|15=>105|14=>104|28=>143|29=>144|20=>135|21=>136|22=>137|23=>138|24=>139|25=>140|26=>141|27=>142|46=>183|47=>184|48=>185|49=>186|50=>187|57=>208|n=>n,fun|22=>52|24=>58|25=>134|3=>3|39=>97|0=>0|53=>213|55=>212|4=>4|46=>234|45=>233|50=>136|5=>5|9=>9|66=>265|70=>269|76=>291|77=>292|n=>n,fun|n=>n⟩
theorem laysSf:Go.Proofs.SlLaysF0.n6 zp laysSf_ren:=⟨
 by kernel_rfl,⟨Tryz.f66.name,by decide,Tryz.func66.trans (congrArg some (by kernel_rfl))⟩,⟨Tryz.f104.name,by decide,Tryz.func104.trans (congrArg some (by kernel_rfl))⟩,Tryz.func105.trans (congrArg some (by kernel_rfl)),
 ⟨Tryz.f135.name,by decide,Tryz.func135.trans (congrArg some (by kernel_rfl))⟩,⟨Tryz.f136.name,by decide,Tryz.func136.trans (congrArg some (by kernel_rfl))⟩,⟨Tryz.f137.name,by decide,Tryz.func137.trans (congrArg some (by kernel_rfl))⟩,
 ⟨Tryz.f138.name,by decide,Tryz.func138.trans (congrArg some (by kernel_rfl))⟩,⟨Tryz.f139.name,by decide,Tryz.func139.trans (congrArg some (by kernel_rfl))⟩,⟨Tryz.f140.name,by decide,Tryz.func140.trans (congrArg some (by kernel_rfl))⟩,
 ⟨Tryz.f141.name,by decide,Tryz.func141.trans (congrArg some (by kernel_rfl))⟩,⟨Tryz.f142.name,by decide,Tryz.func142.trans (congrArg some (by kernel_rfl))⟩,Tryz.func143.trans (congrArg some (by kernel_rfl)),
 Tryz.func144.trans (congrArg some (by kernel_rfl)),⟨Tryz.f183.name,by decide,Tryz.func183.trans (congrArg some (by kernel_rfl))⟩,Tryz.func184.trans (congrArg some (by kernel_rfl)),Tryz.func185.trans (congrArg some (by kernel_rfl)),
 ⟨Tryz.f186.name,by decide,Tryz.func186.trans (congrArg some (by kernel_rfl))⟩,⟨Tryz.f187.name,by decide,Tryz.func187.trans (congrArg some (by kernel_rfl))⟩,⟨Tryz.f208.name,by decide,Tryz.func208.trans (congrArg some (by kernel_rfl))⟩,
 Tryz.underlying0,Tryz.isAgg0,Tryz.sizeOf0,Tryz.zeroValue0,Tryz.underlying3,Tryz.isAgg3,Tryz.sizeOf3,Tryz.zeroValue3,Tryz.underlying4,Tryz.isAgg4,Tryz.sizeOf4,Tryz.zeroValue4,Tryz.underlying5,
 Tryz.isAgg5,Tryz.sizeOf5,Tryz.zeroValue5,Tryz.underlying9,Tryz.isAgg9,Tryz.sizeOf9,Tryz.zeroValue9,Tryz.underlying52,Tryz.isAgg52,Tryz.sizeOf52,Tryz.zeroValue52,Tryz.underlying134,Tryz.isAgg134,
 Tryz.sizeOf134,Tryz.zeroValue134,Tryz.underlying97,Tryz.isAgg97,Tryz.sizeOf97,Tryz.zeroValue97,Tryz.underlying233,Tryz.isAgg233,Tryz.sizeOf233,Tryz.zeroValue233,Tryz.underlying234,Tryz.isAgg234,
 Tryz.sizeOf234,Tryz.zeroValue234,Tryz.underlying136,Tryz.isAgg136,Tryz.sizeOf136,Tryz.zeroValue136,Tryz.underlying213,Tryz.isAgg213,Tryz.sizeOf213,Tryz.zeroValue213,Tryz.underlying212,Tryz.isAgg212,
 Tryz.sizeOf212,Tryz.zeroValue212,Tryz.underlying265,Tryz.isAgg265,Tryz.sizeOf265,Tryz.zeroValue265,Tryz.underlying269,Tryz.isAgg269,Tryz.sizeOf269,Tryz.zeroValue269,Tryz.underlying291,Tryz.isAgg291,
 Tryz.sizeOf291,Tryz.zeroValue291,Tryz.underlying292,Tryz.isAgg292,Tryz.sizeOf292,Tryz.zeroValue292⟩
end
section
variable [Pan] {x0 x1:Value} {w:World} {Q:QQ}
set_option maxRecDepth 100000
def internal_bytealg_CompareString.F (x0 x1:Value) (w:World) (Q:QQ):Prop:=
 pN zp (oCall 178 [x0,x1]) w fun x7 w1=>
 Q x7 w1
theorem internal_bytealg_CompareString.calls (h:internal_bytealg_CompareString.F x0 x1 w Q):Calls zp 128 #[x0,x1] w (retP Q):=cl .z [x0,x1] Tryz.func128 h
end
section
theorem cmp_lt:∀(l r:List UInt8),decide (Lib.compareBytes l r<0)=Op.bytesLess l r
 | [],[]=>rfl
 | [],_::_=>rfl
 |_::_,[]=>rfl
 |a::l,b::r=>by
  rw[Lib.compareBytes,Op.bytesLess]
  by_cases h:a<b
  ·simp[h]
  ·by_cases h2:b<a
   ·have hne:a≠b:=fun e=>by subst e;exact h h2
    simp[h,h2,hne]
   ·have e:a=b:=by
     rw[UInt8.lt_iff_toNat_lt] at h h2
     exact UInt8.toNat_inj.1 (by omega)
    subst e
    simp[h,cmp_lt l r]
section
variable [Pan] {w:World} {K:Value→World→Prop} {l r:List UInt8}
theorem pN_cms (hk:K (.int .i64 (Lib.compareBytes l r)) w):pN zp (oCall 178 [.string ⟨l.toArray⟩,.string ⟨r.toArray⟩]) w K:=by
 have h:=run_callFunc_extern (P:=zp) Tryz.func178 (by kernel_rfl) (by kernel_rfl) (by kernel_rfl) (e:=Extern.BytealgCompare.compare) (by kernel_rfl) #[.string ⟨l.toArray⟩,.string ⟨r.toArray⟩] w
 rw[Lib.run_compareString] at h
 have h2:(oCall 178 [.string ⟨l.toArray⟩,.string ⟨r.toArray⟩]).run zp w= .ok (.value (.int .i64 (Lib.compareBytes l r))) w:=h
 rw[pN_def,h2,rN_value]
 exact hk
end
attribute [local irreducible] oMv oV oU oCall oCallV oBi oBin oUn oLoad oStore oNil oFld oField oIdx oIndex oPick oAlloc oBox oBuild oBs oConv oMk oSl oExt oFn oIface oMap oLook oMapUp oRange oNext oEntry oInv oAssert oPanic oRes pN pA pL pDr pIf gA pGd Calls
section
variable [Pan] {E w:World} {K Q:Value→World→Prop} {L M:List HA} {l r:List UInt8}
theorem SCompare_ok (hS:Sat E w M) (hQ:∀w,Sat E w M→Q (.int .i64 (Lib.compareBytes l r)) w):Calls zp 98 #[.string ⟨l.toArray⟩,.string ⟨r.toArray⟩] w (retP Q):=by
 refine strings_Compare.calls ?_
 unfold strings_Compare.F
 refine pN_callQ Tryz.call128 ?_
 refine internal_bytealg_CompareString.calls ?_
 unfold internal_bytealg_CompareString.F
 refine pN_cms ?_
 exact hQ _ hS
abbrev cmpV (bc:Nat):Value:= .func (.func 97) #[] #[.pointer (some ⟨bc,0,none⟩)]
theorem itemName_ok (x:T_api_Item) (hS:Sat E w M) (hQ:∀w,Sat E w M→Q (.string ⟨x.Name.toArray⟩) w):Calls zp 58 #[.agg x.enc.toArray] w (retP Q):=by
 refine snap_itemName.calls ?_
 unfold snap_itemName.F
 repeat' (first|refine pN_l hS (by first|rfl|assumption) ?_|(refine pN_bx hS (by rfl) ?_;clear hS;intro a w hS)|refine pN_v (hk:=?_)|fail)
 exact hQ _ hS.to
set_option maxHeartbeats 1000000 in
theorem cmp_ok {bc:Nat} {N:List HA} (x y:T_api_Item) (hS:Sat E w M) [Fnd (cel bc) M ⟨115,[.func (.func 58) #[] #[]]⟩ N] (hQ:∀w,Sat E w M→Q (.int .i64 (Lib.compareBytes x.Name y.Name)) w):pN zp (oCallV (cmpV bc) [.agg x.enc.toArray,.agg y.enc.toArray]) w Q:=by
 refine pN_callV (cap:=[.pointer (some ⟨bc,0,none⟩)]) call_snap_byName_api_Item__c1 ?_
 refine snap_byName_api_Item__c1.calls ?_
 unfold snap_byName_api_Item__c1.F
 repeat' (first|refine pL_l hS (by first|rfl|assumption) ?_|refine pL_la hS (by rfl) ?_|(refine pDr_go hS ?_;clear hS;intro w hS)|(refine pN_bx hS (by rfl) ?_;clear hS;intro a w hS)|fail)
 refine pN_callV (cap:=[]) call_snap_itemName (itemName_ok x hS ?_)
 clear hS
 intro w hS
 refine⟨⟨run_la_at (n:=6) hS y.enc rfl rfl,run_l hS (by rfl),trivial⟩,?_⟩
 refine pN_callV (cap:=[]) call_snap_itemName (itemName_ok y hS ?_)
 clear hS
 intro w hS
 refine⟨trivial,pcq (f:=98) (SCompare_ok hS ?_)⟩
 clear hS
 intro w hS
 exact⟨trivial,hQ _ hS.to⟩
end
section
variable [Pan] {E w W:World} {K Q:Value→World→Prop} {J:Value→Prop} {L M N:List HA} {l r:List T_api_Item} {s s2:Sl} {b:Nat}
set_option maxHeartbeats 1000000 in
theorem SwapR_ok {A X P Y Z:List T_api_Item} (n:Nat) (cmp:Value) (hx:X.length=n) (hy:Y.length=n) (hS:Sat E w (rows cd_api_Item s (A++(X++(P++(Y++Z))))::M)) {m:Nat} (hm:m=A.length+n+P.length+n+Z.length) (hb:m≤1099511627776)
  {a b:Nat} (ha:a=A.length) (hbb:b=A.length+n+P.length)
  (hQ:∀w,Sat E w (rows cd_api_Item s (A++(Y++(P++(X++Z))))::M)→Q (.tuple #[]) w):
  Calls zp 219 #[.slice s.a m s.c,.int .i64 a,.int .i64 b,.int .i64 n,cmp] w (retP Q):=by
 refine slices_swapRangeCmpFunc_api_Item_.calls ?_
 unfold slices_swapRangeCmpFunc_api_Item_.F
 rw[←U.swp_0] at hS
 refine⟨fun v w=>∃i:Nat,v= .int .i64 i∧i≤n∧Sat E w (rows cd_api_Item s (U.swp A X P Y Z i)::M),fun v _=>n-(RowKit.intOf v).toNat,⟨0,rfl,by omega,hS⟩,?_⟩
 clear hS
 rintro _ _ w ⟨i,rfl,hi,hS⟩
 by_cases hlt:i<n
 ·obtain⟨x,y,h1,h2,h3⟩:=U.swp_step (A:=A) (N:=P) (Z:=Z) hx hy hlt
  have hl:=U.swp_len (A:=A) (N:=P) (Z:=Z) (i:=i) hx hy
  rw[←hbb] at h2 h3 hl hm
  rw[←ha] at h1 h3
  generalize U.swp A X P Y Z i=D at*
  obtain⟨z,h4⟩:∃z,(D.set (a+i) y)[b+i]? =some z:=⟨(D.set (a+i) y)[b+i]'(by rw[List.length_set];omega),List.getElem?_eq_getElem _⟩
  repeat' (first|refine pA_ixk hS (b+i) (by omega) (by rw[List.length_set];omega) h4 fun ad ha hel=>?_|refine pA_ixk hS (b+i) (by omega) (by omega) h2 fun ad ha hel=>?_|refine pA_ixk hS (a+i) (by omega) (by omega) h1 fun ad ha hel=>?_|(refine pN_srn (x:=y) hel hS (by rfl) (by rfl) (by omega) ?_;clear hS;intro w hS)|(refine pN_srn (x:=x) hel hS (by rfl) (by rfl) (by rw[List.length_set];omega) ?_;clear hS;intro w hS)|(refine pN_lss_s ?_ ?_<;>intro hc<;>try (exfalso;omega))|refine pIf_t ?_|refine pL_ld_at ha hS (by rfl) ?_|(refine pDr_go hS ?_;clear hS;intro w hS)|refine⟨trivial,?_⟩|refine pN_v (hk:=?_)|refine pA_v (hk:=?_)|fail)
  rw[h3] at hS
  exact⟨⟨i+1,rfl,by omega,hS⟩,by simp[RowKit.intOf]<;>omega⟩
 ·obtain rfl:i=n:=by omega
  rw[U.swp_all hx hy] at hS
  repeat' (first|(refine pN_lss_s ?_ ?_<;>intro hc<;>try (exfalso;omega))|refine pIf_f ?_|fail)
  exact hQ _ hS
theorem half (l:List T_api_Item) {k:Nat} (h:k≤l.length):∃X Y,l=X++Y∧X.length=k∧Y.length=l.length-k:=⟨l.take k,l.drop k,(List.take_append_drop k l).symm,by rw[List.length_take];omega,by rw[List.length_drop]⟩
set_option maxHeartbeats 1000000 in
theorem Rotate_ok {A S T Z:List T_api_Item} (cmp:Value) (h1:0<S.length) (h2:0<T.length) (hS:Sat E w (rows cd_api_Item s (A++(S++(T++Z)))::M)) {n:Nat} (hn:n=A.length+S.length+T.length+Z.length) (hb:n≤1099511627776)
  {a m b:Nat} (ha:a=A.length) (hm:m=A.length+S.length) (hbb:b=A.length+S.length+T.length)
  (hQ:∀w,Sat E w (rows cd_api_Item s (A++(T++(S++Z)))::M)→Q (.tuple #[]) w):
  Calls zp 207 #[.slice s.a n s.c,.int .i64 a,.int .i64 m,.int .i64 b,cmp] w (retP Q):=by
 refine slices_rotateCmpFunc_api_Item_.calls ?_
 unfold slices_rotateCmpFunc_api_Item_.F
 generalize hG:A++(T++(S++Z))=G at*
 have hi1:((m:Int)-(a:Int))=((S.length:Nat):Int):=by omega
 have hi2:((b:Int)-(m:Int))=((T.length:Nat):Int):=by omega
 repeat' (first|refine pN_v (hk:=?_)|fail)
 rw[hi1,hi2]
 refine⟨fun x y w=>∃(i j:Nat) (A' P R Z':List T_api_Item),x= .int .i64 i∧y= .int .i64 j∧P.length=i∧R.length=j∧0<i∧0<j∧m=A'.length+i∧n=A'.length+i+j+Z'.length∧A'++(R++(P++Z'))=G∧Sat E w (rows cd_api_Item s (A'++(P++(R++Z')))::M),fun x y _=>(RowKit.intOf x).toNat+(RowKit.intOf y).toNat,
  ⟨_,_,A,S,T,Z,rfl,rfl,rfl,rfl,h1,h2,hm,hn,hG,hS⟩,?_⟩
 clear hS
 rintro _ _ _ w ⟨i,j,A',P,R,Z',rfl,rfl,hP,hR,hi,hj,hmi,hni,hG',hS⟩
 by_cases hij:i=j
 ·subst hij
  have hS:Sat E w (rows cd_api_Item s (A'++(P++([]++(R++Z'))))::M):=hS
  have he:((m:Int)-(i:Int))=((A'.length:Nat):Int):=by omega
  repeat' (first|(refine pN_neq_s ?_ ?_<;>intro hc<;>try (exfalso;first|omega|exact gone hc|exact gon2 hc))|refine pIf_f ?_|refine pN_v (hk:=?_)|fail)
  rw[he]
  refine pcq (f:=219) (SwapR_ok i cmp hP hR hS (by rw[List.length_nil];omega) hb rfl (by rw[List.length_nil];omega) ?_)
  clear hS
  intro w hS
  skip
  rw[List.nil_append,hG'] at hS
  exact hQ _ hS
 ·by_cases hgt:j<i
  ·obtain⟨P1,P2,rfl,hp1,hp2⟩:=half P (k:=j) (by omega)
   rw[hP] at hp2
   have hS:Sat E w (rows cd_api_Item s (A'++(P1++(P2++(R++Z'))))::M):=by rw[List.append_assoc] at hS;exact hS
   have he:((m:Int)-(i:Int))=((A'.length:Nat):Int):=by omega
   have he2:((i:Int)-(j:Int))=((i-j:Nat):Int):=by omega
   repeat' (first|(refine pN_gtr_s ?_ ?_<;>intro hc<;>try (exfalso;omega))|(refine pN_neq_s ?_ ?_<;>intro hc<;>try (exfalso;first|omega|exact gone hc|exact gon2 hc))|refine pIf_t ?_|refine pN_v (hk:=?_)|fail)
   rw[he]
   refine pcq (f:=219) (SwapR_ok j cmp hp1 hR hS (by omega) hb rfl (by omega) ?_)
   clear hS
   intro w hS
   repeat' (first|refine pN_v (hk:=?_)|fail)
   rw[he2]
   refine⟨⟨i-j,j,A'++R,P2,P1,Z',rfl,rfl,hp2,hp1,by omega,by omega,by rw[List.length_append];omega,by rw[List.length_append];omega,?_,?_⟩,by simp[RowKit.intOf]<;>omega⟩
   ·rw[←hG'];simp only[List.append_assoc]
   ·rw[List.append_assoc];exact hS
  ·obtain⟨Q1,Q2,rfl,hq1,hq2⟩:=half R (k:=j-i) (by omega)
   rw[hR] at hq2
   have hS:Sat E w (rows cd_api_Item s (A'++(P++(Q1++(Q2++Z'))))::M):=by rw[List.append_assoc] at hS;exact hS
   have he:((m:Int)-(i:Int))=((A'.length:Nat):Int):=by omega
   have he2:((j:Int)-(i:Int))=((j-i:Nat):Int):=by omega
   have he3:((m:Int)+(j:Int)-(i:Int))=((A'.length+i+Q1.length:Nat):Int):=by omega
   repeat' (first|(refine pN_gtr_s ?_ ?_<;>intro hc<;>try (exfalso;omega))|(refine pN_neq_s ?_ ?_<;>intro hc<;>try (exfalso;first|omega|exact gone hc|exact gon2 hc))|refine pIf_t ?_|refine pIf_f ?_|refine pN_v (hk:=?_)|fail)
   rw[he,he3]
   refine pcq (f:=219) (SwapR_ok i cmp hP (by omega) hS (by omega) hb rfl rfl ?_)
   clear hS
   intro w hS
   repeat' (first|refine pN_v (hk:=?_)|fail)
   rw[he2]
   refine⟨⟨i,j-i,A',Q2,Q1,P++Z',rfl,rfl,by omega,hq1,by omega,by omega,by omega,by rw[List.length_append];omega,?_,?_⟩,by simp[RowKit.intOf]<;>omega⟩
   ·rw[←hG'];simp only[List.append_assoc]
   ·exact hS
abbrev capOb:Ob:=⟨115,[.func (.func 58) #[] #[]]⟩
theorem bef_t {x y:T_api_Item} (h:Lib.compareBytes x.Name y.Name<0):S.before x y=true:=by rw[S.before,←cmp_lt];exact decide_eq_true h
theorem bef_f {x y:T_api_Item} (h:¬Lib.compareBytes x.Name y.Name<0):S.before x y=false:=by rw[S.before,←cmp_lt];exact decide_eq_false h
set_option maxHeartbeats 2000000 in
theorem InsSort_ok {bc:Nat} {A X Z:List T_api_Item} (hS:Sat E w (rows cd_api_Item s (A++(X++Z))::M)) [hf:Fnd (cel bc) M capOb N] {m:Nat} (hm:m=A.length+X.length+Z.length) (hb:m≤1099511627776) {a b:Nat} (ha:a=A.length) (hbb:b=A.length+X.length)
  (hQ:∀X' w,X'.Perm X→U.Up S.before X'→Sat E w (rows cd_api_Item s (A++(X'++Z))::M)→Q (.tuple #[]) w):
  Calls zp 176 #[.slice s.a m s.c,.int .i64 a,.int .i64 b,cmpV bc] w (retP Q):=by
 refine slices_insertionSortCmpFunc_api_Item_.calls ?_
 unfold slices_insertionSortCmpFunc_api_Item_.F
 cases X with
 |nil=>
  have hab:b=a:=by rw[hbb,ha];rfl
  subst hab
  repeat' (first|refine pN_v (hk:=?_)|fail)
  refine⟨fun v w=>v= .int .i64 ((b:Int)+1)∧Sat E w (rows cd_api_Item s (A++([]++Z))::M),fun _ _=>0,⟨rfl,hS⟩,?_⟩
  clear hS
  rintro _ _ w ⟨rfl,hS⟩
  repeat' (first|(refine pN_lss_s ?_ ?_<;>intro hc<;>try (exfalso;omega))|refine pIf_f ?_|fail)
  exact hQ [] _ (List.Perm.refl _) U.Up.nil hS
 |cons x0 X0=>
  have hbb:b=A.length+(X0.length+1):=hbb
  have hm:m=A.length+(X0.length+1)+Z.length:=hm
  repeat' (first|refine pN_v (hk:=?_)|fail)
  refine⟨fun v w=>∃(X1 X2:List T_api_Item),v= .int .i64 ((a:Int)+X1.length)∧(X1++X2).Perm (x0::X0)∧X1.length+X2.length=X0.length+1∧U.Up S.before X1∧Sat E w (rows cd_api_Item s (A++(X1++(X2++Z)))::M),fun v _=>b-(RowKit.intOf v).toNat,
   ⟨[x0],X0,rfl,List.Perm.refl _,by rw[List.length_singleton];omega,U.Up.one x0,hS⟩,?_⟩
  clear hS
  rintro _ _ w ⟨X1,X2,rfl,hp,hl,hu,hS⟩
  cases X2 with
  |nil=>
   rw[List.length_nil] at hl
   rw[List.append_nil] at hp
   repeat' (first|(refine pN_lss_s ?_ ?_<;>intro hc<;>try (exfalso;omega))|refine pIf_f ?_|fail)
   exact hQ X1 _ hp hu hS
  |cons x X2=>
   rw[List.length_cons] at hl
   have hi0:((a:Int)+(X1.length:Int))=((a+X1.length:Nat):Int):=by omega
   rw[hi0]
   repeat' (first|(refine pN_lss_s ?_ ?_<;>intro hc<;>try (exfalso;omega))|refine pIf_t ?_|fail)
   refine⟨fun v w=>∃(P R:List T_api_Item),v= .int .i64 ((a+P.length:Nat):Int)∧U.Up S.before (P++R)∧(∀r∈R,S.before x r=true)∧(P++R).Perm X1∧P.length+R.length=X1.length∧Sat E w (rows cd_api_Item s (A++(P++x::(R++(X2++Z))))::M),fun v _=>(RowKit.intOf v).toNat,
    ⟨X1,[],rfl,by rw[List.append_nil];exact hu,fun r hr=>by(cases hr),by rw[List.append_nil],rfl,hS⟩,?_⟩
   clear hS
   rintro _ _ w ⟨P,R,rfl,hup,hr,hpr,hlr,hS⟩
   have hfin:(∀p,P.getLast?=some p→S.before x p=false)→((P++x::R)++X2).Perm (x0::X0)∧U.Up S.before (P++x::R):=fun h=>by
    refine⟨?_,U.Up.ins S.before_ord hup hr h⟩
    refine List.Perm.trans ?_ hp
    have e1:(P++x::R).Perm (X1++[x]):=by
     refine List.perm_middle.trans ?_
     refine(hpr.cons x).trans ?_
     exact(List.perm_append_singleton x X1).symm
    have:=e1.append_right X2
    rw[List.append_assoc X1] at this
    exact this
   by_cases hP:P=[]
   ·subst hP
    obtain⟨f1,f2⟩:=hfin (fun p h=>by cases h)
    have hj0:((a+([]:List T_api_Item).length:Nat):Int)=(a:Int):=rfl
    rw[hj0]
    have hlr:R.length=X1.length:=by rw[←hlr,List.length_nil];omega
    repeat' (first|(refine pA_gtr_s ?_ ?_<;>intro hc<;>try (exfalso;omega))|refine pIf_f ?_|refine gA_no (by rfl) ?_|refine pGd_no (by rfl) ?_|(refine pDr_go hS ?_;clear hS;intro w hS)|refine⟨trivial,?_⟩|refine pN_v (hk:=?_)|refine pA_v (hk:=?_)|fail)
    refine⟨⟨x::R,X2,by rw[List.length_cons,hlr];congr 1,f1,by rw[List.length_cons];omega,f2,hS⟩,by simp[RowKit.intOf]<;>omega⟩
   ·obtain⟨P0,y,rfl⟩:=U.last_cut hP
    obtain⟨q,hq⟩:∃q,q=(A++P0).length:=⟨_,rfl⟩
    have hqa:q=a+P0.length:=by rw[hq,List.length_append,ha]
    have hj1:((a+(P0++[y]).length:Nat):Int)=((q+1:Nat):Int):=by rw[List.length_append,List.length_singleton];omega
    have hlr:P0.length+1+R.length=X1.length:=by rw[←hlr,List.length_append,List.length_singleton]
    rw[hj1]
    have hD:A++((P0++[y])++x::(R++(X2++Z)))=(A++P0)++y::(x::(R++(X2++Z))):=by simp
    rw[hD] at hS
    have g0:=U.get_mid (A++P0) (x::(R++(X2++Z))) y
    have g1:=U.get_nb (A++P0) (R++(X2++Z)) y x
    have hsw:=U.swap_nb (A++P0) (R++(X2++Z)) y x
    have hlen:((A++P0)++y::(x::(R++(X2++Z)))).length=m:=by simp only[List.length_append,List.length_cons];omega
    have hD2:(A++P0)++x::(y::(R++(X2++Z)))=A++(P0++x::((y::R)++(X2++Z))):=by simp
    rw[hD2] at hsw
    rw[←hq] at g0 g1 hsw
    have hbt:=fun h=>bef_t (x:=x) (y:=y) h
    have hbf:=fun h=>bef_f (x:=x) (y:=y) h
    have hD3:(A++P0)++y::(x::(R++(X2++Z)))=A++(((P0++[y])++x::R)++(X2++Z)):=by simp
    obtain⟨D,hDD⟩:∃D,D=(A++P0)++y::(x::(R++(X2++Z))):=⟨_,rfl⟩
    rw[←hDD] at hS g0 g1 hsw hlen hD3
    obtain⟨z,h4⟩:∃z,(D.set (q+1) y)[q]? =some z:=⟨(D.set (q+1) y)[q]'(by rw[List.length_set];omega),List.getElem?_eq_getElem _⟩
    have hca:¬(((q+1:Nat):Int)≤(a:Int)):=by omega
    repeat' (first|refine pA_ixk hS q (by omega) (by rw[List.length_set];omega) h4 fun ad ha hel=>?_|refine pA_ixk hS (q+1) (by omega) (by omega) g1 fun ad ha hel=>?_|refine pA_ixk hS q (by omega) (by omega) g0 fun ad ha hel=>?_|(refine cmp_ok x y hS ?_;clear hS;intro w hS)|refine pA_lss_s (fun hcc=>?_) (fun hcc=>?_)|(refine pN_srn (x:=y) hel hS (by rfl) (by rfl) (by omega) ?_;clear hS;intro w hS)|(refine pN_srn (x:=x) hel hS (by rfl) (by rfl) (by rw[List.length_set];omega) ?_;clear hS;intro w hS)|(refine pA_gtr_s ?_ ?_<;>intro hc<;>try (exfalso;omega))|refine pIf_t ?_|refine pIf_f ?_|refine gA_go (by rfl) ?_|refine pGd_go (by rfl) ?_|refine pL_ld_at ha hS (by rfl) ?_|(refine pDr_go hS ?_;clear hS;intro w hS)|refine⟨trivial,?_⟩|refine pN_v (hk:=?_)|refine pA_v (hk:=?_)|fail)
    ·rw[hsw] at hS
     have hq1:(((q+1:Nat):Int)-1)=((a+P0.length:Nat):Int):=by omega
     rw[hq1]
     have e0:(P0++[y])++R=P0++(y::R):=by simp
     rw[e0] at hup hpr
     refine⟨⟨P0,y::R,rfl,hup,fun r hr'=>?_,hpr,by rw[List.length_cons];omega,hS⟩,by simp[RowKit.intOf]<;>omega⟩
     rcases List.mem_cons.1 hr' with rfl|hr'
     ·exact hbt hcc
     ·exact hr r hr'
    ·rw[hD3] at hS
     obtain⟨f1,f2⟩:=hfin (fun p hp=>by
      rw[List.getLast?_concat,Option.some.injEq] at hp
      subst hp
      exact hbf hcc)
     have hll:((P0++[y])++x::R).length=X1.length+1:=by simp only[List.length_append,List.length_cons,List.length_nil];omega
     have hi1:(((a+X1.length:Nat):Int)+1)=(a:Int)+((P0++[y])++x::R).length:=by rw[hll];omega
     rw[hi1]
     refine⟨⟨(P0++[y])++x::R,X2,rfl,f1,by rw[hll];omega,f2,hS⟩,by rw[hll];simp[RowKit.intOf]<;>omega⟩
end
end
section
theorem bytesOf_u8 (l:List UInt8):Lib.bytesOf (l.map fun b=>(b.toNat:Int))=l:=by
 induction l with
 |nil=>rfl
 |cons b l ih=>
  unfold Lib.bytesOf at ih ⊢
  rw[List.map_cons,List.map_cons,ih]
  simp
theorem run_bytesAt {P:Program} {w:World} (a:Addr) (l:List UInt8) (n c:Nat) (hn:n=l.length) (h:∀j b,l[j]? =some b→w.cell? (a.add j)=some (bv b)):(Extern.Bytes.bytesOf (.slice (some a) n c)).run P w= .ok ⟨l.toArray⟩ w:=by
 subst hn
 have h1:=Lib.run_loadBytesX (P:=P) w (l.map fun b=>(b.toNat:Int)) a .empty (fun j x hj=>by
  rw[List.getElem?_map] at hj
  cases hb:l[j]? with
  |none=>rw[hb] at hj;cases hj
  |some b=>
   rw[hb] at hj
   have hj:(b.toNat:Int)=x:=Option.some.inj hj
   rw[h j b hb,←hj];rfl)
 rw[List.length_map,bytesOf_u8] at h1
 show(Extern.Bytes.loadBytes a l.length .empty).run P w=_
 rw[h1]
 congr 2
 exact Array.empty_append
theorem run_cmpB {w:World} {P:Program} (a b:Addr) (x y:List UInt8) (n m c d:Nat) (hn:n=x.length) (hm:m=y.length) (hx:∀j v,x[j]? =some v→w.cell? (a.add j)=some (bv v)) (hy:∀j v,y[j]? =some v→w.cell? (b.add j)=some (bv v)):
  (Extern.BytealgCompare.compare #[.slice (some a) n c,.slice (some b) m d]).run P w= .ok (.int .i64 (Lib.compareBytes x y)) w:=by
 have h1:=run_bytesAt (P:=P) a x n c hn hx
 have h2:=run_bytesAt (P:=P) b y m d hm hy
 change Sem.run P (do pure (goInt (Extern.BytealgCompare.cmp (←Extern.Bytes.bytesOf (.slice (some a) n c)) (←Extern.Bytes.bytesOf (.slice (some b) m d))))) w=_
 simp only[Sem.run_bind,h1,h2,Result.andThen,Sem.run_pure]
 rw[Lib.cmp_eq]
 rfl
theorem pN_cmb [Pan] {w:World} {K:Value→World→Prop} (a b:Addr) (x y:List UInt8) (n m c d:Nat) (hn:n=x.length) (hm:m=y.length) (hx:∀j v,x[j]? =some v→w.cell? (a.add j)=some (bv v)) (hy:∀j v,y[j]? =some v→w.cell? (b.add j)=some (bv v)) (hk:K (.int .i64 (Lib.compareBytes x y)) w):
  pN zp (oCall 106 [.slice (some a) n c,.slice (some b) m d]) w K:=by
 have h:=run_callFunc_extern (P:=zp) Tryz.func106 (by kernel_rfl) (by kernel_rfl) (by kernel_rfl) (e:=Extern.BytealgCompare.compare) (by kernel_rfl) #[.slice (some a) n c,.slice (some b) m d] w
 rw[run_cmpB a b x y n m c d hn hm hx hy] at h
 have h2:(oCall 106 [.slice (some a) n c,.slice (some b) m d]).run zp w= .ok (.value (.int .i64 (Lib.compareBytes x y))) w:=h
 rw[pN_def,h2,rN_value]
 exact hk
theorem run_bxx {P:Program} {w:World} {b:TypeId} {u:Value}:(oBox b u).run P w= .ok (.value (.pointer (some ⟨w.heap.size,0,none⟩))) (w.alloc (.cells u.cells b)):=by
 refine run_oV_ok ?_
 simp[Instr.box,newVar,newRow]
theorem run_aslf {P:Program} {t:TypeId} {n b i:Nat} [h:Ar P t n] (h0:0<n) (w:World):
  (oSl t (.pointer (some ⟨b,i,none⟩)) none none none).run P w= .ok (.value (.slice (some ⟨b,i,none⟩) n n)) w:=by
 obtain⟨e,ht,hs,_⟩:=h.ex
 refine run_oV_ok ?_
 have h2:¬n=0:=by omega
 simp[Instr.sliceAt,run_underlying ht,Instr.sureAddr,Instr.sliceBounds,Instr.sliceBound,asIntOf,hs,h2,Addr.add_lit]
theorem pA_aslf [Pan] {P:Program} {t:TypeId} {n b i:Nat} {J:Value→Prop} [h:Ar P t n] (h0:0<n) (hk:J (.slice (some ⟨b,i,none⟩) n n)):pA P (oSl t (.pointer (some ⟨b,i,none⟩)) none none none) J:=⟨_,run_aslf h0,hk⟩
instance ar_idS:Ar zp 58 32:=⟨_,Tryz.underlying58,Tryz.sizeOf5,Tryz.isAgg5⟩
def cfI (x y:I32):Int:=Lib.compareBytes x.l y.l
theorem ltOf_cfI:Go.Proofs.ltOf cfI=S.lessI:=by
 funext x y
 exact cmp_lt x.l y.l
theorem swo_cfI:Sort.SWO (Go.Proofs.ltOf cfI):=by
 rw[ltOf_cfI]
 exact⟨S.lessI_ord.irr,S.lessI_ord.tr,S.lessI_ord.nt⟩
abbrev two (x y:I32) (w:World):World:=(w.alloc (.cells (bvs x.l).toArray 58)).alloc (.cells (bvs y.l).toArray 58)
theorem two_h1 {w:World} {x y:I32}:(two x y w).drew.heap[w.heap.size]? =some (.cells (bvs x.l).toArray 58 (0,0)):=by
 show((w.heap.push _).push _)[w.heap.size]? =_
 rw[Array.getElem?_push_lt (by simp),Array.getElem_push_eq]
theorem two_h2 {w:World} {x y:I32}:(two x y w).drew.heap[w.heap.size+1]? =some (.cells (bvs y.l).toArray 58 (0,0)):=by
 show((w.heap.push _).push _)[w.heap.size+1]? =_
 rw[←Array.size_push (xs:=w.heap) (.cells (bvs x.l).toArray 58),Array.getElem?_push_size]
theorem bvs_get8 {l:List UInt8} {j:Nat} {v:UInt8} (h:l[j]? =some v):(bvs l)[j]? =some (bv v):=by rw[bvs,List.getElem?_map,h];rfl
theorem two_cells {w:World} {x y:I32}:(∀j v,x.l[j]? =some v→(two x y w).drew.cell? ((⟨w.heap.size,0,none⟩:Addr).add j)=some (bv v))∧(∀j v,y.l[j]? =some v→(two x y w).drew.cell? ((⟨w.heap.size+1,0,none⟩:Addr).add j)=some (bv v)):=by
 constructor
 ·intro j v hv
  rw[Addr.add_lit,Nat.zero_add,cell_of_blk two_h1]
  simpa using bvs_get8 hv
 ·intro j v hv
  rw[Addr.add_lit,Nat.zero_add,cell_of_blk two_h2]
  simpa using bvs_get8 hv
theorem two_grow (x y:I32) (w:World):∃q os,(two x y w).drew=Sort.grow (w.drewN q) os:=
 ⟨1,#[.cells (bvs x.l).toArray 58,.cells (bvs y.l).toArray 58],by
  show World.mk _ _ _ _ _=World.mk _ _ _ _ _
  congr 1⟩
attribute [local irreducible] oMv oV oU oCall oCallV oBi oBin oUn oLoad oStore oNil oFld oField oIdx oIndex oPick oAlloc oBox oBuild oBs oConv oMk oSl oExt oFn oIface oMap oLook oMapUp oRange oNext oEntry oInv oAssert oPanic oRes pN pA pL pDr pIf gA pGd Calls
def CmpAt (g:Nat):Prop:=∀(x y:I32) (w:World),Calls zp g #[.agg (bvs x.l).toArray,.agg (bvs y.l).toArray] w fun e w'=>e= .returned (.int .i64 (cfI x y))∧∃q os',w'=Sort.grow (w.drewN q) os'
theorem BCompare_ok [Pan] {w:World} {Q:Value→World→Prop} (a b:Addr) (x y:List UInt8) (n m c d:Nat) (hn:n=x.length) (hm:m=y.length) (hx:∀j v,x[j]? =some v→w.cell? (a.add j)=some (bv v)) (hy:∀j v,y[j]? =some v→w.cell? (b.add j)=some (bv v)) (hQ:Q (.int .i64 (Lib.compareBytes x y)) w):
  Calls zp 68 #[.slice (some a) n c,.slice (some b) m d] w (retP Q):=by
 refine bytes_Compare.calls ?_
 unfold bytes_Compare.F
 refine pN_cmb a b x y n m c d hn hm hx hy ?_
 exact hQ
theorem ret_end [Pan] {g:Nat} {args:Array Value} {w:World} {v:Value} {R:World→Prop} (h:Calls zp g args w (@retP Pan.no fun u w'=>u=v∧R w')):Calls zp g args w fun e w'=>e= .returned v∧R w':=
 Calls.mono h fun e w' he=>by
  cases e with
  |returned u=>obtain⟨rfl,hr⟩:=(he:u=v∧R w');exact⟨rfl,hr⟩
  |panicked c=>exact False.elim he
  |outgrown=>exact False.elim he
theorem cmpAt_depot:CmpAt 70:=fun x y w=>by
 refine ret_end (depot_order.calls ?_)
 unfold depot_order.F
 rw[pN_def,run_bxx,rN_value,pN_def,run_bxx,rN_value]
 have hsz:(w.alloc (.cells (Value.agg (bvs x.l).toArray).cells 58)).heap.size=w.heap.size+1:=Array.size_push ..
 rw[hsz]
 obtain⟨h1,h2⟩:= @two_cells w x y
 rw[pDr_def]
 refine pA_aslf (n:=32) (Nat.succ_pos _) ?_
 refine pA_aslf (n:=32) (Nat.succ_pos _) ?_
 refine pcq (f:=68) (BCompare_ok ⟨w.heap.size,0,none⟩ ⟨w.heap.size+1,0,none⟩ x.l y.l 32 32 32 32 x.h.symm y.h.symm h1 h2 ?_)
 exact⟨trivial,rfl,two_grow x y w⟩
theorem cmpAt_needs:CmpAt 67:=fun x y w=>by
 refine ret_end (snap_Needs_c1.calls ?_)
 unfold snap_Needs_c1.F
 rw[pN_def,run_bxx,rN_value,pN_def,run_bxx,rN_value]
 have hsz:(w.alloc (.cells (Value.agg (bvs x.l).toArray).cells 58)).heap.size=w.heap.size+1:=Array.size_push ..
 rw[hsz]
 obtain⟨h1,h2⟩:= @two_cells w x y
 rw[pDr_def]
 refine pA_aslf (n:=32) (Nat.succ_pos _) ?_
 refine pA_aslf (n:=32) (Nat.succ_pos _) ?_
 refine pcq (f:=68) (BCompare_ok ⟨w.heap.size,0,none⟩ ⟨w.heap.size+1,0,none⟩ x.l y.l 32 32 32 32 x.h.symm y.h.symm h1 h2 ?_)
 exact⟨trivial,rfl,two_grow x y w⟩
section
variable [Pan] {E w:World} {Q:Value→World→Prop} {M:List HA} {s:Sl}
theorem SortI_ok {l:List I32} (g0:Nat) (hg0:∀args w,(callFunc g0 args).run zp w= .ok (.enter g0 args) w) (hcmp:CmpAt g0) (hS:Sat E w (rows (cdI 58) s l::M)) (hl:l.length≤1099511627776) (hQ:∀w,Sat E w (rows (cdI 58) s (S.sortI l)::M)→Q (.tuple #[]) w):
  Calls zp 66 #[.slice s.a l.length s.c,.func (.func g0) #[] #[]] w (retP Q):=by
 by_cases h0:l=[]
 ·subst h0
  refine(AnyF.slices_SortFunc_none laysSf s.a s.c (.func (.func g0) #[] #[]) w).mono ?_
  rintro e w' ⟨rfl,rfl⟩
  rw[(S.sortI_perm []).eq_nil] at hQ
  exact hQ _ hS
 ·obtain⟨g,cur,ha,hg,hsz,ht⟩:=rows_blk hS h0
  have hH:Sort.HoldsK (cdI 58).enc 32 w g 0 l.toArray:=fun j hj=>by
   have hj:j<l.length*32:=by simpa using hj
   have hsz:l.length*32≤cur.size:=hsz
   have ht:cur.toList.take (l.length*32)=(cdI 58).flat l:=ht
   obtain⟨c1,c2⟩:=rows_cell hg (j:=j) (by omega)
   rw[Nat.zero_add]
   refine⟨?_,c2⟩
   have hfl:=flatK_flat (cdI 58) l
   have hk:(Sort.flatK (cdI 58).enc 32 l.toArray).toList=(cdI 58).flat l:=hfl
   have hs:j<(Sort.flatK (cdI 58).enc 32 l.toArray).size:=by simpa using hj
   rw[c1,←Array.getElem?_toList,←List.getElem?_take_of_lt hj,ht,←hk,Array.getElem?_toList,Array.getElem?_eq_getElem hs,getElem!_pos (Sort.flatK (cdI 58).enc 32 l.toArray) j hs]
   rfl
  rw[ha]
  have hgl:g<w.heap.size:=(Array.getElem?_eq_some_iff.1 hg).1
  have hlen:l.toArray.size=l.length:=by simp
  have hsz62:l.toArray.size<4611686018427387904:=by rw[hlen];omega
  have hcon:=AnyQ.slices_SortFunc_total laysSf 32 Tryz.isAgg58 Tryz.sizeOf58 (cdI 58).enc (cdI 58).len (cdI 58).one cfI swo_cfI g0 #[] g 0 s.c l.toArray w hg0 (fun _ _ _ _ x y=>hcmp x y _) hH hgl hsz62 (fun x y h1 h2=>by rw[ltOf_cfI] at h1 h2;exact S.lessI_tri h1 h2)
  rw[hlen,ltOf_cfI] at hcon
  refine hcon.mono ?_
  rintro e w' ⟨rfl,n,os,rfl⟩
  have hp:=S.sortI_perm l
  refine hQ _ (hS.put (g:=g) (n:=n) (os:=os) (f:=Sort.putCells id 0 (Sort.flatK (cdI 58).enc 32 (S.sortI l).toArray)) ha h0 rfl hp.length_eq fun c hc=>⟨putCells_size ..,?_⟩)
  have hk:(Sort.flatK (cdI 58).enc 32 (S.sortI l).toArray).toList=(cdI 58).flat (S.sortI l):=flatK_flat (cdI 58) (S.sortI l)
  have hc:l.length*32≤c.size:=hc
  have hz:(Sort.flatK (cdI 58).enc 32 (S.sortI l).toArray).size=l.length*32:=by simp[hp.length_eq]
  have:=putCells_take id (Sort.flatK (cdI 58).enc 32 (S.sortI l).toArray) c (by rw[hz];exact hc)
  rw[hz,hk,List.map_id] at this
  exact this
end
end
section
section
variable [Pan] {P:Program} {E w:World} {K:Value→World→Prop} {L M:List HA} {v:Value} {t ty:TypeId} {α:Type} {C:Cd α} {s:Sl} {l:List α}
theorem pN_clr {cs:List Bool} {m c:Nat} (hS:Sat E w L) [hw:Row P t α C] [hf:Fnd (rows C s) L l M] (o:Nat) (ho:o≤l.length) (hm:m=l.length-o)
  (hk:∀w',Sat E w' (rows C s (l.take o++List.replicate (l.length-o) C.zero)::M)→K (.tuple #[]) w'):pN P (oBi .clear #[t] ty cs [.slice (s.sub o C.size).a m c]) w K:=by
 have hS0:=hS.fd (rows C s)
 have hsl:=Row.slt (P:=P) (t:=t) (C:=C)
 by_cases h0:o=l.length
 ·have hm0:m=0:=by omega
  subst hm0
  have hr:(Builtin.clear_ #[t] ty #[.slice (s.sub o C.size).a 0 c]).run P w= .ok (.tuple #[]) w:=by
   cases(s.sub o C.size).a<;>simp[Builtin.clear_,run_underlying hsl.under]
  have hr2:(oBi .clear #[t] ty cs [.slice (s.sub o C.size).a 0 c]).run P w= .ok (.value (.tuple #[])) w:=run_oV_ok hr
  rw[pN_def,hr2,rN_value]
  refine hk _ ?_
  have e:l.take o++List.replicate (l.length-o) C.zero=l:=by
   rw[h0,List.take_length,Nat.sub_self,List.replicate_zero,List.append_nil]
  rw[e]
  exact hS0
 ·obtain⟨g,hg,hc⟩:=rows_at (C:=C) (s:=s) hS (by omega)
  rw[sub_addr hg (by omega)]
  have hfl:=C.flat_len l
  unfold rows at hS0
  rw[hg] at hS0
  obtain⟨cur,⟨hl,hnc,hcm,hsz,htk⟩,hS1⟩:=hS0.own_blk
  have hzf:=zeroCells_flat (P:=P) (t:=t) (C:=C) (l.length-o)
  have hus:(C.flat (List.replicate (l.length-o) C.zero)).length=(l.length-o)*C.size:=by rw[C.flat_len,List.length_replicate]
  have hmul:o*C.size+(l.length-o)*C.size=l.length*C.size:=by rw[←Nat.add_mul];congr 1;omega
  have hle:l.length*C.size≤cur.size:=by rw[hsz];exact Nat.mul_le_mul_right _ hnc
  have hst:=run_storeCells_at P g (o*C.size) C.e (C.flat (List.replicate (l.length-o) C.zero)) 0 cur w (hS1.blk_at 0 rfl) (by rw[Nat.add_zero,hus];omega) (C.flat_one _)
  rw[Nat.add_zero] at hst
  obtain⟨i,hi,hz,hs,hby⟩:=hsl.info
  have hzv:(zeroValue C.e).run P w= .ok (Classical.choose hw.st) w:=by simp[zeroValue,typeInfo,hi,hz]
  have hmm:∃m',m=m'+1:=⟨m-1,by omega⟩
  have hr:(Builtin.clear_ #[t] ty #[.slice (some ⟨g,o*C.size,none⟩) m c]).run P w= .ok (.tuple #[]) (w.setRow g (cur.toList.take (o*C.size)++C.flat (List.replicate (l.length-o) C.zero)++cur.toList.drop (o*C.size+(C.flat (List.replicate (l.length-o) C.zero)).length)).toArray):=by
   rw[←hm] at hzf
   obtain⟨m',rfl⟩:=hmm
   simp only[Builtin.clear_,List.getElem?_toArray,List.getElem?_cons_zero,Sem.run_bind,run_underlying hsl.under,Result.andThen_ok,hzv,hzf]
   rw[←hm] at hst ⊢
   rw[hst]
   rfl
  have hr2:(oBi .clear #[t] ty cs [.slice (some ⟨g,o*C.size,none⟩) m c]).run P w= .ok (.value (.tuple #[])) _:=run_oV_ok hr
  rw[pN_def,hr2,rN_value]
  refine hk _ ?_
  have hfin:=(hS1.row (cur.toList.take (o*C.size)++C.flat (List.replicate (l.length-o) C.zero)++cur.toList.drop (o*C.size+(C.flat (List.replicate (l.length-o) C.zero)).length)).toArray)
  refine hfin.weaken fun hp hb=>?_
  have h3:=blk_own (n:=l.length) (size:=C.size) hnc hcm (cur:=(cur.toList.take (o*C.size)++C.flat (List.replicate (l.length-o) C.zero)++cur.toList.drop (o*C.size+(C.flat (List.replicate (l.length-o) C.zero)).length)).toArray) (by simp only[List.size_toArray,List.length_append,List.length_take,List.length_drop,Array.length_toList,hus];omega) hb
  have e:((cur.toList.take (o*C.size)++C.flat (List.replicate (l.length-o) C.zero)++cur.toList.drop (o*C.size+(C.flat (List.replicate (l.length-o) C.zero)).length)).toArray).toList.take (l.length*C.size)=C.flat (l.take o++List.replicate (l.length-o) C.zero):=by
   rw[C.flat_append,←C.flat_take,←htk]
   rw[List.toList_toArray]
   have h5:(cur.toList.take (o*C.size)++C.flat (List.replicate (l.length-o) C.zero)).length=l.length*C.size:=by
    rw[List.length_append,List.length_take,hus,Array.length_toList];omega
   rw[List.take_append_of_le_length (by omega),List.take_of_length_le (by omega),List.take_take,Nat.min_eq_left (by omega)]
  rw[e] at h3
  have h6:(l.take o++List.replicate (l.length-o) C.zero).length=l.length:=by rw[List.length_append,List.length_take,List.length_replicate];omega
  unfold rows
  rw[h6,hg]
  exact h3
omit [Pan] in
theorem Sat.cut (hS:Sat E w (rows C s l::M)) (k:Nat) (h0:0<k) (hk:k≤l.length):Sat E w (rows C s (l.take k)::M):=by
 refine hS.weaken fun h ⟨hl,ho⟩=>?_
 have h1:(l.take k).length=k:=by rw[List.length_take];omega
 rcases ho with⟨_,h2⟩|⟨g,cap,cur,hv,hg,hn,hm,hsz,ht⟩
 ·omega
 ·have hv1:s.a=some ⟨g,0,none⟩:=by injection hv
  have hv2:s.c=cap:=by injection hv
  refine⟨by rw[C.flat_len],.inr ⟨g,cap,cur,by rw[hv1,hv2],hg,by omega,hm,hsz,?_⟩⟩
  rw[h1,←C.flat_take,←ht,List.take_take,Nat.min_eq_left (Nat.mul_le_mul_right _ hk)]
end
end
section
attribute [local irreducible] oMv oV oU oCall oCallV oBi oBin oUn oLoad oStore oNil oFld oField oIdx oIndex oPick oAlloc oBox oBuild oBs oConv oMk oSl oExt oFn oIface oMap oLook oMapUp oRange oNext oEntry oInv oAssert oPanic oRes pN pA pL pDr pIf gA pGd Calls
section
theorem Addr.add_none (a:Addr):a.add 0=a:=by unfold Addr.add;simp
theorem Sl.sub_zero (s:Sl) (n:Nat):s.sub 0 n=s:=by
 unfold Sl.sub
 obtain⟨a,c⟩:=s
 cases a with
 |none=>simp
 |some a=>simp[Addr.add_none]
attribute [local irreducible] S.comp
section
variable [Pan] {E w W:World} {K Q:Value→World→Prop} {LL M N N':List HA} {s:Sl} {c:T_api_Config} {db:Nat} {d:D.T}
set_option maxHeartbeats 4000000 in
theorem Compact_ok {l:List I32} (hS:Sat E w (rows (cdI 58) s l::M)) (hl:l.length≤1099511627776) (hQ:∀w,Sat E w (rows (cdI 58) s (S.comp l)::M)→Q (.slice s.a (S.comp l).length s.c) w):
  Calls zp 69 #[.slice s.a l.length s.c] w (retP Q):=by
 refine slices_Compact___api_ID_api_ID_.calls ?_
 unfold slices_Compact___api_ID_api_ID_.F
 by_cases h2:l.length<2
 ·have hc:S.comp l=l:=by
   match l,h2 with
   | [],_=>exact S.comp_nil
   | [x],_=>exact(S.comp_at [] x).trans (by rw[S.comp_nil];rfl)
  rw[hc] at hQ
  repeat' (first|(refine pN_lss_s ?_ ?_<;>intro hc<;>try (exfalso;omega))|refine pIf_t ?_|refine pN_v (hk:=?_)|fail)
  exact hQ _ hS
 repeat' (first|(refine pN_lss_s ?_ ?_<;>intro hc<;>try (exfalso;omega))|refine pIf_f ?_|refine pN_v (hk:=?_)|fail)
 refine⟨fun v w=>∃k:Nat,v= .int .i64 k∧1≤k∧k≤l.length∧S.comp (l.take k)=l.take k∧Sat E w (rows (cdI 58) s l::M),fun v _=>l.length-(RowKit.intOf v).toNat,⟨1,rfl,by omega,by omega,?_,hS⟩,?_⟩
 ·obtain⟨x0,hx0⟩:∃x,l[0]? =some x:=⟨l[0],List.getElem?_eq_getElem _⟩
  have h1:l.take (0+1)=l.take 0++[x0]:=by rw[List.take_add_one,hx0];rfl
  rw[List.take_zero,List.nil_append] at h1
  have h3:=S.comp_at [] x0
  rw[S.comp_nil] at h3
  show S.comp (l.take (0+1))=l.take (0+1)
  rw[h1]
  exact h3
 clear hS
 rintro _ _ w ⟨k,rfl,hk1,hk,hcp,hS⟩
 by_cases hlt:k<l.length
 ·obtain⟨x,hx⟩:∃x,l[k]? =some x:=⟨l[k],List.getElem?_eq_getElem _⟩
  obtain⟨y,hy⟩:∃y,l[k-1]? =some y:=⟨l[k-1],List.getElem?_eq_getElem _⟩
  have htk:l.take (k+1)=l.take k++[x]:=by rw[List.take_add_one,hx];rfl
  have hlast:(l.take k).getLast?=some y:=by
   rw[List.getLast?_eq_getElem?,List.length_take,Nat.min_eq_left hk,List.getElem?_take_of_lt (by omega)]
   exact hy
  have hnx:=S.comp_at (l.take k) x
  rw[←htk,hlast,hcp] at hnx
  repeat' (first|refine pA_ixk hS k (by omega) (by omega) hx fun ad ha hel=>?_|refine pA_ixk hS (k-1) (by omega) (by omega) hy fun ad ha hel=>?_|refine pL_ld_at ha hS (i32n _) ?_|(refine pN_lss_s ?_ ?_<;>intro hc<;>try (exfalso;omega))|refine pIf_t ?_|(refine pDr_go hS ?_;clear hS;intro w hS)|refine pN_v (hk:=?_)|refine pA_v (hk:=?_)|fail)
  refine pA_eql_id (a:=x) (b:=y) (fun hxy=>?_) fun hxy=>?_
  rotate_left 1
  ·rw[if_neg (fun e=>hxy (Option.some.inj e).symm)] at hnx
   repeat' (first|refine pIf_f ?_|refine pN_v (hk:=?_)|fail)
   exact⟨⟨k+1,rfl,by omega,by omega,by rw[hnx,htk],hS⟩,by simp[RowKit.intOf]<;>omega⟩
  rw[if_pos (by rw[hxy])] at hnx
  refine pIf_t ?_
  refine pN_sl_l (Row.slt (C:=cdI 58)) (hS.rds (C:=cdI 58) (s:=s)) (by omega) (by omega) ?_
  rw[Int.toNat_natCast,subV_sl]
  refine⟨fun v v' w=>∃(k3 k2:Nat) (R:List I32),v= .int .i64 k3∧v'= .int .i64 k2∧1≤k2∧k+k2≤l.length∧k3+1≤k+k2∧1≤k3∧R.length=l.length∧R.take k3=S.comp (l.take (k+k2))∧R.drop (k+k2-1)=l.drop (k+k2-1)∧Sat E w (rows (cdI 58) s R::M),fun _ v _=>l.length-(RowKit.intOf v).toNat,
   ⟨k,1,l,rfl,rfl,Nat.le_refl _,hlt,by omega,hk1,rfl,hnx.symm,rfl,hS⟩,?_⟩
  clear hS
  rintro _ _ _ w ⟨k3,k2,R,rfl,rfl,h21,hkk,h3k,h31,hRl,hRt,hRd,hS⟩
  have hkl:k≤R.length:=by omega
  haveI hsub:Rds (cdI 58) (rows (cdI 58) s R::M) (s.sub k (cdI 58).size) (R.drop k):=by
   have:=Rds.sub (C:=cdI 58) (L:=rows (cdI 58) s R::M) (s:=s) (l:=R) k R.length hkl (Nat.le_refl _)
   rwa[List.take_of_length_le (by simp)] at this
  have hdl:(R.drop k).length=l.length-k:=by rw[List.length_drop,hRl]
  by_cases hlt2:k+k2<l.length
  ·obtain⟨u,hu⟩:∃u,l[k+k2]? =some u:=⟨l[k+k2],List.getElem?_eq_getElem _⟩
   obtain⟨v,hv⟩:∃v,l[k+k2-1]? =some v:=⟨l[k+k2-1],List.getElem?_eq_getElem _⟩
   have hdr:∀j,k+k2-1≤j→R[j]? =l[j]? :=fun j hj=>by
    have h1:(R.drop (k+k2-1))[j-(k+k2-1)]? =(l.drop (k+k2-1))[j-(k+k2-1)]? :=by rw[hRd]
    rw[List.getElem?_drop,List.getElem?_drop] at h1
    have e:k+k2-1+(j-(k+k2-1))=j:=by omega
    rw[e] at h1
    exact h1
   have hu':(R.drop k)[k2]? =some u:=by rw[List.getElem?_drop,hdr _ (by omega),hu]
   have hv':(R.drop k)[k2-1]? =some v:=by
    rw[List.getElem?_drop,hdr _ (by omega)]
    have e:k+(k2-1)=k+k2-1:=by omega
    rw[e,hv]
   have htk2:l.take (k+(k2+1))=l.take (k+k2)++[u]:=by
    rw[←Nat.add_assoc,List.take_add_one,hu];rfl
   have hlast2:(l.take (k+k2)).getLast?=some v:=by
    rw[List.getLast?_eq_getElem?,List.length_take,Nat.min_eq_left hkk,List.getElem?_take_of_lt (by omega)]
    exact hv
   have hnx2:=S.comp_at (l.take (k+k2)) u
   rw[←htk2,hlast2] at hnx2
   have hdr2:R.drop (k+(k2+1)-1)=l.drop (k+(k2+1)-1):=by
    have h1:=congrArg (List.drop 1) hRd
    rw[List.drop_drop,List.drop_drop] at h1
    have e:k+k2-1+1=k+(k2+1)-1:=by omega
    rw[e] at h1
    exact h1
   rw[←hdl]
   repeat' (first|(refine pN_lss_s ?_ ?_<;>intro hc<;>try (exfalso;omega))|refine pIf_t ?_|refine pN_v (hk:=?_)|fail)
   refine⟨fun v w=>∃(k3':Nat) (R':List I32),v= .int .i64 k3'∧k3'+1≤k+(k2+1)∧1≤k3'∧R'.length=l.length∧R'.take k3'=S.comp (l.take (k+(k2+1)))∧R'.drop (k+(k2+1)-1)=l.drop (k+(k2+1)-1)∧Sat E w (rows (cdI 58) s R'::M),?_,?_⟩
   ·repeat' (first|refine pA_ixk hS k2 (by omega) (by omega) hu' fun ad ha hel=>?_|refine pA_ixk hS (k2-1) (by omega) (by omega) hv' fun ad ha hel=>?_|refine pL_ld_at ha hS (i32n _) ?_|(refine pDr_go hS ?_;clear hS;intro w hS)|refine pA_v (hk:=?_)|fail)
    refine pA_neq_id (a:=u) (b:=v) (fun huv=>?_) fun huv=>?_
    ·rw[if_pos (by rw[huv])] at hnx2
     repeat' (first|refine pIf_f ?_|fail)
     exact⟨k3,R,rfl,by omega,h31,hRl,by rw[hnx2];exact hRt,hdr2,hS⟩
    ·rw[if_neg (fun e=>huv (Option.some.inj e).symm)] at hnx2
     have hk3:k3<R.length:=by omega
     obtain⟨z,hz⟩:∃z,R[k3]? =some z:=⟨R[k3],List.getElem?_eq_getElem _⟩
     repeat' (first|refine pN_ixk hS k2 (by omega) (by omega) hu' fun ad ha hel=>?_|refine pN_ld_at ha hS (i32n _) ?_|refine pN_ixk (s:=s) (l:=R) hS k3 (by omega) (by omega) hz fun ad ha hel=>?_|(refine pN_srn (x:=u) hel hS (by rfl) (by rfl) (by omega) ?_;clear hS;intro w hS)|refine pIf_t ?_|refine pN_v (hk:=?_)|fail)
     refine⟨k3+1,R.set k3 u,rfl,by omega,by omega,by rw[List.length_set];exact hRl,?_,?_,hS⟩
     ·rw[hnx2,←hRt,List.take_add_one,List.getElem?_set_self (by omega),List.take_set_of_le (Nat.le_refl _)]
      rfl
     ·rw[List.drop_set_of_lt (by omega)]
      exact hdr2
   ·clear hS hsub
    rintro _ _ w ⟨k3',R',rfl,q1,q2,q3,q4,q5,hS⟩
    repeat' (first|refine pN_v (hk:=?_)|fail)
    exact⟨⟨k3',k2+1,R',rfl,rfl,by omega,by omega,q1,q2,q3,q4,q5,hS⟩,by simp[RowKit.intOf]<;>omega⟩
  ·have hke:k+k2=l.length:=by omega
   rw[hke,List.take_length] at hRt
   have hk3l:k3≤R.length:=by omega
   rw[←hdl]
   repeat' (first|(refine pN_lss_s ?_ ?_<;>intro hc<;>try (exfalso;omega))|refine pIf_f ?_|refine pN_v (hk:=?_)|fail)
   rw[←hRl]
   refine pN_sl_l (Row.slt (C:=cdI 58)) (hS.rds (C:=cdI 58) (s:=s)) (by omega) (by omega) ?_
   rw[Int.toNat_natCast,subV_sl]
   refine pN_clr (C:=cdI 58) (s:=s) (l:=R) hS k3 hk3l rfl ?_
   clear hS hsub
   intro w hS
   have hzl:(R.take k3++List.replicate (R.length-k3) (cdI 58).zero).length=R.length:=by rw[List.length_append,List.length_take,List.length_replicate];omega
   have hzt:(R.take k3++List.replicate (R.length-k3) (cdI 58).zero).take k3=S.comp l:=by
    rw[List.take_append_of_le_length (by rw[List.length_take];omega),List.take_take,Nat.min_self,hRt]
   generalize R.take k3++List.replicate (R.length-k3) (cdI 58).zero=Z at*
   rw[←hzl]
   refine pN_sl_h (Row.slt (C:=cdI 58)) (hS.rds (C:=cdI 58) (s:=s)) (by omega) (by omega) ?_
   rw[Int.toNat_natCast,subV_sl,Sl.sub_zero,Nat.sub_zero]
   have hS:=hS.cut k3 (by omega) (by omega)
   rw[hzt] at hS
   have hcl:(S.comp l).length=k3:=by rw[←hzt,List.length_take];omega
   rw[hcl] at hQ
   exact hQ _ hS
 ·obtain rfl:k=l.length:=by omega
  rw[List.take_length] at hcp
  rw[hcp] at hQ
  repeat' (first|(refine pN_lss_s ?_ ?_<;>intro hc<;>try (exfalso;omega))|refine pIf_f ?_|refine pN_v (hk:=?_)|fail)
  exact hQ _ hS
theorem order_enters:∀args w,(callFunc 67 args).run zp w= .ok (.enter 67 args) w:=enters_of Tryz.func67 (by kernel_rfl) rfl
set_option maxHeartbeats 2000000 in
theorem Needs_ok (hS:Sat E w LL) [hf:Fnd (Dep c db) LL d N] (n:NKey) {es:List L.En} {root:List I32} (ht:S.Tells d n.1 es root) (hbl:∀q,d.get root=some q→q.length≤1099511627776) (hal:(S.allsOf root es).length≤1099511627776) (hel:es.length≤1099511627776)
  (hQ:∀s w,Sat E w (rows (cdI 58) s (S.needsOf root es)::Dep c db d::N)→Q (.tuple #[.slice s.a (S.needsOf root es).length s.c,.int .i64 0]) w):
  Calls zp 17 #[.pointer (some ⟨db,0,none⟩),nke n] w (retP Q):=by
 refine snap_Needs.calls ?_
 unfold snap_Needs.F
 have hrl:root.length≤1099511627776:=by
  have:(S.allsOf root es).length=root.length+((es.map (·.sums)).flatten).length:=by unfold S.allsOf;rw[List.length_append]
  omega
 refine pcq (f:=61) (slisted_ok (c:=c) hS n ht hrl hbl ?_)
 clear hS
 intro ee se sr w hee hba hS
 have hell:ee.length=es.length:=by rw[←hee,List.length_map]
 have hal2:=S.alls_le root es
 repeat' (first|(refine pcq (f:=65) (SCloneI_ok (s:=sr) (li:=root) hS hrl ?_);clear hS;intro s2 w hS)|(refine pN_neq_s ?_ ?_<;>intro hc<;>try (exfalso;first|omega|exact gone hc|exact gon2 hc))|refine pIf_f ?_|refine pN_v (hk:=?_)|fail)
 refine⟨fun v v' w=>∃(j:Nat) (so:Sl),v= .slice so.a (S.allsOf root (es.take j)).length so.c∧v'= .int .i64 j∧j≤ee.length∧
  Sat E w (rows (cdI 58) so (S.allsOf root (es.take j))::rows cdE se ee::bag (eeR ee)::Dep c db d::N),fun _ v _=>ee.length-(RowKit.intOf v).toNat,
  ⟨0,s2,?_,rfl,by omega,?_⟩,?_⟩
 ·have e:S.allsOf root (es.take 0)=root:=by unfold S.allsOf;simp
  rw[e]
 ·have e:S.allsOf root (es.take 0)=root:=by unfold S.allsOf;simp
  rw[e]
  exact hS.to
 clear hS
 rintro _ _ _ w ⟨j,so,rfl,rfl,hj,hS⟩
 have hb1:=hal2 j
 by_cases hlt:j<ee.length
 ·obtain⟨p,hp⟩:∃p,ee[j]? =some p:=⟨ee[j],List.getElem?_eq_getElem _⟩
  have hm:=List.mem_of_getElem? hp
  have hes:es[j]? =some (enOf p):=by rw[←hee,List.getElem?_map,hp];rfl
  have hnx:=S.alls_take (r:=root) hes
  have hb2:=hal2 (j+1)
  rw[hnx,List.length_append] at hb2
  have hsm:(enOf p).sums=p.2.2:=rfl
  rw[hsm] at hnx hb2
  haveI:RdP (cdI 58) (bag (eeR ee)) p.2.1 p.2.2:=eeR_rd hm
  generalize S.allsOf root (es.take j)=A0 at*
  repeat' (first|(refine pN_lss_s ?_ ?_<;>intro hc<;>try (exfalso;omega))|refine pIf_t ?_|refine pN_l hS (by first|rfl|assumption) ?_|refine pN_ld_at ha hS (by rfl) ?_|(refine pN_sa hS (by rfl) (by rfl) (by rfl) ?_;clear hS;intro w hS;try dsimp only at hS)|(refine pN_nz hS ?_;clear hS;intro a w hS)|refine pN_ixk hS _ (by first|rfl|(exact(Int.toNat_of_nonneg (by omega)).symm)) (by first|rfl|omega|simpa only[go_sem] using True.intro|(simp only[go_sem];omega)) (by assumption) fun a ha hel=>?_|(refine pN_app hS (by first|rfl|omega|simpa only[go_sem] using True.intro|(simp only[go_sem];omega)) (by first|rfl|omega|simpa only[go_sem] using True.intro|(simp only[go_sem];omega)) (by first|omega|(simp only[go_sem];omega)) ?_;clear hS;intro s w hS)|refine pN_v (hk:=?_)|fail)
  exact⟨⟨j+1,s,by rw[hnx],rfl,by omega,by rw[hnx];exact hS.to⟩,by simp[RowKit.intOf]<;>omega⟩
 ·obtain rfl:j=ee.length:=by omega
  rw[hell,List.take_length] at hS ⊢
  have hnl:S.needsOf root es=S.comp (S.sortI (S.allsOf root es)):=rfl
  rw[hnl] at hQ
  have hsl:(S.sortI (S.allsOf root es)).length=(S.allsOf root es).length:=(S.sortI_perm _).length_eq
  generalize S.allsOf root es=A1 at*
  have hS1:Sat E w (rows (cdI 58) so A1::Dep c db d::N):=hS.to
  repeat' (first|(refine pN_lss_s ?_ ?_<;>intro hc<;>try (exfalso;omega))|refine pIf_f ?_|fail)
  refine pcq (f:=66) (SortI_ok _ order_enters cmpAt_needs hS1 (by omega) ?_)
  clear hS hS1
  intro w hS
  rw[←hsl]
  generalize S.sortI A1=A2 at*
  refine pcq (f:=69) (Compact_ok hS (by omega) ?_)
  clear hS
  intro w hS
  exact hQ so _ hS
end
end
section
namespace S
def full (e:L.En) (s:Sl) (b:D.B):It:=⟨e.name,e.link,e.kind,e.mode,e.time,(s,b)⟩
def plainI (x:It):It:=⟨x.Name,x.Link,x.Kind,x.Mode,x.Time,(⟨none,0⟩,x.Data.2)⟩
def fulls (dat:L.En→D.B) (es:List L.En):List It:=es.map fun e=>full e ⟨none,0⟩ (dat e)
end S
def itR (its:List T_api_Item):List HA:=its.map fun x=>rows cd_uint8 x.Data.1 x.Data.2
theorem itR_snoc {E w:World} {M:List HA} {its:List T_api_Item} (x:T_api_Item) (hS:Sat E w (rows cd_uint8 x.Data.1 x.Data.2::bag (itR its)::M)):Sat E w (bag (itR (its++[x]))::M):=by
 have h1:=(hS.perm (List.Perm.swap _ _ _)).openBag
 have e:itR its++(rows cd_uint8 x.Data.1 x.Data.2::M)=itR (its++[x])++M:=by simp[itR]
 rw[e] at h1
 exact h1.shutBag
theorem itR_rd {its:List T_api_Item} {x:T_api_Item} (h:x∈its):RdP cd_uint8 (bag (itR its)) x.Data.1 x.Data.2:=⟨fun w ⟨h1,hN,hh⟩=>by
 obtain⟨h2,hA,hs⟩:=Sats.mem (List.mem_map.2 ⟨x,h,rfl⟩:rows cd_uint8 x.Data.1 x.Data.2∈itR its) hN
 exact RdA.own w ⟨h2,hA,fun b o e=>hh b o (hs b o e)⟩⟩
section
variable [Pan] {E w W:World} {K Q:Value→World→Prop} {LL M N N':List HA} {c:T_api_Config} {db:Nat} {d:D.T}
theorem item_ok (p:EE) (hp:p.1=S.bare (enOf p)) (hS:Sat E w LL) [hf:Fnd (Dep c db) LL d N] [hr:Rds (cdI 58) N p.2.1 p.2.2] (hl:p.2.2.length≤1099511627776) {bs:D.B} (hk:p.1.Kind=0→d.get p.2.2=some bs) (hkn:p.1.Kind≠0→bs=[]) (hb:bs.length≤140737488355328)
  (hQ:∀s w,Sat E w (rows cd_uint8 s bs::Dep c db d::N)→Q (.tuple #[.agg (S.full (enOf p) s bs).enc.toArray,.int .i64 0]) w):
  Calls zp 71 #[.pointer (some ⟨db,0,none⟩),.agg (cdE.enc p).toArray] w (retP Q):=by
 refine snap_item.calls ?_
 unfold snap_item.F
 obtain⟨x,sx,li⟩:=p
 dsimp only at hk hkn hr hl
 have hp:x=⟨x.Name,x.Link,x.Kind,x.Mode,x.Time,(⟨none,0⟩,[])⟩:=hp
 obtain⟨nm,lk,kd,md,tm,dt⟩:=x
 obtain rfl:dt=(⟨none,0⟩,[]):=by injection hp
 dsimp only at hk hkn
 have hS1:=hS.fd (Dep c db)
 clear hS hf hp
 have hS:=hS1
 clear hS1
 refine pN_bx (z:=cdE.enc ((⟨nm,lk,kd,md,tm,(⟨none,0⟩,[])⟩:T_api_Item),(sx,li))) hS rfl ?_
 clear hS
 intro eb w hS
 repeat' (first|(refine pN_nz hS ?_;clear hS;intro a w hS)|refine pN_v (hk:=?_)|fail)
 revert a
 intro x4 hS
 refine pN_la_at (n:=6) hS [.string ⟨nm.toArray⟩,.string ⟨lk.toArray⟩,.int .i64 kd,.int .i64 md,.int .i64 tm,.slice none 0 0] rfl rfl ?_
 by_cases k0:kd=0
 ·repeat' (first|(refine pcq (f:=55) (DGet_ok (c:=c) (s:=sx) (li:=li) hS hl (fun j q hq=>by have:=D.get_pre (hk k0) hq;omega) (fun hno=>by rw[hk k0] at hno;cases hno) ?_))|(refine pN_neq_s ?_ ?_<;>intro hc<;>try (exfalso;first|omega|exact gone hc|exact gon2 hc))|refine pIf_f ?_|refine pN_l hS (by first|rfl|assumption) ?_|(refine pN_sa hS (by rfl) (by rfl) (by rfl) ?_;clear hS;intro w hS;try dsimp only at hS)|(refine pN_nz hS ?_;clear hS;intro a w hS)|refine pN_v (hk:=?_)|fail)
  intro q hq
  rw[hk k0] at hq
  cases hq
  clear hS
  intro sb w hS
  repeat' (first|(refine pN_neq_s ?_ ?_<;>intro hc<;>try (exfalso;first|omega|exact gone hc|exact gon2 hc))|refine pIf_f ?_|refine pN_la hS (by rfl) ?_|refine pL_ra hS (by rfl) ?_|(refine pN_s hS (by first|exact Nat.le_of_ble_eq_true rfl|assumption) (by rfl) ?_;clear hS;intro w hS;try simp only[List.set_cons_zero,List.set_cons_succ] at hS)|(refine pN_sa hS (by rfl) (by rfl) (by rfl) ?_;clear hS;intro w hS;try dsimp only at hS)|refine pN_v (hk:=?_)|fail)
  exact hQ sb _ hS.to
 ·have hbs:=hkn k0
  subst hbs
  repeat' (first|(refine pN_neq_s ?_ ?_<;>intro hc<;>try (exfalso;first|omega|exact gone hc|exact gon2 hc))|refine pIf_t ?_|refine pN_l hS (by first|rfl|assumption) ?_|refine pN_la hS (by rfl) ?_|refine pL_ra hS (by rfl) ?_|(refine pN_sa hS (by rfl) (by rfl) (by rfl) ?_;clear hS;intro w hS;try dsimp only at hS)|(refine pN_nz hS ?_;clear hS;intro a w hS)|refine pN_v (hk:=?_)|fail)
  have h8:Sat E w (rows cd_uint8 ⟨none,0⟩ []::_):=hS.nil cd_uint8.e cd_uint8.size
  exact hQ ⟨none,0⟩ _ h8.to
set_option maxHeartbeats 2000000 in
theorem Items_ok (hS:Sat E w LL) [hf:Fnd (Dep c db) LL d N] (n:NKey) {es:List L.En} {root:List I32} (ht:S.Tells d n.1 es root) (hrl:root.length≤1099511627776) (hbl:∀q,d.get root=some q→q.length≤1099511627776) (hel:es.length≤1099511627776)
  (dat:L.En→D.B) (hd:∀e∈es,e.sums.length≤1099511627776∧(e.kind=0→d.get e.sums=some (dat e))∧(e.kind≠0→dat e=[])∧(dat e).length≤140737488355328)
  (hQ:∀(outs:List T_api_Item) so w,outs.map S.plainI=S.fulls dat es→Sat E w (rows cd_api_Item so outs::bag (itR outs)::Dep c db d::N)→Q (.tuple #[.slice so.a outs.length so.c,.int .i64 0]) w):
  Calls zp 24 #[.pointer (some ⟨db,0,none⟩),nke n] w (retP Q):=by
 refine snap_Items.calls ?_
 unfold snap_Items.F
 refine pcq (f:=61) (slisted_ok (c:=c) hS n ht hrl hbl ?_)
 clear hS
 intro ee se sr w hee hba hS
 have hell:ee.length=es.length:=by rw[←hee,List.length_map]
 repeat' (first|(refine pN_neq_s ?_ ?_<;>intro hc<;>try (exfalso;first|omega|exact gone hc|exact gon2 hc))|refine pIf_f ?_|refine pN_v (hk:=?_)|fail)
 refine⟨fun v v' w=>∃(j:Nat) (outs:List T_api_Item) (so:Sl),v= .slice so.a outs.length so.c∧v'= .int .i64 j∧j≤ee.length∧outs.length=j∧outs.map S.plainI=S.fulls dat (es.take j)∧
  Sat E w (rows cd_api_Item so outs::bag (itR outs)::Dep c db d::rows cdE se ee::bag (eeR ee)::N),fun _ v _=>ee.length-(RowKit.intOf v).toNat,
  ⟨0,[],⟨none,0⟩,rfl,rfl,by omega,rfl,rfl,?_⟩,?_⟩
 ·have h8:Sat E w (rows cd_api_Item ⟨none,0⟩ []::_):=hS.nil cd_api_Item.e cd_api_Item.size
  have h9:Sat E w (bag (itR [])::rows cd_api_Item ⟨none,0⟩ []::_):=h8.bag_nil
  exact h9.to
 clear hS
 rintro _ _ _ w ⟨j,outs,so,rfl,rfl,hj,hol,hpl,hS⟩
 by_cases hlt:j<ee.length
 ·obtain⟨p,hp⟩:∃p,ee[j]? =some p:=⟨ee[j],by simp[hlt]⟩
  have hm:=List.mem_of_getElem? hp
  have hes:es[j]? =some (enOf p):=by rw[←hee,List.getElem?_map,hp];rfl
  obtain⟨d1,d2,d3,d4⟩:=hd (enOf p) (List.mem_of_getElem? hes)
  have hb:=hba p hm
  haveI:RdP (cdI 58) (bag (eeR ee)) p.2.1 p.2.2:=eeR_rd hm
  have hnx:S.fulls dat (es.take (j+1))=S.fulls dat (es.take j)++[S.full (enOf p) ⟨none,0⟩ (dat (enOf p))]:=by
   unfold S.fulls
   rw[List.take_add_one,hes,List.map_append];rfl
  repeat' (first|(refine pcq (f:=71) (item_ok (c:=c) (d:=d) p hb hS d1 (bs:=dat (enOf p)) d2 d3 d4 ?_);clear hS;intro si w hS)|(refine pN_lss_s ?_ ?_<;>intro hc<;>try (exfalso;omega))|(refine pN_neq_s ?_ ?_<;>intro hc<;>try (exfalso;first|omega|exact gone hc|exact gon2 hc))|refine pIf_t ?_|refine pIf_f ?_|refine pN_ld_at ha hS (by rfl) ?_|refine pN_la hS (by rfl) ?_|(refine pN_sa hS (by rfl) (by rfl) (by rfl) ?_;clear hS;intro w hS;try dsimp only at hS)|(refine pN_nz hS ?_;clear hS;intro a w hS)|refine pN_ixk hS _ (by first|rfl|(exact(Int.toNat_of_nonneg (by omega)).symm)) (by first|rfl|omega|simpa only[go_sem] using True.intro|(simp only[go_sem];omega)) (by assumption) fun a ha hel=>?_|(refine pN_b1 hS (by rfl) (by decide) ?_;clear hS;intro s w hS)|(refine pN_app hS (by first|rfl|omega|simpa only[go_sem] using True.intro|(simp only[go_sem];omega)) (by first|rfl|omega|simpa only[go_sem] using True.intro|(simp only[go_sem];omega)) (by first|omega|(simp only[go_sem];omega)) ?_;clear hS;intro s w hS)|refine pN_v (hk:=?_)|fail)
  have hS:Sat E w (rows cd_uint8 (S.full (enOf p) si (dat (enOf p))).Data.1 (S.full (enOf p) si (dat (enOf p))).Data.2::bag (itR outs)::rows cd_api_Item s (outs++[S.full (enOf p) si (dat (enOf p))])::Dep c db d::rows cdE se ee::bag (eeR ee)::N):=by
   have h7:Sat E w (rows cd_uint8 si (dat (enOf p))::bag (itR outs)::rows cd_api_Item s (outs++[S.full (enOf p) si (dat (enOf p))])::Dep c db d::rows cdE se ee::bag (eeR ee)::N):=hS.to
   exact h7
  have hS:=itR_snoc _ hS
  refine⟨⟨j+1,_,s,rfl,rfl,by omega,by rw[List.length_append,hol];rfl,?_,hS.to⟩,by simp[RowKit.intOf]<;>omega⟩
  rw[List.map_append,hpl,hnx]
  rfl
 ·obtain rfl:j=ee.length:=by omega
  rw[hell,List.take_length] at hpl
  repeat' (first|(refine pN_lss_s ?_ ?_<;>intro hc<;>try (exfalso;omega))|refine pIf_f ?_|fail)
  exact hQ outs so _ hpl hS.to
end
end
section
section
variable [Pan] {E w W:World} {K Q:Value→World→Prop} {LL M N N':List HA} {c:T_api_Config} {db:Nat} {d:D.T}
theorem slisted_no (hS:Sat E w LL) [hf:Fnd (Dep c db) LL d N] (n:NKey) {root:List I32} (hr:D.look d.ns n.1=some root) (hrl:root.length≤1099511627776) (hb:∀j q,d.get (root.take j)=some q→q.length≤140737488355328) (hg:d.get root=none)
  (hQ:∀w,Sat E w (Dep c db d::N)→Q (.tuple #[.slice none 0 0,.slice none 0 0,.int .i64 1]) w):
  Calls zp 61 #[.pointer (some ⟨db,0,none⟩),nke n] w (retP Q):=by
 refine snap_listed.calls ?_
 unfold snap_listed.F
 refine pcq (f:=54) (DRoot_ok (c:=c) hS n (fun q hq=>by rw[hr] at hq;cases hq;exact hrl) (fun hno=>by rw[hr] at hno;cases hno) fun q hq=>?_)
 rw[hr] at hq
 cases hq
 clear hS
 intro sr w hS
 repeat' (first|(refine pcq (f:=55) (DGet_ok (c:=c) (s:=sr) (li:=root) hS hrl hb (fun _=>?_) (fun q hq=>by rw[hg] at hq;cases hq));clear hS;intro w hS)|(refine pN_neq_s ?_ ?_<;>intro hc<;>try (exfalso;first|omega|exact gone hc|exact gon2 hc))|refine pIf_t ?_|refine pIf_f ?_|refine pN_v (hk:=?_)|fail)
 exact hQ _ hS.to
theorem Needs_cut (hS:Sat E w LL) [hf:Fnd (Dep c db) LL d N] (n:NKey) {root:List I32} (hr:D.look d.ns n.1=some root) (hrl:root.length≤1099511627776) (hb:∀j q,d.get (root.take j)=some q→q.length≤140737488355328) (hg:d.get root=none)
  (hQ:∀w,Sat E w (Dep c db d::N)→Q (.tuple #[.slice none 0 0,.int .i64 1]) w):
  Calls zp 17 #[.pointer (some ⟨db,0,none⟩),nke n] w (retP Q):=by
 refine snap_Needs.calls ?_
 unfold snap_Needs.F
 refine pcq (f:=61) (slisted_no (c:=c) hS n hr hrl hb hg ?_)
 clear hS
 intro w hS
 repeat' (first|(refine pN_neq_s ?_ ?_<;>intro hc<;>try (exfalso;first|omega|exact gone hc|exact gon2 hc))|refine pIf_t ?_|refine pN_v (hk:=?_)|fail)
 exact hQ _ hS
end
end
end
end Go.Proofs.YtikmogfhhggafaaGreatDoor

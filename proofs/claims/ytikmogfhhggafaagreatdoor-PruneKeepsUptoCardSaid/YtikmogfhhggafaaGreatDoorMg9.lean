import Derived.Test.YtikmogfhhggafaaGreatDoorRows
import Derived.SevenTiedAt
import Derived.Shelf.Sort.Plain
import Derived.Shelf.Slices.In.SortNone
import Derived.Test.YtikmogfhhggafaaGreatDoorMg8
set_option linter.all false
namespace Go.Proofs.YtikmogfhhggafaaGreatDoor
open Go
open Go.Proofs.Tryz renaming prog→zp
section
variable [Pan] {x0 x1 x2:Value} {w:World} {Q:QQ}
set_option maxRecDepth 100000
def pithlaw37_PruneKeeps.H:Hints:={ cut:=fun|30=>some ([15],186889521873689210665296197983594691138502373965824)|_=>none,loop:=fun|7=>([9],144106391982834176)|18=>([18],10633803683869723331560032534991732800)|_=>([],0),order:=fun|20=>[(0,0),(1,1),(2,3),(3,7),(4,15),(6,31),(7,95),(8,223),(9,479),(10,991),(5,2015),(11,2047),(12,4095)]|37=>(ot 30)|_=>[] }
def pithlaw37_PruneKeeps.F (x0 x1 x2:Value) (w:World) (Q:QQ):Prop:=
 pN zp (oCall 34 [x0,(.int .i64 0)]) w fun x31 w1=>
 pN zp (oExt x31 0) w1 fun x32 w2=>
 pN zp (oExt x31 1) w2 fun x33 w3=>
 pN zp (oUn .not x33) w3 fun x35 w4=>
 pGd (gB x35 false) (pN zp (oCall 35 []) w4) w4 fun x37 w5=>
 pGd (gB x35 false) (pN zp (oUn .not x37) w5) w5 fun x38 w6=>
 pN zp (oPick x35 (.bool true) x38) w6 fun x39 w7=>
 pIf x39
 (Q (.bool false) w7)
 (pN zp (oCall 36 [x0]) w7 fun x41 w8=>
 pN zp (oUn .not x41) w8 fun x42 w9=>
 pIf x42
 (Q (.bool true) w9)
 (∃(L7:Value→World→Prop) (m7:Value→World→Nat),
 L7 (.int .i64 0) w9∧
 ∀(_k7:Env) (i9l7:Value) (w10:World),L7 i9l7 w10→
 pN zp (oBi .len #[71] 3 [false] [x1]) w10 fun x45 w11=>
 pN zp (oBin .lss 3 (.tmp 43) (.tmp 45) i9l7 x45) w11 fun x46 w12=>
 pIf x46
 (pN zp (oBs 47 0 []) w12 fun x50 w13=>
 pN zp (oIdx 71 x1 i9l7) w13 fun x53 w14=>
 pN zp (oLoad 47 x53) w14 fun x54 w15=>
 pN zp (oBi .append #[47,47] 47 [false,false] [x50,x54]) w15 fun x55 w16=>
 pN zp (oCall 16 [x32,x55]) w16 fun _ w17=>
 pN zp (oBin .add 3 (.tmp 47) (.const (.int .i64 1)) i9l7 (.int .i64 1)) w17 fun x48 w18=>
 (L7 x48 w18∧m7 x48 w18<m7 i9l7 w10))
 (pN zp (oCall 37 [x32]) w12 fun x59 w19=>
 pN zp (oExt x59 0) w19 fun x60 w20=>
 pN zp (oExt x59 1) w20 fun x61 w21=>
 pN zp (oCall 38 [x32]) w21 fun x63 w22=>
 pN zp (oCall 19 [x32]) w22 fun x65 w23=>
 pN zp (oCall 39 [x32]) w23 fun x67 w24=>
 pN zp (oCall 40 [x32]) w24 fun x70 w25=>
 pN zp (oExt x70 0) w25 fun x71 w26=>
 pN zp (oExt x70 1) w26 fun x72 w27=>
 pN zp (oExt x70 2) w27 fun x73 w28=>
 pN zp (oUn .not x61) w28 fun x75 w29=>
 pGd (gB x75 false) (pN zp (oMv x73) w29) w29 fun x77 w30=>
 pGd (gB x75 false) (pN zp (oBin .neq 38 (.tmp 77) (.const (.int .i64 0)) x77 (.int .i64 0)) w30) w30 fun x78 w31=>
 pN zp (oPick x75 (.bool true) x78) w31 fun x79 w32=>
 pGd (gB x79 false) (pN zp (oMv x71) w32) w32 fun x81 w33=>
 pGd (gB x79 false) (pN zp (oMv x65) w33) w33 fun x82 w34=>
 pGd (gB x79 false) (pN zp (oBi .len #[52] 3 [false] [x82]) w34) w34 fun x83 w35=>
 pGd (gB x79 false) (pN zp (oMv x32) w35) w35 fun x84 w36=>
 pGd (gB x79 false) (pN zp (oCall 19 [x84]) w36) w36 fun x85 w37=>
 pGd (gB x79 false) (pN zp (oBi .len #[52] 3 [false] [x85]) w37) w37 fun x86 w38=>
 pGd (gB x79 false) (pN zp (oBin .sub 3 (.tmp 83) (.tmp 86) x83 x86) w38) w38 fun x87 w39=>
 pGd (gB x79 false) (pN zp (oBin .neq 3 (.tmp 81) (.tmp 87) x81 x87) w39) w39 fun x88 w40=>
 pN zp (oPick x79 (.bool true) x88) w40 fun x89 w41=>
 pGd (gB x89 false) (pN zp (oMv x72) w41) w41 fun x91 w42=>
 pGd (gB x89 false) (pN zp (oMv x67) w42) w42 fun x92 w43=>
 pGd (gB x89 false) (pN zp (oMv x32) w43) w43 fun x93 w44=>
 pGd (gB x89 false) (pN zp (oCall 39 [x93]) w44) w44 fun x94 w45=>
 pGd (gB x89 false) (pN zp (oBin .sub 3 (.tmp 92) (.tmp 94) x92 x94) w45) w45 fun x95 w46=>
 pGd (gB x89 false) (pN zp (oBin .neq 3 (.tmp 91) (.tmp 95) x91 x95) w46) w46 fun x96 w47=>
 pN zp (oPick x89 (.bool true) x96) w47 fun x97 w48=>
 pGd (gB x97 false) (pN zp (oMv x32) w48) w48 fun x99 w49=>
 pGd (gB x97 false) (pN zp (oCall 41 [x99]) w49) w49 fun x100 w50=>
 pGd (gB x97 false) (pN zp (oBi .len #[90] 3 [false] [x100]) w50) w50 fun x101 w51=>
 pGd (gB x97 false) (pN zp (oBin .neq 3 (.tmp 101) (.const (.int .i64 0)) x101 (.int .i64 0)) w51) w51 fun x102 w52=>
 pN zp (oPick x97 (.bool true) x102) w52 fun x103 w53=>
 pIf x103
 (Q (.bool false) w53)
 (∃(L18:Value→World→Prop) (m18:Value→World→Nat),
 L18 (.int .i64 0) w53∧
 ∀(_k18:Env) (i18l18:Value) (w54:World),L18 i18l18 w54→
 pN zp (oBi .len #[52] 3 [false] [x65]) w54 fun x106 w55=>
 pN zp (oBin .lss 3 (.tmp 104) (.tmp 106) i18l18 x106) w55 fun x107 w56=>
 pIf x107
 (pDr w56 fun w57=>
 pA zp (oIdx 52 x65 i18l18) fun x113=>
 pL zp (oLoad 58 x113) w57 fun x114=>
 pA zp (oIdx 52 x65 i18l18) fun x119=>
 pL zp (oLoad 58 x119) w57 fun x120=>
 pN zp (oCall 18 [x32,x114]) w57 fun x115 w58=>
 ((Sem.run zp (oLoad 58 x119) w58= .ok (.value x120) w58)∧True)∧(pN zp (oCall 42 [x63,x120]) w58 fun x121 w59=>
 (True)∧(pA zp (oBin .neq 4 (.tmp 115) (.tmp 121) x115 x121) fun x122=>
 pIf x122
 (Q (.bool false) w59)
 (pN zp (oBin .add 3 (.tmp 108) (.const (.int .i64 1)) i18l18 (.int .i64 1)) w59 fun x109 w60=>
 (L18 x109 w60∧m18 x109 w60<m18 i18l18 w54)))))
 (pN zp (oCall 37 [x32]) w56 fun x125 w61=>
 pN zp (oExt x125 0) w61 fun x126 w62=>
 pN zp (oExt x125 1) w62 fun x127 w63=>
 pN zp (oCall 40 [x32]) w63 fun x130 w64=>
 pN zp (oExt x130 0) w64 fun x131 w65=>
 pN zp (oExt x130 1) w65 fun x132 w66=>
 pN zp (oExt x130 2) w66 fun x133 w67=>
 pN zp (oUn .not x127) w67 fun x135 w68=>
 pGd (gB x135 false) (pN zp (oMv x60) w68) w68 fun x137 w69=>
 pGd (gB x135 false) (pN zp (oMv x126) w69) w69 fun x138 w70=>
 pGd (gB x135 false) (pN zp (oCall 43 [x137,x138]) w70) w70 fun x139 w71=>
 pGd (gB x135 false) (pN zp (oUn .not x139) w71) w71 fun x140 w72=>
 pN zp (oPick x135 (.bool true) x140) w72 fun x141 w73=>
 pGd (gB x141 false) (pN zp (oMv x131) w73) w73 fun x143 w74=>
 pGd (gB x141 false) (pN zp (oBin .neq 3 (.tmp 143) (.const (.int .i64 0)) x143 (.int .i64 0)) w74) w74 fun x144 w75=>
 pN zp (oPick x141 (.bool true) x144) w75 fun x145 w76=>
 pGd (gB x145 false) (pN zp (oMv x132) w76) w76 fun x147 w77=>
 pGd (gB x145 false) (pN zp (oBin .neq 3 (.tmp 147) (.const (.int .i64 0)) x147 (.int .i64 0)) w77) w77 fun x148 w78=>
 pN zp (oPick x145 (.bool true) x148) w78 fun x149 w79=>
 pGd (gB x149 false) (pN zp (oMv x133) w79) w79 fun x151 w80=>
 pGd (gB x149 false) (pN zp (oBin .neq 38 (.tmp 151) (.const (.int .i64 0)) x151 (.int .i64 0)) w80) w80 fun x152 w81=>
 pN zp (oPick x149 (.bool true) x152) w81 fun x153 w82=>
 pIf x153
 (Q (.bool false) w82)
 (pN zp (oCall 30 [x32]) w82 fun x155 w83=>
 ∃I30:Value→World→Prop,
 (pN zp (oBin .lss 3 (.tmp 157) (.const (.int .i64 0)) x2 (.int .i64 0)) w83 fun x158 w84=>
 pGd (gB x158 false) (pN zp (oMv x2) w84) w84 fun x160 w85=>
 pGd (gB x158 false) (pN zp (oMv x155) w85) w85 fun x161 w86=>
 pGd (gB x158 false) (pN zp (oBi .len #[72] 3 [false] [x161]) w86) w86 fun x162 w87=>
 pGd (gB x158 false) (pN zp (oBin .gtr 3 (.tmp 160) (.tmp 162) x160 x162) w87) w87 fun x163 w88=>
 pN zp (oPick x158 (.bool true) x163) w88 fun x164 w89=>
 pIf x164
 (pN zp (oBi .len #[72] 3 [false] [x155]) w89 fun x166 w90=>
 I30 x166 w90)
 (I30 x2 w89))∧
 ∀(_j30:Env) (many15c30:Value) (w91:World),I30 many15c30 w91→
 pN zp (oCall 44 [x32,x2]) w91 fun x170 w92=>
 pN zp (oExt x170 0) w92 fun _ w93=>
 pN zp (oExt x170 1) w93 fun _ w94=>
 pN zp (oExt x170 2) w94 fun x173 w95=>
 pN zp (oBin .eql 38 (.tmp 174) (.const (.int .i64 7)) x173 (.int .i64 7)) w95 fun x175 w96=>
 pN zp (oBin .lss 3 (.tmp 176) (.const (.int .i64 0)) x2 (.int .i64 0)) w96 fun x177 w97=>
 pN zp (oBin .neq 4 (.tmp 175) (.tmp 177) x175 x177) w97 fun x178 w98=>
 pGd (gB x178 false) (pN zp (oMv x173) w98) w98 fun x180 w99=>
 pGd (gB x178 false) (pN zp (oBin .neq 38 (.tmp 180) (.const (.int .i64 0)) x180 (.int .i64 0)) w99) w99 fun x181 w100=>
 pGd (gB x178 false) (pN zp (oMv x181) w100) w100 fun x182 w101=>
 pGd (gB x182 true) (pN zp (oMv x173) w101) w101 fun x183 w102=>
 pGd (gB x182 true) (pN zp (oBin .neq 38 (.tmp 183) (.const (.int .i64 7)) x183 (.int .i64 7)) w102) w102 fun x184 w103=>
 pGd (gB x178 false) (pN zp (oPick x182 x184 (.bool false)) w103) w103 fun x185 w104=>
 pN zp (oPick x178 (.bool true) x185) w104 fun x186 w105=>
 pIf x186
 (Q (.bool false) w105)
 (pN zp (oCall 30 [x32]) w105 fun x188 w106=>
 pN zp (oBi .len #[72] 3 [false] [x188]) w106 fun x190 w107=>
 pN zp (oBin .neq 3 (.tmp 190) (.tmp 191) x190 many15c30) w107 fun x192 w108=>
 pGd (gB x192 false) (pN zp (oMv x32) w108) w108 fun x194 w109=>
 pGd (gB x192 false) (pN zp (oCall 41 [x194]) w109) w109 fun x195 w110=>
 pGd (gB x192 false) (pN zp (oBi .len #[90] 3 [false] [x195]) w110) w110 fun x196 w111=>
 pGd (gB x192 false) (pN zp (oBin .neq 3 (.tmp 196) (.const (.int .i64 0)) x196 (.int .i64 0)) w111) w111 fun x197 w112=>
 pN zp (oPick x192 (.bool true) x197) w112 fun x198 w113=>
 pIf x198
 (Q (.bool false) w113)
 (pN zp (oCall 37 [x32]) w113 fun x201 w114=>
 pN zp (oExt x201 0) w114 fun x202 w115=>
 pN zp (oExt x201 1) w115 fun x203 w116=>
 pDr w116 fun w117=>
 gA (gB x203 true) (pA zp (oMv x202)) fun x206=>
 gA (gB x203 true) (pA zp (oMv x60)) fun x207=>
 gA (gB x203 true) (pA zp (oMv x60)) fun x208=>
 gA (gB x203 true) (pA zp (oBi .len #[30] 3 [false] [x208])) fun x209=>
 gA (gB x203 true) (pA zp (oMv x202)) fun x210=>
 gA (gB x203 true) (pA zp (oBi .len #[30] 3 [false] [x210])) fun x211=>
 gA (gB x203 true) (pA zp (oBin .sub 3 (.tmp 209) (.tmp 211) x209 x211)) fun x212=>
 gA (gB x203 true) (pA zp (oSl 30 x207 (some x212) none none)) fun x213=>
 pGd (gB x203 true) (pN zp (oCall 43 [x206,x213]) w117) w117 fun x214 w118=>
 (True)∧(pA zp (oPick x203 x214 (.bool false)) fun x215=>
 gA (gB x215 true) (pA zp (oMv many15c30)) fun x217=>
 gA (gB x215 true) (pA zp (oBin .eql 3 (.tmp 217) (.const (.int .i64 0)) x217 (.int .i64 0))) fun x218=>
 gA (gB x215 true) (pA zp (oMv x218)) fun x219=>
 gA (gB x219 false) (pA zp (oMv x188)) fun x220=>
 gA (gB x219 false) (pA zp (oIdx 72 x220 (.int .i64 0))) fun x221=>
 gA (gB x219 false) (pL zp (oLoad 9 x221) w118) fun x222=>
 gA (gB x219 false) (pA zp (oMv x155)) fun x223=>
 gA (gB x219 false) (pA zp (oMv x155)) fun x224=>
 gA (gB x219 false) (pA zp (oBi .len #[72] 3 [false] [x224])) fun x225=>
 gA (gB x219 false) (pA zp (oMv many15c30)) fun x226=>
 gA (gB x219 false) (pA zp (oBin .sub 3 (.tmp 225) (.tmp 226) x225 x226)) fun x227=>
 gA (gB x219 false) (pA zp (oIdx 72 x223 x227)) fun x228=>
 gA (gB x219 false) (pL zp (oLoad 9 x228) w118) fun x229=>
 gA (gB x219 false) (pA zp (oBin .eql 9 (.tmp 222) (.tmp 229) x222 x229)) fun x230=>
 gA (gB x215 true) (pA zp (oPick x219 (.bool true) x230)) fun x231=>
 pA zp (oPick x215 x231 (.bool false)) fun x232=>
 Q x232 w118)))))))))
theorem pithlaw37_PruneKeeps.calls (h:pithlaw37_PruneKeeps.F x0 x1 x2 w Q):Calls zp 6 #[x0,x1,x2] w (retP Q):=cl pithlaw37_PruneKeeps.H [x0,x1,x2] Tryz.func6 h
def pithlaw37_saved.H:Hints:={ cut:=fun _=>none,loop:=fun|5=>([8],2199019061504)|_=>([],0),order:=fun|7=>(ot 13)|_=>[] }
def pithlaw37_saved.F (x0 x1:Value) (w:World) (Q:QQ):Prop:=
 pN zp (oCall 75 []) w fun x10 w1=>
 pN zp (oCall 76 [x1]) w1 fun x12 w2=>
 pN zp (oCall 48 [x10,x12]) w2 fun x13 w3=>
 pN zp (oExt x13 0) w3 fun x14 w4=>
 pN zp (oExt x13 1) w4 fun x15 w5=>
 pN zp (oBin .neq 38 (.tmp 16) (.const (.int .i64 0)) x15 (.int .i64 0)) w5 fun x17 w6=>
 pGd (gB x17 false) (pN zp (oMv x14) w6) w6 fun x19 w7=>
 pGd (gB x17 false) (pN zp (oBin .eql 31 (.tmp 19) (.const (.pointer none)) x19 (.pointer none)) w7) w7 fun x20 w8=>
 pN zp (oPick x17 (.bool true) x20) w8 fun x21 w9=>
 pIf x21
 (Q (.tuple #[(.pointer none),(.bool false)]) w9)
 (∃(L5:Value→World→Prop) (m5:Value→World→Nat),
 L5 (.int .i64 0) w9∧
 ∀(_k5:Env) (i8l5:Value) (w10:World),L5 i8l5 w10→
 pN zp (oBi .len #[82] 3 [false] [x0]) w10 fun x24 w11=>
 pN zp (oBin .lss 3 (.tmp 22) (.tmp 24) i8l5 x24) w11 fun x25 w12=>
 pIf x25
 (pDr w12 fun w13=>
 pA zp (oIdx 82 x0 i8l5) fun x31=>
 pA zp (oFld 144 x31 0) fun x32=>
 pL zp (oLoad 9 x32) w13 fun x33=>
 pA zp (oIdx 82 x0 i8l5) fun x36=>
 pA zp (oFld 144 x36 1) fun x37=>
 pL zp (oLoad 30 x37) w13 fun x38=>
 pN zp (oCall 77 [x38]) w13 fun x39 w14=>
 ((Sem.run zp (oLoad 9 x32) w14= .ok (.value x33) w14)∧True)∧(pN zp (oCall 13 [x14,x33,x39]) w14 fun _ w15=>
 (True)∧(pN zp (oBin .add 3 (.tmp 26) (.const (.int .i64 1)) i8l5 (.int .i64 1)) w15 fun x27 w16=>
 (L5 x27 w16∧m5 x27 w16<m5 i8l5 w10))))
 (Q (.tuple #[x14,(.bool true)]) w12))
theorem pithlaw37_saved.calls (h:pithlaw37_saved.F x0 x1 w Q):Calls zp 34 #[x0,x1] w (retP Q):=cl pithlaw37_saved.H [x0,x1] Tryz.func34 h
def pithlaw37_fixed.H:Hints:={ cut:=fun _=>none,loop:=fun _=>([],0),order:=fun|7=>(ot 37)|_=>[] }
def pithlaw37_fixed.F (w:World) (Q:QQ):Prop:=
 pN zp (oCall 75 []) w fun x9 w1=>
 pN zp (oCall 76 [(.int .i64 0)]) w1 fun x10 w2=>
 pN zp (oCall 48 [x9,x10]) w2 fun x11 w3=>
 pN zp (oExt x11 0) w3 fun x12 w4=>
 pN zp (oExt x11 1) w4 fun x13 w5=>
 pN zp (oBin .neq 38 (.tmp 14) (.const (.int .i64 0)) x13 (.int .i64 0)) w5 fun x15 w6=>
 pGd (gB x15 false) (pN zp (oMv x12) w6) w6 fun x17 w7=>
 pGd (gB x15 false) (pN zp (oBin .eql 31 (.tmp 17) (.const (.pointer none)) x17 (.pointer none)) w7) w7 fun x18 w8=>
 pN zp (oPick x15 (.bool true) x18) w8 fun x19 w9=>
 pIf x19
 (Q (.bool false) w9)
 (pN zp (oBs 47 5 [(0,(bv 108)),(1,(bv 111)),(2,(bv 111)),(3,(bv 115)),(4,(bv 101))]) w9 fun x21 w10=>
 pN zp (oConv 47 47 x21) w10 fun x22 w11=>
 pN zp (oCall 16 [x12,x22]) w11 fun x23 w12=>
 pN zp (oCall 41 [x12]) w12 fun x25 w13=>
 pN zp (oCall 40 [x12]) w13 fun x28 w14=>
 pN zp (oExt x28 0) w14 fun x29 w15=>
 pN zp (oExt x28 1) w15 fun x30 w16=>
 pN zp (oExt x28 2) w16 fun x31 w17=>
 pDr w17 fun w18=>
 pA zp (oBi .len #[52] 3 [false] [x23]) fun x33=>
 pA zp (oBin .eql 3 (.tmp 33) (.const (.int .i64 1)) x33 (.int .i64 1)) fun x34=>
 gA (gB x34 true) (pA zp (oMv x25)) fun x36=>
 gA (gB x34 true) (pA zp (oBi .len #[90] 3 [false] [x36])) fun x37=>
 gA (gB x34 true) (pA zp (oBin .eql 3 (.tmp 37) (.const (.int .i64 1)) x37 (.int .i64 1))) fun x38=>
 pA zp (oPick x34 x38 (.bool false)) fun x39=>
 gA (gB x39 true) (pA zp (oMv x25)) fun x41=>
 gA (gB x39 true) (pA zp (oIdx 90 x41 (.int .i64 0))) fun x42=>
 gA (gB x39 true) (pL zp (oLoad 147 x42) w18) fun x43=>
 gA (gB x39 true) (pA zp (oMv x23)) fun x44=>
 gA (gB x39 true) (pA zp (oIdx 52 x44 (.int .i64 0))) fun x45=>
 gA (gB x39 true) (pL zp (oLoad 58 x45) w18) fun x46=>
 pGd (gB x39 true) (pN zp (oBuild 147 [(0,(.int .i64 3)),(2,x46)]) w18) w18 fun x47 w19=>
 ((((gB x39 true)=true→Sem.run zp (oLoad 147 x42) w19= .ok (.value x43) w19))∧True)∧(gA (gB x39 true) (pA zp (oBin .eql 147 (.tmp 43) (.tmp 47) x43 x47)) fun x48=>
 pA zp (oPick x39 x48 (.bool false)) fun x49=>
 gA (gB x49 true) (pA zp (oMv x29)) fun x51=>
 gA (gB x49 true) (pA zp (oBin .eql 3 (.tmp 51) (.const (.int .i64 1)) x51 (.int .i64 1))) fun x52=>
 pA zp (oPick x49 x52 (.bool false)) fun x53=>
 gA (gB x53 true) (pA zp (oMv x30)) fun x55=>
 gA (gB x53 true) (pA zp (oBin .eql 3 (.tmp 55) (.const (.int .i64 5)) x55 (.int .i64 5))) fun x56=>
 pA zp (oPick x53 x56 (.bool false)) fun x57=>
 gA (gB x57 true) (pA zp (oMv x31)) fun x59=>
 gA (gB x57 true) (pA zp (oBin .eql 38 (.tmp 59) (.const (.int .i64 0)) x59 (.int .i64 0))) fun x60=>
 pA zp (oPick x57 x60 (.bool false)) fun x61=>
 gA (gB x61 true) (pA zp (oMv x12)) fun x63=>
 pGd (gB x61 true) (pN zp (oCall 19 [x63]) w19) w19 fun x64 w20=>
 (True)∧(gA (gB x61 true) (pA zp (oBi .len #[52] 3 [false] [x64])) fun x65=>
 gA (gB x61 true) (pA zp (oBin .eql 3 (.tmp 65) (.const (.int .i64 0)) x65 (.int .i64 0))) fun x66=>
 pA zp (oPick x61 x66 (.bool false)) fun x67=>
 Q x67 w20)))
theorem pithlaw37_fixed.calls (h:pithlaw37_fixed.F w Q):Calls zp 35 #[] w (retP Q):=cl pithlaw37_fixed.H [] Tryz.func35 h
def pithlaw37_clean.H:Hints:={ cut:=fun|5=>some ([5],9444732965739021992352)|10=>some ([7],73786694819861495936)|_=>none,loop:=fun|4=>([5,6],9444732965739286233568)|9=>([7,8],73786971896791695744)|15=>([9],2854495385411919762116562494166024533475130884)|21=>([12],2854495385411914691514171025981384285952733188)|25=>([13,14],713623846352655421975484557997964412170854400)|_=>([],0),order:=fun|6=>(ot 14)|11=>(ot 11)|28=>(ot 24)|_=>[] }
def pithlaw37_clean.F (x0:Value) (w:World) (Q:QQ):Prop:=
 pN zp (oCall 75 []) w fun x17 w1=>
 pN zp (oCall 76 [(.int .i64 0)]) w1 fun x18 w2=>
 pN zp (oCall 78 [x17,x18]) w2 fun x19 w3=>
 pN zp (oExt x19 0) w3 fun x20 w4=>
 pN zp (oExt x19 1) w4 fun _ w5=>
 ∃(L4:Value→Value→World→Prop) (m4:Value→Value→World→Nat),
 L4 (.slice none 0 0) (.int .i64 0) w5∧
 ∀(_k4:Env) (last5l4:Value) (i6l4:Value) (w6:World),L4 last5l4 i6l4 w6→
 pN zp (oBi .len #[82] 3 [false] [x0]) w6 fun x24 w7=>
 pN zp (oBin .lss 3 (.tmp 22) (.tmp 24) i6l4 x24) w7 fun x25 w8=>
 pIf x25
 (∃I5:Value→World→Prop,
 (pDr w8 fun w9=>
 pA zp (oIdx 82 x0 i6l4) fun x31=>
 pA zp (oFld 144 x31 0) fun x32=>
 pL zp (oLoad 9 x32) w9 fun x33=>
 pA zp (oIdx 82 x0 i6l4) fun x36=>
 pA zp (oFld 144 x36 1) fun x37=>
 pL zp (oLoad 30 x37) w9 fun x38=>
 pN zp (oCall 77 [x38]) w9 fun x39 w10=>
 ((Sem.run zp (oLoad 9 x32) w10= .ok (.value x33) w10)∧True)∧(pN zp (oCall 79 [x20,x33,x39]) w10 fun x40 w11=>
 (True)∧(pA zp (oBin .neq 3 (.tmp 40) (.const (.int .i64 0)) x40 (.int .i64 0)) fun x41=>
 pIf x41
 (I5 last5l4 w11)
 (∃(L9:Value→Value→World→Prop) (m9:Value→Value→World→Nat),
 L9 (.slice none 0 0) (.int .i64 0) w11∧
 ∀(_k9:Env) (rest7l9:Value) (k8l9:Value) (w12:World),L9 rest7l9 k8l9 w12→
 pN zp (oBi .len #[82] 3 [false] [last5l4]) w12 fun x44 w13=>
 pN zp (oBin .lss 3 (.tmp 42) (.tmp 44) k8l9 x44) w13 fun x45 w14=>
 pIf x45
 (∃I10:Value→World→Prop,
 (pDr w14 fun w15=>
 pA zp (oIdx 82 last5l4 k8l9) fun x50=>
 pA zp (oFld 144 x50 0) fun x51=>
 pL zp (oLoad 9 x51) w15 fun x52=>
 pA zp (oIdx 82 x0 i6l4) fun x55=>
 pA zp (oFld 144 x55 0) fun x56=>
 pL zp (oLoad 9 x56) w15 fun x57=>
 pA zp (oBin .neq 9 (.tmp 52) (.tmp 57) x52 x57) fun x58=>
 pIf x58
 (pN zp (oIdx 82 last5l4 k8l9) w15 fun x62 w16=>
 pN zp (oLoad 144 x62) w16 fun x63 w17=>
 pN zp (oBs 82 1 [(0,x63)]) w17 fun x64 w18=>
 pN zp (oBi .append #[82,82] 82 [false,false] [rest7l9,x64]) w18 fun x65 w19=>
 I10 x65 w19)
 (I10 rest7l9 w15))∧
 ∀(_j10:Env) (rest7c10:Value) (w20:World),I10 rest7c10 w20→
 pN zp (oBin .add 3 (.tmp 46) (.const (.int .i64 1)) k8l9 (.int .i64 1)) w20 fun x47 w21=>
 (L9 rest7c10 x47 w21∧m9 rest7c10 x47 w21<m9 rest7l9 k8l9 w12))
 (pN zp (oIdx 82 x0 i6l4) w14 fun x69 w22=>
 pN zp (oLoad 144 x69) w22 fun x70 w23=>
 pN zp (oBs 82 1 [(0,x70)]) w23 fun x71 w24=>
 pN zp (oBi .append #[82,82] 82 [false,false] [rest7l9,x71]) w24 fun x72 w25=>
 I5 x72 w25)))))∧
 ∀(_j5:Env) (last5c5:Value) (w26:World),I5 last5c5 w26→
 pN zp (oBin .add 3 (.tmp 26) (.const (.int .i64 1)) i6l4 (.int .i64 1)) w26 fun x27 w27=>
 (L4 last5c5 x27 w27∧m4 last5c5 x27 w27<m4 last5l4 i6l4 w6))
 (∃(L15:Value→World→Prop) (m15:Value→World→Nat),
 L15 (.int .i64 0) w8∧
 ∀(_k15:Env) (i9l15:Value) (w28:World),L15 i9l15 w28→
 pN zp (oBi .len #[82] 3 [false] [last5l4]) w28 fun x75 w29=>
 pN zp (oBin .lss 3 (.tmp 73) (.tmp 75) i9l15 x75) w29 fun x76 w30=>
 pIf x76
 (pN zp (oIdx 82 last5l4 i9l15) w30 fun x83 w31=>
 pN zp (oFld 144 x83 0) w31 fun x84 w32=>
 pN zp (oLoad 9 x84) w32 fun x85 w33=>
 pN zp (oCall 80 [x20,x85]) w33 fun x86 w34=>
 pN zp (oExt x86 0) w34 fun x87 w35=>
 pN zp (oExt x86 1) w35 fun x88 w36=>
 pN zp (oBin .neq 3 (.tmp 89) (.const (.int .i64 0)) x88 (.int .i64 0)) w36 fun x90 w37=>
 pGd (gB x90 false) (pN zp (oMv x87) w37) w37 fun x92 w38=>
 pGd (gB x90 false) (pN zp (oBi .len #[30] 3 [false] [x92]) w38) w38 fun x93 w39=>
 pGd (gB x90 false) (pN zp (oMv last5l4) w39) w39 fun x94 w40=>
 pGd (gB x90 false) (pN zp (oMv i9l15) w40) w40 fun x95 w41=>
 pGd (gB x90 false) (pN zp (oIdx 82 x94 x95) w41) w41 fun x96 w42=>
 pGd (gB x90 false) (pN zp (oFld 144 x96 1) w42) w42 fun x97 w43=>
 pGd (gB x90 false) (pN zp (oLoad 30 x97) w43) w43 fun x98 w44=>
 pGd (gB x90 false) (pN zp (oBi .len #[30] 3 [false] [x98]) w44) w44 fun x99 w45=>
 pGd (gB x90 false) (pN zp (oBin .neq 3 (.tmp 93) (.tmp 99) x93 x99) w45) w45 fun x100 w46=>
 pN zp (oPick x90 (.bool true) x100) w46 fun x101 w47=>
 pIf x101
 (Q (.bool false) w47)
 (∃(L21:Value→World→Prop) (m21:Value→World→Nat),
 L21 (.int .i64 0) w47∧
 ∀(_k21:Env) (k12l21:Value) (w48:World),L21 k12l21 w48→
 pN zp (oBi .len #[30] 3 [false] [x87]) w48 fun x104 w49=>
 pN zp (oBin .lss 3 (.tmp 102) (.tmp 104) k12l21 x104) w49 fun x105 w50=>
 pIf x105
 (∃(L25:Value→Value→World→Prop) (m25:Value→Value→World→Nat),
 L25 (.bool false) (.int .i64 0) w50∧
 ∀(_k25:Env) (found13l25:Value) (j14l25:Value) (w51:World),L25 found13l25 j14l25 w51→
 pN zp (oIdx 82 last5l4 i9l15) w51 fun x111 w52=>
 pN zp (oFld 144 x111 1) w52 fun x112 w53=>
 pN zp (oLoad 30 x112) w53 fun x113 w54=>
 pN zp (oBi .len #[30] 3 [false] [x113]) w54 fun x114 w55=>
 pN zp (oBin .lss 3 (.tmp 108) (.tmp 114) j14l25 x114) w55 fun x115 w56=>
 pIf x115
 (pN zp (oIdx 82 last5l4 i9l15) w56 fun x120 w57=>
 pN zp (oFld 144 x120 1) w57 fun x121 w58=>
 pN zp (oLoad 30 x121) w58 fun x122 w59=>
 pN zp (oIdx 30 x122 j14l25) w59 fun x124 w60=>
 pN zp (oLoad 49 x124) w60 fun x125 w61=>
 pN zp (oAlloc 49) w61 fun x15 w62=>
 pN zp (oStore 49 x15 x125) w62 fun _ w63=>
 pDr w63 fun w64=>
 gA (gB found13l25 false) (pA zp (oFld 49 x15 0)) fun x128=>
 gA (gB found13l25 false) (pL zp (oLoad 9 x128) w64) fun x129=>
 gA (gB found13l25 false) (pA zp (oMv x87)) fun x130=>
 gA (gB found13l25 false) (pA zp (oMv k12l21)) fun x131=>
 gA (gB found13l25 false) (pA zp (oIdx 30 x130 x131)) fun x132=>
 gA (gB found13l25 false) (pA zp (oFld 49 x132 0)) fun x133=>
 gA (gB found13l25 false) (pL zp (oLoad 9 x133) w64) fun x134=>
 gA (gB found13l25 false) (pA zp (oBin .eql 9 (.tmp 129) (.tmp 134) x129 x134)) fun x135=>
 gA (gB found13l25 false) (pA zp (oMv x135)) fun x136=>
 gA (gB x136 true) (pA zp (oFld 49 x15 5)) fun x137=>
 gA (gB x136 true) (pL zp (oLoad 47 x137) w64) fun x138=>
 gA (gB x136 true) (pL zp (oConv 47 9 x138) w64) fun x139=>
 gA (gB x136 true) (pA zp (oMv x87)) fun x140=>
 gA (gB x136 true) (pA zp (oMv k12l21)) fun x141=>
 gA (gB x136 true) (pA zp (oIdx 30 x140 x141)) fun x142=>
 gA (gB x136 true) (pA zp (oFld 49 x142 5)) fun x143=>
 gA (gB x136 true) (pL zp (oLoad 47 x143) w64) fun x144=>
 gA (gB x136 true) (pL zp (oConv 47 9 x144) w64) fun x145=>
 gA (gB x136 true) (pA zp (oBin .eql 9 (.tmp 139) (.tmp 145) x139 x145)) fun x146=>
 gA (gB found13l25 false) (pA zp (oPick x136 x146 (.bool false))) fun x147=>
 pA zp (oPick found13l25 (.bool true) x147) fun x148=>
 pN zp (oBin .add 3 (.tmp 116) (.const (.int .i64 1)) j14l25 (.int .i64 1)) w64 fun x117 w65=>
 (L25 x148 x117 w65∧m25 x148 x117 w65<m25 found13l25 j14l25 w51))
 (pN zp (oUn .not found13l25) w56 fun x150 w66=>
 pIf x150
 (Q (.bool false) w66)
 (pN zp (oBin .add 3 (.tmp 106) (.const (.int .i64 1)) k12l21 (.int .i64 1)) w66 fun x107 w67=>
 (L21 x107 w67∧m21 x107 w67<m21 k12l21 w48))))
 (pN zp (oBin .add 3 (.tmp 77) (.const (.int .i64 1)) i9l15 (.int .i64 1)) w50 fun x78 w68=>
 (L15 x78 w68∧m15 x78 w68<m15 i9l15 w28))))
 (Q (.bool true) w30))
theorem pithlaw37_clean.calls (h:pithlaw37_clean.F x0 w Q):Calls zp 36 #[x0] w (retP Q):=cl pithlaw37_clean.H [x0] Tryz.func36 h
def pithlaw37_told.H:Hints:={ cut:=fun _=>none,loop:=fun|4=>([4,6],549755812316)|_=>([],0),order:=fun _=>[] }
def pithlaw37_told.F (x0:Value) (w:World) (Q:QQ):Prop:=
 pN zp (oCall 30 [x0]) w fun x10 w1=>
 ∃(L4:Value→Value→World→Prop) (m4:Value→Value→World→Nat),
 L4 (.slice none 0 0) (.int .i64 0) w1∧
 ∀(_k4:Env) (out4l4:Value) (i6l4:Value) (w2:World),L4 out4l4 i6l4 w2→
 pN zp (oBi .len #[72] 3 [false] [x10]) w2 fun x13 w3=>
 pN zp (oBin .lss 3 (.tmp 11) (.tmp 13) i6l4 x13) w3 fun x14 w4=>
 pIf x14
 (pN zp (oIdx 72 x10 i6l4) w4 fun x21 w5=>
 pN zp (oLoad 9 x21) w5 fun x22 w6=>
 pN zp (oCall 24 [x0,x22]) w6 fun x23 w7=>
 pN zp (oExt x23 0) w7 fun x24 w8=>
 pN zp (oExt x23 1) w8 fun x25 w9=>
 pN zp (oBin .neq 38 (.tmp 26) (.const (.int .i64 0)) x25 (.int .i64 0)) w9 fun x27 w10=>
 pIf x27
 (Q (.tuple #[(.slice none 0 0),(.bool false)]) w10)
 (pN zp (oIdx 72 x10 i6l4) w10 fun x31 w11=>
 pN zp (oLoad 9 x31) w11 fun x32 w12=>
 pN zp (oBuild 49 [(0,x32)]) w12 fun x33 w13=>
 pN zp (oBs 30 1 [(0,x33)]) w13 fun x34 w14=>
 pN zp (oBi .append #[30,30] 30 [false,false] [out4l4,x34]) w14 fun x35 w15=>
 pN zp (oBi .append #[30,30] 30 [false,false] [x35,x24]) w15 fun x38 w16=>
 pN zp (oBin .add 3 (.tmp 15) (.const (.int .i64 1)) i6l4 (.int .i64 1)) w16 fun x16 w17=>
 (L4 x38 x16 w17∧m4 x38 x16 w17<m4 out4l4 i6l4 w2)))
 (Q (.tuple #[out4l4,(.bool true)]) w4)
theorem pithlaw37_told.calls (h:pithlaw37_told.F x0 w Q):Calls zp 37 #[x0] w (retP Q):=cl pithlaw37_told.H [x0] Tryz.func37 h
def pithlaw37_needs.H:Hints:={ cut:=fun _=>none,loop:=fun|4=>([3,5],268434664)|_=>([],0),order:=fun _=>[] }
def pithlaw37_needs.F (x0:Value) (w:World) (Q:QQ):Prop:=
 pN zp (oCall 30 [x0]) w fun x9 w1=>
 ∃(L4:Value→Value→World→Prop) (m4:Value→Value→World→Nat),
 L4 (.slice none 0 0) (.int .i64 0) w1∧
 ∀(_k4:Env) (out3l4:Value) (i5l4:Value) (w2:World),L4 out3l4 i5l4 w2→
 pN zp (oBi .len #[72] 3 [false] [x9]) w2 fun x12 w3=>
 pN zp (oBin .lss 3 (.tmp 10) (.tmp 12) i5l4 x12) w3 fun x13 w4=>
 pIf x13
 (pN zp (oIdx 72 x9 i5l4) w4 fun x20 w5=>
 pN zp (oLoad 9 x20) w5 fun x21 w6=>
 pN zp (oCall 17 [x0,x21]) w6 fun x22 w7=>
 pN zp (oExt x22 0) w7 fun x23 w8=>
 pN zp (oExt x22 1) w8 fun _ w9=>
 pN zp (oBi .append #[52,52] 52 [false,false] [out3l4,x23]) w9 fun x27 w10=>
 pN zp (oBin .add 3 (.tmp 14) (.const (.int .i64 1)) i5l4 (.int .i64 1)) w10 fun x15 w11=>
 (L4 x27 x15 w11∧m4 x27 x15 w11<m4 out3l4 i5l4 w2))
 (Q out3l4 w4)
theorem pithlaw37_needs.calls (h:pithlaw37_needs.F x0 w Q):Calls zp 38 #[x0] w (retP Q):=cl pithlaw37_needs.H [x0] Tryz.func38 h
def pithlaw37_has.H:Hints:={ cut:=fun _=>none,loop:=fun|2=>([5],262128)|_=>([],0),order:=fun|4=>(ot 6)|_=>[] }
def pithlaw37_has.F (x0 x1:Value) (w:World) (Q:QQ):Prop:=
 pN zp (oBox 58 x1) w fun x3 w1=>
 ∃(L2:Value→World→Prop) (m2:Value→World→Nat),
 L2 (.int .i64 0) w1∧
 ∀(_k2:Env) (i5l2:Value) (w2:World),L2 i5l2 w2→
 pN zp (oBi .len #[52] 3 [false] [x0]) w2 fun x8 w3=>
 pN zp (oBin .lss 3 (.tmp 6) (.tmp 8) i5l2 x8) w3 fun x9 w4=>
 pIf x9
 (pDr w4 fun w5=>
 pA zp (oIdx 52 x0 i5l2) fun x14=>
 pL zp (oLoad 58 x14) w5 fun x15=>
 pL zp (oLoad 58 x3) w5 fun x16=>
 pA zp (oBin .eql 58 (.tmp 15) (.tmp 16) x15 x16) fun x17=>
 pIf x17
 (Q (.bool true) w5)
 (pN zp (oBin .add 3 (.tmp 10) (.const (.int .i64 1)) i5l2 (.int .i64 1)) w5 fun x11 w6=>
 (L2 x11 w6∧m2 x11 w6<m2 i5l2 w2)))
 (Q (.bool false) w4)
theorem pithlaw37_has.calls (h:pithlaw37_has.F x0 x1 w Q):Calls zp 42 #[x0,x1] w (retP Q):=cl pithlaw37_has.H [x0,x1] Tryz.func42 h
def pithlaw37_alike.H:Hints:={ cut:=fun _=>none,loop:=fun|4=>([5],590295810358705643760)|_=>([],0),order:=fun _=>[] }
def pithlaw37_alike.F (x0 x1:Value) (w:World) (Q:QQ):Prop:=
 pN zp (oBi .len #[30] 3 [false] [x0]) w fun x9 w1=>
 pN zp (oBi .len #[30] 3 [false] [x1]) w1 fun x11 w2=>
 pN zp (oBin .neq 3 (.tmp 9) (.tmp 11) x9 x11) w2 fun x12 w3=>
 pIf x12
 (Q (.bool false) w3)
 (∃(L4:Value→World→Prop) (m4:Value→World→Nat),
 L4 (.int .i64 0) w3∧
 ∀(_k4:Env) (i5l4:Value) (w4:World),L4 i5l4 w4→
 pN zp (oBi .len #[30] 3 [false] [x0]) w4 fun x15 w5=>
 pN zp (oBin .lss 3 (.tmp 13) (.tmp 15) i5l4 x15) w5 fun x16 w6=>
 pIf x16
 (pN zp (oIdx 30 x0 i5l4) w6 fun x21 w7=>
 pN zp (oLoad 49 x21) w7 fun x22 w8=>
 pN zp (oAlloc 49) w8 fun x6 w9=>
 pN zp (oStore 49 x6 x22) w9 fun _ w10=>
 pN zp (oIdx 30 x1 i5l4) w10 fun x25 w11=>
 pN zp (oLoad 49 x25) w11 fun x26 w12=>
 pN zp (oAlloc 49) w12 fun x7 w13=>
 pN zp (oStore 49 x7 x26) w13 fun _ w14=>
 pN zp (oFld 49 x6 0) w14 fun x27 w15=>
 pN zp (oLoad 9 x27) w15 fun x28 w16=>
 pN zp (oFld 49 x7 0) w16 fun x29 w17=>
 pN zp (oLoad 9 x29) w17 fun x30 w18=>
 pN zp (oBin .neq 9 (.tmp 28) (.tmp 30) x28 x30) w18 fun x31 w19=>
 pGd (gB x31 false) (pN zp (oFld 49 x6 1) w19) w19 fun x33 w20=>
 pGd (gB x31 false) (pN zp (oLoad 9 x33) w20) w20 fun x34 w21=>
 pGd (gB x31 false) (pN zp (oFld 49 x7 1) w21) w21 fun x35 w22=>
 pGd (gB x31 false) (pN zp (oLoad 9 x35) w22) w22 fun x36 w23=>
 pGd (gB x31 false) (pN zp (oBin .neq 9 (.tmp 34) (.tmp 36) x34 x36) w23) w23 fun x37 w24=>
 pN zp (oPick x31 (.bool true) x37) w24 fun x38 w25=>
 pGd (gB x38 false) (pN zp (oFld 49 x6 2) w25) w25 fun x40 w26=>
 pGd (gB x38 false) (pN zp (oLoad 3 x40) w26) w26 fun x41 w27=>
 pGd (gB x38 false) (pN zp (oFld 49 x7 2) w27) w27 fun x42 w28=>
 pGd (gB x38 false) (pN zp (oLoad 3 x42) w28) w28 fun x43 w29=>
 pGd (gB x38 false) (pN zp (oBin .neq 3 (.tmp 41) (.tmp 43) x41 x43) w29) w29 fun x44 w30=>
 pN zp (oPick x38 (.bool true) x44) w30 fun x45 w31=>
 pGd (gB x45 false) (pN zp (oFld 49 x6 3) w31) w31 fun x47 w32=>
 pGd (gB x45 false) (pN zp (oLoad 3 x47) w32) w32 fun x48 w33=>
 pGd (gB x45 false) (pN zp (oFld 49 x7 3) w33) w33 fun x49 w34=>
 pGd (gB x45 false) (pN zp (oLoad 3 x49) w34) w34 fun x50 w35=>
 pGd (gB x45 false) (pN zp (oBin .neq 3 (.tmp 48) (.tmp 50) x48 x50) w35) w35 fun x51 w36=>
 pN zp (oPick x45 (.bool true) x51) w36 fun x52 w37=>
 pGd (gB x52 false) (pN zp (oFld 49 x6 4) w37) w37 fun x54 w38=>
 pGd (gB x52 false) (pN zp (oLoad 3 x54) w38) w38 fun x55 w39=>
 pGd (gB x52 false) (pN zp (oFld 49 x7 4) w39) w39 fun x56 w40=>
 pGd (gB x52 false) (pN zp (oLoad 3 x56) w40) w40 fun x57 w41=>
 pGd (gB x52 false) (pN zp (oBin .neq 3 (.tmp 55) (.tmp 57) x55 x57) w41) w41 fun x58 w42=>
 pN zp (oPick x52 (.bool true) x58) w42 fun x59 w43=>
 pGd (gB x59 false) (pN zp (oFld 49 x6 5) w43) w43 fun x61 w44=>
 pGd (gB x59 false) (pN zp (oLoad 47 x61) w44) w44 fun x62 w45=>
 pGd (gB x59 false) (pN zp (oConv 47 9 x62) w45) w45 fun x63 w46=>
 pGd (gB x59 false) (pN zp (oFld 49 x7 5) w46) w46 fun x64 w47=>
 pGd (gB x59 false) (pN zp (oLoad 47 x64) w47) w47 fun x65 w48=>
 pGd (gB x59 false) (pN zp (oConv 47 9 x65) w48) w48 fun x66 w49=>
 pGd (gB x59 false) (pN zp (oBin .neq 9 (.tmp 63) (.tmp 66) x63 x66) w49) w49 fun x67 w50=>
 pN zp (oPick x59 (.bool true) x67) w50 fun x68 w51=>
 pIf x68
 (Q (.bool false) w51)
 (pN zp (oBin .add 3 (.tmp 17) (.const (.int .i64 1)) i5l4 (.int .i64 1)) w51 fun x18 w52=>
 (L4 x18 w52∧m4 x18 w52<m4 i5l4 w4)))
 (Q (.bool true) w6))
theorem pithlaw37_alike.calls (h:pithlaw37_alike.F x0 x1 w Q):Calls zp 43 #[x0,x1] w (retP Q):=cl pithlaw37_alike.H [x0,x1] Tryz.func43 h
def pithlaw37_conf.F (w:World) (Q:QQ):Prop:=
 pN zp (oAlloc 25) w fun x0 w1=>
 pN zp (oBuild 23 [(0,(.int .i64 3)),(2,(.int .i64 2))]) w1 fun x1 w2=>
 pN zp (oBuild 25 [(0,(.int .i64 1)),(2,x1),(3,(.int .i64 4096)),(4,(.int .i64 65536))]) w2 fun x2 w3=>
 pN zp (oStore 25 x0 x2) w3 fun _ w4=>
 pL zp (oRes 25 x0) w4 fun r0=>
 Q r0 w4
theorem pithlaw37_conf.calls (h:pithlaw37_conf.F w Q):Calls zp 75 #[] w (retP Q):=cl .z [] Tryz.func75 h
def pithlaw37_cuts.F (x0:Value) (w:World) (Q:QQ):Prop:=
 pN zp (oAlloc 27) w fun x2 w1=>
 pN zp (oBin .eql 3 (.tmp 3) (.const (.int .i64 2)) x0 (.int .i64 2)) w1 fun x4 w2=>
 pIf x4
 (pN zp (oBuild 27 [(0,(.int .i64 64)),(1,(.int .i64 80)),(2,(.int .i64 2))]) w2 fun x5 w3=>
 pN zp (oStore 27 x2 x5) w3 fun _ w4=>
 pL zp (oRes 27 x2) w4 fun r2=>
 Q r2 w4)
 (pN zp (oBuild 27 [(0,(.int .i64 64)),(1,(.int .i64 200)),(2,(.int .i64 4))]) w2 fun x6 w5=>
 pN zp (oStore 27 x2 x6) w5 fun _ w6=>
 pL zp (oRes 27 x2) w6 fun r2=>
 Q r2 w6)
theorem pithlaw37_cuts.calls (h:pithlaw37_cuts.F x0 w Q):Calls zp 76 #[x0] w (retP Q):=cl .z [x0] Tryz.func76 h
def pithlaw37_copied.H:Hints:={ cut:=fun _=>none,loop:=fun|3=>([3,4],33554424)|_=>([],0),order:=fun _=>[] }
def pithlaw37_copied.F (x0:Value) (w:World) (Q:QQ):Prop:=
 ∃(L3:Value→Value→World→Prop) (m3:Value→Value→World→Nat),
 L3 (.slice none 0 0) (.int .i64 0) w∧
 ∀(_k3:Env) (out3l3:Value) (i4l3:Value) (w1:World),L3 out3l3 i4l3 w1→
 pN zp (oBi .len #[30] 3 [false] [x0]) w1 fun x8 w2=>
 pN zp (oBin .lss 3 (.tmp 6) (.tmp 8) i4l3 x8) w2 fun x9 w3=>
 pIf x9
 (pN zp (oIdx 30 x0 i4l3) w3 fun x14 w4=>
 pN zp (oLoad 49 x14) w4 fun x15 w5=>
 pN zp (oAlloc 49) w5 fun x5 w6=>
 pN zp (oStore 49 x5 x15) w6 fun _ w7=>
 pN zp (oBs 47 0 []) w7 fun x16 w8=>
 pN zp (oFld 49 x5 5) w8 fun x17 w9=>
 pN zp (oLoad 47 x17) w9 fun x18 w10=>
 pN zp (oBi .append #[47,47] 47 [false,false] [x16,x18]) w10 fun x19 w11=>
 pN zp (oFld 49 x5 5) w11 fun x20 w12=>
 pN zp (oStore 47 x20 x19) w12 fun _ w13=>
 pN zp (oLoad 49 x5) w13 fun x22 w14=>
 pN zp (oBs 30 1 [(0,x22)]) w14 fun x23 w15=>
 pN zp (oBi .append #[30,30] 30 [false,false] [out3l3,x23]) w15 fun x24 w16=>
 pN zp (oBin .add 3 (.tmp 10) (.const (.int .i64 1)) i4l3 (.int .i64 1)) w16 fun x11 w17=>
 (L3 x24 x11 w17∧m3 x24 x11 w17<m3 out3l3 i4l3 w1))
 (Q out3l3 w3)
theorem pithlaw37_copied.calls (h:pithlaw37_copied.F x0 w Q):Calls zp 77 #[x0] w (retP Q):=cl pithlaw37_copied.H [x0] Tryz.func77 h
end
section
attribute [local irreducible] oMv oV oU oCall oCallV oBi oBin oUn oLoad oStore oNil oFld oField oIdx oIndex oPick oAlloc oBox oBuild oBs oConv oMk oSl oExt oFn oIface oMap oLook oMapUp oRange oNext oEntry oInv oAssert oPanic oRes pN pA pL pDr pIf gA pGd Calls
section
namespace Pr
def confC:T_api_Config:=⟨1,0,⟨3,0,2⟩,4096,65536,0⟩
def kP:C.K:=⟨64,200,4⟩
theorem conf_okC:D.okC confC:=by decide
theorem kP_legal:kP.legal:=by decide
theorem all_next {k:C.K} {l:List Snap} {j:Nat} {x:Snap} (h:l[j]? =some x):((S.save (all k (l.take j)) x.Name x.Items.2).1≠0∧all k (l.take (j+1))=all k (l.take j))∨
  ((S.save (all k (l.take j)) x.Name x.Items.2).1=0∧∀n root,D.look (all k (l.take (j+1))).ns n=some root→n=x.Name∨D.look (all k (l.take j)).ns n=some root):=by
 have hs:=all_s (k:=k) h
 rcases save_cases (all k (l.take j)) x.Name x.Items.2 with⟨h1,h2⟩|⟨_,_,_,h2⟩
 ·exact .inl ⟨h1,by rw[hs];exact h2⟩
 ·refine .inr ⟨by rw[h2],fun n root hr=>?_⟩
  rw[hs] at hr
  unfold step at hr
  rw[h2] at hr
  have hne:=S.ids_ne (all k (l.take j)).k (S.list_ne (all k (l.take j)).k (S.sort x.Items.2))
  by_cases e:x.Name=n
  ·exact .inl e.symm
  ·right
   have hr:D.look (S.saved (all k (l.take j)) x.Name (S.sort x.Items.2)).ns n=some root:=hr
   rw[S.saved_puts] at hr
   unfold D.T.set at hr
   rw[if_neg hne] at hr
   have hr:D.look (D.upd (D.T.puts _ _).ns x.Name _) n=some root:=hr
   rw[D.look_upd_other _ _ _ _ e,D.puts_ns] at hr
   exact hr
def besid (l:List Snap) (n:List UInt8):List Snap:=l.filter fun y=>decide (y.Name≠n)
theorem besid_0 (n:List UInt8):besid [] n=[]:=rfl
theorem besid_in {l:List Snap} {j:Nat} {y:Snap} {n:List UInt8} (h:l[j]? =some y) (hy:y.Name≠n):besid (l.take (j+1)) n=besid (l.take j) n++[y]:=by
 unfold besid
 rw[List.take_add_one,h,List.filter_append]
 congr 1
 exact List.filter_cons_of_pos (by simpa using hy)
theorem besid_no {l:List Snap} {j:Nat} {y:Snap} {n:List UInt8} (h:l[j]? =some y) (hy:y.Name=n):besid (l.take (j+1)) n=besid (l.take j) n:=by
 unfold besid
 rw[List.take_add_one,h,List.filter_append]
 have e:((some y).toList.filter fun y=>decide (y.Name≠n))=[]:=List.filter_cons_of_neg (by simpa using hy)
 rw[e,List.append_nil]
theorem besid_len (l:List Snap) (n:List UInt8) (j:Nat):(besid (l.take j) n).length≤l.length:=by
 have h1:(besid (l.take j) n).length≤(l.take j).length:=List.length_filter_le _ _
 rw[List.length_take] at h1
 omega
theorem besid_mem {l:List Snap} {y:Snap} {n:List UInt8}:y∈besid l n↔y∈l∧y.Name≠n:=by
 unfold besid
 rw[List.mem_filter,decide_eq_true_iff]
end Pr
open Pr
attribute [local irreducible] S.save S.sort S.list S.need Pr.all Pr.wA Pr.besid
section
variable [Pan] {E w W:World} {K Q:Value→World→Prop} {LL M N N':List HA} {its:List T_api_Item} {s sl:Sl}
theorem conf_ok (hS:Sat E w M) (hQ:∀w,Sat E w M→Q (.agg confC.enc.toArray) w):Calls zp 75 #[] w (retP Q):=by
 refine pithlaw37_conf.calls ?_
 unfold pithlaw37_conf.F
 repeat' (first|refine pL_ra hS (by rfl) ?_|(refine pN_sa hS (by rfl) (by rfl) (by rfl) ?_;clear hS;intro w hS;try dsimp only at hS)|(refine pN_nz hS ?_;clear hS;intro a w hS)|refine pN_v (hk:=?_)|fail)
 exact hQ _ hS.to
theorem cuts_ok (n:Int) (hn:n≠2) (hS:Sat E w M) (hQ:∀w,Sat E w M→Q (.agg #[.int .i64 kP.least,.int .i64 kP.most,.int .i64 kP.bits]) w):Calls zp 76 #[.int .i64 n] w (retP Q):=by
 refine pithlaw37_cuts.calls ?_
 unfold pithlaw37_cuts.F
 repeat' (first|(refine pN_eql_s ?_ ?_<;>intro hc<;>try (exfalso;first|omega|exact gone hc|exact gon2 hc))|refine pIf_f ?_|refine pL_ra hS (by rfl) ?_|(refine pN_sa hS (by rfl) (by rfl) (by rfl) ?_;clear hS;intro w hS;try dsimp only at hS)|(refine pN_nz hS ?_;clear hS;intro a w hS)|refine pN_v (hk:=?_)|fail)
 exact hQ _ hS.to
set_option maxHeartbeats 1000000 in
theorem copied_ok (hS:Sat E w M) [hr:Rds cd_api_Item M sl its] (hd:∀x∈its,Rds cd_uint8 M x.Data.1 x.Data.2) (hb:∀x∈its,x.Data.2.length≤1099511627776) (hl:its.length≤1099511627776)
  (hQ:∀(outs:List T_api_Item) so w,outs.map S.plainI=its.map S.plainI→Sat E w (rows cd_api_Item so outs::bag (itR outs)::M)→Q (.slice so.a outs.length so.c) w):
  Calls zp 77 #[.slice sl.a its.length sl.c] w (retP Q):=by
 refine pithlaw37_copied.calls ?_
 unfold pithlaw37_copied.F
 refine⟨fun v v' w=>∃(j:Nat) (outs:List T_api_Item) (so:Sl),v= .slice so.a outs.length so.c∧v'= .int .i64 j∧j≤its.length∧outs.length=j∧outs.map S.plainI=(its.take j).map S.plainI∧Sat E w (rows cd_api_Item so outs::bag (itR outs)::M),fun _ v _=>its.length-(RowKit.intOf v).toNat,
  ⟨0,[],⟨none,0⟩,rfl,rfl,by omega,rfl,rfl,?_⟩,?_⟩
 ·have h8:Sat E w (rows cd_api_Item ⟨none,0⟩ []::_):=hS.nil cd_api_Item.e cd_api_Item.size
  have h9:Sat E w (bag (itR [])::rows cd_api_Item ⟨none,0⟩ []::_):=h8.bag_nil
  exact h9.to
 clear hS
 rintro _ _ _ w ⟨j,outs,so,rfl,rfl,hj,hol,hpl,hS⟩
 by_cases hlt:j<its.length
 ·obtain⟨x,hx⟩:∃x,its[j]? =some x:=⟨its[j],List.getElem?_eq_getElem _⟩
  have hm:=List.mem_of_getElem? hx
  haveI hrx:=hd x hm
  have hbx:=hb x hm
  have hpx:(its.take (j+1)).map S.plainI=(its.take j).map S.plainI++[S.plainI x]:=by rw[List.take_add_one,hx,List.map_append];rfl
  obtain⟨nm,lk,kd,md,tm,dt⟩:=x
  dsimp only at hrx hbx
  repeat' (first|refine pN_ixk (C:=cd_api_Item) (s:=sl) (l:=its) hS j rfl rfl hx fun ad ha hel=>?_|refine pN_ld_at ha hS rfl ?_|(refine pN_nz (t:=49) hS ?_;clear hS;intro xb w hS)|(refine pN_app (C:=cd_uint8) (s2:=dt.1) (l:=[]) (m:=dt.2) hS rfl rfl (by rw[List.length_nil];omega) ?_;clear hS;intro sd w hS)|(refine pN_lss_s ?_ ?_<;>intro hc<;>try (exfalso;omega))|refine pIf_t ?_|refine pN_l hS (by first|rfl|assumption) ?_|refine pN_la hS (by rfl) ?_|(refine pN_s hS (by first|exact Nat.le_of_ble_eq_true rfl|assumption) (by rfl) ?_;clear hS;intro w hS;try simp only[List.set_cons_zero,List.set_cons_succ] at hS)|(refine pN_sa hS (by rfl) (by rfl) (by rfl) ?_;clear hS;intro w hS;try dsimp only at hS)|(refine pN_b0 hS ?_;clear hS;intro s w hS)|refine pN_v (hk:=?_)|fail)
  obtain⟨X,hX⟩:∃X:T_api_Item,X=⟨nm,lk,kd,md,tm,(sd,dt.2)⟩:=⟨_,rfl⟩
  have hXe:X.enc=(cd_api_Item.enc ⟨nm,lk,kd,md,tm,dt⟩).set 5 (Value.slice sd.a dt.2.length sd.c):=by rw[hX];rfl
  have hXd:X.Data=(sd,dt.2):=by rw[hX]
  have hXp:S.plainI X=S.plainI ⟨nm,lk,kd,md,tm,dt⟩:=by rw[hX];rfl
  rw[List.nil_append] at hS ⊢
  dsimp only at hS ⊢
  rw[←hXe] at hS ⊢
  clear hX hXe
  repeat' (first|(refine pN_b1 (C:=cd_api_Item) (x:=X) hS rfl (by decide) ?_;clear hS;intro s3 w hS)|(refine pN_app (C:=cd_api_Item) (s:=so) (l:=outs) (m:=[X]) hS rfl rfl (by rw[List.length_singleton];omega) ?_;clear hS;intro s4 w hS)|refine pN_v (hk:=?_)|fail)
  have hS:Sat E w (rows cd_uint8 X.Data.1 X.Data.2::bag (itR outs)::rows cd_api_Item s4 (outs++[X])::M):=by
   rw[hXd]
   exact hS.to
  have hS:=itR_snoc X hS
  refine⟨⟨j+1,outs++[X],s4,rfl,rfl,hlt,by rw[List.length_append,hol];rfl,?_,hS.perm (List.Perm.swap _ _ _)⟩,by simp[RowKit.intOf]<;>omega⟩
  rw[List.map_append,hpl,hpx,List.map_cons,List.map_nil,hXp]
 ·obtain rfl:j=its.length:=by omega
  rw[List.take_length] at hpl
  repeat' (first|(refine pN_lss_s ?_ ?_<;>intro hc<;>try (exfalso;omega))|refine pIf_f ?_|refine pN_v (hk:=?_)|fail)
  exact hQ outs so _ hpl hS
set_option maxHeartbeats 8000000 in
theorem clean_ok {l:List Snap} (hS:Sat E w M) [hr:Rds cd_pithlaw37_Snap M sl l] (hl:l.length≤1048576) (hT:wA l≤4194304) (hN:∀x∈l,x.Name.length≤1048576) (hd:∀x∈l,Rds cd_api_Item M x.Items.1 x.Items.2∧∀y∈x.Items.2,Rds cd_uint8 M y.Data.1 y.Data.2)
  (hQ:∀r w,(r=true→∀n root,D.look (Pr.all kP l).ns n=some root→S.Good (Pr.all kP l) n)→Sat E w M→Q (.bool r) w):
  Calls zp 36 #[.slice sl.a l.length sl.c] w (retP Q):=by
 refine pithlaw37_clean.calls ?_
 unfold pithlaw37_clean.F
 have hk0:=kP_legal
 have hak:=fun j=>all_k kP (l.take j)
 have hps:=fun j=>all_ps kP (l.take j)
 have hns:=fun j=>all_ns kP (l.take j)
 have hwj:=fun j=>wA_le l j
 have hsm:=all_small kP_legal (z:=1024) (by decide) l
 have hrl:=fun n r h=>all_root_len kP_legal l (n:=n) (r:=r) h
 have hnx:=fun {j:Nat} {x:Snap} (h:l[j]? =some x)=>all_next (k:=kP) h
 have has:=fun {j:Nat} {x:Snap} (h:l[j]? =some x)=>all_s (k:=kP) h
 have hitw:∀x∈l,S.wL x.Items.2≤4194304:=fun x hx=>by
  have h1:=wA_mem hx
  unfold wS at h1
  omega
 have hity:∀x∈l,∀y∈x.Items.2,y.Name.length≤4194304∧y.Link.length≤4194304∧y.Data.2.length≤4194304:=fun x hx y hy=>by
  have h1:=hitw x hx
  have h2:=S.wL_mem hy
  unfold S.wI at h2
  omega
 have hitl:∀x∈l,x.Items.2.length≤4194304:=fun x hx=>Nat.le_trans (S.wL_len _) (hitw x hx)
 have hlst:∀x∈l,(S.list kP (S.sort x.Items.2)).length≤200000000∧(S.need kP (S.sort x.Items.2)).length≤200000000:=fun x hx=>by
  have h1:=hitw x hx
  have h2:=S.list_w kP (S.sort x.Items.2)
  have h3:=S.need_w kP (S.sort x.Items.2)
  rw[S.wL_sort] at h2 h3
  omega
 refine pcq (f:=75) (conf_ok hS ?_)
 clear hS
 intro w hS
 refine pcq (f:=76) (cuts_ok 0 (by decide) hS ?_)
 clear hS
 intro w hS
 refine pcq (f:=78) (r5New_ok (k:=kP) conf_okC hk0 hS ?_)
 clear hS
 intro b w hS
 repeat' (first|refine pN_v (hk:=?_)|fail)
 have h00:Sat E w (rows cd_pithlaw37_Snap ⟨none,0⟩ []::RDq confC b (D.new kP,[])::M):=hS.nil cd_pithlaw37_Snap.e cd_pithlaw37_Snap.size
 clear hS
 have hS:=h00
 clear h00
 refine⟨fun v v' w=>∃(i:Nat) (la:List Snap) (so:Sl) (fz:List HA),v= .slice so.a la.length so.c∧v'= .int .i64 i∧i≤l.length∧(∀x∈la,x∈l)∧la.length≤i∧(∀n root,D.look (Pr.all kP (l.take i)).ns n=some root→∃x∈la,x.Name=n)∧
  Sat E w (rows cd_pithlaw37_Snap so la::RDq confC b (Pr.all kP (l.take i),fz)::M),fun _ v _=>l.length-(RowKit.intOf v).toNat,
  ⟨0,[],⟨none,0⟩,[],rfl,rfl,by omega,fun x hx=>(by cases hx),Nat.le_refl 0,?_,?_⟩,?_⟩
 ·intro n root h
  rw[List.take_zero,all_0] at h
  cases h
 ·rw[List.take_zero,all_0]
  exact hS
 clear hS
 rintro _ _ _ w ⟨i,la,so,fz,rfl,rfl,hi,hla,hlal,hcov,hS⟩
 by_cases hlt:i<l.length
 ·obtain⟨x,hx⟩:∃x,l[i]? =some x:=⟨l[i],List.getElem?_eq_getElem _⟩
  have hm:=List.mem_of_getElem? hx
  obtain⟨hd1,hd2⟩:=hd x hm
  have hNx:=hN x hm
  have hyx:=hity x hm
  have hlx:=hitl x hm
  obtain⟨hl1,hl2⟩:=hlst x hm
  have hnx1:=hnx hx
  have has1:=has hx
  have hki:=hak i
  have hpi:=hps i
  have hni:=hns i
  have hwi:=hwj i
  have htl:(l.take i).length=i:=by rw[List.length_take];omega
  rw[htl] at hni
  haveI:=hd1
  rw[show Pr.step (Pr.all kP (l.take i)) x=(S.save (Pr.all kP (l.take i)) x.Name x.Items.2).2 from rfl] at has1
  generalize hD2:Pr.all kP (l.take (i+1))=D2 at*
  generalize Pr.all kP (l.take i)=D1 at*
  repeat' (first|(refine pN_lss_s ?_ ?_<;>intro hc<;>try (exfalso;omega))|refine pIf_t ?_|refine pN_v (hk:=?_)|fail)
  refine⟨fun v w=>∃(la:List Snap) (so:Sl) (fz:List HA),v= .slice so.a la.length so.c∧(∀x∈la,x∈l)∧la.length≤i+1∧(∀n root,D.look D2.ns n=some root→∃x∈la,x.Name=n)∧Sat E w (rows cd_pithlaw37_Snap so la::RDq confC b (D2,fz)::M),?_,?_⟩
  ·refine pDr_go hS ?_
   clear hS
   intro w hS
   refine pA_ixk (C:=cd_pithlaw37_Snap) (s:=sl) (l:=l) hS i rfl rfl hx fun ad1 ha1 hel1=>?_
   refine pA_fa ha1 (by rfl) fun ad2 ha2=>?_
   refine pL_ld1 ha2 hS ?_
   refine pA_ixk (C:=cd_pithlaw37_Snap) (s:=sl) (l:=l) hS i rfl rfl hx fun ad3 ha3 hel3=>?_
   refine pA_fa ha3 (by rfl) fun ad4 ha4=>?_
   refine pL_ld1 ha4 hS ?_
   refine pcq (f:=77) (copied_ok (sl:=x.Items.1) (its:=x.Items.2) hS (fun y hy=>by haveI:=hd2 y hy;infer_instance) (fun y hy=>by have:=(hyx y hy).2.2;omega) (by omega) ?_)
   clear hS
   intro outs s2 w hpl hS
   refine⟨⟨run_ld1 ha2 hS,trivial⟩,?_⟩
   have hS:Sat E w (bag (itR outs)::RDq confC b (D1,fz)::rows cd_api_Item s2 outs::rows cd_pithlaw37_Snap so la::M):=hS.to
   have hS:=RDq.freeze hS
   have hsv:=S.save_same (d:=D1) (n:=x.Name) hpl
   have hol:outs.length=x.Items.2.length:=by
    have:=congrArg List.length hpl
    rw[List.length_map,List.length_map] at this
    exact this
   have hoy:∀y∈outs,y.Name.length≤4194304∧y.Link.length≤4194304∧y.Data.2.length≤4194304:=fun y hy=>by
    have h1:S.plainI y∈x.Items.2.map S.plainI:=by rw[←hpl];exact List.mem_map_of_mem hy
    obtain⟨z,hz,hzy⟩:=List.mem_map.1 h1
    have h2:=hyx z hz
    have e1:z.Name=y.Name:=(congrArg T_api_Item.Name hzy:(S.plainI z).Name=(S.plainI y).Name)
    have e2:z.Link=y.Link:=(congrArg T_api_Item.Link hzy:(S.plainI z).Link=(S.plainI y).Link)
    have e3:z.Data.2=y.Data.2:=(congrArg (fun q:T_api_Item=>q.Data.2) hzy:(S.plainI z).Data.2=(S.plainI y).Data.2)
    rw[e1,e2,e3] at h2
    exact h2
   refine pcq (f:=79) (r6Save_ok (c:=confC) (d:=D1) (sl:=s2) (its:=outs) (n:=x.Name) (by rw[hki];exact hk0) hS (by omega) (fun y hy=>RdP.hd (itR_rd hy)) (fun y hy=>by have:=hoy y hy;omega) (by omega) (by rw[hki,S.list_same hpl];omega) (by rw[hki,S.need_same hpl];omega) (by omega) ?_)
   rw[hsv]
   clear hS
   intro fz2 w hS
   rw[←has1] at hS
   have hS:Sat E w (rows cd_pithlaw37_Snap so la::RDq confC b (D2,fz2)::M):=hS.to
   rcases hnx1 with⟨hne,he⟩|⟨heq,hco⟩
   ·generalize (S.save D1 x.Name x.Items.2).1=er at*
    repeat' (first|(refine pA_neq_s ?_ ?_<;>intro hc<;>try (exfalso;first|omega|exact gone hc|exact gon2 hc))|refine pIf_t ?_|refine⟨trivial,?_⟩|fail)
    exact⟨la,so,fz2,rfl,hla,by omega,fun n root h=>hcov n root (by rw[←he];exact h),hS⟩
   ·rw[heq]
    have hb0:=besid_0 x.Name
    have hbl:=fun j=>besid_len la x.Name j
    have hbi:=fun {j:Nat} {y:Snap} (h:la[j]? =some y) (hy:y.Name≠x.Name)=>besid_in h hy
    have hbn:=fun {j:Nat} {y:Snap} (h:la[j]? =some y) (hy:y.Name=x.Name)=>besid_no h hy
    have hbm:=fun {y:Snap}=>besid_mem (l:=la) (y:=y) (n:=x.Name)
    repeat' (first|(refine pA_neq_s ?_ ?_<;>intro hc<;>try (exfalso;first|omega|exact gone hc|exact gon2 hc))|refine pIf_f ?_|refine⟨trivial,?_⟩|fail)
    have h8:Sat E w (rows cd_pithlaw37_Snap ⟨none,0⟩ []::rows cd_pithlaw37_Snap so la::RDq confC b (D2,fz2)::M):=hS.nil cd_pithlaw37_Snap.e cd_pithlaw37_Snap.size
    refine⟨fun v v' w=>∃(j:Nat) (s3:Sl),v= .slice s3.a (besid (la.take j) x.Name).length s3.c∧v'= .int .i64 j∧j≤la.length∧Sat E w (rows cd_pithlaw37_Snap s3 (besid (la.take j) x.Name)::rows cd_pithlaw37_Snap so la::RDq confC b (D2,fz2)::M),fun _ v _=>la.length-(RowKit.intOf v).toNat,⟨0,⟨none,0⟩,by rw[List.take_zero,hb0];rfl,rfl,by omega,by rw[List.take_zero,hb0];exact h8⟩,?_⟩
    clear hS h8
    rintro _ _ _ w ⟨j,s3,rfl,rfl,hj,hS⟩
    have hblj:=hbl j
    by_cases hlt2:j<la.length
    ·obtain⟨y,hy⟩:∃y,la[j]? =some y:=⟨la[j],List.getElem?_eq_getElem _⟩
     have h1:=hbi hy
     have h2:=hbn hy
     generalize hF2:besid (la.take (j+1)) x.Name=F2 at*
     generalize besid (la.take j) x.Name=F1 at*
     repeat' (first|(refine pN_lss_s ?_ ?_<;>intro hc<;>try (exfalso;omega))|refine pIf_t ?_|refine pN_v (hk:=?_)|fail)
     refine⟨fun v w=>∃s3:Sl,v= .slice s3.a F2.length s3.c∧Sat E w (rows cd_pithlaw37_Snap s3 F2::rows cd_pithlaw37_Snap so la::RDq confC b (D2,fz2)::M),?_,?_⟩
     ·by_cases hyn:y.Name=x.Name
      ·have h3:=h2 hyn
       repeat' (first|refine pA_ixk (C:=cd_pithlaw37_Snap) (s:=so) (l:=la) hS j rfl rfl hy fun ad ha hel=>?_|refine pA_ixk (C:=cd_pithlaw37_Snap) (s:=sl) (l:=l) hS i rfl rfl hx fun ad ha hel=>?_|(refine pA_neq_ss ?_ ?_<;>intro hc<;>try (exfalso;first|omega|exact gone hc|exact gon2 hc))|refine pIf_f ?_|refine pL_ld1 ha hS ?_|refine pA_fa ha (by rfl) fun a ha=>?_|(refine pDr_go hS ?_;clear hS;intro w hS)|fail)
       rw[h3]
       exact⟨s3,rfl,hS⟩
      ·have h3:=h1 hyn
       repeat' (first|refine pA_ixk (C:=cd_pithlaw37_Snap) (s:=so) (l:=la) hS j rfl rfl hy fun ad ha hel=>?_|refine pA_ixk (C:=cd_pithlaw37_Snap) (s:=sl) (l:=l) hS i rfl rfl hx fun ad ha hel=>?_|refine pN_ixk (C:=cd_pithlaw37_Snap) (s:=so) (l:=la) hS j rfl rfl hy fun ad ha hel=>?_|refine pN_ld_at ha hS rfl ?_|(refine pN_b1 (C:=cd_pithlaw37_Snap) (x:=y) hS rfl (by decide) ?_;clear hS;intro s4 w hS)|(refine pN_app (C:=cd_pithlaw37_Snap) (s:=s3) (l:=F1) (m:=[y]) hS rfl rfl (by rw[List.length_singleton];omega) ?_;clear hS;intro s5 w hS)|(refine pA_neq_ss ?_ ?_<;>intro hc<;>try (exfalso;first|omega|exact gone hc|exact gon2 hc))|refine pIf_t ?_|refine pL_ld1 ha hS ?_|refine pA_fa ha (by rfl) fun a ha=>?_|(refine pDr_go hS ?_;clear hS;intro w hS)|fail)
       rw[←h3] at hS ⊢
       exact⟨s5,rfl,hS.to⟩
     ·clear hS
      rintro _ _ w ⟨s3,rfl,hS⟩
      repeat' (first|refine pN_v (hk:=?_)|fail)
      exact⟨⟨j+1,s3,by rw[hF2],rfl,hlt2,by rw[hF2];exact hS⟩,by simp[RowKit.intOf]<;>omega⟩
    ·obtain rfl:j=la.length:=by omega
     rw[List.take_length] at hS ⊢
     rw[List.take_length] at hblj
     generalize besid la x.Name=F1 at*
     repeat' (first|refine pN_ixk (C:=cd_pithlaw37_Snap) (s:=sl) (l:=l) hS i rfl rfl hx fun ad ha hel=>?_|refine pN_ld_at ha hS rfl ?_|(refine pN_b1 (C:=cd_pithlaw37_Snap) (x:=x) hS rfl (by decide) ?_;clear hS;intro s4 w hS)|(refine pN_app (C:=cd_pithlaw37_Snap) (s:=s3) (l:=F1) (m:=[x]) hS rfl rfl (by rw[List.length_singleton];omega) ?_;clear hS;intro s5 w hS)|(refine pN_lss_s ?_ ?_<;>intro hc<;>try (exfalso;omega))|refine pIf_f ?_|refine pN_v (hk:=?_)|fail)
     refine⟨F1++[x],s5,fz2,rfl,fun z hz=>?_,by rw[List.length_append,List.length_singleton];omega,fun n root h=>?_,hS.to⟩
     ·rcases List.mem_append.1 hz with hz|hz
      ·exact hla z (hbm.1 hz).1
      ·rw[List.mem_singleton.1 hz];exact hm
     ·by_cases e:x.Name=n
      ·exact⟨x,by simp,e⟩
      ·rcases hco n root h with h|h
       ·exact absurd h.symm e
       ·obtain⟨z,hz,hzn⟩:=hcov n root h
        exact⟨z,List.mem_append.2 (.inl (hbm.2 ⟨hz,fun e2=>e (by rw[←e2];exact hzn)⟩)),hzn⟩
  ·clear hS
   rintro _ _ w ⟨la,so,fz,rfl,hla,hlal,hcov,hS⟩
   repeat' (first|refine pN_v (hk:=?_)|fail)
   exact⟨⟨i+1,la,so,fz,rfl,rfl,hlt,hla,hlal,by rw[hD2];exact hcov,by rw[hD2];exact hS⟩,by simp[RowKit.intOf]<;>omega⟩
 ·obtain rfl:i=l.length:=by omega
  have hpi:=hps l.length
  have hni:=hns l.length
  rw[List.take_length] at hpi hni hS hcov
  clear hps hns hwj hak hnx has
  generalize Pr.all kP l=D1 at*
  repeat' (first|(refine pN_lss_s ?_ ?_<;>intro hc<;>try (exfalso;omega))|refine pIf_f ?_|refine pN_v (hk:=?_)|fail)
  refine⟨fun v w=>∃j:Nat,v= .int .i64 j∧j≤la.length∧(∀x∈la.take j,S.Good D1 x.Name)∧Sat E w (rows cd_pithlaw37_Snap so la::RDq confC b (D1,fz)::M),fun v _=>la.length-(RowKit.intOf v).toNat,⟨0,rfl,by omega,fun x hx=>by simp at hx,hS⟩,?_⟩
  clear hS
  rintro _ _ w ⟨j,rfl,hj,hgd,hS⟩
  by_cases hlt2:j<la.length
  ·obtain⟨x,hx⟩:∃x,la[j]? =some x:=⟨la[j],List.getElem?_eq_getElem _⟩
   have hm:=hla x (List.mem_of_getElem? hx)
   obtain⟨hd1,hd2⟩:=hd x hm
   have hlx:=hitl x hm
   have hyx:=hity x hm
   haveI:=hd1
   repeat' (first|refine pN_ixk (C:=cd_pithlaw37_Snap) (s:=so) (l:=la) hS j rfl rfl hx fun ad ha hel=>?_|(refine pN_lss_s ?_ ?_<;>intro hc<;>try (exfalso;omega))|refine pIf_t ?_|refine pN_ld1 ha hS ?_|refine pN_fa ha (by rfl) fun a ha=>?_|refine pN_v (hk:=?_)|fail)
   refine pcq (f:=80) (r6Items_ok (c:=confC) (n:=x.Name) hS (by omega) (by omega) hsm (fun r h=>by have:=hrl _ r h;omega) (fun outs s2 w hg hol hox hS=>?_) fun er w her hS=>?_)
   rotate_left 1
   ·repeat' (first|(refine pN_neq_s ?_ ?_<;>intro hc<;>try (exfalso;first|omega|exact gone hc|exact gon2 hc))|refine pIf_t ?_|refine pGd_no (by rfl) ?_|refine pN_v (hk:=?_)|fail)
    exact hQ false _ (fun h=>by cases h) hS.to
   have hS:Sat E w (rows cd_api_Item s2 outs::bag (itR outs)::rows cd_pithlaw37_Snap so la::RDq confC b (D1,fz)::M):=hS.to
   by_cases hle:outs.length=x.Items.2.length
   rotate_left 1
   ·repeat' (first|refine pN_ixk (C:=cd_pithlaw37_Snap) (s:=so) (l:=la) hS j rfl rfl hx fun ad ha hel=>?_|(refine pN_neq_s ?_ ?_<;>intro hc<;>try (exfalso;first|omega|exact gone hc|exact gon2 hc))|refine pIf_t ?_|refine pGd_go (by rfl) ?_|refine pN_ld1 ha hS ?_|refine pN_fa ha (by rfl) fun a ha=>?_|refine pN_v (hk:=?_)|fail)
    exact hQ false _ (fun h=>by cases h) hS.to
   repeat' (first|refine pN_ixk (C:=cd_pithlaw37_Snap) (s:=so) (l:=la) hS j rfl rfl hx fun ad ha hel=>?_|(refine pN_neq_s ?_ ?_<;>intro hc<;>try (exfalso;first|omega|exact gone hc|exact gon2 hc))|refine pIf_f ?_|refine pGd_go (by rfl) ?_|refine pN_ld1 ha hS ?_|refine pN_fa ha (by rfl) fun a ha=>?_|refine pN_v (hk:=?_)|fail)
   refine⟨fun v w=>∃k:Nat,v= .int .i64 k∧k≤outs.length∧Sat E w (rows cd_api_Item s2 outs::bag (itR outs)::rows cd_pithlaw37_Snap so la::RDq confC b (D1,fz)::M),fun v _=>outs.length-(RowKit.intOf v).toNat,⟨0,rfl,by omega,hS⟩,?_⟩
   clear hS
   rintro _ _ w ⟨k,rfl,hk,hS⟩
   by_cases hlt3:k<outs.length
   ·obtain⟨y,hy⟩:∃y,outs[k]? =some y:=⟨outs[k],List.getElem?_eq_getElem _⟩
    have hym:=List.mem_of_getElem? hy
    have hyl:=hox y hym
    haveI:RdP cd_uint8 (bag (itR outs)) y.Data.1 y.Data.2:=itR_rd hym
    repeat' (first|(refine pN_lss_s ?_ ?_<;>intro hc<;>try (exfalso;omega))|refine pIf_t ?_|refine pN_v (hk:=?_)|fail)
    refine⟨fun v v' w=>∃(f:Bool) (q:Nat),v= .bool f∧v'= .int .i64 q∧q≤x.Items.2.length∧Sat E w (rows cd_api_Item s2 outs::bag (itR outs)::rows cd_pithlaw37_Snap so la::RDq confC b (D1,fz)::M),fun _ v _=>x.Items.2.length-(RowKit.intOf v).toNat,⟨false,0,rfl,rfl,by omega,hS⟩,?_⟩
    clear hS
    rintro _ _ _ w ⟨f,q,rfl,rfl,hq,hS⟩
    by_cases hlt4:q<x.Items.2.length
    ·obtain⟨z,hz⟩:∃z,x.Items.2[q]? =some z:=⟨x.Items.2[q],List.getElem?_eq_getElem _⟩
     have hzm:=List.mem_of_getElem? hz
     haveI:=hd2 z hzm
     have hyz:=hyx z hzm
     cases f with
     |true=>
      repeat' (first|refine pN_ixk (C:=cd_pithlaw37_Snap) (s:=so) (l:=la) hS j rfl rfl hx fun ad ha hel=>?_|refine pN_ixk (C:=cd_api_Item) (s:=x.Items.1) (l:=x.Items.2) hS q rfl rfl hz fun ad ha hel=>?_|refine pN_ld_at ha hS rfl ?_|(refine pN_lss_s ?_ ?_<;>intro hc<;>try (exfalso;omega))|refine pIf_t ?_|refine gA_no (by rfl) ?_|refine pN_ld1 ha hS ?_|refine pN_fa ha (by rfl) fun a ha=>?_|(refine pN_sa hS (by rfl) (by rfl) (by rfl) ?_;clear hS;intro w hS;try dsimp only at hS)|(refine pDr_go hS ?_;clear hS;intro w hS)|(refine pN_nz hS ?_;clear hS;intro a w hS)|refine pN_v (hk:=?_)|refine pA_v (hk:=?_)|fail)
      exact⟨⟨true,q+1,rfl,rfl,hlt4,hS.to⟩,by simp[RowKit.intOf]<;>omega⟩
     |false=>
      by_cases hnm:z.Name=y.Name
      ·by_cases hdt:z.Data.2=y.Data.2
       ·repeat' (first|refine pN_ixk (C:=cd_pithlaw37_Snap) (s:=so) (l:=la) hS j rfl rfl hx fun ad ha hel=>?_|refine pN_ixk (C:=cd_api_Item) (s:=x.Items.1) (l:=x.Items.2) hS q rfl rfl hz fun ad ha hel=>?_|refine pN_ld_at ha hS rfl ?_|refine pA_ixk (C:=cd_api_Item) (s:=s2) (l:=outs) hS k rfl rfl hy fun ad ha hel=>?_|(refine pN_lss_s ?_ ?_<;>intro hc<;>try (exfalso;omega))|(refine pA_eql_ss ?_ ?_<;>intro hc<;>try (exfalso;first|omega|exact gone hc|exact gon2 hc))|refine pIf_t ?_|refine gA_go (by rfl) ?_|refine pL_l hS (by first|rfl|assumption) ?_|refine pN_ld1 ha hS ?_|refine pL_ld1 ha hS ?_|refine pN_fa ha (by rfl) fun a ha=>?_|refine pA_fa ha (by rfl) fun a ha=>?_|(refine pN_sa hS (by rfl) (by rfl) (by rfl) ?_;clear hS;intro w hS;try dsimp only at hS)|(refine pDr_go hS ?_;clear hS;intro w hS)|(refine pN_nz hS ?_;clear hS;intro a w hS)|refine pL_st hS (by first|rfl|omega|simpa only[go_sem] using True.intro|(simp only[go_sem];omega)) ?_|refine pN_v (hk:=?_)|refine pA_v (hk:=?_)|fail)
        exact⟨⟨true,q+1,rfl,rfl,hlt4,hS.to⟩,by simp[RowKit.intOf]<;>omega⟩
       ·repeat' (first|refine pN_ixk (C:=cd_pithlaw37_Snap) (s:=so) (l:=la) hS j rfl rfl hx fun ad ha hel=>?_|refine pN_ixk (C:=cd_api_Item) (s:=x.Items.1) (l:=x.Items.2) hS q rfl rfl hz fun ad ha hel=>?_|refine pN_ld_at ha hS rfl ?_|refine pA_ixk (C:=cd_api_Item) (s:=s2) (l:=outs) hS k rfl rfl hy fun ad ha hel=>?_|(refine pN_lss_s ?_ ?_<;>intro hc<;>try (exfalso;omega))|(refine pA_eql_ss ?_ ?_<;>intro hc<;>try (exfalso;first|omega|exact gone hc|exact gon2 hc))|refine pIf_t ?_|refine gA_go (by rfl) ?_|refine pL_l hS (by first|rfl|assumption) ?_|refine pN_ld1 ha hS ?_|refine pL_ld1 ha hS ?_|refine pN_fa ha (by rfl) fun a ha=>?_|refine pA_fa ha (by rfl) fun a ha=>?_|(refine pN_sa hS (by rfl) (by rfl) (by rfl) ?_;clear hS;intro w hS;try dsimp only at hS)|(refine pDr_go hS ?_;clear hS;intro w hS)|(refine pN_nz hS ?_;clear hS;intro a w hS)|refine pL_st hS (by first|rfl|omega|simpa only[go_sem] using True.intro|(simp only[go_sem];omega)) ?_|refine pN_v (hk:=?_)|refine pA_v (hk:=?_)|fail)
        exact⟨⟨false,q+1,rfl,rfl,hlt4,hS.to⟩,by simp[RowKit.intOf]<;>omega⟩
      ·repeat' (first|refine pN_ixk (C:=cd_pithlaw37_Snap) (s:=so) (l:=la) hS j rfl rfl hx fun ad ha hel=>?_|refine pN_ixk (C:=cd_api_Item) (s:=x.Items.1) (l:=x.Items.2) hS q rfl rfl hz fun ad ha hel=>?_|refine pN_ld_at ha hS rfl ?_|refine pA_ixk (C:=cd_api_Item) (s:=s2) (l:=outs) hS k rfl rfl hy fun ad ha hel=>?_|(refine pN_lss_s ?_ ?_<;>intro hc<;>try (exfalso;omega))|(refine pA_eql_ss ?_ ?_<;>intro hc<;>try (exfalso;first|omega|exact gone hc|exact gon2 hc))|refine pIf_t ?_|refine gA_go (by rfl) ?_|refine gA_no (by rfl) ?_|refine pL_l hS (by first|rfl|assumption) ?_|refine pN_ld1 ha hS ?_|refine pL_ld1 ha hS ?_|refine pN_fa ha (by rfl) fun a ha=>?_|refine pA_fa ha (by rfl) fun a ha=>?_|(refine pN_sa hS (by rfl) (by rfl) (by rfl) ?_;clear hS;intro w hS;try dsimp only at hS)|(refine pDr_go hS ?_;clear hS;intro w hS)|(refine pN_nz hS ?_;clear hS;intro a w hS)|refine pN_v (hk:=?_)|refine pA_v (hk:=?_)|fail)
       exact⟨⟨false,q+1,rfl,rfl,hlt4,hS.to⟩,by simp[RowKit.intOf]<;>omega⟩
    ·obtain rfl:q=x.Items.2.length:=by omega
     cases f with
     |true=>
      repeat' (first|refine pN_ixk (C:=cd_pithlaw37_Snap) (s:=so) (l:=la) hS j rfl rfl hx fun ad ha hel=>?_|(refine pN_lss_s ?_ ?_<;>intro hc<;>try (exfalso;omega))|refine pIf_f ?_|refine pN_ld1 ha hS ?_|refine pN_fa ha (by rfl) fun a ha=>?_|refine pN_v (hk:=?_)|fail)
      exact⟨⟨k+1,rfl,hlt3,hS⟩,by simp[RowKit.intOf]<;>omega⟩
     |false=>
      repeat' (first|refine pN_ixk (C:=cd_pithlaw37_Snap) (s:=so) (l:=la) hS j rfl rfl hx fun ad ha hel=>?_|(refine pN_lss_s ?_ ?_<;>intro hc<;>try (exfalso;omega))|refine pIf_t ?_|refine pIf_f ?_|refine pN_ld1 ha hS ?_|refine pN_fa ha (by rfl) fun a ha=>?_|refine pN_v (hk:=?_)|fail)
      exact hQ false _ (fun h=>by cases h) hS.to
   ·obtain rfl:k=outs.length:=by omega
    repeat' (first|(refine pN_lss_s ?_ ?_<;>intro hc<;>try (exfalso;omega))|refine pIf_f ?_|refine pN_v (hk:=?_)|fail)
    refine⟨⟨j+1,rfl,hlt2,fun z hz=>?_,hS.to⟩,by simp[RowKit.intOf]<;>omega⟩
    rw[List.take_add_one,hx] at hz
    rcases List.mem_append.1 hz with hz|hz
    ·exact hgd z hz
    ·obtain rfl:z=x:=by simpa using hz
     exact hg
  ·obtain rfl:j=la.length:=by omega
   rw[List.take_length] at hgd
   repeat' (first|(refine pN_lss_s ?_ ?_<;>intro hc<;>try (exfalso;omega))|refine pIf_f ?_|refine pN_v (hk:=?_)|fail)
   refine hQ true _ (fun _ n root h=>?_) hS.to
   obtain⟨x,hx,rfl⟩:=hcov n root h
   exact hgd x hx
end
end
end
section
theorem laid_get {P:Program} {W:World}:∀{l:List (String×DataW Unit)} {ps:List MemPlace} {n:String} {d:DataW Unit},DataW.LaidVars P W l ps→(n,d)∈l→
  ∃g t cs fuel p,P.globalNamed n=some g∧(P.globals[g]?).map (·.type)=some t∧W.var? P n=some cs∧DataW.trod (fun _=>()) P W 0 (fun _=>true) false fuel t cs.toList=some (d,p)
 | [],_,_,_,_,h=>by cases h
 |(n0,d0)::r,ps,n,d,⟨g,t,cs,fuel,p,q,h1,h2,h3,h4,h5,_⟩,h=>by
  rcases List.mem_cons.1 h with e|h
  ·cases e;exact⟨g,t,cs,fuel,p,h1,h2,h3,h4⟩
  ·exact laid_get h5 h
theorem laid_ks {kd:IntKind} {W:World} {l:List (String×DataW Unit)} {ps:List MemPlace} (hl:DataW.LaidVars zp W l ps) {n:String} {g t e m:Nat} (zs:List Int) (hm:(n,DataW.agg (zs.map fun z=> .lit (.int kd z)))∈l)
  (hg:zp.globalNamed n=some g) (ht:(zp.globals[g]?).map (·.type)=some t) (hu:zp.underlying t=some (.array m e)) (hc:zp.cellsOf e=1) (he:zp.underlying e=some (.int kd)) (i:Nat) (z:Int) (hi:i<m) (hz:zs[i]? =some z):W.cell? ⟨g,i,none⟩=some (.int kd z):=by
 obtain⟨g',t',cs,fuel,p,hg',ht',hv,hd⟩:=laid_get hl hm
 obtain rfl:=Option.some.inj (hg.symm.trans hg')
 obtain rfl:=Option.some.inj (ht.symm.trans ht')
 obtain⟨xs,k,_,ex,_,hln,hel⟩:=DataW.trod_array hu hd
 have hE:=hel i hi
 have hlt:i<zs.length:=(List.getElem?_eq_some_iff.1 hz).1
 have e3:(xs.map (·.1))=zs.map fun z=> .lit (.int kd z):=(DataW.agg.inj (Prod.mk.inj ex).1).symm
 have hxl:xs.length=zs.length:=by have:=congrArg List.length e3;simpa using this
 rw[hc,Nat.mul_one,List.getElem?_eq_getElem (by omega)] at hE
 obtain⟨y,e1,e2,_⟩:=DataW.trod_int he hE
 have e4:(xs.map (·.1))[i]? =(zs.map fun z=>(DataW.lit (.int kd z):DataW Unit))[i]? :=by rw[e3]
 rw[List.getElem?_map,List.getElem?_map,List.getElem?_eq_getElem (by omega:i<xs.length),hz,e2] at e4
 simp only[Option.map_some,Option.some.injEq,DataW.lit.injEq,Lit.int.injEq,true_and] at e4
 subst e4
 rw[World.var?_cell hg hv i]
 have h0:((cs.toList.drop i).take 1)[0]? =some (.int kd y):=by rw[e1];rfl
 have:cs.toList[i]? =some (.int kd y):=by simpa using h0
 simpa using this
theorem glo_of_laid {W:World} {l:List (String×DataW Unit)} (h:laidMetH zp l W) (hp:(l.filter fun x=>x.2.handleName?.isSome)=[]) (m1:("pith/sha.first",Rows.laid_pith_sha_first)∈l) (m2:("pith/sha.rounds",Rows.laid_pith_sha_rounds)∈l)
  (m3:("pith/varint.bounds",Rows.laid_pith_varint_bounds)∈l):GloS W:=by
 unfold laidMetH at h
 rw[hp] at h
 obtain⟨ps,hv,_⟩:=h
 refine⟨fun i hi=>?_,fun i hi=>?_,fun i u hu=>?_⟩
 ·have hz:(H.first.map fun x=>(x.toNat:Int))[i]? =some ((H.nth H.first i).toNat:Int):=by
   have hl:i<H.first.length:=hi
   rw[List.getElem?_map,List.getElem?_eq_getElem hl,H.nth,List.getD_eq_getElem?_getD,List.getElem?_eq_getElem hl];rfl
  exact laid_ks (kd:= .u32) hv (H.first.map fun x=>(x.toNat:Int)) m1 (by kernel_rfl) (by kernel_rfl) Tryz.underlying214 (by kernel_rfl) Tryz.underlying213 i _ hi hz
 ·have hz:(H.consts.map fun x=>(x.toNat:Int))[i]? =some ((H.nth H.consts i).toNat:Int):=by
   have hl:i<H.consts.length:=hi
   rw[List.getElem?_map,List.getElem?_eq_getElem hl,H.nth,List.getD_eq_getElem?_getD,List.getElem?_eq_getElem hl];rfl
  exact laid_ks (kd:= .u32) hv (H.consts.map fun x=>(x.toNat:Int)) m2 (by kernel_rfl) (by kernel_rfl) Tryz.underlying257 (by kernel_rfl) Tryz.underlying213 i _ hi hz
 ·have hu2:∃z:Int,u= .int .u64 z∧([128,16384,2097152,268435456,34359738368,4398046511104,562949953421312,72057594037927936,9223372036854775808]:List Int)[i]? =some z:=by
   have e:bndV=([128,16384,2097152,268435456,34359738368,4398046511104,562949953421312,72057594037927936,9223372036854775808]:List Int).map (Value.int .u64):=rfl
   rw[e,List.getElem?_map] at hu
   obtain⟨z,hz,hzu⟩:=Option.map_eq_some_iff.1 hu
   exact⟨z,hzu.symm,hz⟩
  obtain⟨z,rfl,hz⟩:=hu2
  have hi:i<9:=(List.getElem?_eq_some_iff.1 hz).1
  exact laid_ks (kd:= .u64) hv _ m3 (by kernel_rfl) (by kernel_rfl) Tryz.underlying290 (by kernel_rfl) Tryz.underlying212 i z hi hz
end
section
attribute [local irreducible] oMv oV oU oCall oCallV oBi oBin oUn oLoad oStore oNil oFld oField oIdx oIndex oPick oAlloc oBox oBuild oBs oConv oMk oSl oExt oFn oIface oMap oLook oMapUp oRange oNext oEntry oInv oAssert oPanic oRes pN pA pL pDr pIf gA pGd Calls
section
open Pr
attribute [local irreducible] S.save S.sort S.list S.need Pr.all Pr.wA
section
variable [Pan] {E w W:World} {K Q:Value→World→Prop} {LL M N N':List HA} {its:List T_api_Item} {s sl:Sl} {c:T_api_Config} {db:Nat} {d:D.T}
theorem DLegal_no (n:List UInt8) (hn:254<n.length) (hQ:Q (.int .i64 8) w):Calls zp 56 #[.string ⟨n.toArray⟩] w (retP Q):=by
 refine depot_Legal.calls ?_
 unfold depot_Legal.F
 repeat' (first|refine pN_slen ?_|(refine pN_gtr_s ?_ ?_<;>intro hc<;>try (exfalso;omega))|refine pIf_t ?_|fail)
 exact hQ
theorem Save_any (hG:GloS W) (hk:d.k.legal) (hS:Sat E w LL) [hf:Fnd (Dep c db) LL d N] [hg:Has (old W) N N'] (n:List UInt8) [hr:Rds cd_api_Item N sl its] (hd:∀x∈its,Rds cd_uint8 N x.Data.1 x.Data.2)
  (hb:∀x∈its,x.Name.length≤1099511627776∧x.Link.length≤1099511627776∧x.Data.2.length≤1099511627776) (hl:its.length≤1099511627776) (hlist:(S.list d.k (S.sort its)).length≤1099511627776)
  (hQ:∀e w,Sat E w (Dep c db (S.save d n its).2::N)→Q (.int .i64 e) w):
  Calls zp 13 #[.pointer (some ⟨db,0,none⟩),.string ⟨n.toArray⟩,.slice sl.a its.length sl.c] w (retP Q):=by
 by_cases h:n.length≤254
 ·exact Save_ok (n:=(⟨n,by omega⟩:NKey)) hG hk hS h hd hb hl hlist fun w hS=>hQ _ w hS
 ·rw[S.save_long (by omega)] at hQ
  refine snap_Save.calls ?_
  unfold snap_Save.F
  have hS1:=hS.fd (Dep c db)
  clear hS hf
  have hS:=hS1
  clear hS1
  repeat' (first|(refine pcq (f:=56) (DLegal_no n (by omega) ?_))|(refine pN_neq_s ?_ ?_<;>intro hc<;>try (exfalso;first|omega|exact gone hc|exact gon2 hc))|refine pIf_t ?_|fail)
  exact hQ _ _ hS
theorem saved_ok {l:List Snap} (hG:GloS W) (hS:Sat E w M) [hg:Has (old W) M N'] [hr:Rds cd_pithlaw37_Snap M sl l] (hl:l.length≤1048576) (hT:wA l≤4194304) (hd:∀x∈l,Rds cd_api_Item M x.Items.1 x.Items.2∧∀y∈x.Items.2,Rds cd_uint8 M y.Data.1 y.Data.2) (n:Int) (hn:n≠2)
  (hQ:∀db w,Sat E w (Dep confC db (Pr.all kP l)::M)→Q (.tuple #[.pointer (some ⟨db,0,none⟩),.bool true]) w):
  Calls zp 34 #[.slice sl.a l.length sl.c,.int .i64 n] w (retP Q):=by
 refine pithlaw37_saved.calls ?_
 unfold pithlaw37_saved.F
 have hk0:=kP_legal
 have hak:=fun j=>all_k kP (l.take j)
 have has:=fun {j:Nat} {x:Snap} (h:l[j]? =some x)=>all_s (k:=kP) h
 have hitw:∀x∈l,S.wL x.Items.2≤4194304:=fun x hx=>by
  have h1:=wA_mem hx
  unfold wS at h1
  omega
 have hity:∀x∈l,∀y∈x.Items.2,y.Name.length≤4194304∧y.Link.length≤4194304∧y.Data.2.length≤4194304:=fun x hx y hy=>by
  have h1:=hitw x hx
  have h2:=S.wL_mem hy
  unfold S.wI at h2
  omega
 have hitl:∀x∈l,x.Items.2.length≤4194304:=fun x hx=>Nat.le_trans (S.wL_len _) (hitw x hx)
 have hlst:∀x∈l,(S.list kP (S.sort x.Items.2)).length≤200000000:=fun x hx=>by
  have h1:=hitw x hx
  have h2:=S.list_w kP (S.sort x.Items.2)
  rw[S.wL_sort] at h2
  omega
 refine pcq (f:=75) (conf_ok hS ?_)
 clear hS
 intro w hS
 refine pcq (f:=76) (cuts_ok n hn hS ?_)
 clear hS
 intro w hS
 refine pcq (f:=48) (DNew_in (c:=confC) (k:=kP) conf_okC hk0 hS ?_)
 clear hS
 intro db w hS
 repeat' (first|(refine pN_neq_s ?_ ?_<;>intro hc<;>try (exfalso;first|omega|exact gone hc|exact gon2 hc))|refine pIf_f ?_|refine pGd_go (by rfl) ?_|refine pN_v (hk:=?_)|fail)
 refine⟨fun v w=>∃i:Nat,v= .int .i64 i∧i≤l.length∧Sat E w (Dep confC db (Pr.all kP (l.take i))::M),fun v _=>l.length-(RowKit.intOf v).toNat,⟨0,rfl,by omega,by rw[List.take_zero,all_0];exact hS⟩,?_⟩
 clear hS
 rintro _ _ w ⟨i,rfl,hi,hS⟩
 by_cases hlt:i<l.length
 ·obtain⟨x,hx⟩:∃x,l[i]? =some x:=⟨l[i],List.getElem?_eq_getElem _⟩
  have hm:=List.mem_of_getElem? hx
  obtain⟨hd1,hd2⟩:=hd x hm
  have hyx:=hity x hm
  have hlx:=hitl x hm
  have hl1:=hlst x hm
  have has1:=has hx
  have hki:=hak i
  haveI:=hd1
  rw[show Pr.step (Pr.all kP (l.take i)) x=(S.save (Pr.all kP (l.take i)) x.Name x.Items.2).2 from rfl] at has1
  generalize hD2:Pr.all kP (l.take (i+1))=D2 at*
  generalize Pr.all kP (l.take i)=D1 at*
  repeat' (first|(refine pN_lss_s ?_ ?_<;>intro hc<;>try (exfalso;omega))|refine pIf_t ?_|refine pL_ld1 ha hS ?_|refine pA_fa ha (by rfl) fun a ha=>?_|(refine pDr_go hS ?_;clear hS;intro w hS)|refine pA_ixk hS _ (by first|rfl|(exact(Int.toNat_of_nonneg (by omega)).symm)) (by first|rfl|omega|simpa only[go_sem] using True.intro|(simp only[go_sem];omega)) (by assumption) fun a ha hel=>?_|refine pN_v (hk:=?_)|fail)
  refine pcq (f:=77) (copied_ok (sl:=x.Items.1) (its:=x.Items.2) hS (fun y hy=>by haveI:=hd2 y hy;infer_instance) (fun y hy=>by have:=(hyx y hy).2.2;omega) (by omega) ?_)
  clear hS
  intro outs s2 w hpl hS
  refine⟨⟨run_ld1 (v:= .string ⟨x.Name.toArray⟩) (by assumption) hS,trivial⟩,?_⟩
  have hsv:=S.save_same (d:=D1) (n:=x.Name) hpl
  have hol:outs.length=x.Items.2.length:=by
   have:=congrArg List.length hpl
   rw[List.length_map,List.length_map] at this
   exact this
  have hoy:∀y∈outs,y.Name.length≤4194304∧y.Link.length≤4194304∧y.Data.2.length≤4194304:=fun y hy=>by
   have h1:S.plainI y∈x.Items.2.map S.plainI:=by rw[←hpl];exact List.mem_map_of_mem hy
   obtain⟨z,hz,hzy⟩:=List.mem_map.1 h1
   have h2:=hyx z hz
   have e1:z.Name=y.Name:=(congrArg T_api_Item.Name hzy:(S.plainI z).Name=(S.plainI y).Name)
   have e2:z.Link=y.Link:=(congrArg T_api_Item.Link hzy:(S.plainI z).Link=(S.plainI y).Link)
   have e3:z.Data.2=y.Data.2:=(congrArg (fun q:T_api_Item=>q.Data.2) hzy:(S.plainI z).Data.2=(S.plainI y).Data.2)
   rw[e1,e2,e3] at h2
   exact h2
  refine pcq (f:=13) (Save_any (c:=confC) (d:=D1) (sl:=s2) (its:=outs) (n:=x.Name) hG (by rw[hki];exact hk0) hS (fun y hy=>by haveI:=itR_rd hy;infer_instance) (fun y hy=>by have:=hoy y hy;omega) (by omega) (by rw[hki,S.list_same hpl];omega) ?_)
  rw[hsv]
  clear hS
  intro er w hS
  rw[←has1] at hS
  repeat' (first|refine⟨trivial,?_⟩|refine pN_v (hk:=?_)|fail)
  exact⟨⟨i+1,rfl,hlt,by rw[hD2];exact hS.to⟩,by simp[RowKit.intOf]<;>omega⟩
 ·obtain rfl:i=l.length:=by omega
  rw[List.take_length] at hS
  generalize Pr.all kP l=D1 at*
  repeat' (first|(refine pN_lss_s ?_ ?_<;>intro hc<;>try (exfalso;omega))|refine pIf_f ?_|refine pN_v (hk:=?_)|fail)
  exact hQ _ _ hS
end
end
end
section
variable [Pan] {x0 x1:Value} {w:World} {Q:QQ}
set_option maxRecDepth 100000
def prune_Prune.F (x0:Value) (w:World) (Q:QQ):Prop:=
 pN zp (oCall 74 [x0]) w fun x12 w1=>
 pN zp (oCall 81 [x0,x12]) w1 fun x13 w2=>
 pN zp (oExt x13 0) w2 fun x14 w3=>
 pN zp (oExt x13 1) w3 fun x15 w4=>
 pN zp (oBin .neq 38 (.tmp 16) (.const (.int .i64 0)) x15 (.int .i64 0)) w4 fun x17 w5=>
 pIf x17
 (Q (.tuple #[(.int .i64 0),(.int .i64 0),x15]) w5)
 (pN zp (oCall 39 [x0]) w5 fun x20 w6=>
 pN zp (oCall 20 [x0,x14]) w6 fun x23 w7=>
 pN zp (oBin .neq 38 (.tmp 24) (.const (.int .i64 0)) x23 (.int .i64 0)) w7 fun x25 w8=>
 pIf x25
 (Q (.tuple #[(.int .i64 0),(.int .i64 0),x23]) w8)
 (pN zp (oBi .len #[52] 3 [false] [x14]) w8 fun x28 w9=>
 pN zp (oCall 39 [x0]) w9 fun x31 w10=>
 pN zp (oBin .sub 3 (.tmp 29) (.tmp 31) x20 x31) w10 fun x32 w11=>
 Q (.tuple #[x28,x32,(.int .i64 0)]) w11))
theorem prune_Prune.calls (h:prune_Prune.F x0 w Q):Calls zp 40 #[x0] w (retP Q):=cl .z [x0] Tryz.func40 h
def prune_Check.H:Hints:={ cut:=fun|13=>some ([3],144114913197952008)|19=>some ([3],37776626019947948023816)|20=>some ([3,4],75557863725914289876888)|29=>some ([3],633786614487887032614761234440)|_=>none,loop:=fun|5=>([3,4,23],151115727451828638461848)|14=>([3,59],75557287265162020003848)|24=>([3,83],1267640928821672484463305785352)|_=>([],0),order:=fun _=>[] }
def prune_Check.F (x0:Value) (w:World) (Q:QQ):Prop:=
 pN zp (oCall 82 [x0]) w fun x19 w1=>
 pN zp (oCall 74 [x0]) w1 fun x21 w2=>
 pN zp (oBi .len #[72] 3 [false] [x21]) w2 fun x22 w3=>
 ∃(L5:Value→Value→Value→World→Prop) (m5:Value→Value→Value→World→Nat),
 L5 (.slice none 0 0) (.bool true) (.int .i64 0) w3∧
 ∀(_k5:Env) (out3l5:Value) (told4l5:Value) (v23l5:Value) (w4:World),L5 out3l5 told4l5 v23l5 w4→
 pN zp (oBin .lss 3 (.tmp 23) (.tmp 22) v23l5 x22) w4 fun x24 w5=>
 pIf x24
 (∃I20:Value→Value→World→Prop,
 (pN zp (oIdx 72 x21 v23l5) w5 fun x25 w6=>
 pN zp (oLoad 9 x25) w6 fun x26 w7=>
 pN zp (oCall 83 [x0,x26]) w7 fun x30 w8=>
 pN zp (oExt x30 0) w8 fun x31 w9=>
 pN zp (oExt x30 1) w9 fun x32 w10=>
 pGd (gB told4l5 true) (pN zp (oMv x32) w10) w10 fun x35 w11=>
 pGd (gB told4l5 true) (pN zp (oBin .eql 38 (.tmp 35) (.const (.int .i64 0)) x35 (.int .i64 0)) w11) w11 fun x36 w12=>
 pN zp (oPick told4l5 x36 (.bool false)) w12 fun x37 w13=>
 ∃I13:Value→World→Prop,
 (pN zp (oBin .eql 38 (.tmp 38) (.const (.int .i64 2)) x32 (.int .i64 2)) w13 fun x39 w14=>
 pIf x39
 (pN zp (oCall 54 [x0,x26]) w14 fun x43 w15=>
 pN zp (oExt x43 0) w15 fun x44 w16=>
 pN zp (oExt x43 1) w16 fun _ w17=>
 pN zp (oBi .len #[52] 3 [false] [x44]) w17 fun x47 w18=>
 pN zp (oBin .gtr 3 (.tmp 47) (.const (.int .i64 0)) x47 (.int .i64 0)) w18 fun x48 w19=>
 pIf x48
 (pN zp (oIdx 52 x44 (.int .i64 0)) w19 fun x52 w20=>
 pN zp (oLoad 58 x52) w20 fun x53 w21=>
 pN zp (oBuild 147 [(0,(.int .i64 2)),(1,x26),(2,x53)]) w21 fun x54 w22=>
 pN zp (oBs 90 1 [(0,x54)]) w22 fun x55 w23=>
 pN zp (oBi .append #[90,90] 90 [false,false] [out3l5,x55]) w23 fun x56 w24=>
 I13 x56 w24)
 (I13 out3l5 w19))
 (I13 out3l5 w14))∧
 ∀(_j13:Env) (out3c13:Value) (w25:World),I13 out3c13 w25→
 pN zp (oBi .len #[52] 3 [false] [x31]) w25 fun x58 w26=>
 ∃(L14:Value→Value→World→Prop) (m14:Value→Value→World→Nat),
 L14 out3c13 (.int .i64 0) w26∧
 ∀(_k14:Env) (out3l14:Value) (v59l14:Value) (w27:World),L14 out3l14 v59l14 w27→
 pN zp (oBin .lss 3 (.tmp 59) (.tmp 58) v59l14 x58) w27 fun x60 w28=>
 pIf x60
 (∃I19:Value→World→Prop,
 (pN zp (oIdx 52 x31 v59l14) w28 fun x61 w29=>
 pN zp (oLoad 58 x61) w29 fun x62 w30=>
 pN zp (oAlloc 58) w30 fun x13 w31=>
 pN zp (oStore 58 x13 x62) w31 fun _ w32=>
 pN zp (oLoad 58 x13) w32 fun x64 w33=>
 pN zp (oBi .delete #[56,58] 0 [false,false] [x19,x64]) w33 fun _ w34=>
 pN zp (oLoad 58 x13) w34 fun x66 w35=>
 pN zp (oCall 18 [x0,x66]) w35 fun x67 w36=>
 pN zp (oUn .not x67) w36 fun x68 w37=>
 pIf x68
 (pN zp (oLoad 58 x13) w37 fun x71 w38=>
 pN zp (oBuild 147 [(0,(.int .i64 1)),(1,x26),(2,x71)]) w38 fun x72 w39=>
 pN zp (oBs 90 1 [(0,x72)]) w39 fun x73 w40=>
 pN zp (oBi .append #[90,90] 90 [false,false] [out3l14,x73]) w40 fun x74 w41=>
 I19 x74 w41)
 (I19 out3l14 w37))∧
 ∀(_j19:Env) (out3c19:Value) (w42:World),I19 out3c19 w42→
 pN zp (oBin .add 3 (.tmp 59) (.const (.int .i64 1)) v59l14 (.int .i64 1)) w42 fun x75 w43=>
 (L14 out3c19 x75 w43∧m14 out3c19 x75 w43<m14 out3l14 v59l14 w27))
 (I20 out3l14 x37 w28))∧
 ∀(_j20:Env) (out3c20:Value) (told4c20:Value) (w44:World),I20 out3c20 told4c20 w44→
 pN zp (oBin .add 3 (.tmp 23) (.const (.int .i64 1)) v23l5 (.int .i64 1)) w44 fun x76 w45=>
 (L5 out3c20 told4c20 x76 w45∧m5 out3c20 told4c20 x76 w45<m5 out3l5 told4l5 v23l5 w4))
 (pN zp (oUn .not told4l5) w5 fun x78 w46=>
 pIf x78
 (Q out3l5 w46)
 (pN zp (oCall 19 [x0]) w46 fun x81 w47=>
 pN zp (oBi .len #[52] 3 [false] [x81]) w47 fun x82 w48=>
 ∃(L24:Value→Value→World→Prop) (m24:Value→Value→World→Nat),
 L24 out3l5 (.int .i64 0) w48∧
 ∀(_k24:Env) (out3l24:Value) (v83l24:Value) (w49:World),L24 out3l24 v83l24 w49→
 pN zp (oBin .lss 3 (.tmp 83) (.tmp 82) v83l24 x82) w49 fun x84 w50=>
 pIf x84
 (∃I29:Value→World→Prop,
 (pN zp (oIdx 52 x81 v83l24) w50 fun x85 w51=>
 pN zp (oLoad 58 x85) w51 fun x86 w52=>
 pN zp (oAlloc 58) w52 fun x15 w53=>
 pN zp (oStore 58 x15 x86) w53 fun _ w54=>
 pN zp (oLoad 58 x15) w54 fun x89 w55=>
 pN zp (oLook 56 x19 x89 true) w55 fun x90 w56=>
 pN zp (oExt x90 0) w56 fun _ w57=>
 pN zp (oExt x90 1) w57 fun x92 w58=>
 pIf x92
 (pN zp (oLoad 58 x15) w58 fun x95 w59=>
 pN zp (oBuild 147 [(0,(.int .i64 3)),(2,x95)]) w59 fun x96 w60=>
 pN zp (oBs 90 1 [(0,x96)]) w60 fun x97 w61=>
 pN zp (oBi .append #[90,90] 90 [false,false] [out3l24,x97]) w61 fun x98 w62=>
 I29 x98 w62)
 (I29 out3l24 w58))∧
 ∀(_j29:Env) (out3c29:Value) (w63:World),I29 out3c29 w63→
 pN zp (oBin .add 3 (.tmp 83) (.const (.int .i64 1)) v83l24 (.int .i64 1)) w63 fun x99 w64=>
 (L24 out3c29 x99 w64∧m24 out3c29 x99 w64<m24 out3l24 v83l24 w49))
 (Q out3l24 w50)))
theorem prune_Check.calls (h:prune_Check.F x0 w Q):Calls zp 41 #[x0] w (retP Q):=cl prune_Check.H [x0] Tryz.func41 h
def prune_Keep.H:Hints:={ cut:=fun _=>none,loop:=fun|9=>([38],562675075526768)|_=>([],0),order:=fun _=>[] }
def prune_Keep.F (x0 x1:Value) (w:World) (Q:QQ):Prop:=
 pN zp (oBin .lss 3 (.tmp 14) (.const (.int .i64 0)) x1 (.int .i64 0)) w fun x15 w1=>
 pIf x15
 (Q (.tuple #[(.int .i64 0),(.int .i64 0),(.int .i64 7)]) w1)
 (pN zp (oCall 74 [x0]) w1 fun x17 w2=>
 pN zp (oBi .len #[72] 3 [false] [x17]) w2 fun x19 w3=>
 pN zp (oBin .sub 3 (.tmp 19) (.tmp 20) x19 x1) w3 fun x21 w4=>
 pN zp (oBi .max #[3,3] 3 [true,false] [(.int .i64 0),x21]) w4 fun x22 w5=>
 pN zp (oSl 72 x17 (some x22) none none) w5 fun x27 w6=>
 pN zp (oCall 81 [x0,x27]) w6 fun x28 w7=>
 pN zp (oExt x28 0) w7 fun _ w8=>
 pN zp (oExt x28 1) w8 fun x30 w9=>
 pN zp (oBin .neq 38 (.tmp 31) (.const (.int .i64 0)) x30 (.int .i64 0)) w9 fun x32 w10=>
 pIf x32
 (Q (.tuple #[(.int .i64 0),(.int .i64 0),x30]) w10)
 (pN zp (oSl 72 x17 none (some x22) none) w10 fun x36 w11=>
 pN zp (oBi .len #[72] 3 [false] [x36]) w11 fun x37 w12=>
 ∃(L9:Value→World→Prop) (m9:Value→World→Nat),
 L9 (.int .i64 0) w12∧
 ∀(_k9:Env) (v38l9:Value) (w13:World),L9 v38l9 w13→
 pN zp (oBin .lss 3 (.tmp 38) (.tmp 37) v38l9 x37) w13 fun x39 w14=>
 pIf x39
 (pN zp (oIdx 72 x36 v38l9) w14 fun x40 w15=>
 pN zp (oLoad 9 x40) w15 fun x41 w16=>
 pN zp (oCall 84 [x0,x41]) w16 fun x44 w17=>
 pN zp (oBin .neq 38 (.tmp 45) (.const (.int .i64 0)) x44 (.int .i64 0)) w17 fun x46 w18=>
 pIf x46
 (Q (.tuple #[(.int .i64 0),(.int .i64 0),x44]) w18)
 (pN zp (oBin .add 3 (.tmp 38) (.const (.int .i64 1)) v38l9 (.int .i64 1)) w18 fun x48 w19=>
 (L9 x48 w19∧m9 x48 w19<m9 v38l9 w13)))
 (pN zp (oCall 40 [x0]) w14 fun x50 w20=>
 pN zp (oExt x50 0) w20 fun x51 w21=>
 pN zp (oExt x50 1) w21 fun x52 w22=>
 pN zp (oExt x50 2) w22 fun x53 w23=>
 Q (.tuple #[x51,x52,x53]) w23)))
theorem prune_Keep.calls (h:prune_Keep.F x0 x1 w Q):Calls zp 44 #[x0,x1] w (retP Q):=cl prune_Keep.H [x0,x1] Tryz.func44 h
def prune_unneeded.H:Hints:={ cut:=fun|21=>some ([13],9222246136948170752)|_=>none,loop:=fun|3=>([22],35184367900464)|9=>([37],17454747095040)|16=>([13,48],18446462598733078528)|_=>([],0),order:=fun _=>[] }
def prune_unneeded.F (x0 x1:Value) (w:World) (Q:QQ):Prop:=
 pN zp (oCall 82 [x0]) w fun x19 w1=>
 pN zp (oBi .len #[72] 3 [false] [x1]) w1 fun x21 w2=>
 ∃(L3:Value→World→Prop) (m3:Value→World→Nat),
 L3 (.int .i64 0) w2∧
 ∀(_k3:Env) (v22l3:Value) (w3:World),L3 v22l3 w3→
 pN zp (oBin .lss 3 (.tmp 22) (.tmp 21) v22l3 x21) w3 fun x23 w4=>
 pIf x23
 (pN zp (oIdx 72 x1 v22l3) w4 fun x24 w5=>
 pN zp (oLoad 9 x24) w5 fun x25 w6=>
 pN zp (oCall 17 [x0,x25]) w6 fun x29 w7=>
 pN zp (oExt x29 0) w7 fun x30 w8=>
 pN zp (oExt x29 1) w8 fun x31 w9=>
 pN zp (oBin .neq 38 (.tmp 32) (.const (.int .i64 0)) x31 (.int .i64 0)) w9 fun x33 w10=>
 pIf x33
 (Q (.tuple #[(.slice none 0 0),x31]) w10)
 (pN zp (oBi .len #[52] 3 [false] [x30]) w10 fun x36 w11=>
 ∃(L9:Value→World→Prop) (m9:Value→World→Nat),
 L9 (.int .i64 0) w11∧
 ∀(_k9:Env) (v37l9:Value) (w12:World),L9 v37l9 w12→
 pN zp (oBin .lss 3 (.tmp 37) (.tmp 36) v37l9 x36) w12 fun x38 w13=>
 pIf x38
 (pN zp (oIdx 52 x30 v37l9) w13 fun x39 w14=>
 pN zp (oLoad 58 x39) w14 fun x40 w15=>
 pN zp (oAlloc 58) w15 fun x12 w16=>
 pN zp (oStore 58 x12 x40) w16 fun _ w17=>
 pN zp (oLoad 58 x12) w17 fun x42 w18=>
 pN zp (oBi .delete #[56,58] 0 [false,false] [x19,x42]) w18 fun _ w19=>
 pN zp (oBin .add 3 (.tmp 37) (.const (.int .i64 1)) v37l9 (.int .i64 1)) w19 fun x43 w20=>
 (L9 x43 w20∧m9 x43 w20<m9 v37l9 w12))
 (pN zp (oBin .add 3 (.tmp 22) (.const (.int .i64 1)) v22l3 (.int .i64 1)) w13 fun x44 w21=>
 (L3 x44 w21∧m3 x44 w21<m3 v22l3 w3))))
 (pN zp (oCall 19 [x0]) w4 fun x46 w22=>
 pN zp (oBi .len #[52] 3 [false] [x46]) w22 fun x47 w23=>
 ∃(L16:Value→Value→World→Prop) (m16:Value→Value→World→Nat),
 L16 (.slice none 0 0) (.int .i64 0) w23∧
 ∀(_k16:Env) (out13l16:Value) (v48l16:Value) (w24:World),L16 out13l16 v48l16 w24→
 pN zp (oBin .lss 3 (.tmp 48) (.tmp 47) v48l16 x47) w24 fun x49 w25=>
 pIf x49
 (∃I21:Value→World→Prop,
 (pN zp (oIdx 52 x46 v48l16) w25 fun x50 w26=>
 pN zp (oLoad 58 x50) w26 fun x51 w27=>
 pN zp (oAlloc 58) w27 fun x15 w28=>
 pN zp (oStore 58 x15 x51) w28 fun _ w29=>
 pN zp (oLoad 58 x15) w29 fun x54 w30=>
 pN zp (oLook 56 x19 x54 true) w30 fun x55 w31=>
 pN zp (oExt x55 0) w31 fun _ w32=>
 pN zp (oExt x55 1) w32 fun x57 w33=>
 pIf x57
 (pN zp (oLoad 58 x15) w33 fun x60 w34=>
 pN zp (oBs 52 1 [(0,x60)]) w34 fun x61 w35=>
 pN zp (oBi .append #[52,52] 52 [false,false] [out13l16,x61]) w35 fun x62 w36=>
 I21 x62 w36)
 (I21 out13l16 w33))∧
 ∀(_j21:Env) (out13c21:Value) (w37:World),I21 out13c21 w37→
 pN zp (oBin .add 3 (.tmp 48) (.const (.int .i64 1)) v48l16 (.int .i64 1)) w37 fun x63 w38=>
 (L16 out13c21 x63 w38∧m16 out13c21 x63 w38<m16 out13l16 v48l16 w24))
 (Q (.tuple #[out13l16,(.int .i64 0)]) w25))
theorem prune_unneeded.calls (h:prune_unneeded.F x0 x1 w Q):Calls zp 81 #[x0,x1] w (retP Q):=cl prune_unneeded.H [x0,x1] Tryz.func81 h
def prune_marks.H:Hints:={ cut:=fun _=>none,loop:=fun|3=>([10],523312)|_=>([],0),order:=fun _=>[] }
def prune_marks.F (x0:Value) (w:World) (Q:QQ):Prop:=
 pN zp (oMap 56 none) w fun x6 w1=>
 pN zp (oCall 19 [x0]) w1 fun x8 w2=>
 pN zp (oBi .len #[52] 3 [false] [x8]) w2 fun x9 w3=>
 ∃(L3:Value→World→Prop) (m3:Value→World→Nat),
 L3 (.int .i64 0) w3∧
 ∀(_k3:Env) (v10l3:Value) (w4:World),L3 v10l3 w4→
 pN zp (oBin .lss 3 (.tmp 10) (.tmp 9) v10l3 x9) w4 fun x11 w5=>
 pIf x11
 (pN zp (oIdx 52 x8 v10l3) w5 fun x13 w6=>
 pN zp (oLoad 58 x13) w6 fun x14 w7=>
 pN zp (oAlloc 58) w7 fun x5 w8=>
 pN zp (oStore 58 x5 x14) w8 fun _ w9=>
 pN zp (oLoad 58 x5) w9 fun x16 w10=>
 pN zp (oMapUp 56 x6 x16 v10l3) w10 fun _ w11=>
 pN zp (oBin .add 3 (.tmp 10) (.const (.int .i64 1)) v10l3 (.int .i64 1)) w11 fun x18 w12=>
 (L3 x18 w12∧m3 x18 w12<m3 v10l3 w4))
 (Q x6 w5)
theorem prune_marks.calls (h:prune_marks.F x0 w Q):Calls zp 82 #[x0] w (retP Q):=cl prune_marks.H [x0] Tryz.func82 h
def prune_sums.F (x0 x1:Value) (w:World) (Q:QQ):Prop:=
 pN zp (oCall 17 [x0,x1]) w fun x11 w1=>
 pN zp (oExt x11 0) w1 fun x12 w2=>
 pN zp (oExt x11 1) w2 fun x13 w3=>
 pN zp (oBin .eql 38 (.tmp 14) (.const (.int .i64 0)) x13 (.int .i64 0)) w3 fun x15 w4=>
 pIf x15
 (Q (.tuple #[x12,x13]) w4)
 (pN zp (oCall 54 [x0,x1]) w4 fun x21 w5=>
 pN zp (oExt x21 0) w5 fun x22 w6=>
 pN zp (oExt x21 1) w6 fun _ w7=>
 pN zp (oCall 66 [x22,(.func (.func 117) #[] #[])]) w7 fun _ w8=>
 pN zp (oCall 69 [x22]) w8 fun x27 w9=>
 Q (.tuple #[x27,x13]) w9)
theorem prune_sums.calls (h:prune_sums.F x0 x1 w Q):Calls zp 83 #[x0,x1] w (retP Q):=cl .z [x0,x1] Tryz.func83 h
def prune_order.H:Hints:={ cut:=fun _=>none,loop:=fun _=>([],0),order:=fun|1=>(ot 4)|_=>[] }
def prune_order.F (x0 x1:Value) (w:World) (Q:QQ):Prop:=
 pN zp (oBox 58 x0) w fun x2 w1=>
 pN zp (oBox 58 x1) w1 fun x3 w2=>
 pDr w2 fun w3=>
 pA zp (oSl 58 x2 none none none) fun x5=>
 pA zp (oSl 58 x3 none none none) fun x6=>
 pN zp (oCall 68 [x5,x6]) w3 fun x7 w4=>
 (True)∧(Q x7 w4)
theorem prune_order.calls (h:prune_order.F x0 x1 w Q):Calls zp 117 #[x0,x1] w (retP Q):=cl prune_order.H [x0,x1] Tryz.func117 h
end
section
def lays190_ren:Go.Shelf.Ren:=⟨fun|190=>107|125=>105|258=>145|128=>143|129=>144|302=>188|303=>189|304=>190|305=>191|306=>192|307=>193|308=>194|309=>195|310=>196|333=>209|329=>184|330=>185|334=>210|335=>211|336=>212|344=>220|n=>n,fun|31=>72|9=>9|3=>3|46=>97|0=>0|51=>213|53=>212|4=>4|183=>234|182=>233|131=>136|5=>5|218=>265|222=>269|228=>291|229=>292|n=>n,fun|n=>n⟩
theorem lays190:Go.Proofs.Lays.n190 zp lays190_ren:=⟨
 by kernel_rfl,Tryz.func105.trans (congrArg some (by kernel_rfl)),Tryz.func143.trans (congrArg some (by kernel_rfl)),Tryz.func144.trans (congrArg some (by kernel_rfl)),Tryz.func107.trans (congrArg some (by kernel_rfl)),
 Tryz.func145.trans (congrArg some (by kernel_rfl)),Tryz.func188.trans (congrArg some (by kernel_rfl)),Tryz.func189.trans (congrArg some (by kernel_rfl)),Tryz.func190.trans (congrArg some (by kernel_rfl)),
 Tryz.func191.trans (congrArg some (by kernel_rfl)),Tryz.func192.trans (congrArg some (by kernel_rfl)),Tryz.func193.trans (congrArg some (by kernel_rfl)),Tryz.func194.trans (congrArg some (by kernel_rfl)),
 Tryz.func195.trans (congrArg some (by kernel_rfl)),Tryz.func196.trans (congrArg some (by kernel_rfl)),Tryz.func184.trans (congrArg some (by kernel_rfl)),Tryz.func185.trans (congrArg some (by kernel_rfl)),
 Tryz.func209.trans (congrArg some (by kernel_rfl)),Tryz.func210.trans (congrArg some (by kernel_rfl)),Tryz.func211.trans (congrArg some (by kernel_rfl)),Tryz.func212.trans (congrArg some (by kernel_rfl)),
 Tryz.func220.trans (congrArg some (by kernel_rfl)),Tryz.underlying0,Tryz.isAgg0,Tryz.sizeOf0,Tryz.zeroValue0,Tryz.underlying3,Tryz.isAgg3,Tryz.sizeOf3,Tryz.zeroValue3,Tryz.underlying4,Tryz.isAgg4,
 Tryz.sizeOf4,Tryz.zeroValue4,Tryz.underlying5,Tryz.isAgg5,Tryz.sizeOf5,Tryz.zeroValue5,Tryz.underlying9,Tryz.isAgg9,Tryz.sizeOf9,Tryz.zeroValue9,Tryz.underlying72,Tryz.isAgg72,Tryz.sizeOf72,
 Tryz.zeroValue72,Tryz.underlying97,Tryz.isAgg97,Tryz.sizeOf97,Tryz.zeroValue97,Tryz.underlying213,Tryz.isAgg213,Tryz.sizeOf213,Tryz.zeroValue213,Tryz.underlying212,Tryz.isAgg212,Tryz.sizeOf212,
 Tryz.zeroValue212,Tryz.underlying136,Tryz.isAgg136,Tryz.sizeOf136,Tryz.zeroValue136,Tryz.underlying233,Tryz.isAgg233,Tryz.sizeOf233,Tryz.zeroValue233,Tryz.underlying234,Tryz.isAgg234,Tryz.sizeOf234,
 Tryz.zeroValue234,Tryz.underlying265,Tryz.isAgg265,Tryz.sizeOf265,Tryz.zeroValue265,Tryz.underlying269,Tryz.isAgg269,Tryz.sizeOf269,Tryz.zeroValue269,Tryz.underlying291,Tryz.isAgg291,Tryz.sizeOf291,
 Tryz.zeroValue291,Tryz.underlying292,Tryz.isAgg292,Tryz.sizeOf292,Tryz.zeroValue292⟩
end
section
attribute [local irreducible] oMv oV oU oCall oCallV oBi oBin oUn oLoad oStore oNil oFld oField oIdx oIndex oPick oAlloc oBox oBuild oBs oConv oMk oSl oExt oFn oIface oMap oLook oMapUp oRange oNext oEntry oInv oAssert oPanic oRes pN pA pL pDr pIf gA pGd Calls
section
section
variable [Pan] {E w:World} {Q:Value→World→Prop} {M:List HA} {s:Sl}
theorem SortN_ok {l:List (List UInt8)} (hS:Sat E w (rows cd_string s l::M)) (hl:l.length≤1099511627776) (hQ:∀w,Sat E w (rows cd_string s (S.sortN l)::M)→Q (.tuple #[]) w):
  Calls zp 107 #[.slice s.a l.length s.c] w (retP Q):=by
 by_cases h0:l=[]
 ·subst h0
  refine(Any.slices_Sort_string_none lays190 s.a s.c w).mono ?_
  rintro e w' ⟨rfl,rfl⟩
  rw[(S.sortN_perm []).eq_nil] at hQ
  exact hQ _ hS
 ·obtain⟨g,cur,ha,hg,hsz,ht⟩:=rows_blk hS h0
  have hC:cd_string.size=1:=rfl
  have hf:cd_string.flat l=l.map encStr:=Cd.flat_single cd_string encStr (fun _=>rfl) l
  rw[hC,Nat.mul_one] at hsz ht
  rw[hf] at ht
  have hH:Sort.Holds encStr w g 0 l.toArray:=fun j hj=>by
   have hj:j<l.length:=by simpa using hj
   obtain⟨c1,c2⟩:=rows_cell hg (j:=j) (by omega)
   rw[Nat.zero_add]
   refine⟨?_,c2⟩
   have h1:cur.toList[j]? =some (encStr l[j]):=by
    rw[←List.getElem?_take_of_lt hj,ht,List.getElem?_map,List.getElem?_eq_getElem hj];rfl
   rw[c1,←Array.getElem?_toList,h1]
   simp[hj]
  rw[ha]
  refine(Any.slices_Sort_string lays190 g 0 s.c l w hH (Array.getElem?_eq_some_iff.1 hg).1 (by omega)).mono ?_
  rintro e w' ⟨rfl,n,os,rfl⟩
  have hso:(l.mergeSort fun x y=>decide (x≤y))=S.sortN l:=by
   unfold S.sortN
   congr 1
   funext x y
   exact S.le_less x y
  have hp:=S.sortN_perm l
  refine hQ _ (hS.put (g:=g) (n:=n) (os:=os) (f:=Sort.putCells encStr 0 (S.sortN l).toArray) ha h0 (by rw[hso];rfl) hp.length_eq fun c hc=>⟨putCells_size ..,?_⟩)
  rw[hC,Nat.mul_one] at hc ⊢
  rw[Cd.flat_single cd_string encStr (fun _=>rfl)]
  have:=putCells_take encStr (S.sortN l).toArray c (by simpa [hp.length_eq] using hc)
  simpa [hp.length_eq] using this
end
end
section
def wRng (b r:Nat) (w:World):Nat:=match w.heap[r]?,w.heap[b]? with
 |some (.mapIter _ _ seen _),some (.map es _)=>(es.toList.filter fun e=> !seen.contains e.born).length
 |_,_=>0
theorem wRng_eq {κ:Type} {ke:κ→Value} {E w:World} {L M:List HA} {b r:Nat} {x:Rng κ} (hS:Sat E w L) [h:Fnd (mrng ke b r) L x M]:wRng b r w=x.left.length:=by
 obtain⟨hh,⟨es,clock,seen,hb,hr,hs,he,hl,hcur⟩,hsub,_⟩:=(hS.fd (mrng ke b r)).sats
 have h1:w.heap[b]? =some (.map es clock):=hsub _ _ hb
 have h2:w.heap[r]? =some (.mapIter (some b) clock seen clock):=hsub _ _ hr
 unfold wRng
 rw[h1,h2]
 simp only
 have:=congrArg List.length hl
 simpa [eks,kvs] using this
theorem pN_extn [Pan] {P:Program} {w:World} {K:Value→World→Prop} {vs:Array Value} {i:Nat} {v:Value} (h:vs[i]? =some v) (hk:K v w):pN P (oExt (.tuple vs) i) w K:=by rw[pN_def,run_ext vs i h,rN_value];exact hk
theorem erase_perm {α:Type}:∀{l:List α} {i:Nat} {x:α},l[i]? =some x→(x::l.eraseIdx i).Perm l
 | [],i,x,h=>by simp at h
 |a::l,0,x,h=>by
  simp at h
  subst h
  exact List.Perm.refl _
 |a::l,i+1,x,h=>by
  have h':l[i]? =some x:=by simpa using h
  exact(List.Perm.swap a x _).trans ((erase_perm h').cons a)
namespace D
def T.sums (d:T):List I32:=S.sortI (d.ps.map (·.1))
def T.names (d:T):List B:=S.sortN (d.ns.map (·.1))
theorem vals_keys {κ α:Type} (l:List (κ×(Sl×List α))):(vals l).map (·.1)=l.map (·.1):=by
 unfold vals
 rw[List.map_map];rfl
end D
theorem sortN_perm_eq {l m:List (List UInt8)} (h:l.Perm m):S.sortN l=S.sortN m:=by
 have h1:(S.sortN l).Perm (S.sortN m):=(S.sortN_perm l).trans (h.trans (S.sortN_perm m).symm)
 exact List.Perm.eq_of_pairwise (le:=fun x y=>Op.bytesLess y x=false) (fun a b _ _ h1 h2=>S.less_tri a b h2 h1) (S.sortN_up l) (S.sortN_up m) h1
theorem sortI_perm_eq {l m:List I32} (h:l.Perm m):S.sortI l=S.sortI m:=by
 have h1:(S.sortI l).Perm (S.sortI m):=(S.sortI_perm l).trans (h.trans (S.sortI_perm m).symm)
 exact List.Perm.eq_of_pairwise (le:=fun x y=>S.lessI y x=false) (fun a b _ _ h1 h2=>S.lessI_tri h2 h1) (S.sortI_up l) (S.sortI_up m) h1
section
variable [Pan] {E w W:World} {K Q:Value→World→Prop} {L M N N':List HA} {s s2:Sl} {c:T_api_Config} {b:Nat} {d:D.T} {li:List I32}
set_option maxHeartbeats 1000000 in
theorem DNames_ok (hS:Sat E w L) [hf:Fnd (Dep c b) L d N] (hl:d.ns.length≤1099511627776) (hQ:∀s w,Sat E w (rows cd_string s d.names::Dep c b d::N)→Q (.slice s.a d.names.length s.c) w):
  Calls zp 74 #[.pointer (some ⟨b,0,none⟩)] w (retP Q):=by
 refine depot_Depot_Names.calls ?_
 unfold depot_Depot_Names.F
 have hS1:=hS.fd (Dep c b)
 clear hS hf
 obtain⟨mb,nb,pl,nl,ht,hS⟩:=Dep.opn hS1
 clear hS1
 have hkeys:(nl.map (·.1)).map (·.1)=d.ns.map (·.1):=by rw[ht.ns,List.map_map,List.map_map];rfl
 have hnl:nl.length≤1099511627776:=by rw[ht.ns,List.length_map] at hl;exact hl
 repeat' (first|(refine pN_rng (P:=zp) (t:=127) (ke:=nke) (b:=nb) hS ?_;clear hS;intro r w hS)|refine pN_l hS (by first|rfl|assumption) ?_|refine pN_v (hk:=?_)|fail)
 refine⟨fun v w=>∃(got:List NKey) (left:List (NKey×Value)) (cur:Option (NKey×Value)) (so:Sl),v= .slice so.a (got.map (·.1)).length so.c∧(got++left.map (·.1)).Perm (nl.map (·.1))∧
  Sat E w (rows cd_string so (got.map (·.1))::mrng nke nb r ⟨vals nl,left,cur⟩::cel b ⟨129,depC c d.k mb nb⟩::mp idV mb (vals pl)::bag (keep cd_uint8 pl)::bag (keep (cdI 58) nl)::N),fun _ w=>wRng nb r w,
  ⟨[],vals nl,none,⟨none,0⟩,rfl,by rw[List.nil_append,D.vals_keys],?_⟩,?_⟩
 ·have h8:Sat E w (rows cd_string ⟨none,0⟩ []::_):=hS.nil cd_string.e cd_string.size
  have h9:Sat E w (rows cd_string ⟨none,0⟩ []::mrng nke nb r ⟨vals nl,vals nl,none⟩::cel b ⟨129,depC c d.k mb nb⟩::mp idV mb (vals pl)::bag (keep cd_uint8 pl)::bag (keep (cdI 58) nl)::N):=h8.to
  exact h9
 clear hS
 rintro _ _ w ⟨got,left,cur,so,rfl,hp,hS⟩
 have hms:=wRng_eq (ke:=nke) (b:=nb) (r:=r) hS
 have hgl:=hp.length_eq
 rw[List.length_append,List.length_map,List.length_map] at hgl
 refine pN_nxt (ke:=nke) (b:=nb) (r:=r) hS (fun h0=>?_) (fun i pp w hi hS=>?_)
 ·have h0:left=[]:=h0
  subst h0
  rw[List.map_nil,List.append_nil] at hp
  have hml:(got.map (·.1)).length≤1099511627776:=by rw[List.length_map];simp only[List.length_nil] at hgl;omega
  refine pN_extn rfl ?_
  refine pIf_f ?_
  have hS2:=mrng_end (ke:=nke) (b:=nb) (r:=r) hS
  have hS:Sat E w (rows cd_string so (got.map (·.1))::depP c b d.k mb nb pl nl N):=hS2.to
  have hnm:S.sortN (got.map (·.1))=d.names:=by
   unfold D.T.names
   rw[←hkeys]
   exact sortN_perm_eq (hp.map _)
  have hnl2:(got.map (·.1)).length=d.names.length:=by rw[←hnm];exact(S.sortN_perm _).length_eq.symm
  refine pcq (f:=107) (SortN_ok hS hml ?_)
  rw[hnm,hnl2]
  clear hS hS2
  intro w hS
  have hS:Sat E w (depP c b d.k mb nb pl nl (rows cd_string so d.names::N)):=hS.to
  exact hQ _ _ (Dep.shut ht rfl hS).to
 ·have hi:left[i]? =some pp:=hi
  have hpe:=erase_perm hi
  have hll:=hpe.length_eq
  rw[List.length_cons] at hll
  have hml:(got.map (·.1)).length=got.length:=List.length_map ..
  have hgs:((got++[pp.1]).map (·.1))=got.map (·.1)++[pp.1.1]:=by rw[List.map_append];rfl
  have hp2:((got++[pp.1])++(left.eraseIdx i).map (·.1)).Perm (nl.map (·.1)):=by
   rw[List.append_assoc]
   exact((hpe.map (·.1)).append_left got).trans hp
  repeat' (first|(refine pN_ent (ke:=nke) (b:=nb) (r:=r) (p:=pp) hS rfl ?_)|refine pIf_t ?_|(refine pN_b1 hS (by rfl) (by decide) ?_;clear hS;intro s w hS)|(refine pN_app hS (by first|rfl|omega|simpa only[go_sem] using True.intro|(simp only[go_sem];omega)) (by first|rfl|omega|simpa only[go_sem] using True.intro|(simp only[go_sem];omega)) (by first|omega|(simp only[go_sem];omega)) ?_;clear hS;intro s w hS)|refine pN_v (hk:=?_)|fail)
  rw[←hgs] at hS ⊢
  have hS:Sat E w (rows cd_string s ((got++[pp.1]).map (·.1))::mrng nke nb r ⟨vals nl,left.eraseIdx i,some pp⟩::cel b ⟨129,depC c d.k mb nb⟩::mp idV mb (vals pl)::bag (keep cd_uint8 pl)::bag (keep (cdI 58) nl)::N):=hS.to
  refine⟨⟨got++[pp.1],left.eraseIdx i,some pp,s,by first|rfl|(rw[hgs,List.length_append];rfl),hp2,hS⟩,?_⟩
  dsimp only
  rw[wRng_eq (ke:=nke) (b:=nb) (r:=r) hS,hms]
  show(left.eraseIdx i).length<left.length
  omega
end
end
end
section
open Go Go.ChangeMaps Go.MapKept
section
variable {κ:Type} {ke:κ→Value} [DecidableEq κ]
def mera:List (κ×Value)→κ→List (κ×Value)
 | [],_=>[]
 |p::l,k=>if p.1=k then l else p::mera l k
theorem mera_none (hi:∀a b,ke a=ke b→a=b):∀{es:List MapEntry} {l:List (κ×Value)} {k:κ},eks es=kvs ke l→(∀e∈es,e.key≠ke k)→mera l k=l
 | [],[],_,_,_=>rfl
 | [],p::l,_,h,_=>by cases h
 |e::es,[],_,h,_=>by cases h
 |e::es,p::l,k,h,hn=>by
  simp only[eks,kvs,List.map_cons,List.cons.injEq,Prod.mk.injEq] at h
  have h1:=hn e List.mem_cons_self
  rw[mera,if_neg (fun e'=>h1 (by rw[h.1.1,e'])),mera_none hi h.2 fun e he=>hn e (List.mem_cons_of_mem _ he)]
theorem mera_some (hi:∀a b,ke a=ke b→a=b):∀{es:List MapEntry} {l:List (κ×Value)} {k:κ} {j:Nat} {e:MapEntry},eks es=kvs ke l→(es.map (·.key)).Nodup→es[j]? =some e→e.key=ke k→eks (es.eraseIdx j)=kvs ke (mera l k)
 | [],_,_,_,_,_,_,h,_=>by simp at h
 |e::es,[],_,_,_,h,_,_,_=>by cases h
 |e::es,p::l,k,0,e',h,_,hj,hk=>by
  simp only[eks,kvs,List.map_cons,List.cons.injEq,Prod.mk.injEq] at h
  simp only[List.getElem?_cons_zero,Option.some.injEq] at hj
  subst hj
  rw[mera,if_pos (hi _ _ (by rw[←h.1.1,hk])),List.eraseIdx_cons_zero]
  exact h.2
 |e::es,p::l,k,j+1,e',h,hn,hj,hk=>by
  have h':=h
  simp only[eks,kvs,List.map_cons,List.cons.injEq,Prod.mk.injEq] at h'
  rw[List.getElem?_cons_succ] at hj
  rw[List.map_cons,List.nodup_cons] at hn
  rw[mera,if_neg fun e'=>hn.1 (List.mem_map.2 ⟨_,List.mem_of_getElem? hj,by rw[hk,h'.1.1,e']⟩),List.eraseIdx_cons_succ]
  have ih:=mera_some hi h'.2 hn.2 hj hk
  simp only[eks,kvs,List.map_cons,List.cons.injEq,Prod.mk.injEq] at ih ⊢
  exact⟨h'.1,ih⟩
end
section
variable [Pan] {P:Program} {E w:World} {K:Value→World→Prop} {L M:List HA} {κ:Type} [DecidableEq κ] {ke:κ→Value} {t t2 ty:TypeId} {z:Value} {b:Nat} {l:List (κ×Value)} {cs:List Bool}
theorem pN_mdel (hS:Sat E w L) [h:Fnd (mp ke b) L l M] [hT:MapT P t ke z] (k:κ) (hk:∀w',Sat E w' (mp ke b (mera l k)::M)→K (.tuple #[]) w'):pN P (oBi .delete #[t,t2] ty cs [.map (some b),ke k]) w K:=by
 obtain⟨kt,e,ht,hz,hK⟩:=hT.ex
 obtain⟨es,clock,hb,hs,he⟩:=mp_at (ke:=ke) (b:=b) hS
 have h0:Sat E w ((fun h=>h b=some (.map es clock))::M):=by
  obtain⟨h1,⟨es',clock',hb',_,_⟩,hsub,hr⟩:=(hS.fd (mp ke b)).sats
  have:w.heap[b]? =some (.map es' clock'):=hsub _ _ hb'
  rw[hb] at this
  simp only[Option.some.injEq,Obj.map.injEq] at this
  obtain⟨rfl,rfl⟩:=this
  exact⟨hS.os,hS.tape,hS.output,h1,hb',hsub,hr⟩
 rcases hK.find k es.toList w (eks_keys he) with⟨h1,h2⟩|⟨j,e0,h1,h2,h3⟩
 ·have hr:(Builtin.delete_ #[t,t2] ty #[.map (some b),ke k]).run P w= .ok (.tuple #[]) (setBlock w b (.map es clock)):=by
   simp[Builtin.delete_,run_underlying ht,MapKept.run_getObj_map hb,hK.check k,h1,MapKept.run_setObj_map _ hb,Result.andThen,setBlock]
  have hr2:(oBi .delete #[t,t2] ty cs [.map (some b),ke k]).run P w= .ok (.value (.tuple #[])) (setBlock w b (.map es clock)):=run_oV_ok hr
  rw[pN_def,hr2,rN_value]
  refine hk _ (h0.set_blk (fun h e=>e) fun h e=>⟨_,_,if_pos rfl,hs,?_⟩)
  rw[mera_none hK.inj he h2];exact he
 ·have hjl:j<es.toList.length:=(List.getElem?_eq_some_iff.1 h2).1
  have hjs:j<es.size:=by simpa using hjl
  have hsub:(es.eraseIdxIfInBounds j).toList=es.toList.eraseIdx j:=by
   unfold Array.eraseIdxIfInBounds
   rw[dif_pos hjs]
   simp
  have hr:(Builtin.delete_ #[t,t2] ty #[.map (some b),ke k]).run P w= .ok (.tuple #[]) (setBlock w b (.map (es.eraseIdxIfInBounds j) clock)):=by
   simp[Builtin.delete_,run_underlying ht,MapKept.run_getObj_map hb,hK.check k,h1,MapKept.run_setObj_map _ hb,Result.andThen,setBlock]
  have hr2:(oBi .delete #[t,t2] ty cs [.map (some b),ke k]).run P w= .ok (.value (.tuple #[])) (setBlock w b (.map (es.eraseIdxIfInBounds j) clock)):=run_oV_ok hr
  rw[pN_def,hr2,rN_value]
  refine hk _ (h0.set_blk (fun h e=>e) fun h e=>⟨_,_,if_pos rfl,⟨?_,?_,?_⟩,?_⟩)
  ·intro x hx
   rw[hsub] at hx
   exact hs.1 x ((List.eraseIdx_sublist _ _).subset hx)
  ·rw[hsub]
   exact hs.2.1.sublist ((List.eraseIdx_sublist _ _).map _)
  ·rw[hsub]
   exact hs.2.2.sublist ((List.eraseIdx_sublist _ _).map _)
  ·rw[hsub]
   exact mera_some hK.inj he hs.2.2 h2 h3
end
end
section
attribute [local irreducible] oMv oV oU oCall oCallV oBi oBin oUn oLoad oStore oNil oFld oField oIdx oIndex oPick oAlloc oBox oBuild oBs oConv oMk oSl oExt oFn oIface oMap oLook oMapUp oRange oNext oEntry oInv oAssert oPanic oRes pN pA pL pDr pIf gA pGd Calls
section
namespace D
section
variable {κ β:Type} [DecidableEq κ]
theorem mera_era:∀(l:List (κ×Value)) (k:κ),mera l k=era l k
 | [],_=>rfl
 |(a,v)::l,k=>by rw[mera,era,mera_era l k]
theorem era_map {κ' γ:Type} [DecidableEq κ'] {g:κ→κ'} (hg:∀a b,g a=g b→a=b) (f:β→γ):∀(l:List (κ×β)) (k:κ),era (l.map fun x=>(g x.1,f x.2)) (g k)=(era l k).map fun x=>(g x.1,f x.2)
 | [],_=>rfl
 |(a,v)::l,k=>by
  rw[List.map_cons,era,era,era_map hg f l k]
  by_cases h:a=k
  ·rw[if_pos h,if_pos (by rw[h])]
  ·rw[if_neg h,if_neg fun e=>h (hg _ _ e)];rfl
theorem era_sub:∀(l:List (κ×β)) (k:κ),(era l k).Sublist l
 | [],_=>List.Sublist.refl _
 |(a,v)::l,k=>by
  rw[era]
  split
  ·exact List.sublist_cons_self _ _
  ·exact(era_sub l k).cons_cons _
theorem look_era_other:∀(l:List (κ×β)) (x y:κ),x≠y→look (era l x) y=look l y
 | [],_,_,_=>rfl
 |(a,v)::l,x,y,h=>by
  rw[era]
  split
  ·rename_i h1
   subst h1
   rw[look,if_neg h]
  ·rw[look,look]
   split
   ·rfl
   ·exact look_era_other l x y h
theorem look_era_same:∀{l:List (κ×β)} {x:κ},(l.map (·.1)).Nodup→look (era l x) x=none
 | [],_,_=>rfl
 |(a,v)::l,x,h=>by
  rw[List.map_cons,List.nodup_cons] at h
  rw[era]
  split
  ·rename_i h1
   subst h1
   exact look_none.2 fun p hp e=>h.1 (List.mem_map.2 ⟨p,hp,e⟩)
  ·rename_i h1
   rw[look,if_neg h1]
   exact look_era_same h.2
end
def T.drop1 (d:T) (i:I32):T:={ d with ps:=era d.ps i }
def T.drops (d:T) (l:List I32):T:=l.foldl T.drop1 d
theorem drops_take {d:T} {l:List I32} {j:Nat} {i:I32} (h:l[j]? =some i):d.drops (l.take (j+1))=(d.drops (l.take j)).drop1 i:=by
 unfold T.drops
 rw[List.take_add_one,h,List.foldl_append]
 rfl
theorem drops_k:∀(l:List I32) (d:T),(d.drops l).k=d.k
 | [],_=>rfl
 |i::l,d=>drops_k l (d.drop1 i)
theorem drops_ns:∀(l:List I32) (d:T),(d.drops l).ns=d.ns
 | [],_=>rfl
 |i::l,d=>drops_ns l (d.drop1 i)
def T.Nd (d:T):Prop:=(d.ps.map (·.1)).Nodup
theorem drop1_nd {d:T} (h:d.Nd) (i:I32):(d.drop1 i).Nd:=h.sublist ((era_sub d.ps i).map _)
theorem drops_nd:∀(l:List I32) {d:T},d.Nd→(d.drops l).Nd
 | [],_,h=>h
 |i::l,_,h=>drops_nd l (drop1_nd h i)
theorem look_drop1 {d:T} (h:d.Nd) (i j:I32):look (d.drop1 i).ps j=if i=j then none else look d.ps j:=by
 by_cases e:i=j
 ·subst e;rw[if_pos rfl];exact look_era_same h
 ·rw[if_neg e];exact look_era_other d.ps i j e
theorem look_drops:∀(l:List I32) {d:T},d.Nd→∀j,look (d.drops l).ps j=if j∈l then none else look d.ps j
 | [],d,_,j=>by rw[if_neg (by simp)];rfl
 |i::l,d,h,j=>by
  show look ((d.drop1 i).drops l).ps j=_
  rw[look_drops l (drop1_nd h i) j,look_drop1 h]
  by_cases e:j∈l
  ·rw[if_pos e,if_pos (List.mem_cons_of_mem _ e)]
  ·rw[if_neg e]
   by_cases e2:i=j
   ·rw[if_pos e2,if_pos (by rw[e2];exact List.mem_cons_self)]
   ·rw[if_neg e2,if_neg (fun h=>by
     rcases List.mem_cons.1 h with h|h
     ·exact e2 h.symm
     ·exact e h)]
theorem key_look {κ β:Type} [DecidableEq κ] {l:List (κ×β)} {x:κ}:x∈l.map (·.1)↔∃v,look l x=some v:=by
 constructor
 ·intro h
  cases e:look l x with
  |some v=>exact⟨v,rfl⟩
  |none=>
   obtain⟨p,hp,rfl⟩:=List.mem_map.1 h
   exact absurd rfl (look_none.1 e p hp)
 ·rintro⟨v,h⟩
  exact List.mem_map.2 ⟨_,look_mem h,rfl⟩
theorem sums_mem {d:T} {i:I32}:i∈d.sums↔d.has i=true:=by
 unfold T.sums T.has
 rw[(S.sortI_perm _).mem_iff,key_look]
 cases look d.ps i<;>simp
end D
theorem keep_sats_era {κ α:Type} [DecidableEq κ] {C:Cd α}:∀(l:List (κ×(Sl×List α))) (k:κ) (h:Hp),Sats (keep C l) h→Sats (keep C (D.era l k)) h
 | [],_,_,hs=>hs
 |(a,u)::l,k,h,hs=>by
  rw[D.era]
  split
  ·exact Sats.drop1 hs
  ·exact Sats.cons_mono (fun h=>keep_sats_era l k h) hs
theorem keep_era {κ α:Type} [DecidableEq κ] {E w:World} {M:List HA} {C:Cd α} {l:List (κ×(Sl×List α))} (k:κ) (hS:Sat E w (bag (keep C l)::M)):Sat E w (bag (keep C (D.era l k))::M):=
 Sat.shutBag (hS.weaken (B:=fun h=>Sats (keep C (D.era l k)) h) (fun h hh=>keep_sats_era l k h hh) |>.open_ fun h hh=>hh)
theorem vals_era {κ α:Type} [DecidableEq κ] (l:List (κ×(Sl×List α))) (k:κ):mera (vals l) k=vals (D.era l k):=by
 rw[D.mera_era]
 exact D.era_map (g:=id) (fun a b h=>h) slv l k
theorem Told.era {d:D.T} {pl:List PE} {nl:List NE} (h:Told d pl nl) (i:I32):Told (d.drop1 i) (D.era pl i) nl:=by
 refine⟨?_,h.ns⟩
 show D.era d.ps i=_
 rw[h.ps]
 exact D.era_map (g:=id) (fun a b h=>h) (fun x:Sl×List UInt8=>x.2) pl i
theorem mp_nodup {κ:Type} {ke:κ→Value} {E w:World} {L M:List HA} {b:Nat} {l:List (κ×Value)} (hS:Sat E w L) [h:Fnd (mp ke b) L l M]:(l.map (·.1)).Nodup:=by
 obtain⟨es,clock,hb,hs,he⟩:=mp_at (ke:=ke) (b:=b) hS
 have h1:(es.toList.map (·.key))=(l.map (·.1)).map ke:=by
  have:=congrArg (List.map Prod.fst) he
  simpa [eks,kvs,Function.comp_def] using this
 have h2:=hs.2.2
 rw[h1] at h2
 exact List.Pairwise.of_map ke (fun a b hab e=>hab (by rw[e])) h2
theorem Dep.nd {E w:World} {M:List HA} {c:T_api_Config} {b:Nat} {d:D.T} (hS:Sat E w (Dep c b d::M)):d.Nd:=by
 obtain⟨mb,nb,pl,nl,ht,hS⟩:=Dep.opn hS
 have h:=mp_nodup (ke:=idV) (b:=mb) hS
 rw[D.vals_keys] at h
 unfold D.T.Nd
 rw[ht.ps,List.map_map]
 exact h
theorem depot_enters:∀args w,(callFunc 70 args).run zp w= .ok (.enter 70 args) w:=enters_of Tryz.func70 (by kernel_rfl) rfl
instance mt_named:MapT zp 56 idV (.int .i64 0):=⟨_,_,Tryz.underlying56,Tryz.zeroValue3,inferInstance⟩
section
variable [Pan] {E w W:World} {K Q:Value→World→Prop} {L M N N':List HA} {s s2:Sl} {c:T_api_Config} {b:Nat} {d:D.T} {li:List I32}
set_option maxHeartbeats 1000000 in
theorem DIDs_ok (hS:Sat E w L) [hf:Fnd (Dep c b) L d N] (hl:d.ps.length≤1099511627776) (hQ:∀s w,Sat E w (rows (cdI 58) s d.sums::Dep c b d::N)→Q (.slice s.a d.sums.length s.c) w):
  Calls zp 19 #[.pointer (some ⟨b,0,none⟩)] w (retP Q):=by
 refine depot_Depot_IDs.calls ?_
 unfold depot_Depot_IDs.F
 have hS1:=hS.fd (Dep c b)
 clear hS hf
 obtain⟨mb,nb,pl,nl,ht,hS⟩:=Dep.opn hS1
 clear hS1
 have hkeys:pl.map (·.1)=d.ps.map (·.1):=by rw[ht.ps,List.map_map];rfl
 have hpl:pl.length≤1099511627776:=by rw[ht.ps,List.length_map] at hl;exact hl
 repeat' (first|(refine pN_rng (P:=zp) (t:=126) (ke:=idV) (b:=mb) hS ?_;clear hS;intro r w hS)|refine pN_l hS (by first|rfl|assumption) ?_|refine pN_v (hk:=?_)|fail)
 refine⟨fun v w=>∃(got:List I32) (left:List (I32×Value)) (cur:Option (I32×Value)) (so:Sl),v= .slice so.a got.length so.c∧(got++left.map (·.1)).Perm (pl.map (·.1))∧
  Sat E w (rows (cdI 58) so got::mrng idV mb r ⟨vals pl,left,cur⟩::cel b ⟨129,depC c d.k mb nb⟩::mp nke nb (vals nl)::bag (keep cd_uint8 pl)::bag (keep (cdI 58) nl)::N),fun _ w=>wRng mb r w,
  ⟨[],vals pl,none,⟨none,0⟩,rfl,by rw[List.nil_append,D.vals_keys],?_⟩,?_⟩
 ·have h8:Sat E w (rows (cdI 58) ⟨none,0⟩ []::_):=hS.nil (cdI 58).e (cdI 58).size
  exact h8.to
 clear hS
 rintro _ _ w ⟨got,left,cur,so,rfl,hp,hS⟩
 have hms:=wRng_eq (ke:=idV) (b:=mb) (r:=r) hS
 have hgl:=hp.length_eq
 rw[List.length_append,List.length_map,List.length_map] at hgl
 refine pN_nxt (ke:=idV) (b:=mb) (r:=r) hS (fun h0=>?_) (fun i pp w hi hS=>?_)
 ·have h0:left=[]:=h0
  subst h0
  rw[List.map_nil,List.append_nil] at hp
  have hml:got.length≤1099511627776:=by simp only[List.length_nil] at hgl;omega
  refine pN_extn rfl ?_
  refine pIf_f ?_
  have hS2:=mrng_end (ke:=idV) (b:=mb) (r:=r) hS
  have hS:Sat E w (rows (cdI 58) so got::depP c b d.k mb nb pl nl N):=hS2.to
  have hnm:S.sortI got=d.sums:=by
   unfold D.T.sums
   rw[←hkeys]
   exact sortI_perm_eq hp
  have hnl2:got.length=d.sums.length:=by rw[←hnm];exact(S.sortI_perm _).length_eq.symm
  refine pcq (f:=66) (SortI_ok _ depot_enters cmpAt_depot hS hml ?_)
  rw[hnm,hnl2]
  clear hS hS2
  intro w hS
  have hS:Sat E w (depP c b d.k mb nb pl nl (rows (cdI 58) so d.sums::N)):=hS.to
  exact hQ _ _ (Dep.shut ht rfl hS).to
 ·have hi:left[i]? =some pp:=hi
  have hpe:=erase_perm hi
  have hll:=hpe.length_eq
  rw[List.length_cons] at hll
  have hp2:((got++[pp.1])++(left.eraseIdx i).map (·.1)).Perm (pl.map (·.1)):=by
   rw[List.append_assoc]
   exact((hpe.map (·.1)).append_left got).trans hp
  repeat' (first|(refine pN_ent (ke:=idV) (b:=mb) (r:=r) (p:=pp) hS rfl ?_)|(refine pN_sid hS pp.1 (by rfl) ?_;clear hS;intro w hS)|refine pN_la_at (n:=32) hS (bvs pp.1.l) (i32t _) (i32n _) ?_|(refine pN_b1 (x:=pp.1) hS rfl (by decide) ?_;clear hS;intro s3 w hS)|refine pIf_t ?_|(refine pN_nz hS ?_;clear hS;intro a w hS)|(refine pN_app hS (by first|rfl|omega|simpa only[go_sem] using True.intro|(simp only[go_sem];omega)) (by first|rfl|omega|simpa only[go_sem] using True.intro|(simp only[go_sem];omega)) (by first|omega|(simp only[go_sem];omega)) ?_;clear hS;intro s w hS)|refine pN_v (hk:=?_)|fail)
  have hS:Sat E w (rows (cdI 58) s (got++[pp.1])::mrng idV mb r ⟨vals pl,left.eraseIdx i,some pp⟩::cel b ⟨129,depC c d.k mb nb⟩::mp nke nb (vals nl)::bag (keep cd_uint8 pl)::bag (keep (cdI 58) nl)::N):=hS.to
  refine⟨⟨got++[pp.1],left.eraseIdx i,some pp,s,by first|rfl|rw[List.length_append],hp2,hS⟩,?_⟩
  dsimp only
  rw[wRng_eq (ke:=idV) (b:=mb) (r:=r) hS,hms]
  show(left.eraseIdx i).length<left.length
  omega
set_option maxHeartbeats 1000000 in
theorem DDrop_ok (hS:Sat E w L) [hf:Fnd (Dep c b) L d N] [hr:Rds (cdI 58) N s li] (hl:li.length≤1099511627776) (hn:li.Nodup) (hh:∀i∈li,d.has i=true) (hQ:∀w,Sat E w (Dep c b (d.drops li)::N)→Q (.int .i64 0) w):
  Calls zp 20 #[.pointer (some ⟨b,0,none⟩),.slice s.a li.length s.c] w (retP Q):=by
 refine depot_Depot_Drop.calls ?_
 unfold depot_Depot_Drop.F
 have hS1:=hS.fd (Dep c b)
 clear hS hf
 refine pN_mkm hS1 idV ?_
 clear hS1
 intro nm w hS
 repeat' (first|refine pN_v (hk:=?_)|fail)
 refine⟨fun v w=>∃(j:Nat) (t:List (I32×Value)),v= .int .i64 j∧j≤li.length∧(∀i,mget t i≠none→i∈li.take j)∧Sat E w (mp idV nm t::Dep c b d::N),fun v _=>li.length-(RowKit.intOf v).toNat,⟨0,[],rfl,by omega,fun i h=>absurd rfl h,hS⟩,?_⟩
 clear hS
 rintro _ _ w ⟨j,t,rfl,hj,ht,hS⟩
 by_cases hlt:j<li.length
 ·obtain⟨i,hi⟩:∃i,li[j]? =some i:=⟨li[j],List.getElem?_eq_getElem _⟩
  have hhi:=hh i (List.mem_of_getElem? hi)
  have hni:i∉li.take j:=fun hm=>by
   have h1:li=li.take (j+1)++li.drop (j+1):=(List.take_append_drop _ _).symm
   rw[h1,List.take_add_one,hi] at hn
   exact(List.nodup_append.1 (List.nodup_append.1 hn).1).2.2 i hm i (by simp) rfl
  repeat' (first|refine pN_ld_at ha hS (i32n i) ?_|(refine pN_sid hS i (by rfl) ?_;clear hS;intro w hS)|refine pN_la_at (n:=32) hS (bvs i.l) (i32t _) (i32n _) ?_|(refine pcq (f:=18) (DHas_ok (c:=c) hS i ?_);rw[hhi];clear hS;intro w hS)|(refine pN_lss_s ?_ ?_<;>intro hc<;>try (exfalso;omega))|refine pIf_t ?_|refine pIf_f ?_|(refine pN_nz hS ?_;clear hS;intro a w hS)|refine pN_ixk hS _ (by first|rfl|(exact(Int.toNat_of_nonneg (by omega)).symm)) (by first|rfl|omega|simpa only[go_sem] using True.intro|(simp only[go_sem];omega)) (by assumption) fun a ha hel=>?_|refine pN_v (hk:=?_)|fail)
  refine pN_lko (P:=zp) (t:=56) (ke:=idV) (b:=nm) hS i (fun v hv=>?_) (fun hv=>?_)
  ·exact absurd (ht i (by rw[hv];simp)) hni
  ·have hnx:∀(v:Value) (i':I32),mget (mput t i v) i'≠none→i'∈li.take (j+1):=fun v i' h=>by
    rw[List.take_add_one,hi]
    by_cases e:i=i'
    ·subst e;exact List.mem_append.2 (.inr (by simp))
    ·refine List.mem_append.2 (.inl (ht i' ?_))
     rw[D.mget_look,D.mput_upd,D.look_upd_other _ _ _ _ e] at h
     rw[D.mget_look]
     exact h
   repeat' (first|refine pN_la_at (n:=32) hS (bvs i.l) (i32t _) (i32n _) ?_|(refine pN_mup (P:=zp) (t:=56) (ke:=idV) (b:=nm) hS i _ ?_;clear hS;intro w hS)|refine pIf_f ?_|refine pN_v (hk:=?_)|fail)
   have hS:Sat E w (mp idV nm (mput t i (.int .i64 j))::Dep c b d::N):=hS.to
   exact⟨⟨j+1,_,rfl,by omega,hnx _,hS⟩,by simp[RowKit.intOf]<;>omega⟩
 ·obtain rfl:j=li.length:=by omega
  have hS:Sat E w (Dep c b d::N):=hS.to
  repeat' (first|(refine pN_lss_s ?_ ?_<;>intro hc<;>try (exfalso;omega))|refine pIf_f ?_|refine pN_v (hk:=?_)|fail)
  refine⟨fun v w=>∃j:Nat,v= .int .i64 j∧j≤li.length∧Sat E w (Dep c b (d.drops (li.take j))::N),fun v _=>li.length-(RowKit.intOf v).toNat,⟨0,rfl,by omega,by rw[List.take_zero];exact hS⟩,?_⟩
  clear hS
  rintro _ _ w ⟨j,rfl,hj,hS⟩
  by_cases hlt2:j<li.length
  ·obtain⟨i,hi⟩:∃i,li[j]? =some i:=⟨li[j],List.getElem?_eq_getElem _⟩
   have hdx:=D.drops_take (d:=d) hi
   generalize d.drops (li.take j)=d0 at*
   obtain⟨mb,nb,pl,nl,htd,hS⟩:=Dep.opn hS
   repeat' (first|refine pN_ld_at ha hS (i32n i) ?_|(refine pN_sid hS i (by rfl) ?_;clear hS;intro w hS)|refine pL_la_at (n:=32) hS (bvs i.l) (i32t _) (i32n _) ?_|(refine pN_mdel (P:=zp) (t:=126) (ke:=idV) (b:=mb) hS i ?_;clear hS;intro w hS)|refine And.intro ?_ ?_|exact trivial|(refine pN_lss_s ?_ ?_<;>intro hc<;>try (exfalso;omega))|refine pIf_t ?_|refine pL_l hS (by first|rfl|assumption) ?_|(refine pDr_go hS ?_;clear hS;intro w hS)|(refine pN_nz hS ?_;clear hS;intro a w hS)|refine pN_ixk hS _ (by first|rfl|(exact(Int.toNat_of_nonneg (by omega)).symm)) (by first|rfl|omega|simpa only[go_sem] using True.intro|(simp only[go_sem];omega)) (by assumption) fun a ha hel=>?_|refine pN_v (hk:=?_)|refine pA_v (hk:=?_)|fail)
   ·rw[vals_era] at hS
    have hS:Sat E w (bag (keep cd_uint8 pl)::cel b ⟨129,depC c d0.k mb nb⟩::mp idV mb (vals (D.era pl i))::mp nke nb (vals nl)::bag (keep (cdI 58) nl)::N):=hS.to
    have hS:Sat E w (depP c b d0.k mb nb (D.era pl i) nl N):=(keep_era i hS).to
    exact⟨j+1,rfl,by omega,by rw[hdx];exact Dep.shut (htd.era i) rfl hS⟩
   ·simp[RowKit.intOf]<;>omega
  ·obtain rfl:j=li.length:=by omega
   rw[List.take_length] at hS
   repeat' (first|(refine pN_lss_s ?_ ?_<;>intro hc<;>try (exfalso;omega))|refine pIf_f ?_|fail)
   exact hQ _ hS
end
end
section
namespace Pr
def ivI (l:List (I32×Int)):List (I32×Value):=l.map fun x=>(x.1,.int .i64 x.2)
theorem ivI_get (l:List (I32×Int)) (k:I32):mget (ivI l) k=(D.look l k).map (Value.int .i64):=by
 rw[D.mget_look]
 exact D.look_map (g:=id) (fun a b h=>h) (Value.int .i64) l k
theorem ivI_put (l:List (I32×Int)) (k:I32) (x:Int):mput (ivI l) k (.int .i64 x)=ivI (D.upd l k x):=by
 rw[D.mput_upd]
 exact D.upd_map (g:=id) (fun a b h=>h) (Value.int .i64) l k x
end Pr
open Pr
section
variable [Pan] {E w W:World} {K Q:Value→World→Prop} {L LL M N:List HA} {s sa:Sl} {la:List I32} {a:I32} {c:T_api_Config} {db:Nat} {d:D.T}
theorem phas_ok (hS:Sat E w M) [hr:Rds (cdI 58) M sa la] (hla:la.length≤1099511627776) (hQ:∀w,Sat E w M→Q (.bool (decide (a∈la))) w):
  Calls zp 42 #[.slice sa.a la.length sa.c,.agg (bvs a.l).toArray] w (retP Q):=by
 refine pithlaw37_has.calls ?_
 unfold pithlaw37_has.F
 have hal:(bvs a.l).length=32:=by rw[bvs_length,a.h]
 refine pN_bx (z:=bvs a.l) hS rfl ?_
 clear hS
 intro ab w hS
 refine⟨fun v w=>∃j:Nat,v= .int .i64 j∧j≤la.length∧a∉la.take j∧Sat E w (cel ab ⟨58,bvs a.l⟩::M),fun v _=>la.length-(RowKit.intOf v).toNat,⟨0,rfl,by omega,by simp,hS⟩,?_⟩
 clear hS
 rintro _ _ w ⟨j,rfl,hj,hn,hS⟩
 by_cases hlt:j<la.length
 ·obtain⟨x,hx⟩:∃x,la[j]? =some x:=⟨la[j],List.getElem?_eq_getElem _⟩
  have hxm:=List.mem_of_getElem? hx
  repeat' (first|refine pA_ixk (s:=sa) (l:=la) hS j (by omega) (by omega) hx fun ad ha hel=>?_|refine pL_ld_at ha hS (i32n _) ?_|refine pL_la_at (n:=32) hS (bvs a.l) (by rw[List.drop_zero];exact List.take_of_length_le (by rw[hal];exact Nat.le_refl _)) hal.symm ?_|(refine pA_eql_id (a:=x) (b:=a) (fun hxy=>?_) fun hxy=>?_)|(refine pN_lss_s ?_ ?_<;>intro hc<;>try (exfalso;omega))|refine pIf_t ?_|refine pIf_f ?_|(refine pDr_go hS ?_;clear hS;intro w hS)|refine pN_v (hk:=?_)|fail)
  ·rw[decide_eq_true (hxy▸hxm)] at hQ
   exact hQ _ hS.to
  ·refine⟨⟨j+1,rfl,by omega,fun hm=>?_,hS⟩,by simp[RowKit.intOf]<;>omega⟩
   rw[List.take_add_one,hx] at hm
   rcases List.mem_append.1 hm with hm|hm
   ·exact hn hm
   ·exact hxy (by simpa using hm:a=x).symm
 ·obtain rfl:j=la.length:=by omega
  rw[List.take_length] at hn
  rw[decide_eq_false hn] at hQ
  repeat' (first|(refine pN_lss_s ?_ ?_<;>intro hc<;>try (exfalso;omega))|refine pIf_f ?_|refine pN_v (hk:=?_)|fail)
  exact hQ _ hS.to
theorem marks_ok (hS:Sat E w LL) [hf:Fnd (Dep c db) LL d N] (hp:d.ps.length≤1099511627776)
  (hQ:∀nm t w,(∀i,D.look t i≠none↔i∈d.sums)→Sat E w (mp idV nm (ivI t)::Dep c db d::N)→Q (.map (some nm)) w):
  Calls zp 82 #[.pointer (some ⟨db,0,none⟩)] w (retP Q):=by
 refine prune_marks.calls ?_
 unfold prune_marks.F
 have hS1:=hS.fd (Dep c db)
 clear hS hf
 have hS:=hS1
 clear hS1
 have hsl:d.sums.length≤1099511627776:=by
  have:d.sums.length=(d.ps.map (·.1)).length:=(S.sortI_perm _).length_eq
  rw[List.length_map] at this
  omega
 repeat' (first|(refine pN_mkm hS idV ?_;clear hS;intro nm w hS)|(refine pcq (f:=19) (DIDs_ok (c:=c) hS hp ?_);clear hS;intro sv w hS)|refine pN_v (hk:=?_)|fail)
 generalize d.sums=V at*
 have h8:Sat E w (mp idV nm []::rows (cdI 58) sv V::Dep c db d::N):=hS.to
 have h8:Sat E w (mp idV nm (ivI [])::rows (cdI 58) sv V::Dep c db d::N):=h8
 refine⟨fun v w=>∃(j:Nat) (t:List (I32×Int)),v= .int .i64 j∧j≤V.length∧(∀i,D.look t i≠none↔i∈V.take j)∧Sat E w (mp idV nm (ivI t)::rows (cdI 58) sv V::Dep c db d::N),fun v _=>V.length-(RowKit.intOf v).toNat,⟨0,[],rfl,by omega,fun i=>by simp[D.look],h8⟩,?_⟩
 clear hS h8
 rintro _ _ w ⟨j,t,rfl,hj,ht1,hS⟩
 by_cases hlt:j<V.length
 ·obtain⟨i,hi⟩:∃i,V[j]? =some i:=⟨V[j],List.getElem?_eq_getElem _⟩
  have hnx:∀i',D.look (D.upd t i (j:Int)) i'≠none↔i'∈V.take (j+1):=fun i'=>by
   rw[List.take_add_one,hi]
   by_cases e:i=i'
   ·subst e;rw[D.look_upd_same];simp
   ·rw[D.look_upd_other _ _ _ _ e,ht1,List.mem_append]
    constructor
    ·exact .inl
    ·rintro(h|h)
     ·exact h
     ·exact absurd (by simpa using h:i'=i).symm e
  repeat' (first|refine pN_ixk hS j (by omega) (by omega) hi fun ad ha hel=>?_|refine pN_ld_at ha hS (i32n i) ?_|(refine pN_nz (t:=58) hS ?_;clear hS;intro ca w hS)|(refine pN_sid hS i (by rfl) ?_;clear hS;intro w hS)|refine pN_la_at (n:=32) hS (bvs i.l) (i32t _) (i32n _) ?_|(refine pN_mup (P:=zp) (t:=56) (ke:=idV) (b:=nm) hS i (.int .i64 (j:Int)) ?_;clear hS;intro w hS)|(refine pN_lss_s ?_ ?_<;>intro hc<;>try (exfalso;omega))|refine pIf_t ?_|refine pN_v (hk:=?_)|fail)
  rw[ivI_put] at hS
  exact⟨⟨j+1,_,rfl,hlt,hnx,hS.to⟩,by simp[RowKit.intOf]<;>omega⟩
 ·obtain rfl:j=V.length:=by omega
  rw[List.take_length] at ht1
  repeat' (first|(refine pN_lss_s ?_ ?_<;>intro hc<;>try (exfalso;omega))|refine pIf_f ?_|fail)
  exact hQ _ _ _ ht1 hS.to
end
end
section
namespace S
end S
attribute [local irreducible] H.sum C.put
section
variable [Pan] {E w W:World} {K Q:Value→World→Prop} {LL M N N':List HA} {c:T_api_Config} {db:Nat} {d:D.T} {its:List T_api_Item} {s sl:Sl}
end
end
section
noncomputable instance decIt:DecidableEq T_api_Item:=fun _ _=>Classical.propDecidable _
namespace S
end S
section
variable [Pan] {E w W:World} {K Q:Value→World→Prop} {LL M N N':List HA} {la lb:List T_api_Item} {sa sb:Sl}
end
end
section
namespace S
end S
section
variable [Pan] {E w W:World} {K Q:Value→World→Prop} {LL M N N':List HA}
end
end
section
namespace L
end L
attribute [local irreducible] H.sum C.put L.flat
section
variable [Pan] {E w W:World} {K Q:Value→World→Prop} {LL M N N':List HA} {its:List T_api_Item} {s sl:Sl}
end
end
section
namespace S
end S
namespace S
end S
attribute [local irreducible] H.sum C.put L.flat
section
variable [Pan] {E w W:World} {K Q:Value→World→Prop} {LL M N N':List HA} {s sl:Sl} {k:C.K}
end
end
end
section
namespace S
open D (B)
variable {k:C.K} {l m:List It} {U:List B}
end S
end
section
set_option maxRecDepth 100000
namespace H
end H
end
section
attribute [local irreducible] oMv oV oU oCall oCallV oBi oBin oUn oLoad oStore oNil oFld oField oIdx oIndex oPick oAlloc oBox oBuild oBs oConv oMk oSl oExt oFn oIface oMap oLook oMapUp oRange oNext oEntry oInv oAssert oPanic oRes pN pA pL pDr pIf gA pGd Calls
section
namespace S
def one:NKey:=⟨[111,110,101],by decide⟩
end S
section
variable [Pan] {E w W:World} {K Q:Value→World→Prop} {LL M N N':List HA} {c:T_api_Config} {b:Nat} {d:D.T}
theorem List_ok (hS:Sat E w LL) [hf:Fnd (Dep c b) LL d N] (hl:d.ns.length≤1099511627776) (hQ:∀s w,Sat E w (rows cd_string s d.names::Dep c b d::N)→Q (.slice s.a d.names.length s.c) w):
  Calls zp 30 #[.pointer (some ⟨b,0,none⟩)] w (retP Q):=by
 refine snap_List.calls ?_
 unfold snap_List.F
 exact pcq (f:=74) (DNames_ok hS hl hQ)
end
end
section
namespace A
end A
attribute [local irreducible] A.made A.header A.oct A.wrong A.padn A.putB
section
variable [Pan] {E w:World} {K Q:Value→World→Prop} {L M:List HA} {l r:List UInt8} {s s2 sl:Sl} {its:List T_api_Item}
end
end
section
section
variable [Pan] {E w W:World} {K Q:Value→World→Prop} {LL M N N':List HA} {c:T_api_Config} {db:Nat} {d:D.T} {s:Sl}
end
end
section
namespace S
end S
section
variable [Pan] {E w W:World} {K Q:Value→World→Prop} {LL M N N':List HA} {c:T_api_Config} {db:Nat} {d:D.T} {la lb:List I32} {na nb:List (List UInt8)} {sa sb:Sl}
end
end
end
section
namespace S
end S
end
section
attribute [local irreducible] oMv oV oU oCall oCallV oBi oBin oUn oLoad oStore oNil oFld oField oIdx oIndex oPick oAlloc oBox oBuild oBs oConv oMk oSl oExt oFn oIface oMap oLook oMapUp oRange oNext oEntry oInv oAssert oPanic oRes pN pA pL pDr pIf gA pGd Calls
section
open Pr
namespace Pr
structure Nm where
 n:NKey
 root:List I32
 es:List L.En
def Nm.needs (x:Nm):List I32:=S.needsOf x.root x.es
structure Nm.ok (d:D.T) (x:Nm):Prop where
 t:S.Tells d x.n.1 x.es x.root
 bl:∀q,d.get x.root=some q→q.length≤1099511627776
 al:(S.allsOf x.root x.es).length≤1099511627776
 el:x.es.length≤1099511627776
def loose (d:D.T) (W:List Nm):List I32:=d.sums.filter fun i=>decide (∀x∈W,i∉x.needs)
theorem era_map (l:List (I32×Int)) (k:I32):mera (ivI l) k=ivI (D.era l k):=by
 rw[D.mera_era]
 exact D.era_map (g:=id) (fun a b h=>h) (Value.int .i64) l k
theorem ivI_keys (l:List (I32×Int)):(ivI l).map (·.1)=l.map (·.1):=by unfold ivI;rw[List.map_map];rfl
def looseN (d:D.T) (W:List Nm) (j:Nat):List I32:=(d.sums.take j).filter fun i=>decide (∀x∈W,i∉x.needs)
theorem looseN_in {d:D.T} {Ws:List Nm} {z:Nat} {i:I32} (h:d.sums[z]? =some i) (hi:∀x∈Ws,i∉x.needs):looseN d Ws (z+1)=looseN d Ws z++[i]:=by
 unfold looseN
 rw[List.take_add_one,h,List.filter_append]
 congr 1
 exact List.filter_cons_of_pos (decide_eq_true hi)
theorem looseN_no {d:D.T} {Ws:List Nm} {z:Nat} {i:I32} (h:d.sums[z]? =some i) (hi:¬∀x∈Ws,i∉x.needs):looseN d Ws (z+1)=looseN d Ws z:=by
 unfold looseN
 rw[List.take_add_one,h,List.filter_append]
 have e:((some i).toList.filter fun i=>decide (∀x∈Ws,i∉x.needs))=[]:=List.filter_cons_of_neg (by rw[decide_eq_true_iff];exact hi)
 rw[e,List.append_nil]
theorem looseN_len {d:D.T} {Ws:List Nm} (z:Nat):(looseN d Ws z).length≤d.sums.length:=Nat.le_trans (List.length_filter_le _ _) (by rw[List.length_take];omega)
end Pr
attribute [local irreducible] Pr.Nm.needs Pr.loose Pr.looseN
section
variable [Pan] {E w W:World} {K Q:Value→World→Prop} {L LL M N:List HA} {s sn:Sl} {c:T_api_Config} {db:Nat} {d:D.T} {Ws:List Nm}
set_option maxHeartbeats 2000000 in
theorem unneeded_ok (hS:Sat E w LL) [hf:Fnd (Dep c db) LL d N] [hr:Rds cd_string N sn (Ws.map fun x=>x.n.1)] (hp:d.ps.length≤1099511627776) (hW:∀x∈Ws,x.ok d) (hl:Ws.length≤1099511627776)
  (hQ:∀so w,Sat E w (rows (cdI 58) so (loose d Ws)::Dep c db d::N)→Q (.tuple #[.slice so.a (loose d Ws).length so.c,.int .i64 0]) w):
  Calls zp 81 #[.pointer (some ⟨db,0,none⟩),.slice sn.a Ws.length sn.c] w (retP Q):=by
 refine prune_unneeded.calls ?_
 unfold prune_unneeded.F
 refine pcq (f:=82) (marks_ok (c:=c) hS hp ?_)
 clear hS
 intro nm t0 w ht0 hS
 repeat' (first|refine pN_v (hk:=?_)|fail)
 refine⟨fun v w=>∃(j:Nat) (t:List (I32×Int)),v= .int .i64 j∧j≤Ws.length∧(∀i,D.look t i≠none↔i∈d.sums∧∀x∈Ws.take j,i∉x.needs)∧Sat E w (mp idV nm (ivI t)::Dep c db d::N),fun v _=>Ws.length-(RowKit.intOf v).toNat,⟨0,t0,rfl,by omega,fun i=>by rw[ht0];simp,hS⟩,?_⟩
 clear hS ht0
 rintro _ _ w ⟨j,t,rfl,hj,ht,hS⟩
 by_cases hlt:j<Ws.length
 ·obtain⟨x,hx⟩:∃x,Ws[j]? =some x:=⟨Ws[j],List.getElem?_eq_getElem _⟩
  have hxo:=hW x (List.mem_of_getElem? hx)
  have hxn:(Ws.map fun x=>x.n.1)[j]? =some x.n.1:=by rw[List.getElem?_map,hx];rfl
  have htk:∀i,(∀y∈Ws.take (j+1),i∉y.needs)↔(∀y∈Ws.take j,i∉y.needs)∧i∉x.needs:=fun i=>by
   rw[List.take_add_one,hx]
   constructor
   ·intro h
    exact⟨fun y hy=>h y (List.mem_append.2 (.inl hy)),h x (by simp)⟩
   ·rintro⟨h1,h2⟩ y hy
    rcases List.mem_append.1 hy with hy|hy
    ·exact h1 y hy
    ·obtain rfl:y=x:=by simpa using hy
     exact h2
  repeat' (first|(refine pN_lss_s ?_ ?_<;>intro hc<;>try (exfalso;omega))|refine pIf_t ?_|refine pN_ld1 ha hS ?_|refine pN_ixk hS _ (by first|rfl|(exact(Int.toNat_of_nonneg (by omega)).symm)) (by first|rfl|omega|simpa only[go_sem] using True.intro|(simp only[go_sem];omega)) (by assumption) fun a ha hel=>?_|fail)
  refine pcq (f:=17) (Needs_ok (c:=c) hS x.n hxo.t hxo.bl hxo.al hxo.el ?_)
  clear hS
  intro sv w hS
  have hnd:S.needsOf x.root x.es=x.needs:=by unfold Pr.Nm.needs;rfl
  have hnl:x.needs.length≤1099511627776:=by rw[←hnd];exact Nat.le_trans (S.needs_len _ _) hxo.al
  rw[hnd] at hS ⊢
  generalize x.needs=V at*
  repeat' (first|(refine pN_neq_s ?_ ?_<;>intro hc<;>try (exfalso;first|omega|exact gone hc|exact gon2 hc))|refine pIf_f ?_|refine pN_v (hk:=?_)|fail)
  refine⟨fun v w=>∃(z:Nat) (t:List (I32×Int)),v= .int .i64 z∧z≤V.length∧(∀i,D.look t i≠none↔(i∈d.sums∧∀x∈Ws.take j,i∉x.needs)∧i∉V.take z)∧Sat E w (mp idV nm (ivI t)::rows (cdI 58) sv V::Dep c db d::N),fun v _=>V.length-(RowKit.intOf v).toNat,⟨0,t,rfl,by omega,fun i=>by rw[ht];simp,hS.to⟩,?_⟩
  clear hS ht t
  rintro _ _ w ⟨z,t,rfl,hz,ht,hS⟩
  by_cases hlz:z<V.length
  ·obtain⟨i,hi⟩:∃i,V[z]? =some i:=⟨V[z],List.getElem?_eq_getElem _⟩
   have hnd2:(t.map (·.1)).Nodup:=by
    have h:=mp_nodup (ke:=idV) (b:=nm) (l:=ivI t) hS
    rwa[ivI_keys] at h
   have hnx:∀i',D.look (D.era t i) i'≠none↔(i'∈d.sums∧∀x∈Ws.take j,i'∉x.needs)∧i'∉V.take (z+1):=fun i'=>by
    rw[List.take_add_one,hi]
    by_cases e:i=i'
    ·subst e
     rw[D.look_era_same hnd2]
     simp
    ·rw[D.look_era_other _ _ _ e,ht,List.mem_append]
     have e2:¬i'∈(some i).toList:=fun h=>e (by simpa using h:i'=i).symm
     constructor
     ·rintro⟨h1,h2⟩
      exact⟨h1,fun h=>h.elim h2 e2⟩
     ·rintro⟨h1,h2⟩
      exact⟨h1,fun h=>h2 (.inl h)⟩
   repeat' (first|refine pN_ixk (C:=cdI 58) (s:=sv) (l:=V) hS z (by omega) (by omega) hi fun ad ha hel=>?_|refine pN_ld_at ha hS (i32n i) ?_|(refine pN_nz (t:=58) hS ?_;clear hS;intro ca w hS)|(refine pN_sid hS i (by rfl) ?_;clear hS;intro w hS)|refine pN_la_at (n:=32) hS (bvs i.l) (i32t _) (i32n _) ?_|(refine pN_mdel (ke:=idV) (b:=nm) hS i ?_;clear hS;intro w hS)|(refine pN_lss_s ?_ ?_<;>intro hc<;>try (exfalso;omega))|refine pIf_t ?_|refine pN_v (hk:=?_)|fail)
   rw[era_map] at hS
   exact⟨⟨z+1,_,rfl,hlz,hnx,hS.to⟩,by simp[RowKit.intOf]<;>omega⟩
  obtain rfl:z=V.length:=by omega
  rw[List.take_length] at ht
  repeat' (first|(refine pN_lss_s ?_ ?_<;>intro hc<;>try (exfalso;omega))|refine pIf_f ?_|refine pN_v (hk:=?_)|fail)
  exact⟨⟨j+1,t,rfl,hlt,fun i=>by rw[ht,htk,and_assoc],hS.to⟩,by simp[RowKit.intOf]<;>omega⟩
 ·obtain rfl:j=Ws.length:=by omega
  rw[List.take_length] at ht
  repeat' (first|(refine pcq (f:=19) (DIDs_ok (c:=c) hS hp ?_);clear hS;intro s2 w hS)|(refine pN_lss_s ?_ ?_<;>intro hc<;>try (exfalso;omega))|refine pIf_f ?_|refine pN_v (hk:=?_)|fail)
  have hlo:loose d Ws=looseN d Ws d.sums.length:=by unfold Pr.loose Pr.looseN;rw[List.take_length]
  have hin:=fun z i (h:d.sums[z]? =some i)=>looseN_in (Ws:=Ws) h
  have hno:=fun z i (h:d.sums[z]? =some i)=>looseN_no (Ws:=Ws) h
  have hlN:=fun z=>looseN_len (Ws:=Ws) (d:=d) z
  have hl0:looseN d Ws 0=[]:=by unfold Pr.looseN;rw[List.take_zero];rfl
  have hsl:d.sums.length≤1099511627776:=by
   have:d.sums.length=(d.ps.map (·.1)).length:=(S.sortI_perm _).length_eq
   rw[List.length_map] at this
   omega
  rw[hlo] at hQ
  clear hlo
  have h8:Sat E w (rows (cdI 58) ⟨none,0⟩ (looseN d Ws 0)::mp idV nm (ivI t)::rows (cdI 58) s2 d.sums::Dep c db d::N):=by
   rw[hl0]
   have h:=hS.nil (cdI 58).e (cdI 58).size
   exact Sat.to (show Sat E w (rows (cdI 58) ⟨none,0⟩ []::_) from h)
  refine⟨fun v x w=>∃(so:Sl) (z:Nat),v= .slice so.a (looseN d Ws z).length so.c∧x= .int .i64 z∧z≤d.sums.length∧Sat E w (rows (cdI 58) so (looseN d Ws z)::mp idV nm (ivI t)::rows (cdI 58) s2 d.sums::Dep c db d::N),fun _ x _=>d.sums.length-(RowKit.intOf x).toNat,⟨⟨none,0⟩,0,by rw[hl0];rfl,rfl,by omega,h8⟩,?_⟩
  clear hS h8
  rintro _ _ _ w ⟨so,z,rfl,rfl,hz,hS⟩
  have hlz:=hlN z
  by_cases hlt2:z<d.sums.length
  ·obtain⟨i,hi⟩:∃i,d.sums[z]? =some i:=⟨d.sums[z],List.getElem?_eq_getElem _⟩
   have him:=List.mem_of_getElem? hi
   have hi1:=hin z i hi
   have hi2:=hno z i hi
   have hti:=ht i
   repeat' (first|(refine pN_lss_s ?_ ?_<;>intro hc<;>try (exfalso;omega))|refine pIf_t ?_|fail)
   refine⟨fun v w=>∃so:Sl,v= .slice so.a (looseN d Ws (z+1)).length so.c∧Sat E w (rows (cdI 58) so (looseN d Ws (z+1))::mp idV nm (ivI t)::rows (cdI 58) s2 d.sums::Dep c db d::N),?_,?_⟩
   ·generalize looseN d Ws z=dl at*
    repeat' (first|refine pN_ixk (C:=cdI 58) (s:=s2) (l:=d.sums) hS z (by omega) (by omega) hi fun ad ha hel=>?_|refine pN_ld_at ha hS (i32n i) ?_|(refine pN_nz (t:=58) hS ?_;clear hS;intro ca w hS)|(refine pN_sid hS i (by rfl) ?_;clear hS;intro w hS)|refine pN_la_at (n:=32) hS (bvs i.l) (i32t _) (i32n _) ?_|fail)
    refine pN_lko (P:=zp) (t:=56) (ke:=idV) (b:=nm) hS i (fun v hv=>?_) (fun hv=>?_)
    ·have hgo:∀x∈Ws,i∉x.needs:=(hti.1 (fun e=>by rw[ivI_get,e] at hv;cases hv)).2
     repeat' (first|refine pN_la_at (n:=32) hS (bvs i.l) (i32t _) (i32n _) ?_|(refine pN_b1 (x:=i) hS rfl (by decide) ?_;clear hS;intro s3 w hS)|(refine pN_app (C:=cdI 58) (l:=dl) hS rfl rfl (by rw[List.length_singleton];omega) ?_;clear hS;intro s6 w hS)|refine pIf_t ?_|refine pN_v (hk:=?_)|fail)
     rw[←hi1 hgo] at hS ⊢
     exact⟨s6,rfl,hS.to⟩
    ·have hgo:¬∀x∈Ws,i∉x.needs:=fun h=>by
      have h1:=hti.2 ⟨him,h⟩
      rw[ivI_get] at hv
      cases e:D.look t i with
      |none=>exact h1 e
      |some v=>rw[e] at hv;cases hv
     repeat' (first|refine pIf_f ?_|refine pN_v (hk:=?_)|fail)
     rw[←hi2 hgo] at hS ⊢
     exact⟨so,rfl,hS.to⟩
   ·clear hS
    rintro _ _ w ⟨so2,rfl,hS⟩
    repeat' (first|refine pN_v (hk:=?_)|fail)
    exact⟨⟨so2,z+1,rfl,rfl,hlt2,hS⟩,by simp[RowKit.intOf]<;>omega⟩
  ·obtain rfl:z=d.sums.length:=by omega
   repeat' (first|(refine pN_lss_s ?_ ?_<;>intro hc<;>try (exfalso;omega))|refine pIf_f ?_|fail)
   exact hQ _ _ hS.to
end
end
section
namespace Pr
def lenV (p:I32×Value):Nat:=match p.2 with
 | .slice _ n _=>n
 |_=>0
def size (d:D.T):Nat:=(d.ps.map fun x=>x.2.length).sum
theorem sum_erase {l:List (I32×Value)} {i:Nat} {p:I32×Value} (h:l[i]? =some p):(l.map lenV).sum=lenV p+((l.eraseIdx i).map lenV).sum:=by
 have h1:=((erase_perm h).map lenV).sum_nat
 rw[←h1,List.map_cons,List.sum_cons]
theorem size_era:∀(l:List (I32×D.B)) (k:I32),((D.era l k).map fun x=>x.2.length).sum≤(l.map fun x=>x.2.length).sum
 | [],_=>Nat.le_refl _
 |(a,u)::r,k=>by
  have ih:=size_era r k
  rw[D.era]
  split
  ·rw[List.map_cons,List.sum_cons];omega
  ·rw[List.map_cons,List.map_cons,List.sum_cons,List.sum_cons];omega
theorem size_drops:∀(l:List I32) (d:D.T),size (d.drops l)≤size d
 | [],d=>Nat.le_refl _
 |i::l,d=>Nat.le_trans (size_drops l (d.drop1 i)) (size_era d.ps i)
theorem loose_nodup {d:D.T} {W:List Nm} (h:d.Nd):(loose d W).Nodup:=by
 unfold loose
 have h1:d.sums.Nodup:=by unfold D.T.sums;exact(S.sortI_perm _).nodup_iff.2 h
 exact List.Pairwise.sublist List.filter_sublist h1
theorem loose_has {d:D.T} {W:List Nm} {i:I32} (h:i∈loose d W):d.has i=true:=D.sums_mem.1 (by unfold loose at h;exact(List.mem_filter.1 h).1)
end Pr
open Pr
attribute [local irreducible] Pr.loose Pr.size
section
variable [Pan] {E w W:World} {K Q:Value→World→Prop} {L M N N':List HA} {s s2:Sl} {c:T_api_Config} {b:Nat} {d:D.T}
set_option maxHeartbeats 1000000 in
theorem DSize_ok (hS:Sat E w L) [hf:Fnd (Dep c b) L d N] (hl:size d≤4611686018427387904) (hQ:∀w,Sat E w (Dep c b d::N)→Q (.int .i64 (size d)) w):
  Calls zp 39 #[.pointer (some ⟨b,0,none⟩)] w (retP Q):=by
 refine depot_Depot_Size.calls ?_
 unfold depot_Depot_Size.F
 have hS1:=hS.fd (Dep c b)
 clear hS hf
 obtain⟨mb,nb,pl,nl,ht,hS⟩:=Dep.opn hS1
 clear hS1
 have hsz:((vals pl).map lenV).sum=size d:=by
  unfold Pr.size
  rw[ht.ps,List.map_map]
  unfold vals
  rw[List.map_map]
  rfl
 have hsl:∀p∈vals pl,∃(s:Sl) (n:Nat),p.2= .slice s.a n s.c:=fun p hp=>by
  unfold vals at hp
  obtain⟨x,_,rfl⟩:=List.mem_map.1 hp
  exact⟨x.2.1,x.2.2.length,rfl⟩
 repeat' (first|(refine pN_rng (P:=zp) (t:=126) (ke:=idV) (b:=mb) hS ?_;clear hS;intro r w hS)|refine pN_l hS (by first|rfl|assumption) ?_|refine pN_v (hk:=?_)|fail)
 refine⟨fun v w=>∃(got:Nat) (left:List (I32×Value)) (cur:Option (I32×Value)),v= .int .i64 got∧got+(left.map lenV).sum=size d∧(∀p∈left,p∈vals pl)∧
  Sat E w (mrng idV mb r ⟨vals pl,left,cur⟩::cel b ⟨129,depC c d.k mb nb⟩::mp nke nb (vals nl)::bag (keep cd_uint8 pl)::bag (keep (cdI 58) nl)::N),fun _ w=>wRng mb r w,
  ⟨0,vals pl,none,rfl,by rw[hsz,Nat.zero_add],fun p hp=>hp,hS.to⟩,?_⟩
 clear hS
 rintro _ _ w ⟨got,left,cur,rfl,hg,hlf,hS⟩
 have hms:=wRng_eq (ke:=idV) (b:=mb) (r:=r) hS
 refine pN_nxt (ke:=idV) (b:=mb) (r:=r) hS (fun h0=>?_) (fun i pp w hi hS=>?_)
 ·have h0:left=[]:=h0
  subst h0
  have hg:got=size d:=by simpa using hg
  refine pN_extn rfl ?_
  refine pIf_f ?_
  have hS2:=mrng_end (ke:=idV) (b:=mb) (r:=r) hS
  have hS:Sat E w (depP c b d.k mb nb pl nl N):=hS2.to
  rw[hg]
  exact hQ _ (Dep.shut ht rfl hS).to
 ·have hi:left[i]? =some pp:=hi
  have hpe:=erase_perm hi
  have hll:=hpe.length_eq
  rw[List.length_cons] at hll
  have hse:=sum_erase hi
  obtain⟨sp,np,hpp⟩:=hsl pp (hlf pp (List.mem_of_getElem? hi))
  have hlv:lenV pp=np:=by unfold lenV;rw[hpp]
  obtain⟨pk,pv⟩:=pp
  dsimp only at hpp
  subst hpp
  rw[hlv] at hse
  repeat' (first|(refine pN_ent (ke:=idV) (b:=mb) (r:=r) (p:=(pk,.slice sp.a np sp.c)) hS rfl ?_)|refine pIf_t ?_|refine pN_v (hk:=?_)|fail)
  refine⟨⟨got+np,left.eraseIdx i,some (pk,.slice sp.a np sp.c),rfl,by omega,fun p hp=>hlf p (List.mem_of_mem_eraseIdx hp),hS⟩,?_⟩
  dsimp only
  rw[wRng_eq (ke:=idV) (b:=mb) (r:=r) hS,hms]
  show(left.eraseIdx i).length<left.length
  omega
theorem Prune_ok {Ws:List Nm} (hS:Sat E w L) [hf:Fnd (Dep c b) L d N] (hp:d.ps.length≤1099511627776) (hnl:d.ns.length≤1099511627776) (hz:size d≤4611686018427387904) (hnm:d.names=Ws.map fun x=>x.n.1) (hW:∀x∈Ws,x.ok d) (hl:Ws.length≤1099511627776)
  (hQ:∀w,Sat E w (Dep c b (d.drops (loose d Ws))::N)→Q (.tuple #[.int .i64 (loose d Ws).length,.int .i64 ((size d:Int)-size (d.drops (loose d Ws))),.int .i64 0]) w):
  Calls zp 40 #[.pointer (some ⟨b,0,none⟩)] w (retP Q):=by
 refine prune_Prune.calls ?_
 unfold prune_Prune.F
 have hS1:=hS.fd (Dep c b)
 clear hS hf
 have hnd:d.Nd:=Dep.nd hS1
 have hS:=hS1
 clear hS1
 have hln:=loose_nodup (W:=Ws) hnd
 have hlh:=fun i (h:i∈loose d Ws)=>loose_has h
 have hll:(loose d Ws).length≤1099511627776:=by
  have h1:(loose d Ws).length≤d.sums.length:=by unfold Pr.loose;exact List.length_filter_le _ _
  have h2:d.sums.length=(d.ps.map (·.1)).length:=(S.sortI_perm _).length_eq
  rw[List.length_map] at h2
  omega
 have hzd:=size_drops (loose d Ws) d
 have hwl:(Ws.map fun x=>x.n.1).length=Ws.length:=List.length_map ..
 refine pcq (f:=74) (DNames_ok (c:=c) hS hnl ?_)
 rw[hnm,hwl]
 clear hS
 intro sn w hS
 refine pcq (f:=81) (unneeded_ok (c:=c) (sn:=sn) hS hp hW hl ?_)
 clear hS
 intro so w hS
 generalize loose d Ws=lo at*
 repeat' (first|(refine pcq (f:=39) (DSize_ok (c:=c) (d:=d) hS hz ?_);clear hS;intro w hS)|(refine pcq (f:=20) (DDrop_ok (c:=c) (s:=so) (li:=lo) hS hll hln hlh ?_);clear hS;intro w hS)|(refine pcq (f:=39) (DSize_ok (c:=c) (d:=d.drops lo) hS (by omega) ?_);clear hS;intro w hS)|(refine pN_neq_s ?_ ?_<;>intro hc<;>try (exfalso;first|omega|exact gone hc|exact gon2 hc))|refine pIf_f ?_|refine pN_v (hk:=?_)|fail)
 exact hQ _ hS.to
end
end
section
open Pr
theorem Told.eraN {d:D.T} {pl:List PE} {nl:List NE} (h:Told d pl nl) (n:NKey):Told (d.set n.1 []) pl (D.era nl n):=by
 have hd:d.set n.1 []={ d with ns:=D.era d.ns n.1 }:=by unfold D.T.set;rw[if_pos rfl]
 rw[hd]
 refine⟨h.ps,?_⟩
 show D.era d.ns n.1=_
 rw[h.ns]
 exact D.era_map (g:=fun n:NKey=>n.1) (fun a b h=>Subtype.ext h) (fun x:Sl×List I32=>x.2) nl n
section
variable [Pan] {E w W:World} {K Q:Value→World→Prop} {L M N N':List HA} {s s2:Sl} {c:T_api_Config} {b:Nat} {d:D.T}
theorem DSet0_ok (n:NKey) (hn:n.1.length≤254) (hS:Sat E w L) [hf:Fnd (Dep c b) L d N]
  (hQ:∀w,Sat E w (Dep c b (d.set n.1 [])::N)→Q (.int .i64 0) w):
  Calls zp 59 #[.pointer (some ⟨b,0,none⟩),nke n,.slice none 0 0] w (retP Q):=by
 refine depot_Depot_Set.calls ?_
 unfold depot_Depot_Set.F
 have hS1:=hS.fd (Dep c b)
 clear hS hf
 obtain⟨mb,nb,pl,nl,ht,hS⟩:=Dep.opn hS1
 clear hS1
 repeat' (first|(refine pcq (f:=56) (DLegal_ok n.1 hn ?_))|(refine pN_mdel (P:=zp) (t:=127) (ke:=nke) (b:=nb) hS n ?_;clear hS;intro w hS)|((first|refine pN_eql_s ?_ ?_|refine pN_neq_s ?_ ?_)<;>intro hc<;>try (exfalso;first|omega|exact gone hc|exact gon2 hc))|refine pIf_t ?_|refine pIf_f ?_|refine pN_l hS (by first|rfl|assumption) ?_|refine pN_v (hk:=?_)|refine⟨_,?_,fun _ _ h=>h⟩|fail)
 rw[vals_era] at hS
 have hS:Sat E w (bag (keep (cdI 58) nl)::cel b ⟨129,depC c d.k mb nb⟩::mp idV mb (vals pl)::mp nke nb (vals (D.era nl n))::bag (keep cd_uint8 pl)::N):=hS.to
 have hS:Sat E w (depP c b d.k mb nb pl (D.era nl n) N):=(keep_era n hS).to
 have hk:(d.set n.1 []).k=d.k:=rfl
 exact hQ _ (Dep.shut (d:=d.set n.1 []) (ht.eraN n) rfl hS)
theorem Forget_ok (n:NKey) (hn:n.1.length≤254) {q:List I32} (hq:D.look d.ns n.1=some q) (hql:q.length≤1099511627776) (hS:Sat E w L) [hf:Fnd (Dep c b) L d N]
  (hQ:∀w,Sat E w (Dep c b (d.set n.1 [])::N)→Q (.int .i64 0) w):
  Calls zp 84 #[.pointer (some ⟨b,0,none⟩),nke n] w (retP Q):=by
 refine snap_Forget.calls ?_
 unfold snap_Forget.F
 refine pcq (f:=54) (DRoot_ok (c:=c) hS n (fun q' h=>by rw[hq] at h;cases h;exact hql) (fun h=>by rw[hq] at h;cases h) fun q' _ s w hS=>?_)
 repeat' (first|(refine pcq (f:=59) (DSet0_ok (c:=c) (d:=d) n hn hS ?_);clear hS;intro w hS)|(refine pN_neq_s ?_ ?_<;>intro hc<;>try (exfalso;first|omega|exact gone hc|exact gon2 hc))|refine pIf_f ?_|refine pN_v (hk:=?_)|fail)
 exact hQ _ hS.to
end
end
end
end Go.Proofs.YtikmogfhhggafaaGreatDoor

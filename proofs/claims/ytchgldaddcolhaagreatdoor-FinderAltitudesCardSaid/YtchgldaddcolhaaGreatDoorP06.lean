/- Part of the proof of Rows.FinderAltitudesCardSaid: FaK2, EvX2, EvY. -/
import Derived.Test.YtchgldaddcolhaaGreatDoorP04
set_option linter.all false
namespace Go.Proofs.YtchgldaddcolhaaGreatDoor
open Go
def K149:SFunc:=⟨(rG [ox 4 (.alloc [.lit [],.lit []])]
 (q (q (R [ox 6 (.mov (.x 0))])
 (bl 0 (q (R [oB 8 .eql (.x 6) (i 1),oXT 7 8])
 (k (.x 7) (q (R [ot 9 (.slit [.v (Y [])] 4 [(0,(C (Y [120,120]))),(1,(C (Y [105,110]))),(2,(C (Y [121,121]))),(3,(C (Y [105,110])))]),ot 10 (.slit [.v (Y [])] 3 [(0,(C (Y [120,120]))),(1,(C (Y [121,121]))),(2,(C (Y [49])))]),ot 11 (.build [.lit [],.lit []] [(0,1,.t 9),(1,1,.t 10)]),oS 2 4 11])
 .ret) (q (R [oB 13 .eql (.x 6) (i 2),oXT 12 13])
 (k (.x 12) (q (q (R [ox 14 (.mov (.x 1))])
 (k (.x 14) (q (R [ot 15 (.slit [.v (Y [])] 10 [(0,(C (Y [116]))),(1,(C (Y [105,110]))),(2,(C (Y [109]))),(3,(C (Y [49,32,43,32,116,94,50]))),(4,(C (Y [107]))),(5,(C (Y [49,32,45,32,116,94,50]))),(6,(C (Y [100,120]))),(7,(C (Y [50,32,117,32,97,120,32,43,32,112,32,97,122]))),(8,(C (Y [100,121]))),(9,(C (Y [50,32,117,32,97,121,32,43,32,113,32,97,122])))]),ot 16 (.slit [.v (Y [])] 3 [(0,(C (Y [45,112,32,97,122,32,109,32,43,32,107,32,100,120,32,45,32,50,32,116,32,100,121]))),(1,(C (Y [45,113,32,97,122,32,109,32,43,32,50,32,116,32,100,120,32,43,32,107,32,100,121]))),(2,(C (Y [50,32,117,32,97,122,32,109])))]),ot 17 (.build [.lit [],.lit []] [(0,1,.t 15),(1,1,.t 16)]),oS 2 4 17])
 .ret) .skip))
 (rG [ot 18 (.slit [.v (Y [])] 4 [(0,(C (Y [116]))),(1,(C (Y [105,110]))),(2,(C (Y [110]))),(3,(C (Y [97,94,50,32,43,32,98,94,50])))]),ot 19 (.slit [.v (Y [])] 3 [(0,(C (Y [45,97,32,99,32,45,32,116,32,98,32,110]))),(1,(C (Y [45,98,32,99,32,43,32,116,32,97,32,110]))),(2,(C (Y [110])))]),ot 20 (.build [.lit [],.lit []] [(0,1,.t 18),(1,1,.t 19)]),oS 2 4 20]
 .ret)) (q (q (R [oB 22 .eql (.x 6) (i 3),oXT 21 22])
 (k (.x 21) .skip (R [oB 23 .eql (.x 6) (i 4),oXT 21 23])))
 (k (.x 21) (q (R [oC 24 153 [],ot 25 (.build [.lit [],.lit []] [(0,1,(.c (.lit []))),(1,1,.t 24)]),oS 2 4 25])
 .ret) (q (q (R [oB 27 .eql (.x 6) (i 5),oXT 26 27])
 (k (.x 26) .skip (R [oB 28 .eql (.x 6) (i 6),oXT 26 28])))
 (k (.x 26) (q (R [ot 29 (.slit [.v (Y [])] 12 [(0,(C (Y [119]))),(1,(C (Y [122,50,32,122,51]))),(2,(C (Y [101,120]))),(3,(C (Y [120,51,32,122,50,32,45,32,120,50,32,122,51]))),(4,(C (Y [101,121]))),(5,(C (Y [121,51,32,122,50,32,45,32,121,50,32,122,51]))),(6,(C (Y [100]))),(7,(C (Y [101,120,94,50,32,43,32,101,121,94,50]))),(8,(C (Y [118]))),(9,(C (Y [119,94,50]))),(10,(C (Y [103]))),(11,(C (Y [122,49,94,50])))]),ot 30 (.slit [.v (Y [])] 7 [(0,(C (Y [103,32,118]))),(1,(C (Y [45,50,32,120,49,32,122,49,32,118]))),(2,(C (Y [45,50,32,121,49,32,122,49,32,118]))),(3,(C (Y [40,120,49,94,50,32,43,32,121,49,94,50,41,32,118,32,45,32,103,32,100]))),(4,(C (Y [120,49,32,119,32,43,32,122,49,32,101,120]))),(5,(C (Y [121,49,32,119,32,43,32,122,49,32,101,121]))),(6,(C (Y [122,49,32,119])))]),ot 31 (.build [.lit [],.lit []] [(0,1,.t 29),(1,1,.t 30)]),oS 2 4 31])
 .ret) (q (R [oB 33 .eql (.x 6) (i 7),oXT 32 33])
 (k (.x 32) (q (R [oC 34 155 [(i 3)],ot 35 (.slit [.v (Y [])] 7 [(0,(C (Y [102,49,32,40,103,50,32,104,51,32,45,32,104,50,32,103,51,41,32,45,32,103,49,32,40,102,50,32,104,51,32,45,32,104,50,32,102,51,41,32,43,32,104,49,32,40,102,50,32,103,51,32,45,32,103,50,32,102,51,41]))),(1,(C (Y [45,40,115,49,32,40,103,50,32,104,51,32,45,32,104,50,32,103,51,41,32,45,32,103,49,32,40,115,50,32,104,51,32,45,32,104,50,32,115,51,41,32,43,32,104,49,32,40,115,50,32,103,51,32,45,32,103,50,32,115,51,41,41]))),(2,(C (Y [115,49,32,40,102,50,32,104,51,32,45,32,104,50,32,102,51,41,32,45,32,102,49,32,40,115,50,32,104,51,32,45,32,104,50,32,115,51,41,32,43,32,104,49,32,40,115,50,32,102,51,32,45,32,102,50,32,115,51,41]))),(3,(C (Y [45,40,115,49,32,40,102,50,32,103,51,32,45,32,103,50,32,102,51,41,32,45,32,102,49,32,40,115,50,32,103,51,32,45,32,103,50,32,115,51,41,32,43,32,103,49,32,40,115,50,32,102,51,32,45,32,102,50,32,115,51,41,41]))),(4,(C (Y [120,49]))),(5,(C (Y [121,49]))),(6,(C (Y [122,49])))]),ot 36 (.build [.lit [],.lit []] [(0,1,.t 34),(1,1,.t 35)]),oS 2 4 36])
 .ret) (q (R [oB 38 .eql (.x 6) (i 8),oXT 37 38])
 (k (.x 37) (q (R [ot 39 (.call (.f 211) [(.c (.lit []))]),oS 2 4 39])
 .ret) (q (R [oB 41 .eql (.x 6) (i 9),oXT 40 41])
 (k (.x 40) (q (R [ot 42 (.slit [.v (Y [])] 14 [(0,(C (Y [97]))),(1,(C (Y [117,50,32,112,49,32,45,32,117,49,32,112,50]))),(2,(C (Y [98]))),(3,(C (Y [117,50,32,113,49,32,45,32,117,49,32,113,50]))),(4,(C (Y [99]))),(5,(C (Y [117,50,32,114,49,32,45,32,117,49,32,114,50]))),(6,(C (Y [117]))),(7,(C (Y [117,49]))),(8,(C (Y [112]))),(9,(C (Y [112,49]))),(10,(C (Y [113]))),(11,(C (Y [113,49]))),(12,(C (Y [114]))),(13,(C (Y [114,49])))]),oC 43 211 [.t 42],oS 2 4 43])
 .ret) (q (R [oB 45 .eql (.x 6) (i 15),oXT 44 45])
 (k (.x 44) (q (R [ot 46 (.slit [.v (Y [])] 6 [(0,(C (Y [97]))),(1,(C (Y [50,32,117,32,120,32,43,32,112,32,122]))),(2,(C (Y [98]))),(3,(C (Y [50,32,117,32,121,32,43,32,113,32,122]))),(4,(C (Y [99]))),(5,(C (Y [112,32,120,32,43,32,113,32,121,32,43,32,50,32,114,32,122])))]),oC 47 211 [.t 46],ox 5 (.alloc [.lit [],.lit []]),oS 2 5 47])
 (q (D [dF (oG 48 0 5),dH (oL 49 48),dF (oG 50 1 5),dH (oL 51 50),dH (ot 52 (.idx 1 (.t 51) (i 0))),dH (oL 53 52),dF (oG 54 1 5),dH (oL 55 54),dH (ot 56 (.idx 1 (.t 55) (i 1))),dH (oL 57 56),dF (oG 58 1 5),dH (oL 59 58),dH (ot 60 (.idx 1 (.t 59) (i 2))),dH (oL 61 60),dL (ot 62 (.slit [.v (Y [])] 6 [(0,(C (Y [116,120]))),(1,.t 53),(2,(C (Y [116,121]))),(3,.t 57),(4,(C (Y [116,122]))),(5,.t 61)])),⟨ot 63 (.append 16 1 (.t 49) (.t 62)),.write,0,1⟩,⟨oG 64 0 5,.free,1,1⟩,⟨o0 (.store 1 (.t 64) (.t 63)),.write,1,2⟩])
 (rG [ot 65 (.slit [.v (Y [])] 3 [(0,(C (Y [50,32,117,32,116,120,32,43,32,112,32,116,122]))),(1,(C (Y [50,32,117,32,116,121,32,43,32,113,32,116,122]))),(2,(C (Y [112,32,116,120,32,43,32,113,32,116,121,32,43,32,50,32,114,32,116,122])))]),oG 66 1 5,o0 (.store 1 (.t 66) (.t 65))]
 (rG [ot 67 (.loadn 2 (.x 5)),oS 2 4 67]
 .ret)))) .skip))))))))))))))))))
 (rG [oTX 68 0,oC 69 212 [.t 68],oS 2 4 69]
 .ret))),
 [.loadn 2 (.x 4)],[],false,2⟩
def K150:SFunc:=⟨(rG [ox 2 (.mov (C (Y [])))]
 (rG [oTX 3 0,oC 4 213 [.t 3],oXT 2 4]
 .ret)),
 [.mov (.x 2)],[],false,1⟩
def K151:SFunc:=⟨(rG [oXI 8 0]
 (rG [oTX 9 0,oTX 10 0,ot 11 (.nilck (.t 10)),oF 12 0 11,oF 13 1 12,oL 14 13,oTX 15 1,oTX 16 2,oTX 17 3,ot 18 (.build [p0,p0,p0] [(0,1,.t 15),(1,1,.t 16),(2,1,.t 17)]),ot 19 (.slit [.v (I .i64 0),.v (I .i64 0),.v (I .i64 0)] 1 [(0,.t 18)]),ot 20 (.append 24 3 (.t 14) (.t 19)),ot 21 (.nilck (.t 9)),oF 22 0 21,oF 23 1 22,o0 (.store 1 (.t 23) (.t 20))]
 (rG [oTX 24 0,ot 25 (.nilck (.t 24)),oF 26 0 25,oF 27 1 26,oL 28 27,oJ 29 28,oB 30 .sub (.t 29) (i 1),oXT 8 30]
 .ret))),
 [.mov (.x 8)],[],false,4⟩
def K152:SFunc:=⟨(rG [ox 2 (.box (.x 0)),oXI 4 0]
 (rG [oTX 9 1,ot 10 (.build [.p (.v (Y [])),p0] [(0,1,.t 9)]),ot 11 (.box (.t 10)),ox 5 (.alloc [.p (.v (.pointer none))]),oS 1 5 11]
 (rG [ox 6 (.alloc [.p (.v (.nilFunc))])]
 (rG [ot 12 (.mkfn (.func 214) [] [.x 5,.x 6,.x 2]),ox 7 (.alloc [.p (.v (.nilFunc))]),oS 1 7 12]
 (rG [ot 13 (.mkfn (.func 218) [] [.x 7,.x 5,.x 2]),ox 8 (.alloc [.p (.v (.nilFunc))]),oS 1 8 13]
 (rG [ot 14 (.mkfn (.func 219) [] [.x 5,.x 2,.x 8]),oS 1 6 14]
 (rG [ot 15 (.load1 (.x 6)),ot 16 (.call (.t 15) []),oXT 4 16]
 .ret))))))),
 [.mov (.x 4)],[],false,2⟩
def K153:SFunc:=⟨(rG [oN 0]
 (rG [ot 1 (.slit [.v (Y [])] 3 [(0,(C (Y [121,49,32,122,50,32,45,32,122,49,32,121,50]))),(1,(C (Y [122,49,32,120,50,32,45,32,120,49,32,122,50]))),(2,(C (Y [120,49,32,121,50,32,45,32,121,49,32,120,50])))]),oXT 0 1]
 .ret)),
 [.mov (.x 0)],[],false,0⟩
def K156:SFunc:=⟨(rG [oXI 4 0]
 (rG [oTX 5 0,oTX 6 1,oB 7 .rem (.t 5) (.t 6),oTX 8 1,oB 9 .add (.t 7) (.t 8),oTX 10 1,oB 11 .rem (.t 9) (.t 10),oXT 4 11]
 .ret)),
 [.mov (.x 4)],[],false,2⟩
def K157:SFunc:=⟨(rG [ox 1 (.box (.x 0)),oXI 2 0]
 (q (q (R [oG 10 0 1,oL 11 10,oB 12 .lss (.t 11) (i 0),oM 13 12,gF 14 (.fadr 0 (.x 1)) 13,gF 15 (.load1 (.t 14)) 13,gF 16 (.bin .gtr (.t 15) (i 20)) 13,ot 17 (.pick (.t 13) (C bT) (.t 16)),oM 18 17,gF 19 (.fadr 1 (.x 1)) 18,gF 20 (.load1 (.t 19)) 18,gF 21 (.len (.t 20)) 18,gF 22 (.bin .gtr (.t 21) (i 8192)) 18,ot 23 (.pick (.t 18) (C bT) (.t 22)),oM 24 23,gF 25 (.fadr 3 (.x 1)) 24,gF 26 (.load1 (.t 25)) 24,gF 27 (.len (.t 26)) 24,gF 28 (.bin .gtr (.t 27) (i 5)) 24,ox 29 (.pick (.t 24) (C bT) (.t 28))])
 (k (.x 29) (q (R [oXI 2 3])
 .ret) .skip))
 (rG [oXI 3 0]
 (q (q (R [oG 30 1 1,ox 31 (.load1 (.t 30)),ox 32 (.len (.x 31)),oXI 33 0])
 (bl 0 (lp (q (R [ox 34 (.bin .lss (.x 33) (.x 32))])
 (q (k (.x 34) .skip (ex 0))
 (q (bl 1 (q (R [oTX 35 33,ot 36 (.idx 3 (.x 31) (.x 33)),ot 37 (.loadn 3 (.t 36)),ox 5 (.alloc [p0,p0,p0]),oXT 4 35,oS 3 5 37])
 (q (q (R [ot 38 (.loadn 3 (.x 5)),oTX 39 4,oG 40 0 1,oL 41 40,oC 42 220 [.t 38,.t 39,.t 41],ox 43 (.un .not (.t 42))])
 (k (.x 43) (q (R [oXI 2 3])
 .ret) .skip))
 (q (q (R [oG 44 0 5,oL 45 44,ox 46 (.bin .neq (.t 45) (i 6))])
 (k (.x 46) (ex 1) .skip))
 (q (q (R [oTX 47 3,oG 48 3 1,oL 49 48,oJ 50 49,oB 51 .eql (.t 47) (.t 50),oM 52 51,gF 53 (.fadr 3 (.x 1)) 52,gF 54 (.load1 (.t 53)) 52,gF 55 (.mov (.x 3)) 52,gF 56 (.idx 1 (.t 54) (.t 55)) 52,gF 57 (.load1 (.t 56)) 52,gF 58 (.mov (.x 4)) 52,gF 59 (.bin .neq (.t 57) (.t 58)) 52,ox 60 (.pick (.t 52) (C bT) (.t 59))])
 (k (.x 60) (q (R [oXI 2 3])
 .ret) .skip))
 (R [oTX 61 3,oB 62 .add (.t 61) (i 1),oXT 3 62]))))))
 (R [oB 63 .add (.x 33) (i 1),oXT 33 63])))))))
 (q (q (R [oTX 64 3,oG 65 3 1,oL 66 65,oJ 67 66,ox 68 (.bin .neq (.t 64) (.t 67))])
 (k (.x 68) (q (R [oXI 2 3])
 .ret) .skip))
 (q (q (R [oG 69 2 1,ox 70 (.load1 (.t 69)),ox 71 (.len (.x 70)),oXI 72 0])
 (bl 2 (lp (q (R [ox 73 (.bin .lss (.x 72) (.x 71))])
 (q (k (.x 73) .skip (ex 2))
 (q (bl 3 (q (R [ot 74 (.idx 1 (.x 70) (.x 72)),oL 75 74,oXT 7 75])
 (q (q (R [oTX 76 7,oJ 77 76,oB 78 .neq (.t 77) (i 3),oM 79 78,gT 80 (.mov (.x 7)) 79,gT 81 (.len (.t 80)) 79,gT 82 (.bin .neq (.t 81) (i 7)) 79,ox 83 (.pick (.t 79) (.t 82) (C bF))])
 (k (.x 83) (q (R [oXI 2 3])
 .ret) .skip))
 (rG [ox 84 (.mov (.x 7)),ox 85 (.len (.x 84)),oXI 86 0]
 (bl 4 (lp (q (R [ox 87 (.bin .lss (.x 86) (.x 85))])
 (q (k (.x 87) .skip (ex 4))
 (q (bl 5 (q (R [ot 88 (.idx 1 (.x 84) (.x 86)),oL 89 88,oXT 9 89])
 (rG [oTX 90 9,oB 91 .lss (.t 90) (i 0),oM 92 91,gF 93 (.mov (.x 9)) 92,gF 94 (.fadr 1 (.x 1)) 92,gF 95 (.load1 (.t 94)) 92,gF 96 (.len (.t 95)) 92,gF 97 (.bin .geq (.t 93) (.t 96)) 92,ox 98 (.pick (.t 92) (C bT) (.t 97))]
 (k (.x 98) (q (R [oXI 2 3])
 .ret) .skip))))
 (R [oB 99 .add (.x 86) (i 1),oXT 86 99]))))))))))
 (R [oB 100 .add (.x 72) (i 1),oXT 72 100])))))))
 (rG [oXI 2 0]
 .ret))))))),
 [.mov (.x 2)],[],false,1⟩
def K158:SFunc:=⟨(rG [oXI 3 0]
 (rG [oTX 5 0,ot 6 (.load1 (.x 1)),oC 7 94 [.t 5,.t 6],oM 4 7,oE 8 4 0,oE 9 4 1,oXT 0 8]
 (rG [oTX 10 0,oXT 3 10]
 .ret))),
 [.mov (.x 3)],[],false,2⟩
def K159:SFunc:=⟨(rG [oXI 5 0]
 (rG [oTX 6 0,oTX 7 1,oB 8 .add (.t 6) (.t 7),ot 9 (.load1 (.x 2)),oB 10 .rem (.t 8) (.t 9),oXT 5 10]
 .ret)),
 [.mov (.x 5)],[],false,3⟩
def K160:SFunc:=⟨(rG [oXI 5 0]
 (rG [oTX 6 0,ot 7 (.load1 (.x 2)),oB 8 .add (.t 6) (.t 7),oTX 9 1,oB 10 .sub (.t 8) (.t 9),ot 11 (.load1 (.x 2)),oB 12 .rem (.t 10) (.t 11),oXT 5 12]
 .ret)),
 [.mov (.x 5)],[],false,3⟩
def K161:SFunc:=⟨(rG [oXI 5 0]
 (rG [oTX 6 0,oTX 7 1,oB 8 .mul (.t 6) (.t 7),ot 9 (.load1 (.x 2)),oB 10 .rem (.t 8) (.t 9),oXT 5 10]
 .ret)),
 [.mov (.x 5)],[],false,3⟩
def K164:SFunc:=⟨(rG [ox 1 (.box (.x 0)),oN 2,oN 3,oXI 4 0]
 (rG [oG 11 0 1,oL 12 11,ot 13 (.build [p0,.lit [],p0] [(0,1,.t 12)]),ot 14 (.box (.t 13)),oXT 5 14]
 (rG [oG 15 0 1,oL 16 15,ot 17 (.mkslice 24 [.nsl] (.t 16) (.t 16)),oXT 6 17]
 (q (q (R [oTX 18 6,ox 19 (.len (.t 18)),oXI 20 0])
 (bl 0 (lp (q (R [ox 21 (.bin .lss (.x 20) (.x 19))])
 (q (k (.x 21) .skip (ex 0))
 (q (bl 1 (q (R [oTX 22 20,oXT 7 22])
 (R [oTX 23 6,oTX 24 7,oTX 25 5,oTX 26 7,oC 27 223 [.t 26],oE 28 27 0,oE 29 27 1,oC 30 222 [.t 25,.t 28,.t 29],oI 31 1 23 24,o0 (.store 1 (.t 31) (.t 30))])))
 (R [oB 32 .add (.x 20) (i 1),oXT 20 32])))))))
 (rG [oTX 33 5,ot 34 (.mkfn (.func 224) [.t 33] []),oTX 35 5,ot 36 (.mkfn (.func 225) [.t 35] []),oTX 37 5,ot 38 (.mkfn (.func 226) [.t 37] []),oTX 39 5,ot 40 (.mkfn (.func 227) [.t 39] []),oTX 41 5,ot 42 (.mkfn (.func 228) [.t 41] []),ot 43 (.build [.p (.v (.nilFunc)),.p (.v (.nilFunc)),.p (.v (.nilFunc)),.p (.v (.nilFunc)),.p (.v (.nilFunc))] [(0,1,.t 34),(1,1,.t 36),(2,1,.t 38),(3,1,.t 40),(4,1,.t 42)]),ox 8 (.alloc [.p (.v (.nilFunc)),.p (.v (.nilFunc)),.p (.v (.nilFunc)),.p (.v (.nilFunc)),.p (.v (.nilFunc))]),oS 5 8 43]
 (rG [ot 45 (.loadn 4 (.x 1)),ot 46 (.loadn 5 (.x 8)),oTX 47 6,oC 48 229 [.t 45,.t 46,.t 47],oM 44 48,oE 49 44 0,oE 50 44 1,oXT 9 49,oXT 10 50]
 (q (q (R [oTX 51 10,ox 52 (.bin .eql (.t 51) (i 0))])
 (k (.x 52) (R [oTX 53 5,ot 54 (.nilck (.t 53)),oF 55 2 54,oL 56 55,oXT 10 56]) .skip))
 (q (q (R [oTX 57 10,ox 58 (.bin .neq (.t 57) (i 0))])
 (k (.x 58) (q (R [oTX 59 10,oN 2,oN 3,oXT 4 59])
 .ret) .skip))
 (q (D [dF (oTX 60 9),dF (oTX 61 5),dF (ot 62 (.nilck (.t 61))),dF (oF 63 1 62),dH (oL 64 63),dF (oXT 2 60),dF (oXT 3 64),dF (oXI 4 0)])
 .ret))))))))),
 [.mov (.x 2),.mov (.x 3),.mov (.x 4)],[],false,1⟩
def K165:SFunc:=⟨(rG [oN 4]
 (rG [oN 5]
 (q (q (R [ox 8 (.mov (.x 1)),ox 9 (.len (.x 8)),oXI 10 0])
 (bl 0 (lp (q (R [ox 11 (.bin .lss (.x 10) (.x 9))])
 (q (k (.x 11) .skip (ex 0))
 (q (bl 1 (q (R [ot 12 (.idx 1 (.x 8) (.x 10)),oL 13 12,oXT 7 13])
 (R [oTX 14 5,oTX 15 0,oTX 16 7,oI 17 1 15 16,oL 18 17,oC 19 99 [.t 18],ot 20 (.slit [.sl []] 1 [(0,.t 19)]),ot 21 (.append 24 1 (.t 14) (.t 20)),oXT 5 21])))
 (R [oB 22 .add (.x 10) (i 1),oXT 10 22])))))))
 (rG [oTX 23 5,oXT 4 23]
 .ret)))),
 [.mov (.x 4)],[],false,2⟩
def K168:SFunc:=⟨(rG [ox 1 (.box (.x 0)),ox 2 (.alloc [pF,.lit []])]
 (rG [oG 4 1 1,oL 5 4,oJ 6 5,ot 7 (.mkslice 4 [.v (I .u32 0)] (.t 6) (.t 6)),oXT 3 7]
 (rG [oTX 8 3,oG 9 1 1,oL 10 9,ot 11 (.copy 1 (.t 8) (.t 10))]
 (rG [oG 12 0 1,oL 13 12,oTX 14 3,ot 15 (.build [pF,.lit []] [(0,1,.t 13),(1,1,.t 14)]),oS 2 2 15]
 .ret)))),
 [.loadn 2 (.x 2)],[],false,1⟩
def K175:SFunc:=⟨(rG [ox 1 (.box (.x 0)),oK 2]
 (rG [oG 3 0 1,oL 4 3,ot 5 (.un .not (.t 4)),oM 6 5,gT 7 (.fadr 1 (.x 1)) 6,gT 8 (.load1 (.t 7)) 6,gT 9 (.len (.t 8)) 6,gT 10 (.bin .eql (.t 9) (i 1)) 6,ot 11 (.pick (.t 6) (.t 10) (C bF)),oM 12 11,gT 13 (.fadr 1 (.x 1)) 12,gT 14 (.load1 (.t 13)) 12,gT 15 (.idx 1 (.t 14) (i 0)) 12,gT 16 (.load1 (.t 15)) 12,gT 17 (.bin .eql (.t 16) (C (I .u32 1))) 12,ot 18 (.pick (.t 12) (.t 17) (C bF)),oXT 2 18]
 .ret)),
 [.mov (.x 2)],[],false,1⟩
def K176:SFunc:=⟨(rG [oXI 4 0]
 (q (q (R [oTX 6 0,ox 7 (.len (.t 6)),oXI 8 0])
 (bl 0 (lp (q (R [ox 9 (.bin .lss (.x 8) (.x 7))])
 (q (k (.x 9) .skip (ex 0))
 (q (bl 1 (q (R [oTX 10 8,oXT 5 10])
 (rG [oTX 11 1,oTX 12 0,oTX 13 5,oI 14 12 12 13,ot 15 (.loadn 12 (.t 14)),ox 16 (.call (.t 11) [.t 15])]
 (k (.x 16) (q (R [oTX 17 5,oXT 4 17])
 .ret) .skip))))
 (R [oB 18 .add (.x 8) (i 1),oXT 8 18])))))))
 (rG [ox 4 (.mov (i (-1)))]
 .ret))),
 [.mov (.x 4)],[],false,2⟩
def K177:SFunc:=⟨(rG [ox 4 (.mov (C (I .u64 0))),ox 5 (.mov (C (I .u64 0)))]
 (q (k (C bF) (q (R [oTX 11 0,ot 12 (.conv .u32 (.t 11)),oTX 13 1,ot 14 (.conv .u32 (.t 13)),oC 15 247 [.t 12,.t 14],oM 10 15,oE 16 10 0,oE 17 10 1,oXT 6 16,oXT 7 17])
 (rG [oTX 18 6,ot 19 (.conv .u64 (.t 18)),oTX 20 7,ot 21 (.conv .u64 (.t 20)),oXT 4 19,oXT 5 21]
 .ret)) .skip)
 (rG [oTX 23 0,oTX 24 1,oC 25 248 [.t 23,.t 24],oM 22 25,oE 26 22 0,oE 27 22 1,oXT 8 26,oXT 9 27]
 (rG [oTX 28 8,oTX 29 9,oXT 4 28,oXT 5 29]
 .ret)))),
 [.mov (.x 4),.mov (.x 5)],[],false,2⟩
def K178:SFunc:=⟨(rG [ox 2 (.box (.x 0)),oN 4]
 (q (q (R [ox 6 (.mov (.x 1))])
 (bl 0 (.range (.x 6) [7] (R [ox 5 (.mov (.x 7))])
 (bl 1 (R [ot 8 (.load1 (.x 2)),oTX 9 5,ot 10 (.slit [.v (I .i64 0)] 1 [(0,.t 9)]),ot 11 (.append 8 1 (.t 8) (.t 10)),oS 1 2 11])))))
 (rG [ot 12 (.load1 (.x 2)),oXT 4 12]
 .ret))),
 [.mov (.x 4)],[0],true,2⟩
def K179:SFunc:=⟨(rG [ox 8 (.mov (C bT))]
 (rG [ox 9 (.mov (C bT))]
 (bl 0 (lp (bl 1 (q (R [oTX 19 2,oTX 20 1,oB 21 .sub (.t 19) (.t 20),oXT 10 21])
 (q (q (R [oTX 22 10,ox 23 (.bin .leq (.t 22) (i 12))])
 (k (.x 23) (q (R [oTX 24 0,oTX 25 1,oTX 26 2,oC 27 249 [.t 24,.t 25,.t 26]])
 .ret) .skip))
 (q (q (R [oTX 28 3,ox 29 (.bin .eql (.t 28) (i 0))])
 (k (.x 29) (q (R [oTX 30 0,oTX 31 1,oTX 32 2,oC 33 250 [.t 30,.t 31,.t 32]])
 .ret) .skip))
 (q (q (R [oTX 34 8,ox 35 (.un .not (.t 34))])
 (k (.x 35) (q (R [oTX 36 0,oTX 37 1,oTX 38 2,oC 39 251 [.t 36,.t 37,.t 38]])
 (R [oTX 40 3,oB 41 .sub (.t 40) (i 1),oXT 3 41])) .skip))
 (rG [oTX 43 0,oTX 44 1,oTX 45 2,oC 46 252 [.t 43,.t 44,.t 45],oM 42 46,oE 47 42 0,oE 48 42 1,oXT 11 47,oXT 12 48]
 (q (q (R [oTX 49 12,ox 50 (.bin .eql (.t 49) (i 2))])
 (k (.x 50) (q (R [oTX 51 0,oTX 52 1,oTX 53 2,oC 54 253 [.t 51,.t 52,.t 53]])
 (rG [oTX 55 2,oB 56 .sub (.t 55) (i 1),oTX 57 11,oTX 58 1,oB 59 .sub (.t 57) (.t 58),oB 60 .sub (.t 56) (.t 59),oXT 11 60]
 (R [oXI 12 1]))) .skip))
 (q (q (R [oTX 61 8,oM 62 61,gT 63 (.mov (.x 9)) 62,ot 64 (.pick (.t 62) (.t 63) (C bF)),oM 65 64,gT 66 (.mov (.x 12)) 65,gT 67 (.bin .eql (.t 66) (i 1)) 65,ox 68 (.pick (.t 65) (.t 67) (C bF))])
 (k (.x 68) (q (R [oTX 69 0,oTX 70 1,oTX 71 2,ox 72 (.call (.f 254) [.t 69,.t 70,.t 71])])
 (k (.x 72) .ret .skip)) .skip))
 (q (q (D [dF (oTX 73 1),dF (oB 74 .gtr (.t 73) (i 0)),dF (oM 75 74),dF (gT 76 (.mov (.x 0)) 75),dF (gT 77 (.mov (.x 1)) 75),dF (gT 78 (.bin .sub (.t 77) (i 1)) 75),dH (gT 79 (.idx 1 (.t 76) (.t 78)) 75),dH (gT 80 (.load1 (.t 79)) 75),dF (gT 81 (.mov (.x 0)) 75),dF (gT 82 (.mov (.x 11)) 75),dH (gT 83 (.idx 1 (.t 81) (.t 82)) 75),dH (gT 84 (.load1 (.t 83)) 75),⟨gT 85 (.call (.f 255) [.t 80,.t 84]) 75,.write,0,1⟩,⟨gT 86 (.un .not (.t 85)) 75,.free,1,1⟩,⟨ox 87 (.pick (.t 75) (.t 86) (C bF)),.free,1,1⟩])
 (k (.x 87) (q (R [oTX 88 0,oTX 89 1,oTX 90 2,oTX 91 11,oC 92 256 [.t 88,.t 89,.t 90,.t 91],oXT 13 92])
 (rG [oTX 93 13,oXT 1 93]
 (ex 1))) .skip))
 (rG [oTX 95 0,oTX 96 1,oTX 97 2,oTX 98 11,oC 99 257 [.t 95,.t 96,.t 97,.t 98],oM 94 99,oE 100 94 0,oE 101 94 1,oXT 14 100,oXT 15 101]
 (rG [oTX 102 15,oXT 9 102]
 (rG [oTX 103 14,oTX 104 1,oB 105 .sub (.t 103) (.t 104),oTX 106 2,oTX 107 14,oB 108 .sub (.t 106) (.t 107),oXT 16 105,oXT 17 108]
 (rG [oTX 109 10,oB 110 .quo (.t 109) (i 8),oXT 18 110]
 (rG [oTX 111 16,oTX 112 17,ox 113 (.bin .lss (.t 111) (.t 112))]
 (k (.x 113) (q (R [oTX 114 16,oTX 115 18,oB 116 .geq (.t 114) (.t 115),oXT 8 116])
 (rG [oTX 117 0,oTX 118 1,oTX 119 14,oTX 120 3,oC 121 179 [.t 117,.t 118,.t 119,.t 120]]
 (R [oTX 122 14,oB 123 .add (.t 122) (i 1),oXT 1 123]))) (q (R [oTX 124 17,oTX 125 18,oB 126 .geq (.t 124) (.t 125),oXT 8 126])
 (rG [oTX 127 0,oTX 128 14,oB 129 .add (.t 128) (i 1),oTX 130 2,oTX 131 3,oC 132 179 [.t 127,.t 129,.t 130,.t 131]]
 (R [oTX 133 14,oXT 2 133])))))))))))))))))))))),
 [],[0],false,4⟩
def K180:SFunc:=⟨(rG [oXI 2 0]
 (q (k (C bF) (q (R [oTX 3 0,ot 4 (.conv .u32 (.t 3)),oC 5 258 [.t 4],oXT 2 5])
 .ret) .skip)
 (rG [oTX 6 0,oC 7 259 [.t 6],oXT 2 7]
 .ret))),
 [.mov (.x 2)],[],false,1⟩
def K181:SFunc:=⟨(rG [oK 4]
 (rG [oTX 12 0,oTX 13 1,oI 14 12 12 13,ot 15 (.loadn 12 (.t 14)),ox 5 (.alloc [.p (.v (Y [])),p0,.lit [],pF,.lit [],pF,.lit [],pF,.lit [],pF,.lit [],p0]),oS 12 5 15]
 (rG [oG 17 1 5,oL 18 17,oC 19 183 [.t 18],oM 16 19,oE 20 16 0,oE 21 16 1,oE 22 16 2,oXT 6 20,oM 7 21,oXT 8 22]
 (q (q (R [oG 23 1 5,oL 24 23,oB 25 .lss (.t 24) (i 1),oM 26 25,gF 27 (.fadr 1 (.x 5)) 26,gF 28 (.load1 (.t 27)) 26,gF 29 (.bin .gtr (.t 28) (i 16)) 26,ot 30 (.pick (.t 26) (C bT) (.t 29)),oM 31 30,gF 32 (.fadr 2 (.x 5)) 31,gF 33 (.load1 (.t 32)) 31,gF 34 (.len (.t 33)) 31,gF 35 (.mov (.x 6)) 31,gF 36 (.len (.t 35)) 31,gF 37 (.bin .neq (.t 34) (.t 36)) 31,ot 38 (.pick (.t 31) (C bT) (.t 37)),oM 39 38,gF 40 (.fadr 0 (.x 5)) 39,gF 41 (.load1 (.t 40)) 39,gF 42 (.bin .eql (.t 41) (C (Y []))) 39,ox 43 (.pick (.t 39) (C bT) (.t 42))])
 (k (.x 43) (q (R [oK 4])
 .ret) .skip))
 (q (q (R [oXI 9 0])
 (bl 0 (lp (q (q (R [oTX 44 9,oTX 45 6,oJ 46 45,ox 47 (.bin .lss (.t 44) (.t 46))])
 (k (.x 47) .skip (ex 0)))
 (q (bl 1 (q (R [oG 50 2 5,oL 51 50,oTX 52 9,oI 53 1 51 52,oL 54 53,oXT 10 54])
 (q (D [dF (oTX 55 10),dF (oB 56 .lss (.t 55) (i 0)),dF (oM 57 56),dF (gF 58 (.mov (.x 10)) 57),dF (gF 59 (.mov (.x 1)) 57),dF (gF 60 (.bin .geq (.t 58) (.t 59)) 57),dF (ot 61 (.pick (.t 57) (C bT) (.t 60))),dF (oM 62 61),dF (gF 63 (.mov (.x 0)) 62),dF (gF 64 (.mov (.x 10)) 62),dH (gF 65 (.idx 12 (.t 63) (.t 64)) 62),dF (gF 66 (.fadr 1 (.t 65)) 62),dH (gF 67 (.load1 (.t 66)) 62),⟨gF 68 (.call (.f 261) [.t 67]) 62,.write,0,1⟩,⟨gF 69 (.mov (.x 6)) 62,.free,0,1⟩,⟨gF 70 (.mov (.x 9)) 62,.free,0,1⟩,⟨gF 71 (.idx 1 (.t 69) (.t 70)) 62,.read,0,1⟩,⟨gF 72 (.load1 (.t 71)) 62,.read,0,1⟩,⟨gF 73 (.call (.f 260) [.t 68,.t 72]) 62,.write,1,2⟩,⟨gF 74 (.un .not (.t 73)) 62,.free,2,2⟩,⟨ox 75 (.pick (.t 62) (C bT) (.t 74)),.free,2,2⟩])
 (k (.x 75) (q (R [oK 4])
 .ret) .skip))))
 (R [oTX 48 9,oB 49 .add (.t 48) (i 1),oXT 9 49]))))))
 (q (q (R [oXI 11 0])
 (bl 2 (lp (q (q (R [oTX 76 11,oTX 77 1,ox 78 (.bin .lss (.t 76) (.t 77))])
 (k (.x 78) .skip (ex 2)))
 (q (bl 3 (q (D [dF (oTX 81 0),dF (oTX 82 11),dH (oI 83 12 81 82),dF (oF 84 0 83),dH (oL 85 84),dF (oG 86 0 5),dH (oL 87 86),dF (ox 88 (.bin .eql (.t 85) (.t 87)))])
 (k (.x 88) (q (R [oK 4])
 .ret) .skip)))
 (R [oTX 79 11,oB 80 .add (.t 79) (i 1),oXT 11 80]))))))
 (q (q (R [oTX 89 8,oM 90 89,gT 91 (.fadr 11 (.x 5)) 90,gT 92 (.load1 (.t 91)) 90,gT 93 (.bin .neq (.t 92) (i 1)) 90,ot 94 (.pick (.t 90) (.t 93) (C bF)),oM 95 94,gT 96 (.fadr 11 (.x 5)) 95,gT 97 (.load1 (.t 96)) 95,gT 98 (.bin .neq (.t 97) (i 2)) 95,ot 99 (.pick (.t 95) (.t 98) (C bF)),oM 100 99,gF 101 (.mov (.x 8)) 100,gF 102 (.un .not (.t 101)) 100,gF 103 (.mov (.t 102)) 100,gT 104 (.fadr 11 (.x 5)) 103,gT 105 (.load1 (.t 104)) 103,gT 106 (.bin .neq (.t 105) (i 0)) 103,gF 107 (.pick (.t 103) (.t 106) (C bF)) 100,ox 108 (.pick (.t 100) (C bT) (.t 107))])
 (k (.x 108) (q (R [oK 4])
 .ret) .skip))
 (q (q (R [oG 109 1 5,ox 110 (.load1 (.t 109))])
 (bl 4 (q (R [oB 112 .eql (.x 110) (i 1),oXT 111 112])
 (k (.x 111) (q (R [oG 113 3 5,ot 114 (.loadn 4 (.t 113)),oC 115 262 [.t 114],oM 116 115,gT 117 (.fadr 7 (.x 5)) 116,gT 118 (.loadn 4 (.t 117)) 116,gT 119 (.call (.f 262) [.t 118]) 116,ot 120 (.pick (.t 116) (.t 119) (C bF)),oXT 4 120])
 .ret) (q (R [oB 122 .eql (.x 110) (i 2),oXT 121 122])
 (k (.x 121) (q (R [oG 123 3 5,ot 124 (.loadn 4 (.t 123)),oC 125 262 [.t 124],oM 126 125,gT 127 (.fadr 7 (.x 5)) 126,gT 128 (.loadn 4 (.t 127)) 126,gT 129 (.call (.f 263) [.t 128]) 126,ot 130 (.pick (.t 126) (.t 129) (C bF)),oXT 4 130])
 .ret) .skip))))))
 (rG [oG 131 3 5,ot 132 (.loadn 4 (.t 131)),oC 133 263 [.t 132],oM 134 133,gT 135 (.fadr 7 (.x 5)) 134,gT 136 (.loadn 4 (.t 135)) 134,gT 137 (.call (.f 263) [.t 136]) 134,ot 138 (.pick (.t 134) (.t 137) (C bF)),oXT 4 138]
 .ret))))))))),
 [.mov (.x 4)],[],false,2⟩
def K182:SFunc:=⟨(rG [oN 2]
 (rG [oN 3]
 (q (q (R [oXI 4 0])
 (bl 0 (lp (q (q (R [oTX 5 4,oTX 6 0,oJ 7 6,ox 8 (.bin .lss (.t 5) (.t 7))])
 (k (.x 8) .skip (ex 0)))
 (q (bl 1 (q (R [oTX 11 0,oTX 12 4,oI 13 12 11 12,oF 14 1 13,ox 15 (.load1 (.t 14))])
 (bl 2 (q (R [oB 17 .eql (.x 15) (i 1),oXT 16 17])
 (k (.x 16) (R [oTX 18 3,oTX 19 4,ot 20 (.build [p0,p0] [(0,1,.t 19),(1,1,(i 0))]),oTX 21 4,ot 22 (.build [p0,p0] [(0,1,.t 21),(1,1,(i 1))]),ot 23 (.slit [.v (I .i64 0),.v (I .i64 0)] 2 [(0,.t 20),(1,.t 22)]),ot 24 (.append 16 2 (.t 18) (.t 23)),oXT 3 24]) (q (R [oB 26 .eql (.x 15) (i 2),oXT 25 26])
 (k (.x 25) (R [oTX 27 3,oTX 28 4,ot 29 (.build [p0,p0] [(0,1,.t 28),(1,1,(i 0))]),ot 30 (.slit [.v (I .i64 0),.v (I .i64 0)] 1 [(0,.t 29)]),ot 31 (.append 16 2 (.t 27) (.t 30)),oXT 3 31]) .skip)))))))
 (R [oTX 9 4,oB 10 .add (.t 9) (i 1),oXT 4 10]))))))
 (rG [oTX 32 3,oXT 2 32]
 .ret)))),
 [.mov (.x 2)],[],false,1⟩
def K183:SFunc:=⟨(rG [oN 2,oXI 3 0,oK 4]
 (q (q (R [ox 5 (.mov (.x 0))])
 (bl 0 (q (R [oB 7 .eql (.x 5) (i 1),oXT 6 7])
 (k (.x 6) (q (R [oN 2,oXI 3 1,oK 4])
 .ret) (q (R [oB 9 .eql (.x 5) (i 2),oXT 8 9])
 (k (.x 8) (q (R [ot 10 (.slit [.v (I .i64 0)] 1 [(0,(i 0))]),oXT 2 10,oXI 3 1,oK 4])
 .ret) (q (R [oB 12 .eql (.x 5) (i 3),oXT 11 12])
 (k (.x 11) (q (R [ot 13 (.slit [.v (I .i64 0)] 2 [(0,(i 1)),(1,(i 1))]),oXT 2 13,oXI 3 2,oK 4])
 .ret) (q (R [oB 15 .eql (.x 5) (i 4),oXT 14 15])
 (k (.x 14) (q (R [ot 16 (.slit [.v (I .i64 0)] 2 [(0,(i 2)),(1,(i 2))]),oXT 2 16,oXI 3 1,oK 4])
 .ret) (q (R [oB 18 .eql (.x 5) (i 5),oXT 17 18])
 (k (.x 17) (q (R [ot 19 (.slit [.v (I .i64 0)] 2 [(0,(i 1)),(1,(i 1))]),oXT 2 19,oXI 3 3,oK 4])
 .ret) (q (q (R [oB 21 .eql (.x 5) (i 6),oXT 20 21])
 (k (.x 20) .skip (R [oB 22 .eql (.x 5) (i 7),oXT 20 22])))
 (k (.x 20) (q (R [ot 23 (.slit [.v (I .i64 0)] 3 [(0,(i 1)),(1,(i 1)),(2,(i 1))]),oXT 2 23,oXI 3 3,oK 4])
 .ret) (q (R [oB 25 .eql (.x 5) (i 8),oXT 24 25])
 (k (.x 24) (q (R [ot 26 (.slit [.v (I .i64 0)] 2 [(0,(i 2)),(1,(i 3))]),oXT 2 26,oXI 3 1,ox 4 (.mov (C bT))])
 .ret) (q (R [oB 28 .eql (.x 5) (i 9),oXT 27 28])
 (k (.x 27) (q (R [ot 29 (.slit [.v (I .i64 0)] 2 [(0,(i 3)),(1,(i 3))]),oXT 2 29,oXI 3 1,ox 4 (.mov (C bT))])
 .ret) (q (q (R [oB 31 .eql (.x 5) (i 10),oXT 30 31])
 (k (.x 30) .skip (R [oB 32 .eql (.x 5) (i 11),oXT 30 32])))
 (k (.x 30) (q (R [ot 33 (.slit [.v (I .i64 0)] 2 [(0,(i 1)),(1,(i 2))]),oXT 2 33,oXI 3 2,oK 4])
 .ret) (q (R [oB 35 .eql (.x 5) (i 12),oXT 34 35])
 (k (.x 34) (q (R [ot 36 (.slit [.v (I .i64 0)] 2 [(0,(i 1)),(1,(i 1))]),oXT 2 36,oXI 3 1,oK 4])
 .ret) (q (R [oB 38 .eql (.x 5) (i 13),oXT 37 38])
 (k (.x 37) (q (R [ot 39 (.slit [.v (I .i64 0)] 2 [(0,(i 1)),(1,(i 2))]),oXT 2 39,oXI 3 1,oK 4])
 .ret) (q (R [oB 41 .eql (.x 5) (i 14),oXT 40 41])
 (k (.x 40) (q (R [ot 42 (.slit [.v (I .i64 0)] 3 [(0,(i 1)),(1,(i 1)),(2,(i 1))]),oXT 2 42,oXI 3 2,ox 4 (.mov (C bT))])
 .ret) (q (R [oB 44 .eql (.x 5) (i 15),oXT 43 44])
 (k (.x 43) (q (R [ot 45 (.slit [.v (I .i64 0)] 2 [(0,(i 1)),(1,(i 3))]),oXT 2 45,oXI 3 2,ox 4 (.mov (C bT))])
 .ret) (q (R [oB 47 .eql (.x 5) (i 16),oXT 46 47])
 (k (.x 46) (q (R [ot 48 (.slit [.v (I .i64 0)] 1 [(0,(i 3))]),oXT 2 48,oXI 3 1,oK 4])
 .ret) .skip))))))))))))))))))))))))))))))
 (rG [oN 2,oXI 3 0,oK 4]
 .ret))),
 [.mov (.x 2),.mov (.x 3),.mov (.x 4)],[],false,1⟩
def K184:SFunc:=⟨(rG [oK 4]
 (q (q (R [oTX 6 0,oJ 7 6,oTX 8 1,ox 9 (.bin .neq (.t 7) (.t 8))])
 (k (.x 9) (q (R [oK 4])
 .ret) .skip))
 (q (q (R [oXI 5 0])
 (bl 0 (lp (q (q (R [oTX 10 5,oTX 11 0,oJ 12 11,ox 13 (.bin .lss (.t 10) (.t 12))])
 (k (.x 13) .skip (ex 0)))
 (q (bl 1 (q (R [oTX 16 0,oTX 17 5,oI 18 1 16 17,oL 19 18,oB 20 .neq (.t 19) (i 1),oM 21 20,gT 22 (.mov (.x 0)) 21,gT 23 (.mov (.x 5)) 21,gT 24 (.idx 1 (.t 22) (.t 23)) 21,gT 25 (.load1 (.t 24)) 21,gT 26 (.bin .neq (.t 25) (i (-1))) 21,ox 27 (.pick (.t 21) (.t 26) (C bF))])
 (k (.x 27) (q (R [oK 4])
 .ret) .skip)))
 (R [oTX 14 5,oB 15 .add (.t 14) (i 1),oXT 5 15]))))))
 (rG [ox 4 (.mov (C bT))]
 .ret)))),
 [.mov (.x 4)],[],false,2⟩
def K185:SFunc:=⟨(rG [oTX 14 0,ot 15 (.nilck (.t 14)),oF 16 4 15,o0 (.store 1 (.t 16) (.c (.lit [])))]
 (rG [oTX 17 0,ot 18 (.nilck (.t 17)),oF 19 5 18,o0 (.store 1 (.t 19) (.c (.lit [])))]
 (rG [oN 6]
 (rG [oN 7]
 (q (q (R [oXI 8 0])
 (bl 0 (lp (q (q (R [oTX 20 8,oTX 21 1,oTX 22 2,oI 23 12 21 22,oF 24 2 23,oL 25 24,oJ 26 25,ox 27 (.bin .lss (.t 20) (.t 26))])
 (k (.x 27) .skip (ex 0)))
 (q (bl 1 (q (R [oTX 30 1,oTX 31 2,oI 32 12 30 31,oF 33 2 32,oL 34 33,oTX 35 8,oI 36 1 34 35,oL 37 36,oXT 9 37])
 (rG [oTX 38 6,oTX 39 0,ot 40 (.nilck (.t 39)),oF 41 0 40,oF 42 2 41,oL 43 42,oTX 44 9,oI 45 1 43 44,oL 46 45,ot 47 (.slit [.sl []] 1 [(0,.t 46)]),ot 48 (.append 24 1 (.t 38) (.t 47)),oXT 6 48]
 (rG [oTX 50 1,oTX 51 9,oC 52 264 [.t 50,.t 51],oM 49 52,oE 53 49 0,oE 54 49 1,oXT 10 53,oM 11 54]
 (q (q (R [oTX 55 1,oTX 56 2,oI 57 12 55 56,oF 58 1 57,oL 59 58,ox 60 (.bin .eql (.t 59) (i 4))])
 (k (.x 60) (R [oXI 10 1]) .skip))
 (R [oTX 61 7,oTX 62 10,ot 63 (.slit [.v (I .i64 0)] 1 [(0,.t 62)]),ot 64 (.append 8 1 (.t 61) (.t 63)),oXT 7 64]))))))
 (R [oTX 28 8,oB 29 .add (.t 28) (i 1),oXT 8 29]))))))
 (q (q (R [oTX 65 1,oTX 66 2,oI 67 12 65 66,oF 68 1 67,oL 69 68,ox 70 (.bin .eql (.t 69) (i 5))])
 (k (.x 70) (q (D [dF (oTX 71 6),dH (ot 72 (.idx 1 (.t 71) (i 0))),dH (oL 73 72),dF (oTX 74 6),dH (ot 75 (.idx 1 (.t 74) (i 0))),dH (oL 76 75),dF (oTX 77 6),dH (ot 78 (.idx 1 (.t 77) (i 1))),dH (oL 79 78),⟨ot 80 (.slit [.sl []] 3 [(0,.t 73),(1,.t 76),(2,.t 79)]),.write,0,1⟩,⟨oXT 6 80,.free,1,1⟩])
 (R [ot 81 (.slit [.v (I .i64 0)] 3 [(0,(i 1)),(1,(i 1)),(2,(i 1))]),oXT 7 81])) .skip))
 (rG [oTX 82 0,oTX 83 6,oTX 84 7,oC 85 265 [.t 82,.t 83,.t 84]]
 (rG [oTX 86 7,oJ 87 86,oB 88 .gtr (.t 87) (i 0),oM 89 88,gT 90 (.mov (.x 7)) 89,gT 91 (.idx 1 (.t 90) (i 0)) 89,gT 92 (.load1 (.t 91)) 89,gT 93 (.bin .eql (.t 92) (i 3)) 89,ot 94 (.pick (.t 89) (.t 93) (C bF)),oXT 12 94]
 (rG [oTX 95 0,oTX 96 1,oTX 97 2,oI 98 12 96 97,oF 99 1 98,oL 100 99,oTX 101 12,oC 102 266 [.t 95,.t 100,.t 101],oXT 13 102]
 (R [oTX 103 0,oTX 104 0,ot 105 (.nilck (.t 104)),oF 106 0 105,oF 107 2 106,oL 108 107,oTX 109 13,ot 110 (.slit [.sl []] 1 [(0,.t 109)]),ot 111 (.append 24 1 (.t 108) (.t 110)),ot 112 (.nilck (.t 103)),oF 113 0 112,oF 114 2 113,o0 (.store 1 (.t 114) (.t 111))])))))))))),
 [],[],false,3⟩
def K186:SFunc:=⟨(rG [oXI 4 0,oXI 5 0]
 (q (q (R [oTX 6 1,oC 7 117 [.t 6],ox 8 (.un .not (.t 7))])
 (k (.x 8) (q (R [oXI 4 0,oXI 5 150])
 .ret) .skip))
 (rG [oTX 9 0,oTX 10 1,oC 11 267 [.t 9,.t 10],oXT 4 11,oXI 5 0]
 .ret))),
 [.mov (.x 4),.mov (.x 5)],[],false,2⟩
def K188:SFunc:=⟨(rG [oN 4]
 (q (q (R [oTX 5 1,ox 6 (.bin .lss (.t 5) (i 0))])
 (k (.x 6) .refuse .skip))
 (q (q (R [oTX 8 1,oTX 9 0,ot 10 (.capN (.t 9)),oTX 11 0,oJ 12 11,oB 13 .sub (.t 10) (.t 12),oB 14 .sub (.t 8) (.t 13),oXT 1 14])
 (rG [oTX 15 1,ox 16 (.bin .gtr (.t 15) (i 0))]
 (k (.x 16) (R [oTX 17 0,oTX 18 0,ot 19 (.capN (.t 18)),ot 20 (.slice 1 (.t 17) none (some (.t 19)) none),oTX 21 1,ot 22 (.appendZ 24 [.sl []] (.t 20) (.t 21)),oTX 23 0,oJ 24 23,ot 25 (.slice 1 (.t 22) none (some (.t 24)) none),oXT 0 25]) .skip)))
 (rG [oTX 26 0,oXT 4 26]
 .ret)))),
 [.mov (.x 4)],[0],true,2⟩
def K189:SFunc:=⟨(rG [oK 4]
 (q (q (R [oTX 10 0,oJ 11 10,ox 12 (.bin .gtr (.t 11) (i 2048))])
 (k (.x 12) (q (R [oK 4])
 .ret) .skip))
 (q (q (R [ox 13 (.mov (.x 0)),ox 14 (.len (.x 13)),oXI 15 0])
 (bl 0 (lp (q (R [ox 16 (.bin .lss (.x 15) (.x 14))])
 (q (k (.x 16) .skip (ex 0))
 (q (bl 1 (q (R [oTX 17 15,ot 18 (.idx 3 (.x 13) (.x 15)),ot 19 (.loadn 3 (.t 18)),ox 6 (.alloc [pF,.lit [],.lit []]),oXT 5 17,oS 3 6 19])
 (rG [oG 20 2 6,oL 21 20,oJ 22 21,oXT 7 22]
 (q (q (R [oG 23 0 6,ot 24 (.loadn 2 (.t 23)),oC 25 138 [.t 24],ot 26 (.un .not (.t 25)),oM 27 26,gF 28 (.fadr 0 (.x 6)) 27,gF 29 (.fadr 1 (.t 28)) 27,gF 30 (.load1 (.t 29)) 27,gF 31 (.len (.t 30)) 27,gF 32 (.bin .eql (.t 31) (i 0)) 27,ot 33 (.pick (.t 27) (C bT) (.t 32)),oM 34 33,gF 35 (.mov (.x 7)) 34,gF 36 (.mov (.x 1)) 34,gF 37 (.bin .gtr (.t 35) (.t 36)) 34,ot 38 (.pick (.t 34) (C bT) (.t 37)),oM 39 38,gF 40 (.mov (.x 7)) 39,gF 41 (.bin .gtr (.t 40) (i 0)) 39,gF 42 (.mov (.t 41)) 39,gT 43 (.fadr 2 (.x 6)) 42,gT 44 (.load1 (.t 43)) 42,gT 45 (.mov (.x 7)) 42,gT 46 (.bin .sub (.t 45) (i 1)) 42,gT 47 (.idx 1 (.t 44) (.t 46)) 42,gT 48 (.load1 (.t 47)) 42,gT 49 (.bin .eql (.t 48) (i 0)) 42,gF 50 (.pick (.t 42) (.t 49) (C bF)) 39,ox 51 (.pick (.t 39) (C bT) (.t 50))])
 (k (.x 51) (q (R [oK 4])
 .ret) .skip))
 (q (q (R [oG 52 2 6,ox 53 (.load1 (.t 52)),ox 54 (.len (.x 53)),oXI 55 0])
 (bl 2 (lp (q (R [ox 56 (.bin .lss (.x 55) (.x 54))])
 (q (k (.x 56) .skip (ex 2))
 (q (bl 3 (q (R [ot 57 (.idx 1 (.x 53) (.x 55)),oL 58 57,oXT 9 58])
 (rG [oTX 59 9,oB 60 .lss (.t 59) (i 0),oM 61 60,gF 62 (.mov (.x 9)) 61,gF 63 (.bin .gtr (.t 62) (i 64)) 61,ox 64 (.pick (.t 61) (C bT) (.t 63))]
 (k (.x 64) (q (R [oK 4])
 .ret) .skip))))
 (R [oB 65 .add (.x 55) (i 1),oXT 55 65])))))))
 (q (D [dF (oTX 66 5),dF (oB 67 .gtr (.t 66) (i 0)),dF (oM 68 67),dF (gT 69 (.mov (.x 0)) 68),dF (gT 70 (.mov (.x 5)) 68),dF (gT 71 (.bin .sub (.t 70) (i 1)) 68),dH (gT 72 (.idx 3 (.t 69) (.t 71)) 68),dF (gT 73 (.fadr 2 (.t 72)) 68),dH (gT 74 (.load1 (.t 73)) 68),dF (gT 75 (.fadr 2 (.x 6)) 68),dH (gT 76 (.load1 (.t 75)) 68),⟨gT 77 (.call (.f 208) [.t 74,.t 76]) 68,.write,0,1⟩,⟨gT 78 (.bin .geq (.t 77) (i 0)) 68,.free,1,1⟩,⟨ox 79 (.pick (.t 68) (.t 78) (C bF)),.free,1,1⟩])
 (k (.x 79) (q (R [oK 4])
 .ret) .skip)))))))
 (R [oB 80 .add (.x 15) (i 1),oXT 15 80])))))))
 (rG [ox 4 (.mov (C bT))]
 .ret)))),
 [.mov (.x 4)],[],false,2⟩
def K190:SFunc:=⟨(rG [oXI 4 0]
 (q (q (R [oTX 6 0,ox 7 (.len (.t 6)),oXI 8 0])
 (bl 0 (lp (q (R [ox 9 (.bin .lss (.x 8) (.x 7))])
 (q (k (.x 9) .skip (ex 0))
 (q (bl 1 (q (R [oTX 10 8,oXT 5 10])
 (rG [oTX 11 1,oTX 12 0,oTX 13 5,oI 14 4 12 13,ot 15 (.loadn 4 (.t 14)),ox 16 (.call (.t 11) [.t 15])]
 (k (.x 16) (q (R [oTX 17 5,oXT 4 17])
 .ret) .skip))))
 (R [oB 18 .add (.x 8) (i 1),oXT 8 18])))))))
 (rG [ox 4 (.mov (i (-1)))]
 .ret))),
 [.mov (.x 4)],[],false,2⟩
def K191:SFunc:=⟨(rG [oN 2]
 (rG [oTX 4 0,oJ 5 4,oXT 3 5]
 (q (bl 0 (lp (q (q (R [oTX 6 3,oB 7 .gtr (.t 6) (i 0),oM 8 7,gT 9 (.mov (.x 0)) 8,gT 10 (.mov (.x 3)) 8,gT 11 (.bin .sub (.t 10) (i 1)) 8,gT 12 (.idx 1 (.t 9) (.t 11)) 8,gT 13 (.load1 (.t 12)) 8,gT 14 (.bin .eql (.t 13) (C (I .u32 0))) 8,ox 15 (.pick (.t 8) (.t 14) (C bF))])
 (k (.x 15) .skip (ex 0)))
 (bl 1 (R [oTX 16 3,oB 17 .sub (.t 16) (i 1),oXT 3 17])))))
 (rG [oTX 18 0,oTX 19 3,ot 20 (.slice 1 (.t 18) none (some (.t 19)) none),oXT 2 20]
 .ret)))),
 [.mov (.x 2)],[],false,1⟩
def K192:SFunc:=⟨(rG [oXI 4 0]
 (q (q (R [oTX 7 0,oJ 8 7,oTX 9 1,oJ 10 9,ox 11 (.bin .neq (.t 8) (.t 10))])
 (k (.x 11) (q (q (R [oTX 12 0,oJ 13 12,oTX 14 1,oJ 15 14,ox 16 (.bin .lss (.t 13) (.t 15))])
 (k (.x 16) (q (R [ox 4 (.mov (i (-1)))])
 .ret) .skip))
 (rG [oXI 4 1]
 .ret)) .skip))
 (q (q (R [oTX 17 0,ox 18 (.len (.t 17)),oXI 19 0])
 (bl 0 (lp (q (R [ox 20 (.bin .lss (.x 19) (.x 18))])
 (q (k (.x 20) .skip (ex 0))
 (q (bl 1 (q (R [oTX 21 19,oXT 5 21])
 (rG [oTX 22 0,oJ 23 22,oB 24 .sub (.t 23) (i 1),oTX 25 5,oB 26 .sub (.t 24) (.t 25),oXT 6 26]
 (q (D [dF (oTX 27 0),dF (oTX 28 6),dH (oI 29 1 27 28),dH (oL 30 29),dF (oTX 31 1),dF (oTX 32 6),dH (oI 33 1 31 32),dH (oL 34 33),dF (ox 35 (.bin .neq (.t 30) (.t 34)))])
 (k (.x 35) (q (q (D [dF (oTX 36 0),dF (oTX 37 6),dH (oI 38 1 36 37),dH (oL 39 38),dF (oTX 40 1),dF (oTX 41 6),dH (oI 42 1 40 41),dH (oL 43 42),dF (ox 44 (.bin .lss (.t 39) (.t 43)))])
 (k (.x 44) (q (R [ox 4 (.mov (i (-1)))])
 .ret) .skip))
 (rG [oXI 4 1]
 .ret)) .skip)))))
 (R [oB 45 .add (.x 19) (i 1),oXT 19 45])))))))
 (rG [oXI 4 0]
 .ret)))),
 [.mov (.x 4)],[],false,2⟩
def K199:SFunc:=⟨(rG [oN 4]
 (rG [oTX 10 0,oJ 11 10,oTX 12 1,oJ 13 12,oB 14 .add (.t 11) (.t 13),ot 15 (.mkslice 4 [.v (I .u32 0)] (.t 14) (.t 14)),oXT 5 15]
 (q (q (R [oTX 16 0,ox 17 (.len (.t 16)),oXI 18 0])
 (bl 0 (lp (q (R [ox 19 (.bin .lss (.x 18) (.x 17))])
 (q (k (.x 19) .skip (ex 0))
 (q (bl 1 (q (R [oTX 20 18,oXT 6 20])
 (rG [ox 7 (.mov (C (I .u64 0)))]
 (q (q (R [oTX 21 1,ox 22 (.len (.t 21)),oXI 23 0])
 (bl 2 (lp (q (R [ox 24 (.bin .lss (.x 23) (.x 22))])
 (q (k (.x 24) .skip (ex 2))
 (q (bl 3 (q (R [oTX 25 23,oXT 8 25])
 (q (D [dF (oTX 26 0),dF (oTX 27 6),dH (oI 28 1 26 27),dH (oL 29 28),dF (ot 30 (.conv .u64 (.t 29))),dF (oTX 31 1),dF (oTX 32 8),dH (oI 33 1 31 32),dH (oL 34 33),dF (ot 35 (.conv .u64 (.t 34))),dF (oB 36 .mul (.t 30) (.t 35)),dF (oTX 37 5),dF (oTX 38 6),dF (oTX 39 8),dF (oB 40 .add (.t 38) (.t 39)),dH (oI 41 1 37 40),dH (oL 42 41),dF (ot 43 (.conv .u64 (.t 42))),dF (oB 44 .add (.t 36) (.t 43)),dF (oTX 45 7),dF (oB 46 .add (.t 44) (.t 45)),dF (oXT 9 46)])
 (rG [oTX 47 5,oTX 48 6,oTX 49 8,oB 50 .add (.t 48) (.t 49),oTX 51 9,ot 52 (.conv .u32 (.t 51)),oI 53 1 47 50,o0 (.store 1 (.t 53) (.t 52))]
 (R [oTX 54 9,ot 55 (.bin .shr (.t 54) (C (I .u64 32))),oXT 7 55])))))
 (R [oB 56 .add (.x 23) (i 1),oXT 23 56])))))))
 (R [oTX 57 5,oTX 58 6,oTX 59 1,oJ 60 59,oB 61 .add (.t 58) (.t 60),oTX 62 7,ot 63 (.conv .u32 (.t 62)),oI 64 1 57 61,o0 (.store 1 (.t 64) (.t 63))])))))
 (R [oB 65 .add (.x 18) (i 1),oXT 18 65])))))))
 (rG [oTX 66 5,oC 67 191 [.t 66],oXT 4 67]
 .ret)))),
 [.mov (.x 4)],[],false,2⟩
def K200:SFunc:=⟨(rG [oN 4]
 (q (q (R [oTX 9 0,oJ 10 9,oTX 11 1,oJ 12 11,ox 13 (.bin .lss (.t 10) (.t 12))])
 (k (.x 13) (R [oTX 14 1,oTX 15 0,oXT 0 14,oXT 1 15]) .skip))
 (rG [oTX 16 0,oJ 17 16,oB 18 .add (.t 17) (i 1),ot 19 (.mkslice 4 [.v (I .u32 0)] (.t 18) (.t 18)),oXT 5 19]
 (rG [oTX 20 5,oTX 21 0,ot 22 (.copy 1 (.t 20) (.t 21))]
 (rG [ox 6 (.mov (C (I .u64 0)))]
 (q (q (R [oTX 23 0,ox 24 (.len (.t 23)),oXI 25 0])
 (bl 0 (lp (q (R [ox 26 (.bin .lss (.x 25) (.x 24))])
 (q (k (.x 26) .skip (ex 0))
 (q (bl 1 (q (R [oTX 27 25,oXT 7 27])
 (rG [oTX 28 0,oTX 29 7,oI 30 1 28 29,oL 31 30,ot 32 (.conv .u64 (.t 31)),oTX 33 6,oB 34 .add (.t 32) (.t 33),oXT 8 34]
 (q (q (R [oTX 35 7,oTX 36 1,oJ 37 36,ox 38 (.bin .lss (.t 35) (.t 37))])
 (k (.x 38) (R [oTX 39 8,oTX 40 1,oTX 41 7,oI 42 1 40 41,oL 43 42,ot 44 (.conv .u64 (.t 43)),oB 45 .add (.t 39) (.t 44),oXT 8 45]) .skip))
 (rG [oTX 46 5,oTX 47 7,oTX 48 8,ot 49 (.conv .u32 (.t 48)),oI 50 1 46 47,o0 (.store 1 (.t 50) (.t 49))]
 (R [oTX 51 8,ot 52 (.bin .shr (.t 51) (C (I .u64 32))),oXT 6 52]))))))
 (R [oB 53 .add (.x 25) (i 1),oXT 25 53])))))))
 (rG [oTX 54 5,oTX 55 0,oJ 56 55,oTX 57 6,ot 58 (.conv .u32 (.t 57)),oI 59 1 54 56,o0 (.store 1 (.t 59) (.t 58))]
 (rG [oTX 60 5,oC 61 191 [.t 60],oXT 4 61]
 .ret)))))))),
 [.mov (.x 4)],[],false,2⟩
def K201:SFunc:=⟨(rG [oN 4]
 (rG [oTX 9 0,oJ 10 9,ot 11 (.mkslice 4 [.v (I .u32 0)] (.t 10) (.t 10)),oXT 5 11]
 (rG [oTX 12 5,oTX 13 0,ot 14 (.copy 1 (.t 12) (.t 13))]
 (rG [ox 6 (.mov (C (I .u64 0)))]
 (q (q (R [oTX 15 0,ox 16 (.len (.t 15)),oXI 17 0])
 (bl 0 (lp (q (R [ox 18 (.bin .lss (.x 17) (.x 16))])
 (q (k (.x 18) .skip (ex 0))
 (q (bl 1 (q (R [oTX 19 17,oXT 7 19])
 (rG [oTX 20 0,oTX 21 7,oI 22 1 20 21,oL 23 22,ot 24 (.conv .u64 (.t 23)),oTX 25 6,oB 26 .sub (.t 24) (.t 25),oXT 8 26]
 (q (q (R [oTX 27 7,oTX 28 1,oJ 29 28,ox 30 (.bin .lss (.t 27) (.t 29))])
 (k (.x 30) (R [oTX 31 8,oTX 32 1,oTX 33 7,oI 34 1 32 33,oL 35 34,ot 36 (.conv .u64 (.t 35)),oB 37 .sub (.t 31) (.t 36),oXT 8 37]) .skip))
 (rG [oTX 38 5,oTX 39 7,oTX 40 8,ot 41 (.conv .u32 (.t 40)),oI 42 1 38 39,o0 (.store 1 (.t 42) (.t 41))]
 (R [oTX 43 8,ot 44 (.bin .shr (.t 43) (C (I .u64 63))),oXT 6 44]))))))
 (R [oB 45 .add (.x 17) (i 1),oXT 17 45])))))))
 (rG [oTX 46 5,oC 47 191 [.t 46],oXT 4 47]
 .ret)))))),
 [.mov (.x 4)],[],false,2⟩
def K202:SFunc:=⟨(rG [oN 6,oXI 7 0]
 (q (q (R [oTX 24 0,oTX 25 1,ot 26 (.slit [.sl []] 2 [(0,.t 24),(1,.t 25)]),oC 27 134 [.t 26],ox 28 (.un .not (.t 27))])
 (k (.x 28) (q (R [oN 6,oXI 7 1])
 .ret) .skip))
 (rG [ot 29 (.mkmap),ot 30 (.mkmap),oXT 8 29,oXT 9 30]
 (rG [oN 10]
 (q (q (R [ox 31 (.mov (.x 0)),ox 32 (.len (.x 31)),oXI 33 0])
 (bl 0 (lp (q (R [ox 34 (.bin .lss (.x 33) (.x 32))])
 (q (k (.x 34) .skip (ex 0))
 (q (bl 1 (q (R [ot 35 (.idx 3 (.x 31) (.x 33)),ot 36 (.loadn 3 (.t 35)),ox 12 (.alloc [pF,.lit [],.lit []]),oS 3 12 36])
 (rG [oG 37 2 12,oL 38 37,oC 39 135 [.t 38],ox 13 (.alloc z8),oS 32 13 39]
 (rG [oTX 40 8,ot 41 (.loadn 32 (.x 13)),oG 42 0 12,ot 43 (.loadn 2 (.t 42)),o0 (.mapset true [.int,.int,.int,.int,.int,.int,.int,.int,.int,.int,.int,.int,.int,.int,.int,.int,.int,.int,.int,.int,.int,.int,.int,.int,.int,.int,.int,.int,.int,.int,.int,.int] (.t 40) (.t 41) (.t 43))]
 (R [oTX 44 10,ot 45 (.loadn 32 (.x 13)),ot 46 (.slit [.v (I .u8 0),.v (I .u8 0),.v (I .u8 0),.v (I .u8 0),.v (I .u8 0),.v (I .u8 0),.v (I .u8 0),.v (I .u8 0),.v (I .u8 0),.v (I .u8 0),.v (I .u8 0),.v (I .u8 0),.v (I .u8 0),.v (I .u8 0),.v (I .u8 0),.v (I .u8 0),.v (I .u8 0),.v (I .u8 0),.v (I .u8 0),.v (I .u8 0),.v (I .u8 0),.v (I .u8 0),.v (I .u8 0),.v (I .u8 0),.v (I .u8 0),.v (I .u8 0),.v (I .u8 0),.v (I .u8 0),.v (I .u8 0),.v (I .u8 0),.v (I .u8 0),.v (I .u8 0)] 1 [(0,.t 45)]),ot 47 (.append 32 32 (.t 44) (.t 46)),oXT 10 47])))))
 (R [oB 48 .add (.x 33) (i 1),oXT 33 48])))))))
 (q (q (R [ox 49 (.mov (.x 1)),ox 50 (.len (.x 49)),oXI 51 0])
 (bl 2 (lp (q (R [ox 52 (.bin .lss (.x 51) (.x 50))])
 (q (k (.x 52) .skip (ex 2))
 (q (bl 3 (q (R [ot 53 (.idx 3 (.x 49) (.x 51)),ot 54 (.loadn 3 (.t 53)),ox 15 (.alloc [pF,.lit [],.lit []]),oS 3 15 54])
 (rG [oG 55 2 15,oL 56 55,oC 57 135 [.t 56],ox 16 (.alloc z8),oS 32 16 57]
 (q (q (R [oTX 59 8,ot 60 (.loadn 32 (.x 16)),ot 61 (.mapget true [.int,.int,.int,.int,.int,.int,.int,.int,.int,.int,.int,.int,.int,.int,.int,.int,.int,.int,.int,.int,.int,.int,.int,.int,.int,.int,.int,.int,.int,.int,.int,.int] (.agg [pF,.lit []]) true (.t 59) (.t 60)),oM 58 61,oE 62 58 0,oE 63 58 1,ot 17 (.alloc [pF,.lit []]),o0 (.store 2 (.t 17) (.t 62)),oXT 18 63])
 (rG [oTX 64 18,ox 65 (.un .not (.t 64))]
 (k (.x 65) (R [oTX 66 10,ot 67 (.loadn 32 (.x 16)),ot 68 (.slit [.v (I .u8 0),.v (I .u8 0),.v (I .u8 0),.v (I .u8 0),.v (I .u8 0),.v (I .u8 0),.v (I .u8 0),.v (I .u8 0),.v (I .u8 0),.v (I .u8 0),.v (I .u8 0),.v (I .u8 0),.v (I .u8 0),.v (I .u8 0),.v (I .u8 0),.v (I .u8 0),.v (I .u8 0),.v (I .u8 0),.v (I .u8 0),.v (I .u8 0),.v (I .u8 0),.v (I .u8 0),.v (I .u8 0),.v (I .u8 0),.v (I .u8 0),.v (I .u8 0),.v (I .u8 0),.v (I .u8 0),.v (I .u8 0),.v (I .u8 0),.v (I .u8 0),.v (I .u8 0)] 1 [(0,.t 67)]),ot 69 (.append 32 32 (.t 66) (.t 68)),oXT 10 69]) .skip)))
 (R [oTX 70 9,ot 71 (.loadn 32 (.x 16)),oG 72 0 15,ot 73 (.loadn 2 (.t 72)),o0 (.mapset true [.int,.int,.int,.int,.int,.int,.int,.int,.int,.int,.int,.int,.int,.int,.int,.int,.int,.int,.int,.int,.int,.int,.int,.int,.int,.int,.int,.int,.int,.int,.int,.int] (.t 70) (.t 71) (.t 73))])))))
 (R [oB 74 .add (.x 51) (i 1),oXT 51 74])))))))
 (rG [ot 75 (.mkmap),oXT 19 75]
 (q (q (R [ox 76 (.mov (.x 10)),ox 77 (.len (.x 76)),oXI 78 0])
 (bl 4 (lp (q (R [ox 79 (.bin .lss (.x 78) (.x 77))])
 (q (k (.x 79) .skip (ex 4))
 (q (bl 5 (q (R [ot 80 (.idx 32 (.x 76) (.x 78)),ot 81 (.loadn 32 (.t 80)),ox 21 (.alloc z8),oS 32 21 81])
 (q (D [⟨oTX 83 2,.free,0,1⟩,⟨oTX 84 8,.free,0,1⟩,⟨ot 85 (.loadn 32 (.x 21)),.read,0,1⟩,⟨ot 86 (.mapget true [.int,.int,.int,.int,.int,.int,.int,.int,.int,.int,.int,.int,.int,.int,.int,.int,.int,.int,.int,.int,.int,.int,.int,.int,.int,.int,.int,.int,.int,.int,.int,.int] (.agg [pF,.lit []]) false (.t 84) (.t 85)),.read,0,1⟩,⟨oTX 87 9,.free,0,1⟩,⟨ot 88 (.loadn 32 (.x 21)),.read,0,1⟩,⟨ot 89 (.mapget true [.int,.int,.int,.int,.int,.int,.int,.int,.int,.int,.int,.int,.int,.int,.int,.int,.int,.int,.int,.int,.int,.int,.int,.int,.int,.int,.int,.int,.int,.int,.int,.int] (.agg [pF,.lit []]) false (.t 87) (.t 88)),.read,0,1⟩,⟨ot 90 (.call (.t 83) [.t 86,.t 89]),.write,0,2⟩,⟨oM 82 90,.free,1,2⟩,⟨oE 91 82 0,.free,1,2⟩,⟨oE 92 82 1,.free,1,3⟩,⟨ox 22 (.alloc [pF,.lit []]),.fresh,0,2⟩,⟨oS 2 22 91,.write,2,3⟩,⟨oXT 23 92,.free,3,3⟩])
 (q (q (R [oTX 93 23,ox 94 (.bin .neq (.t 93) (i 0))])
 (k (.x 94) (q (R [oTX 95 23,oN 6,oXT 7 95])
 .ret) .skip))
 (R [oTX 96 19,ot 97 (.loadn 32 (.x 21)),ot 98 (.loadn 2 (.x 22)),o0 (.mapset true [.int,.int,.int,.int,.int,.int,.int,.int,.int,.int,.int,.int,.int,.int,.int,.int,.int,.int,.int,.int,.int,.int,.int,.int,.int,.int,.int,.int,.int,.int,.int,.int] (.t 96) (.t 97) (.t 98))])))))
 (R [oB 99 .add (.x 78) (i 1),oXT 78 99])))))))
 (rG [oTX 100 19,oC 101 137 [.t 100],oE 102 101 0,oE 103 101 1,oXT 6 102,oXT 7 103]
 .ret))))))))),
 [.mov (.x 6),.mov (.x 7)],[],false,3⟩
def K203:SFunc:=⟨(rG [ox 8 (.alloc [pF,.lit []]),oXI 9 0]
 (q (q (R [oTX 10 0,oTX 11 2,ox 12 (.binB .eql (.t 10) (.t 11))])
 (k (.x 12) (q (R [oTX 13 0,oTX 14 1,oTX 15 3,oC 16 200 [.t 14,.t 15],oC 17 127 [.t 13,.t 16],oE 18 17 0,oE 19 17 1,oS 2 8 18,oXT 9 19])
 .ret) .skip))
 (q (q (R [oTX 20 1,oTX 21 3,oC 22 192 [.t 20,.t 21],ox 23 (.bin .lss (.t 22) (i 0))])
 (k (.x 23) (q (R [oTX 24 2,oTX 25 3,oTX 26 1,oC 27 201 [.t 25,.t 26],oC 28 127 [.t 24,.t 27],oE 29 28 0,oE 30 28 1,oS 2 8 29,oXT 9 30])
 .ret) .skip))
 (rG [oTX 31 0,oTX 32 1,oTX 33 3,oC 34 201 [.t 32,.t 33],oC 35 127 [.t 31,.t 34],oE 36 35 0,oE 37 35 1,oS 2 8 36,oXT 9 37]
 .ret)))),
 [.loadn 2 (.x 8),.mov (.x 9)],[],false,4⟩
def K204:SFunc:=⟨(rG [ox 1 (.box (.x 0)),ox 2 (.alloc [pF,.lit []])]
 (q (D [dF (oG 3 0 1),dH (oL 4 3),dF (oG 5 1 1),dH (oL 6 5),dL (oC 7 270 [.t 6]),dF (ot 8 (.build [pF,.lit []] [(0,1,.t 4),(1,1,.t 7)])),⟨oS 2 2 8,.write,0,1⟩])
 .ret)),
 [.loadn 2 (.x 2)],[],false,1⟩
def K205:SFunc:=⟨(rG [ox 1 (.box (.x 0)),oN 2]
 (rG [oXI 3 32]
 (q (bl 0 (lp (q (q (R [oTX 7 3,oB 8 .gtr (.t 7) (i 0),oM 9 8,gT 10 (.mov (.x 3)) 9,gT 11 (.bin .sub (.t 10) (i 1)) 9,gT 12 (.idxA 32 1 (.x 1) (.t 11)) 9,gT 13 (.load1 (.t 12)) 9,gT 14 (.bin .eql (.t 13) (C (I .u8 0))) 9,ox 15 (.pick (.t 9) (.t 14) (C bF))])
 (k (.x 15) .skip (ex 0)))
 (bl 1 (R [oTX 16 3,oB 17 .sub (.t 16) (i 1),oXT 3 17])))))
 (rG [oN 4]
 (q (q (R [oTX 18 3,ox 19 (.sliceArr 32 (.x 1) none (some (.t 18))),ox 20 (.len (.x 19)),oXI 21 0])
 (bl 2 (lp (q (R [ox 22 (.bin .lss (.x 21) (.x 20))])
 (q (k (.x 22) .skip (ex 2))
 (q (bl 3 (q (R [ot 23 (.idx 1 (.x 19) (.x 21)),oL 24 23,oXT 6 24])
 (R [oTX 25 4,oTX 26 6,ot 27 (.conv .i64 (.t 26)),ot 28 (.slit [.v (I .i64 0)] 1 [(0,.t 27)]),ot 29 (.append 8 1 (.t 25) (.t 28)),oXT 4 29])))
 (R [oB 30 .add (.x 21) (i 1),oXT 21 30])))))))
 (rG [oTX 31 4,oXT 2 31]
 .ret)))))),
 [.mov (.x 2)],[],false,1⟩
def K207:SFunc:=⟨(rG [ox 2 (.box (.x 0)),ox 3 (.box (.x 1)),oXI 4 0]
 (rG [oG 5 2 2,oL 6 5,oG 7 2 3,oL 8 7,oC 9 208 [.t 6,.t 8],oXT 4 9]
 .ret)),
 [.mov (.x 4)],[],false,2⟩
def K208:SFunc:=⟨(rG [oXI 4 0]
 (q (q (R [oTX 8 0,oJ 9 8,oTX 10 1,oJ 11 10,ox 12 (.maxmin true (.t 9) (.t 11)),oXI 13 0])
 (bl 0 (lp (q (R [ox 14 (.bin .lss (.x 13) (.x 12))])
 (q (k (.x 14) .skip (ex 0))
 (q (bl 1 (q (R [oTX 15 13,oXT 5 15])
 (rG [oXI 6 0,oXI 7 0]
 (q (q (R [oTX 16 5,oTX 17 0,oJ 18 17,ox 19 (.bin .lss (.t 16) (.t 18))])
 (k (.x 19) (R [oTX 20 0,oTX 21 5,oI 22 1 20 21,oL 23 22,oXT 6 23]) .skip))
 (q (q (R [oTX 24 5,oTX 25 1,oJ 26 25,ox 27 (.bin .lss (.t 24) (.t 26))])
 (k (.x 27) (R [oTX 28 1,oTX 29 5,oI 30 1 28 29,oL 31 30,oXT 7 31]) .skip))
 (rG [oTX 32 6,oTX 33 7,ox 34 (.bin .neq (.t 32) (.t 33))]
 (k (.x 34) (q (q (R [oTX 35 6,oTX 36 7,ox 37 (.bin .lss (.t 35) (.t 36))])
 (k (.x 37) (q (R [ox 4 (.mov (i (-1)))])
 .ret) .skip))
 (rG [oXI 4 1]
 .ret)) .skip)))))))
 (R [oB 38 .add (.x 13) (i 1),oXT 13 38])))))))
 (rG [oXI 4 0]
 .ret))),
 [.mov (.x 4)],[],false,2⟩
def K210:SFunc:=⟨(rG [oXI 4 0]
 (q (q (R [oTX 6 0,ox 7 (.len (.t 6)),oXI 8 0])
 (bl 0 (lp (q (R [ox 9 (.bin .lss (.x 8) (.x 7))])
 (q (k (.x 9) .skip (ex 0))
 (q (bl 1 (q (R [oTX 10 8,oXT 5 10])
 (rG [oTX 11 1,oTX 12 0,oTX 13 5,oI 14 1 12 13,oL 15 14,ox 16 (.bin .eql (.t 11) (.t 15))]
 (k (.x 16) (q (R [oTX 17 5,oXT 4 17])
 .ret) .skip))))
 (R [oB 18 .add (.x 8) (i 1),oXT 8 18])))))))
 (rG [ox 4 (.mov (i (-1)))]
 .ret))),
 [.mov (.x 4)],[],false,2⟩
def K212:SFunc:=⟨(rG [ox 2 (.alloc [.lit [],.lit []])]
 (q (q (R [ox 3 (.mov (.x 0))])
 (bl 0 (q (R [oB 5 .eql (.x 3) (i 10),oXT 4 5])
 (k (.x 4) (q (R [ot 6 (.slit [.v (Y [])] 2 [(0,(C (Y [111]))),(1,(C (Y [48])))]),ot 7 (.slit [.v (Y [])] 3 [(0,(C (Y [121,32,111,32,45,32,122,32,98]))),(1,(C (Y [122,32,97,32,45,32,120,32,111]))),(2,(C (Y [120,32,98,32,45,32,121,32,97])))]),ot 8 (.build [.lit [],.lit []] [(0,1,.t 6),(1,1,.t 7)]),oS 2 2 8])
 .ret) (q (R [oB 10 .eql (.x 3) (i 11),oXT 9 10])
 (k (.x 9) (q (R [ot 11 (.slit [.v (Y [])] 4 [(0,(C (Y [111]))),(1,(C (Y [48]))),(2,(C (Y [101]))),(3,(C (Y [111,32,45,32,98])))]),ot 12 (.slit [.v (Y [])] 3 [(0,(C (Y [121,32,111,32,45,32,122,32,97]))),(1,(C (Y [122,32,101,32,45,32,120,32,111]))),(2,(C (Y [120,32,97,32,45,32,121,32,101])))]),ot 13 (.build [.lit [],.lit []] [(0,1,.t 11),(1,1,.t 12)]),oS 2 2 13])
 .ret) (q (R [oB 15 .eql (.x 3) (i 12),oXT 14 15])
 (k (.x 14) (q (R [ot 16 (.slit [.v (Y [])] 3 [(0,(C (Y [120,49,32,122,50,32,43,32,120,50,32,122,49]))),(1,(C (Y [121,49,32,122,50,32,43,32,121,50,32,122,49]))),(2,(C (Y [50,32,122,49,32,122,50])))]),ot 17 (.build [.lit [],.lit []] [(0,1,(.c (.lit []))),(1,1,.t 16)]),oS 2 2 17])
 .ret) (q (R [oB 19 .eql (.x 3) (i 13),oXT 18 19])
 (k (.x 18) (q (R [ot 20 (.slit [.v (Y [])] 4 [(0,(C (Y [110]))),(1,(C (Y [97,94,50,32,43,32,98,94,50]))),(2,(C (Y [107]))),(3,(C (Y [97,32,120,32,43,32,98,32,121,32,43,32,99,32,122])))]),ot 21 (.slit [.v (Y [])] 3 [(0,(C (Y [110,32,120,32,45,32,50,32,97,32,107]))),(1,(C (Y [110,32,121,32,45,32,50,32,98,32,107]))),(2,(C (Y [110,32,122])))]),ot 22 (.build [.lit [],.lit []] [(0,1,.t 20),(1,1,.t 21)]),oS 2 2 22])
 .ret) (q (R [oB 24 .eql (.x 3) (i 14),oXT 23 24])
 (k (.x 23) (q (R [ot 25 (.slit [.v (Y [])] 18 [(0,(C (Y [118,120]))),(1,(C (Y [120,49,32,122,50,32,45,32,120,50,32,122,49]))),(2,(C (Y [118,121]))),(3,(C (Y [121,49,32,122,50,32,45,32,121,50,32,122,49]))),(4,(C (Y [119,120]))),(5,(C (Y [120,51,32,122,50,32,45,32,120,50,32,122,51]))),(6,(C (Y [119,121]))),(7,(C (Y [121,51,32,122,50,32,45,32,121,50,32,122,51]))),(8,(C (Y [118]))),(9,(C (Y [118,120,94,50,32,43,32,118,121,94,50]))),(10,(C (Y [119]))),(11,(C (Y [119,120,94,50,32,43,32,119,121,94,50]))),(12,(C (Y [115]))),(13,(C (Y [33,118,32,119]))),(14,(C (Y [100,120]))),(15,(C (Y [119,32,118,120,32,43,32,115,32,119,120]))),(16,(C (Y [100,121]))),(17,(C (Y [119,32,118,121,32,43,32,115,32,119,121])))]),ot 26 (.slit [.v (Y [])] 3 [(0,(C (Y [45,122,50,32,100,121]))),(1,(C (Y [122,50,32,100,120]))),(2,(C (Y [120,50,32,100,121,32,45,32,121,50,32,100,120])))]),ot 27 (.build [.lit [],.lit []] [(0,1,.t 25),(1,1,.t 26)]),oS 2 2 27])
 .ret) .skip))))))))))))
 (rG [ot 28 (.slit [.v (Y [])] 3 [(0,(C (Y [45,112]))),(1,(C (Y [45,113]))),(2,(C (Y [50,32,117])))]),ot 29 (.build [.lit [],.lit []] [(0,1,(.c (.lit []))),(1,1,.t 28)]),oS 2 2 29]
 .ret))),
 [.loadn 2 (.x 2)],[],false,1⟩
def K213:SFunc:=⟨(rG [ox 2 (.mov (C (Y [])))]
 (rG [oTX 3 0,oC 4 272 [.t 3,(i 10)],oXT 2 4]
 .ret)),
 [.mov (.x 2)],[],false,1⟩
def K214:SFunc:=⟨(rG [oXI 3 0]
 (rG [oXI 4 0]
 (q (q (R [ot 8 (.load1 (.x 0)),oC 9 215 [.t 8],ox 10 (.bin .eql (.t 9) (C (I .u8 40)))])
 (k (.x 10) (q (R [ot 11 (.load1 (.x 0)),ot 12 (.nilck (.t 11)),oF 13 1 12,oL 14 13,oB 15 .add (.t 14) (i 1),ot 16 (.nilck (.t 11)),oF 17 1 16,o0 (.store 1 (.t 17) (.t 15))])
 (rG [ot 18 (.load1 (.x 1)),ot 19 (.call (.t 18) []),oXT 4 19]
 (rG [ot 20 (.load1 (.x 0)),oC 21 215 [.t 20]]
 (R [ot 22 (.load1 (.x 0)),ot 23 (.nilck (.t 22)),oF 24 1 23,oL 25 24,oB 26 .add (.t 25) (i 1),ot 27 (.nilck (.t 22)),oF 28 1 27,o0 (.store 1 (.t 28) (.t 26))])))) (q (R [ot 29 (.load1 (.x 0)),oC 30 216 [.t 29],oXT 5 30])
 (rG [oTX 31 5,ot 32 (.idxS (.t 31) (i 0)),ox 33 (.bin .leq (.t 32) (C (I .u8 57)))]
 (k (.x 33) (q (R [oTX 35 5,oC 36 217 [.t 35],oM 34 36,oE 37 34 0,oE 38 34 1,oXT 6 37,oM 7 38])
 (R [ot 39 (.load1 (.x 2)),oTX 40 6,oC 41 151 [.t 39,(i 2),.t 40,(i 0)],oXT 4 41])) (R [ot 42 (.load1 (.x 2)),ot 43 (.nilck (.t 42)),oF 44 4 43,oL 45 44,oTX 46 5,ot 47 (.mapget false [.str] (p0) false (.t 45) (.t 46)),oXT 4 47]))))))
 (q (q (D [dH (ot 48 (.load1 (.x 0))),dF (ot 49 (.nilck (.t 48))),dF (oF 50 1 49),dH (oL 51 50),dH (ot 52 (.load1 (.x 0))),dF (ot 53 (.nilck (.t 52))),dF (oF 54 0 53),dH (oL 55 54),dF (ot 56 (.lenS (.t 55))),dF (oB 57 .lss (.t 51) (.t 56)),dF (oM 58 57),dH (gT 59 (.load1 (.x 0)) 58),dF (gT 60 (.nilck (.t 59)) 58),dF (gT 61 (.fadr 0 (.t 60)) 58),dH (gT 62 (.load1 (.t 61)) 58),dH (gT 63 (.load1 (.x 0)) 58),dF (gT 64 (.nilck (.t 63)) 58),dF (gT 65 (.fadr 1 (.t 64)) 58),dH (gT 66 (.load1 (.t 65)) 58),dF (gT 67 (.idxS (.t 62) (.t 66)) 58),dF (gT 68 (.bin .eql (.t 67) (C (I .u8 94))) 58),dF (ox 69 (.pick (.t 58) (.t 68) (C bF)))])
 (k (.x 69) (q (R [ot 70 (.load1 (.x 0)),ot 71 (.nilck (.t 70)),oF 72 1 71,oL 73 72,oB 74 .add (.t 73) (i 2),ot 75 (.nilck (.t 70)),oF 76 1 75,o0 (.store 1 (.t 76) (.t 74))])
 (R [ot 77 (.load1 (.x 2)),oTX 78 4,oTX 79 4,oC 80 151 [.t 77,(i 5),.t 78,.t 79],oXT 4 80])) .skip))
 (rG [oTX 81 4,oXT 3 81]
 .ret))))),
 [.mov (.x 3)],[],false,3⟩
def K215:SFunc:=⟨(rG [ox 2 (.mov (C (I .u8 0)))]
 (q (bl 0 (lp (q (q (D [dF (oTX 3 0),dF (ot 4 (.nilck (.t 3))),dF (oF 5 1 4),dH (oL 6 5),dF (oTX 7 0),dF (ot 8 (.nilck (.t 7))),dF (oF 9 0 8),dH (oL 10 9),dF (ot 11 (.lenS (.t 10))),dF (oB 12 .lss (.t 6) (.t 11)),dF (oM 13 12),dF (gT 14 (.mov (.x 0)) 13),dF (gT 15 (.nilck (.t 14)) 13),dF (gT 16 (.fadr 0 (.t 15)) 13),dH (gT 17 (.load1 (.t 16)) 13),dF (gT 18 (.mov (.x 0)) 13),dF (gT 19 (.nilck (.t 18)) 13),dF (gT 20 (.fadr 1 (.t 19)) 13),dH (gT 21 (.load1 (.t 20)) 13),dF (gT 22 (.idxS (.t 17) (.t 21)) 13),dF (gT 23 (.bin .eql (.t 22) (C (I .u8 32))) 13),dF (ox 24 (.pick (.t 13) (.t 23) (C bF)))])
 (k (.x 24) .skip (ex 0)))
 (bl 1 (R [oTX 25 0,ot 26 (.nilck (.t 25)),oF 27 1 26,oL 28 27,oB 29 .add (.t 28) (i 1),ot 30 (.nilck (.t 25)),oF 31 1 30,o0 (.store 1 (.t 31) (.t 29))])))))
 (q (q (D [dF (oTX 32 0),dF (ot 33 (.nilck (.t 32))),dF (oF 34 1 33),dH (oL 35 34),dF (oTX 36 0),dF (ot 37 (.nilck (.t 36))),dF (oF 38 0 37),dH (oL 39 38),dF (ot 40 (.lenS (.t 39))),dF (ox 41 (.bin .eql (.t 35) (.t 40)))])
 (k (.x 41) (q (R [ox 2 (.mov (C (I .u8 0)))])
 .ret) .skip))
 (q (D [dF (oTX 42 0),dF (ot 43 (.nilck (.t 42))),dF (oF 44 0 43),dH (oL 45 44),dF (oTX 46 0),dF (ot 47 (.nilck (.t 46))),dF (oF 48 1 47),dH (oL 49 48),dF (ot 50 (.idxS (.t 45) (.t 49))),dF (oXT 2 50)])
 .ret)))),
 [.mov (.x 2)],[],false,1⟩
def K216:SFunc:=⟨(rG [ox 2 (.mov (C (Y [])))]
 (rG [oTX 5 0,oC 6 215 [.t 5]]
 (rG [oTX 7 0,ot 8 (.nilck (.t 7)),oF 9 1 8,oL 10 9,oXT 3 10]
 (q (bl 0 (lp (q (q (D [dF (oTX 11 0),dF (ot 12 (.nilck (.t 11))),dF (oF 13 1 12),dH (oL 14 13),dF (oTX 15 0),dF (ot 16 (.nilck (.t 15))),dF (oF 17 0 16),dH (oL 18 17),dF (ot 19 (.lenS (.t 18))),dF (ox 20 (.bin .lss (.t 14) (.t 19)))])
 (k (.x 20) .skip (ex 0)))
 (bl 1 (q (D [dF (oTX 21 0),dF (ot 22 (.nilck (.t 21))),dF (oF 23 0 22),dH (oL 24 23),dF (oTX 25 0),dF (ot 26 (.nilck (.t 25))),dF (oF 27 1 26),dH (oL 28 27),dF (ot 29 (.idxS (.t 24) (.t 28))),dF (oXT 4 29)])
 (q (q (R [oTX 30 4,ot 31 (.bin .lss (.t 30) (C (I .u8 97))),oM 32 31,gF 33 (.mov (.x 4)) 32,gF 34 (.bin .gtr (.t 33) (C (I .u8 122))) 32,ot 35 (.pick (.t 32) (C bT) (.t 34)),oM 36 35,gT 37 (.mov (.x 4)) 36,gT 38 (.bin .lss (.t 37) (C (I .u8 48))) 36,gT 39 (.mov (.t 38)) 36,gF 40 (.mov (.x 4)) 39,gF 41 (.bin .gtr (.t 40) (C (I .u8 57))) 39,gT 42 (.pick (.t 39) (C bT) (.t 41)) 36,ox 43 (.pick (.t 36) (.t 42) (C bF))])
 (k (.x 43) (ex 0) .skip))
 (R [oTX 44 0,ot 45 (.nilck (.t 44)),oF 46 1 45,oL 47 46,oB 48 .add (.t 47) (i 1),ot 49 (.nilck (.t 44)),oF 50 1 49,o0 (.store 1 (.t 50) (.t 48))])))))))
 (q (D [dF (oTX 51 0),dF (ot 52 (.nilck (.t 51))),dF (oF 53 0 52),dH (oL 54 53),dF (oTX 55 3),dF (oTX 56 0),dF (ot 57 (.nilck (.t 56))),dF (oF 58 1 57),dH (oL 59 58),dF (ot 60 (.sliceS (.t 54) (some (.t 55)) (some (.t 59)))),dF (oXT 2 60)])
 .ret))))),
 [.mov (.x 2)],[],false,1⟩
def K217:SFunc:=⟨(rG [oXI 2 0,ox 3 (.mov (C (.nilIface)))]
 (rG [oTX 7 0,oC 8 273 [.t 7],oM 6 8,oE 9 6 0,oE 10 6 1,oXT 4 9,oXT 5 10]
 (q (q (R [oTX 11 5,ox 12 (.isnilI true (.t 11))])
 (k (.x 12) (q (R [oTX 13 4,oTX 14 0,oTX 15 5,ot 16 (.call (.f 274) [(C (Y [65,116,111,105])),.t 14,(i 0),(i 0),.t 15]),oXT 2 13,oXT 3 16])
 .ret) .skip))
 (rG [oTX 17 4,oXT 2 17,ox 3 (.mov (C (.nilIface)))]
 .ret)))),
 [.mov (.x 2),.mov (.x 3)],[],false,1⟩
def K218:SFunc:=⟨(rG [oXI 3 0]
 (rG [ot 7 (.load1 (.x 0)),ot 8 (.call (.t 7) []),oXT 4 8]
 (q (q (R [ot 9 (.load1 (.x 1)),oC 10 215 [.t 9],oXT 5 10])
 (bl 0 (lp (q (q (R [oTX 11 5,ot 12 (.bin .neq (.t 11) (C (I .u8 0))),oM 13 12,gT 14 (.mov (.x 5)) 13,gT 15 (.bin .neq (.t 14) (C (I .u8 43))) 13,ot 16 (.pick (.t 13) (.t 15) (C bF)),oM 17 16,gT 18 (.mov (.x 5)) 17,gT 19 (.bin .neq (.t 18) (C (I .u8 45))) 17,ot 20 (.pick (.t 17) (.t 19) (C bF)),oM 21 20,gT 22 (.mov (.x 5)) 21,gT 23 (.bin .neq (.t 22) (C (I .u8 41))) 21,ox 24 (.pick (.t 21) (.t 23) (C bF))])
 (k (.x 24) .skip (ex 0)))
 (q (bl 1 (q (R [ot 27 (.load1 (.x 0)),ot 28 (.call (.t 27) []),oXT 6 28])
 (R [ot 29 (.load1 (.x 2)),oTX 30 4,oTX 31 6,oC 32 151 [.t 29,(i 5),.t 30,.t 31],oXT 4 32])))
 (R [ot 25 (.load1 (.x 1)),oC 26 215 [.t 25],oXT 5 26]))))))
 (rG [oTX 33 4,oXT 3 33]
 .ret)))),
 [.mov (.x 3)],[],false,3⟩
def K219:SFunc:=⟨(rG [oXI 3 0]
 (rG [oXI 4 0]
 (q (q (R [ot 9 (.load1 (.x 0)),oC 10 215 [.t 9],ox 11 (.bin .eql (.t 10) (C (I .u8 45)))])
 (k (.x 11) (q (R [ot 12 (.load1 (.x 0)),ot 13 (.nilck (.t 12)),oF 14 1 13,oL 15 14,oB 16 .add (.t 15) (i 1),ot 17 (.nilck (.t 12)),oF 18 1 17,o0 (.store 1 (.t 18) (.t 16))])
 (rG [ot 19 (.load1 (.x 1)),oC 20 151 [.t 19,(i 2),(i 0),(i 0)],oXT 5 20]
 (D [⟨ot 21 (.load1 (.x 1)),.read,0,1⟩,⟨oTX 22 5,.free,0,1⟩,dH (ot 23 (.load1 (.x 2))),⟨ot 24 (.call (.t 23) []),.write,0,1⟩,⟨oC 25 151 [.t 21,(i 4),.t 22,.t 24],.write,1,2⟩,⟨oXT 4 25,.free,2,2⟩]))) (R [ot 26 (.load1 (.x 2)),ot 27 (.call (.t 26) []),oXT 4 27])))
 (q (q (R [ot 28 (.load1 (.x 0)),oC 29 215 [.t 28],oXT 6 29])
 (bl 0 (lp (q (q (R [oTX 30 6,ot 31 (.bin .eql (.t 30) (C (I .u8 43))),oM 32 31,gF 33 (.mov (.x 6)) 32,gF 34 (.bin .eql (.t 33) (C (I .u8 45))) 32,ox 35 (.pick (.t 32) (C bT) (.t 34))])
 (k (.x 35) .skip (ex 0)))
 (q (bl 1 (q (R [ot 38 (.load1 (.x 0)),ot 39 (.nilck (.t 38)),oF 40 1 39,oL 41 40,oB 42 .add (.t 41) (i 1),ot 43 (.nilck (.t 38)),oF 44 1 43,o0 (.store 1 (.t 44) (.t 42))])
 (rG [ot 45 (.load1 (.x 2)),ot 46 (.call (.t 45) []),oXT 7 46]
 (rG [oXI 8 3]
 (q (q (R [oTX 47 6,ox 48 (.bin .eql (.t 47) (C (I .u8 45)))])
 (k (.x 48) (R [oXI 8 4]) .skip))
 (R [ot 49 (.load1 (.x 1)),oTX 50 8,oTX 51 4,oTX 52 7,oC 53 151 [.t 49,.t 50,.t 51,.t 52],oXT 4 53]))))))
 (R [ot 36 (.load1 (.x 0)),oC 37 215 [.t 36],oXT 6 37]))))))
 (rG [oTX 54 4,oXT 3 54]
 .ret))))),
 [.mov (.x 3)],[],false,3⟩
def K220:SFunc:=⟨(rG [ox 3 (.box (.x 0)),ox 4 (.box (.x 1)),oK 6]
 (rG [ot 8 (.mkfn (.func 275) [] [.x 4]),oXT 7 8]
 (q (q (R [oG 9 0 3,ox 10 (.load1 (.t 9))])
 (bl 0 (q (R [oB 12 .eql (.x 10) (i 1),oXT 11 12])
 (k (.x 11) (q (R [oG 13 1 3,oL 14 13,oB 15 .geq (.t 14) (i 0),oM 16 15,gT 17 (.fadr 1 (.x 3)) 16,gT 18 (.load1 (.t 17)) 16,gT 19 (.mov (.x 2)) 16,gT 20 (.bin .lss (.t 18) (.t 19)) 16,ot 21 (.pick (.t 16) (.t 20) (C bF)),oM 22 21,gT 23 (.fadr 2 (.x 3)) 22,gT 24 (.load1 (.t 23)) 22,gT 25 (.bin .eql (.t 24) (i 0)) 22,ot 26 (.pick (.t 22) (.t 25) (C bF)),oXT 6 26])
 .ret) (q (R [oB 28 .eql (.x 10) (i 2),oXT 27 28])
 (k (.x 27) (q (R [oG 29 1 3,oL 30 29,ot 31 (.bin .geq (.t 30) (i (-1000))),oM 32 31,gT 33 (.fadr 1 (.x 3)) 32,gT 34 (.load1 (.t 33)) 32,gT 35 (.bin .leq (.t 34) (i 1000)) 32,ot 36 (.pick (.t 32) (.t 35) (C bF)),oM 37 36,gT 38 (.fadr 2 (.x 3)) 37,gT 39 (.load1 (.t 38)) 37,gT 40 (.bin .eql (.t 39) (i 0)) 37,ot 41 (.pick (.t 37) (.t 40) (C bF)),oXT 6 41])
 .ret) (q (q (R [oB 43 .eql (.x 10) (i 3),oXT 42 43])
 (k (.x 42) .skip (q (R [oB 44 .eql (.x 10) (i 4),oXT 42 44])
 (k (.x 42) .skip (R [oB 45 .eql (.x 10) (i 5),oXT 42 45])))))
 (k (.x 42) (q (R [oTX 46 7,oG 47 1 3,oL 48 47,ot 49 (.call (.t 46) [.t 48]),oM 50 49,gT 51 (.mov (.x 7)) 50,gT 52 (.fadr 2 (.x 3)) 50,gT 53 (.load1 (.t 52)) 50,gT 54 (.call (.t 51) [.t 53]) 50,ot 55 (.pick (.t 50) (.t 54) (C bF)),oXT 6 55])
 .ret) (q (R [oB 57 .eql (.x 10) (i 6),oXT 56 57])
 (k (.x 56) (q (R [oTX 58 7,oG 59 1 3,oL 60 59,ot 61 (.call (.t 58) [.t 60]),oM 62 61,gT 63 (.fadr 2 (.x 3)) 62,gT 64 (.load1 (.t 63)) 62,gT 65 (.bin .eql (.t 64) (i 0)) 62,ot 66 (.pick (.t 62) (.t 65) (C bF)),oXT 6 66])
 .ret) .skip))))))))))
 (rG [oK 6]
 .ret)))),
 [.mov (.x 6)],[],false,3⟩
def K222:SFunc:=⟨(rG [ox 6 (.mov (.c (.p (.nsl))))]
 (q (q (R [oTX 7 0,ot 8 (.nilck (.t 7)),oF 9 2 8,oL 10 9,ox 11 (.bin .eql (.t 10) (i 0))])
 (k (.x 11) (R [oTX 12 0,oTX 13 2,ot 14 (.nilck (.t 12)),oF 15 2 14,o0 (.store 1 (.t 15) (.t 13))]) .skip))
 (rG [oTX 16 1,oXT 6 16]
 .ret))),
 [.mov (.x 6)],[],false,3⟩
def K223:SFunc:=⟨(rG [oN 2,oXI 3 0]
 (q (q (R [oTX 4 0,oC 5 233 [.t 4],ox 6 (.un .not (.t 5))])
 (k (.x 6) (q (R [oN 2,oXI 3 1])
 .ret) .skip))
 (rG [oTX 7 0,oC 8 237 [.t 7,(i 1)],oXT 2 8,oXI 3 0]
 .ret))),
 [.mov (.x 2),.mov (.x 3)],[],false,1⟩
def K224:SFunc:=⟨(rG [ox 4 (.mov (.c (.p (.nsl))))]
 (rG [oTX 5 1,oC 6 101 [.t 5],oXT 4 6]
 .ret)),
 [.mov (.x 4)],[],false,2⟩
def K225:SFunc:=⟨(rG [ox 6 (.mov (.c (.p (.nsl))))]
 (q (q (R [oTX 7 0,ot 8 (.nilck (.t 7)),oF 9 2 8,oL 10 9,ox 11 (.bin .neq (.t 10) (i 0))])
 (k (.x 11) (q (R [ox 6 (.mov (.c (.p (.nsl))))])
 .ret) .skip))
 (rG [oTX 12 0,oTX 13 1,oTX 14 2,oC 15 133 [.t 13,.t 14],oE 16 15 0,oE 17 15 1,oC 18 222 [.t 12,.t 16,.t 17],oXT 6 18]
 .ret))),
 [.mov (.x 6)],[],false,3⟩
def K226:SFunc:=⟨(rG [ox 6 (.mov (.c (.p (.nsl))))]
 (q (q (R [oTX 7 0,ot 8 (.nilck (.t 7)),oF 9 2 8,oL 10 9,ox 11 (.bin .neq (.t 10) (i 0))])
 (k (.x 11) (q (R [ox 6 (.mov (.c (.p (.nsl))))])
 .ret) .skip))
 (rG [oTX 12 0,oTX 13 1,oTX 14 2,oC 15 238 [.t 13,.t 14],oE 16 15 0,oE 17 15 1,oC 18 222 [.t 12,.t 16,.t 17],oXT 6 18]
 .ret))),
 [.mov (.x 6)],[],false,3⟩
def K227:SFunc:=⟨(rG [ox 6 (.mov (.c (.p (.nsl))))]
 (q (q (R [oTX 7 0,ot 8 (.nilck (.t 7)),oF 9 2 8,oL 10 9,ox 11 (.bin .neq (.t 10) (i 0))])
 (k (.x 11) (q (R [ox 6 (.mov (.c (.p (.nsl))))])
 .ret) .skip))
 (rG [oTX 12 0,oTX 13 1,oTX 14 2,oC 15 69 [.t 13,.t 14],oE 16 15 0,oE 17 15 1,oC 18 222 [.t 12,.t 16,.t 17],oXT 6 18]
 .ret))),
 [.mov (.x 6)],[],false,3⟩
def K229:SFunc:=⟨(rG [ox 3 (.box (.x 0)),ox 4 (.box (.x 1)),oN 6,oXI 7 0]
 (q (q (R [ot 14 (.loadn 4 (.x 3)),oC 15 157 [.t 14],oXT 8 15])
 (rG [oTX 16 8,ox 17 (.bin .neq (.t 16) (i 0))]
 (k (.x 17) (q (R [oTX 18 8,oN 6,oXT 7 18])
 .ret) .skip)))
 (q (q (R [oTX 19 2,oJ 20 19,oG 21 0 3,oL 22 21,ox 23 (.bin .neq (.t 20) (.t 22))])
 (k (.x 23) (q (R [oN 6,oXI 7 1])
 .ret) .skip))
 (rG [oG 24 1 3,oL 25 24,oJ 26 25,ot 27 (.mkslice 24 [.nsl] (i 0) (.t 26)),oXT 9 27]
 (rG [oXI 10 0]
 (q (q (R [oG 28 1 3,ox 29 (.load1 (.t 28)),ox 30 (.len (.x 29)),oXI 31 0])
 (bl 0 (lp (q (R [ox 32 (.bin .lss (.x 31) (.x 30))])
 (q (k (.x 32) .skip (ex 0))
 (q (bl 1 (q (R [ot 33 (.idx 3 (.x 29) (.x 31)),ot 34 (.loadn 3 (.t 33)),ox 12 (.alloc [p0,p0,p0]),oS 3 12 34])
 (rG [ox 13 (.mov (.c (.p (.nsl))))]
 (q (q (R [oG 35 0 12,ox 36 (.load1 (.t 35))])
 (bl 2 (q (R [oB 38 .eql (.x 36) (i 1),oXT 37 38])
 (k (.x 37) (R [oTX 39 2,oG 40 1 12,oL 41 40,oI 42 1 39 41,oL 43 42,oXT 13 43]) (q (R [oB 45 .eql (.x 36) (i 2),oXT 44 45])
 (k (.x 44) (R [oG 46 0 4,oL 47 46,oG 48 1 12,oL 49 48,ot 50 (.call (.t 47) [.t 49]),oXT 13 50]) (q (R [oB 52 .eql (.x 36) (i 3),oXT 51 52])
 (k (.x 51) (D [dF (oG 53 1 4),dH (oL 54 53),dF (oTX 55 9),dF (oG 56 1 12),dH (oL 57 56),dH (oI 58 1 55 57),dH (oL 59 58),dF (oTX 60 9),dF (oG 61 2 12),dH (oL 62 61),dH (oI 63 1 60 62),dH (oL 64 63),⟨ot 65 (.call (.t 54) [.t 59,.t 64]),.write,0,1⟩,⟨oXT 13 65,.free,1,1⟩]) (q (R [oB 67 .eql (.x 36) (i 4),oXT 66 67])
 (k (.x 66) (D [dF (oG 68 2 4),dH (oL 69 68),dF (oTX 70 9),dF (oG 71 1 12),dH (oL 72 71),dH (oI 73 1 70 72),dH (oL 74 73),dF (oTX 75 9),dF (oG 76 2 12),dH (oL 77 76),dH (oI 78 1 75 77),dH (oL 79 78),⟨ot 80 (.call (.t 69) [.t 74,.t 79]),.write,0,1⟩,⟨oXT 13 80,.free,1,1⟩]) (q (R [oB 82 .eql (.x 36) (i 5),oXT 81 82])
 (k (.x 81) (D [dF (oG 83 3 4),dH (oL 84 83),dF (oTX 85 9),dF (oG 86 1 12),dH (oL 87 86),dH (oI 88 1 85 87),dH (oL 89 88),dF (oTX 90 9),dF (oG 91 2 12),dH (oL 92 91),dH (oI 93 1 90 92),dH (oL 94 93),⟨ot 95 (.call (.t 84) [.t 89,.t 94]),.write,0,1⟩,⟨oXT 13 95,.free,1,1⟩]) (q (R [oB 97 .eql (.x 36) (i 6),oXT 96 97])
 (k (.x 96) (q (D [dF (oG 98 4 4),dH (oL 99 98),dF (oTX 100 10),dF (oTX 101 9),dF (oG 102 1 12),dH (oL 103 102),dH (oI 104 1 101 103),dH (oL 105 104),⟨ot 106 (.call (.t 99) [.t 100,.t 105]),.write,0,1⟩,⟨oXT 13 106,.free,1,1⟩])
 (R [oTX 107 10,oB 108 .add (.t 107) (i 1),oXT 10 108])) .skip))))))))))))))
 (R [oTX 109 9,oTX 110 13,ot 111 (.slit [.nsl] 1 [(0,.t 110)]),ot 112 (.append 24 1 (.t 109) (.t 111)),oXT 9 112])))))
 (R [oB 113 .add (.x 31) (i 1),oXT 31 113])))))))
 (rG [oTX 114 9,oXT 6 114,oXI 7 0]
 .ret))))))),
 [.mov (.x 6),.mov (.x 7)],[],false,3⟩
def K233:SFunc:=⟨(rG [oK 2]
 (rG [oTX 3 0,oB 4 .geq (.t 3) (i 0),oM 5 4,gT 6 (.mov (.x 0)) 5,gT 7 (.bin .lss (.t 6) (i 32)) 5,ot 8 (.pick (.t 5) (.t 7) (C bF)),oXT 2 8]
 .ret)),
 [.mov (.x 2)],[],false,1⟩
def K237:SFunc:=⟨(rG [oN 4]
 (rG [ox 5 (.alloc z8)]
 (rG [oTX 6 0,oTX 7 1,ot 8 (.conv .u8 (.t 7)),ot 9 (.idxA 32 1 (.x 5) (.t 6)),o0 (.store 1 (.t 9) (.t 8))]
 (q (D [⟨oC 10 63 [(i 1)],.write,0,1⟩,⟨ot 11 (.loadn 32 (.x 5)),.read,0,1⟩,⟨oC 12 205 [.t 11],.write,1,2⟩,⟨ot 13 (.build [pF,.lit [],.lit []] [(0,2,.t 10),(2,1,.t 12)]),.free,2,2⟩,⟨ot 14 (.slit [.v (bF),.sl [],.sl []] 1 [(0,.t 13)]),.write,2,3⟩,⟨oXT 4 14,.free,3,3⟩])
 .ret)))),
 [.mov (.x 4)],[],false,2⟩
def K238:SFunc:=⟨(rG [oN 4,oXI 5 0]
 (rG [oTX 6 0,oTX 7 1,oC 8 202 [.t 6,.t 7,(.f 276)],oE 9 8 0,oE 10 8 1,oXT 4 9,oXT 5 10]
 .ret)),
 [.mov (.x 4),.mov (.x 5)],[],false,2⟩
def K248:SFunc:=⟨(rG [ox 4 (.mov (C (I .u64 0))),ox 5 (.mov (C (I .u64 0)))]
 (rG [oTX 14 0,ot 15 (.bin .and (.t 14) (C (I .u64 4294967295))),oXT 6 15]
 (rG [oTX 16 0,ot 17 (.bin .shr (.t 16) (C (I .u64 32))),oXT 7 17]
 (rG [oTX 18 1,ot 19 (.bin .and (.t 18) (C (I .u64 4294967295))),oXT 8 19]
 (rG [oTX 20 1,ot 21 (.bin .shr (.t 20) (C (I .u64 32))),oXT 9 21]
 (rG [oTX 22 6,oTX 23 8,oB 24 .mul (.t 22) (.t 23),oXT 10 24]
 (rG [oTX 25 7,oTX 26 8,oB 27 .mul (.t 25) (.t 26),oTX 28 10,ot 29 (.bin .shr (.t 28) (C (I .u64 32))),oB 30 .add (.t 27) (.t 29),oXT 11 30]
 (rG [oTX 31 11,ot 32 (.bin .and (.t 31) (C (I .u64 4294967295))),oXT 12 32]
 (rG [oTX 33 11,ot 34 (.bin .shr (.t 33) (C (I .u64 32))),oXT 13 34]
 (rG [oTX 35 12,oTX 36 6,oTX 37 9,oB 38 .mul (.t 36) (.t 37),oB 39 .add (.t 35) (.t 38),oXT 12 39]
 (rG [oTX 40 7,oTX 41 9,oB 42 .mul (.t 40) (.t 41),oTX 43 13,oB 44 .add (.t 42) (.t 43),oTX 45 12,ot 46 (.bin .shr (.t 45) (C (I .u64 32))),oB 47 .add (.t 44) (.t 46),oXT 4 47]
 (rG [oTX 48 0,oTX 49 1,oB 50 .mul (.t 48) (.t 49),oXT 5 50]
 .ret)))))))))))),
 [.mov (.x 4),.mov (.x 5)],[],false,2⟩
def K249:SFunc:=⟨(rG [oTX 8 1,oB 9 .add (.t 8) (i 1),oXT 6 9]
 (bl 0 (lp (q (q (R [oTX 10 6,oTX 11 2,ox 12 (.bin .lss (.t 10) (.t 11))])
 (k (.x 12) .skip (ex 0)))
 (q (bl 1 (q (R [oTX 15 6,oXT 7 15])
 (bl 2 (lp (q (q (D [dF (oTX 16 7),dF (oTX 17 1),dF (oB 18 .gtr (.t 16) (.t 17)),dF (oM 19 18),dF (gT 20 (.mov (.x 0)) 19),dF (gT 21 (.mov (.x 7)) 19),dH (gT 22 (.idx 1 (.t 20) (.t 21)) 19),dH (gT 23 (.load1 (.t 22)) 19),dF (gT 24 (.mov (.x 0)) 19),dF (gT 25 (.mov (.x 7)) 19),dF (gT 26 (.bin .sub (.t 25) (i 1)) 19),dH (gT 27 (.idx 1 (.t 24) (.t 26)) 19),dH (gT 28 (.load1 (.t 27)) 19),⟨gT 29 (.call (.f 255) [.t 23,.t 28]) 19,.write,0,1⟩,⟨ox 30 (.pick (.t 19) (.t 29) (C bF)),.free,1,1⟩])
 (k (.x 30) .skip (ex 2)))
 (q (bl 3 (D [dF (oTX 33 0),dF (oTX 34 7),⟨oTX 35 0,.free,0,1⟩,⟨oTX 36 7,.free,0,1⟩,⟨oB 37 .sub (.t 36) (i 1),.free,0,1⟩,dF (oTX 38 0),dF (oTX 39 7),dF (oB 40 .sub (.t 39) (i 1)),dH (oI 41 1 38 40),dH (oL 42 41),dF (oTX 43 0),dF (oTX 44 7),dH (oI 45 1 43 44),dH (oL 46 45),dH (oI 47 1 33 34),⟨o0 (.store 1 (.t 47) (.t 42)),.write,0,1⟩,⟨oI 48 1 35 37,.here,1,1⟩,⟨o0 (.store 1 (.t 48) (.t 46)),.write,1,2⟩]))
 (R [oTX 31 7,oB 32 .sub (.t 31) (i 1),oXT 7 32])))))))
 (R [oTX 13 6,oB 14 .add (.t 13) (i 1),oXT 6 14])))))),
 [],[0],false,3⟩
def K255:SFunc:=⟨(rG [oK 4]
 (rG [oTX 5 0,oC 6 294 [.t 5],oM 7 6,gT 8 (.mov (.x 1)) 7,gT 9 (.call (.f 294) [.t 8]) 7,gT 10 (.un .not (.t 9)) 7,ot 11 (.pick (.t 7) (.t 10) (C bF)),oM 12 11,gF 13 (.mov (.x 0)) 12,gF 14 (.mov (.x 1)) 12,gF 15 (.bin .lss (.t 13) (.t 14)) 12,ot 16 (.pick (.t 12) (C bT) (.t 15)),oXT 4 16]
 .ret)),
 [.mov (.x 4)],[],false,2⟩
def K259:SFunc:=⟨(rG [oXI 2 0]
 (q (q (R [oTX 3 0,ox 4 (.bin .geq (.t 3) (C (I .u64 4294967296)))])
 (k (.x 4) (q (R [oTX 5 0,ot 6 (.bin .shr (.t 5) (C (I .u64 32))),oXT 0 6])
 (R [oXI 2 32])) .skip))
 (q (q (R [oTX 7 0,ox 8 (.bin .geq (.t 7) (C (I .u64 65536)))])
 (k (.x 8) (q (R [oTX 9 0,ot 10 (.bin .shr (.t 9) (C (I .u64 16))),oXT 0 10])
 (R [oTX 11 2,oB 12 .add (.t 11) (i 16),oXT 2 12])) .skip))
 (q (q (R [oTX 13 0,ox 14 (.bin .geq (.t 13) (C (I .u64 256)))])
 (k (.x 14) (q (R [oTX 15 0,ot 16 (.bin .shr (.t 15) (C (I .u64 8))),oXT 0 16])
 (R [oTX 17 2,oB 18 .add (.t 17) (i 8),oXT 2 18])) .skip))
 (rG [oTX 19 2,oTX 20 0,ot 21 (.conv .u8 (.t 20)),ot 22 (.idxS (C (.string lenTab)) (.t 21)),ot 23 (.conv .i64 (.t 22)),oB 24 .add (.t 19) (.t 23),oXT 2 24]
 .ret))))),
 [.mov (.x 2)],[],false,1⟩
def K260:SFunc:=⟨(rG [oK 4]
 (q (q (R [oTX 5 1,ox 6 (.bin .eql (.t 5) (i 0))])
 (k (.x 6) (q (R [oTX 7 0,oB 8 .eql (.t 7) (i 2),oM 9 8,gF 10 (.mov (.x 0)) 9,gF 11 (.bin .eql (.t 10) (i 3)) 9,ot 12 (.pick (.t 9) (C bT) (.t 11)),oXT 4 12])
 .ret) .skip))
 (rG [oTX 13 0,oTX 14 1,oB 15 .eql (.t 13) (.t 14),oXT 4 15]
 .ret))),
 [.mov (.x 4)],[],false,2⟩
def K261:SFunc:=⟨(rG [oXI 2 0]
 (rG [oTX 7 0,oC 8 183 [.t 7],oM 6 8,oE 9 6 0,oE 10 6 1,oE 11 6 2,oM 3 9,oXT 4 10,oM 5 11]
 (rG [oTX 12 4,oXT 2 12]
 .ret))),
 [.mov (.x 2)],[],false,1⟩
def K262:SFunc:=⟨(rG [ox 1 (.box (.x 0)),oK 2]
 (rG [oG 7 0 1,ot 8 (.loadn 2 (.t 7)),oC 9 295 [.t 8],oXT 3 9]
 (rG [oG 10 2 1,ot 11 (.loadn 2 (.t 10)),oC 12 295 [.t 11],oXT 4 12]
 (q (q (R [oTX 13 3,ot 14 (.un .not (.t 13)),oM 15 14,gF 16 (.mov (.x 4)) 15,gF 17 (.un .not (.t 16)) 15,ot 18 (.pick (.t 15) (C bT) (.t 17)),oM 19 18,gF 20 (.fadr 2 (.x 1)) 19,gF 21 (.fadr 0 (.t 20)) 19,gF 22 (.load1 (.t 21)) 19,ot 23 (.pick (.t 19) (C bT) (.t 22)),oM 24 23,gF 25 (.fadr 2 (.x 1)) 24,gF 26 (.loadn 2 (.t 25)) 24,gF 27 (.call (.f 296) [.t 26]) 24,ox 28 (.pick (.t 24) (C bT) (.t 27))])
 (k (.x 28) (q (R [oK 2])
 .ret) .skip))
 (rG [oG 30 0 1,ot 31 (.loadn 2 (.t 30)),oG 32 2 1,ot 33 (.loadn 2 (.t 32)),oC 34 297 [.t 31,.t 33],oM 29 34,oE 35 29 0,oE 36 29 1,ox 5 (.alloc [pF,.lit []]),oS 2 5 35,oM 6 36]
 (rG [ot 37 (.loadn 2 (.x 5)),oC 38 298 [.t 37],oXT 2 38]
 .ret)))))),
 [.mov (.x 2)],[],false,1⟩
def K263:SFunc:=⟨(rG [ox 1 (.box (.x 0)),oK 2]
 (rG [ot 3 (.loadn 4 (.x 1)),ot 4 (.build [pF,.lit [],pF,.lit []] []),oC 5 299 [.t 3,.t 4],oXT 2 5]
 .ret)),
 [.mov (.x 2)],[],false,1⟩
def K264:SFunc:=⟨(rG [oXI 4 0,oXI 5 0]
 (rG [oTX 7 0,oTX 8 1,oC 9 300 [.t 7,.t 8],oXT 6 9]
 (q (q (R [oTX 10 6,ox 11 (.bin .neq (.t 10) (i 0))])
 (k (.x 11) (q (R [oTX 12 6,oXI 4 0,oXT 5 12])
 .ret) .skip))
 (rG [oTX 13 0,oTX 14 1,oI 15 12 13 14,oF 16 1 15,oL 17 16,oC 18 261 [.t 17],oXT 4 18,oXI 5 0]
 .ret)))),
 [.mov (.x 4),.mov (.x 5)],[],false,2⟩
def K265:SFunc:=⟨(rG [oXI 6 0]
 (bl 0 (lp (q (q (R [oTX 13 6,oTX 14 1,oJ 15 14,ox 16 (.bin .lss (.t 13) (.t 15))])
 (k (.x 16) .skip (ex 0)))
 (q (bl 1 (q (R [oXI 7 0])
 (rG [oXI 8 1]
 (q (q (R [oXI 9 0])
 (bl 2 (lp (q (q (R [oTX 19 9,oTX 20 2,oJ 21 20,ox 22 (.bin .lss (.t 19) (.t 21))])
 (k (.x 22) .skip (ex 2)))
 (q (bl 3 (q (D [dF (oTX 25 2),dF (oTX 26 9),dH (oI 27 1 25 26),dH (oL 28 27),dF (oTX 29 2),dF (oTX 30 6),dH (oI 31 1 29 30),dH (oL 32 31),dF (ox 33 (.bin .eql (.t 28) (.t 32)))])
 (k (.x 33) (q (R [oTX 34 7,oB 35 .add (.t 34) (i 1),oXT 7 35])
 (rG [oTX 36 9,oTX 37 6,ox 38 (.bin .lss (.t 36) (.t 37))]
 (k (.x 38) (R [oTX 39 8,oB 40 .add (.t 39) (i 1),oXT 8 40]) .skip))) .skip)))
 (R [oTX 23 9,oB 24 .add (.t 23) (i 1),oXT 9 24]))))))
 (rG [ox 10 (.mov (C (Y [])))]
 (q (q (R [oTX 41 7,ox 42 (.bin .gtr (.t 41) (i 1))])
 (k (.x 42) (R [oTX 43 8,oB 44 .add (i 48) (.t 43),ot 45 (.conv .u8 (.t 44)),ot 46 (.slit [.v (I .u8 0)] 1 [(0,.t 45)]),ot 47 (.b2s (.t 46)),oXT 10 47]) .skip))
 (rG [ot 48 (.slit [.v (Y [])] 3 [(0,(C (Y [120]))),(1,(C (Y [121]))),(2,(C (Y [122])))]),oXT 11 48]
 (q (q (R [oTX 49 2,oTX 50 6,oI 51 1 49 50,oL 52 51,ox 53 (.bin .eql (.t 52) (i 2))])
 (k (.x 53) (R [ot 54 (.slit [.v (Y [])] 3 [(0,(C (Y [97]))),(1,(C (Y [98]))),(2,(C (Y [99])))]),oXT 11 54]) .skip))
 (q (q (R [oTX 55 2,oTX 56 6,oI 57 1 55 56,oL 58 57,ox 59 (.bin .eql (.t 58) (i 3))])
 (k (.x 59) (R [ot 60 (.slit [.v (Y [])] 7 [(0,(C (Y [117]))),(1,(C (Y [112]))),(2,(C (Y [113]))),(3,(C (Y [114]))),(4,(C (Y [97,120]))),(5,(C (Y [97,121]))),(6,(C (Y [97,122])))]),oXT 11 60]) .skip))
 (rG [oXI 12 0]
 (bl 4 (lp (q (q (R [oTX 61 12,oTX 62 1,oTX 63 6,oI 64 1 62 63,oL 65 64,oJ 66 65,oB 67 .lss (.t 61) (.t 66),oM 68 67,gT 69 (.mov (.x 12)) 68,gT 70 (.mov (.x 11)) 68,gT 71 (.len (.t 70)) 68,gT 72 (.bin .lss (.t 69) (.t 71)) 68,ox 73 (.pick (.t 68) (.t 72) (C bF))])
 (k (.x 73) .skip (ex 4)))
 (q (bl 5 (D [dF (oTX 76 0),dF (oTX 77 11),dF (oTX 78 12),dH (oI 79 1 77 78),dH (oL 80 79),dF (oTX 81 10),dF (oB 82 .add (.t 80) (.t 81)),dF (oTX 83 1),dF (oTX 84 6),dH (oI 85 1 83 84),dH (oL 86 85),dF (oTX 87 12),dH (oI 88 1 86 87),dH (oL 89 88),⟨oC 90 301 [.t 76,.t 82,.t 89],.write,0,1⟩]))
 (R [oTX 74 12,oB 75 .add (.t 74) (i 1),oXT 12 75])))))))))))))))
 (R [oTX 17 6,oB 18 .add (.t 17) (i 1),oXT 6 18])))))),
 [],[],false,3⟩
def K266:SFunc:=⟨(rG [oN 6]
 (q (q (R [ox 7 (.mov (.x 1))])
 (bl 0 (q (R [oB 9 .eql (.x 7) (i 1),oXT 8 9])
 (k (.x 8) (q (R [oTX 10 0,ot 11 (.call (.f 302) [.t 10,(C (Y [120,120]))])])
 (rG [oTX 12 0,ot 13 (.call (.f 302) [.t 12,(C (Y [121,121]))])]
 (rG [oTX 14 0,ot 15 (.slit [.v (Y [])] 3 [(0,(C (Y [120,120]))),(1,(C (Y [121,121]))),(2,(C (Y [49])))]),oC 16 303 [.t 14,.t 15],oXT 6 16]
 .ret))) (q (R [oB 18 .eql (.x 7) (i 2),oXT 17 18])
 (k (.x 17) (q (R [oTX 19 0,oTX 20 2,oC 21 304 [.t 19,.t 20],oXT 6 21])
 .ret) (q (q (R [oB 23 .eql (.x 7) (i 3),oXT 22 23])
 (k (.x 22) .skip (R [oB 24 .eql (.x 7) (i 4),oXT 22 24])))
 (k (.x 22) (q (R [oTX 25 0,oC 26 305 [],oC 27 303 [.t 25,.t 26],oXT 6 27])
 .ret) (q (q (R [oB 29 .eql (.x 7) (i 5),oXT 28 29])
 (k (.x 28) .skip (R [oB 30 .eql (.x 7) (i 6),oXT 28 30])))
 (k (.x 28) (q (R [oTX 31 0,oC 32 306 [.t 31],oXT 6 32])
 .ret) (q (R [oB 34 .eql (.x 7) (i 7),oXT 33 34])
 (k (.x 33) (q (R [oTX 35 0,oC 36 307 [.t 35],oXT 6 36])
 .ret) (q (R [oB 38 .eql (.x 7) (i 9),oXT 37 38])
 (k (.x 37) (q (R [oTX 39 0,ot 40 (.slit [.v (Y [])] 6 [(0,(C (Y [97]))),(1,(C (Y [117,50,32,112,49,32,45,32,117,49,32,112,50]))),(2,(C (Y [98]))),(3,(C (Y [117,50,32,113,49,32,45,32,117,49,32,113,50]))),(4,(C (Y [99]))),(5,(C (Y [117,50,32,114,49,32,45,32,117,49,32,114,50])))]),oC 41 308 [.t 39,.t 40]])
 (rG [oTX 42 0,ot 43 (.slit [.v (Y [])] 8 [(0,(C (Y [117]))),(1,(C (Y [117,49]))),(2,(C (Y [112]))),(3,(C (Y [112,49]))),(4,(C (Y [113]))),(5,(C (Y [113,49]))),(6,(C (Y [114]))),(7,(C (Y [114,49])))]),oC 44 308 [.t 42,.t 43]]
 (rG [oTX 45 0,oC 46 309 [],oC 47 308 [.t 45,.t 46]]
 (rG [oTX 48 0,oC 49 310 [],oC 50 303 [.t 48,.t 49],oXT 6 50]
 .ret)))) (q (R [oB 52 .eql (.x 7) (i 8),oXT 51 52])
 (k (.x 51) (q (R [oTX 53 0,oC 54 309 [],oC 55 308 [.t 53,.t 54]])
 (rG [oTX 56 0,oC 57 310 [],oC 58 303 [.t 56,.t 57],oXT 6 58]
 .ret)) (q (R [oB 60 .eql (.x 7) (i 10),oXT 59 60])
 (k (.x 59) (q (R [oTX 61 0,ot 62 (.slit [.v (Y [])] 2 [(0,(C (Y [111]))),(1,(C (Y [48])))]),oC 63 308 [.t 61,.t 62]])
 (rG [oTX 64 0,ot 65 (.slit [.v (Y [])] 3 [(0,(C (Y [121,32,111,32,45,32,122,32,98]))),(1,(C (Y [122,32,97,32,45,32,120,32,111]))),(2,(C (Y [120,32,98,32,45,32,121,32,97])))]),oC 66 303 [.t 64,.t 65],oXT 6 66]
 .ret)) (q (R [oB 68 .eql (.x 7) (i 11),oXT 67 68])
 (k (.x 67) (q (R [oTX 69 0,ot 70 (.slit [.v (Y [])] 4 [(0,(C (Y [111]))),(1,(C (Y [48]))),(2,(C (Y [101]))),(3,(C (Y [111,32,45,32,98])))]),oC 71 308 [.t 69,.t 70]])
 (rG [oTX 72 0,ot 73 (.slit [.v (Y [])] 3 [(0,(C (Y [121,32,111,32,45,32,122,32,97]))),(1,(C (Y [122,32,101,32,45,32,120,32,111]))),(2,(C (Y [120,32,97,32,45,32,121,32,101])))]),oC 74 303 [.t 72,.t 73],oXT 6 74]
 .ret)) (q (R [oB 76 .eql (.x 7) (i 12),oXT 75 76])
 (k (.x 75) (q (R [oTX 77 0,ot 78 (.slit [.v (Y [])] 3 [(0,(C (Y [120,49,32,122,50,32,43,32,120,50,32,122,49]))),(1,(C (Y [121,49,32,122,50,32,43,32,121,50,32,122,49]))),(2,(C (Y [50,32,122,49,32,122,50])))]),oC 79 303 [.t 77,.t 78],oXT 6 79])
 .ret) (q (R [oB 81 .eql (.x 7) (i 13),oXT 80 81])
 (k (.x 80) (q (R [oTX 82 0,ot 83 (.slit [.v (Y [])] 4 [(0,(C (Y [110]))),(1,(C (Y [97,94,50,32,43,32,98,94,50]))),(2,(C (Y [107]))),(3,(C (Y [97,32,120,32,43,32,98,32,121,32,43,32,99,32,122])))]),oC 84 308 [.t 82,.t 83]])
 (rG [oTX 85 0,ot 86 (.slit [.v (Y [])] 3 [(0,(C (Y [110,32,120,32,45,32,50,32,97,32,107]))),(1,(C (Y [110,32,121,32,45,32,50,32,98,32,107]))),(2,(C (Y [110,32,122])))]),oC 87 303 [.t 85,.t 86],oXT 6 87]
 .ret)) (q (R [oB 89 .eql (.x 7) (i 14),oXT 88 89])
 (k (.x 88) (q (R [oTX 90 0,ot 91 (.slit [.v (Y [])] 18 [(0,(C (Y [118,120]))),(1,(C (Y [120,49,32,122,50,32,45,32,120,50,32,122,49]))),(2,(C (Y [118,121]))),(3,(C (Y [121,49,32,122,50,32,45,32,121,50,32,122,49]))),(4,(C (Y [119,120]))),(5,(C (Y [120,51,32,122,50,32,45,32,120,50,32,122,51]))),(6,(C (Y [119,121]))),(7,(C (Y [121,51,32,122,50,32,45,32,121,50,32,122,51]))),(8,(C (Y [118]))),(9,(C (Y [118,120,94,50,32,43,32,118,121,94,50]))),(10,(C (Y [119]))),(11,(C (Y [119,120,94,50,32,43,32,119,121,94,50]))),(12,(C (Y [115]))),(13,(C (Y [33,118,32,119]))),(14,(C (Y [100,120]))),(15,(C (Y [119,32,118,120,32,43,32,115,32,119,120]))),(16,(C (Y [100,121]))),(17,(C (Y [119,32,118,121,32,43,32,115,32,119,121])))]),oC 92 308 [.t 90,.t 91]])
 (rG [oTX 93 0,ot 94 (.slit [.v (Y [])] 3 [(0,(C (Y [45,122,50,32,100,121]))),(1,(C (Y [122,50,32,100,120]))),(2,(C (Y [120,50,32,100,121,32,45,32,121,50,32,100,120])))]),oC 95 303 [.t 93,.t 94],oXT 6 95]
 .ret)) (q (R [oB 97 .eql (.x 7) (i 15),oXT 96 97])
 (k (.x 96) (q (R [oTX 98 0,ot 99 (.slit [.v (Y [])] 6 [(0,(C (Y [97]))),(1,(C (Y [50,32,117,32,120,32,43,32,112,32,122]))),(2,(C (Y [98]))),(3,(C (Y [50,32,117,32,121,32,43,32,113,32,122]))),(4,(C (Y [99]))),(5,(C (Y [112,32,120,32,43,32,113,32,121,32,43,32,50,32,114,32,122])))]),oC 100 308 [.t 98,.t 99]])
 (rG [oTX 101 0,oC 102 309 [],oC 103 308 [.t 101,.t 102]]
 (rG [oTX 104 0,ot 105 (.slit [.v (Y [])] 6 [(0,(C (Y [116,120]))),(1,(C (Y [45,110,32,112,32,45,32,107,32,97,32,45,32,115,32,98]))),(2,(C (Y [116,121]))),(3,(C (Y [45,110,32,113,32,45,32,107,32,98,32,43,32,115,32,97]))),(4,(C (Y [116,122]))),(5,(C (Y [50,32,110,32,117])))]),oC 106 308 [.t 104,.t 105]]
 (rG [oTX 107 0,ot 108 (.slit [.v (Y [])] 3 [(0,(C (Y [50,32,117,32,116,120,32,43,32,112,32,116,122]))),(1,(C (Y [50,32,117,32,116,121,32,43,32,113,32,116,122]))),(2,(C (Y [112,32,116,120,32,43,32,113,32,116,121,32,43,32,50,32,114,32,116,122])))]),oC 109 303 [.t 107,.t 108],oXT 6 109]
 .ret)))) .skip))))))))))))))))))))))))))))
 (rG [oTX 110 0,ot 111 (.slit [.v (Y [])] 3 [(0,(C (Y [45,112]))),(1,(C (Y [45,113]))),(2,(C (Y [50,32,117])))]),oC 112 303 [.t 110,.t 111],oXT 6 112]
 .ret))),
 [.mov (.x 6)],[],false,3⟩
def K267:SFunc:=⟨(rG [oXI 4 0]
 (rG [oTX 6 0,oTX 7 1,oB 8 .rem (.t 6) (.t 7),oXT 5 8]
 (q (q (R [oTX 9 5,ox 10 (.bin .lss (.t 9) (i 0))])
 (k (.x 10) (R [oTX 11 5,oTX 12 1,oB 13 .add (.t 11) (.t 12),oXT 5 13]) .skip))
 (rG [oTX 14 5,oXT 4 14]
 .ret)))),
 [.mov (.x 4)],[],false,2⟩
def K270:SFunc:=⟨(rG [oN 2]
 (q (q (R [oTX 3 0,ox 4 (.isnil false (.t 3))])
 (k (.x 4) (q (R [oN 2])
 .ret) .skip))
 (rG [ot 5 (.slit [.v (I .u32 0)] 0 []),oTX 6 0,ot 7 (.append 4 1 (.t 5) (.t 6)),oXT 2 7]
 .ret))),
 [.mov (.x 2)],[1000],true,1⟩
def K272:SFunc:=⟨(rG [ox 4 (.mov (C (Y [])))]
 (q (q (R [oTX 10 1,ox 11 (.bin .eql (.t 10) (i 10))])
 (k (.x 11) (q (q (R [oTX 12 0,oB 13 .leq (i 0) (.t 12),oM 14 13,gT 15 (.mov (.x 0)) 14,gT 16 (.bin .lss (.t 15) (i 100)) 14,ox 17 (.pick (.t 14) (.t 16) (C bF))])
 (k (.x 17) (q (R [oTX 18 0,oC 19 319 [.t 18],oXT 4 19])
 .ret) .skip))
 (rG [ox 5 (.alloc [.p (.v (I .u8 0)),.p (.v (I .u8 0)),.p (.v (I .u8 0)),.p (.v (I .u8 0)),.p (.v (I .u8 0)),.p (.v (I .u8 0)),.p (.v (I .u8 0)),.p (.v (I .u8 0)),.p (.v (I .u8 0)),.p (.v (I .u8 0)),.p (.v (I .u8 0)),.p (.v (I .u8 0)),.p (.v (I .u8 0)),.p (.v (I .u8 0)),.p (.v (I .u8 0)),.p (.v (I .u8 0)),.p (.v (I .u8 0)),.p (.v (I .u8 0)),.p (.v (I .u8 0)),.p (.v (I .u8 0)),.p (.v (I .u8 0)),.p (.v (I .u8 0)),.p (.v (I .u8 0)),.p (.v (I .u8 0))])]
 (rG [oTX 20 0,ot 21 (.conv .u64 (.t 20)),oXT 6 21]
 (q (q (R [oTX 22 0,ox 23 (.bin .lss (.t 22) (i 0))])
 (k (.x 23) (R [oTX 24 6,ot 25 (.un .neg (.t 24)),oXT 6 25]) .skip))
 (rG [oTX 26 6,oC 27 320 [.t 26],oXT 7 27]
 (rG [oTX 28 7,oB 29 .add (i 1) (.t 28),ot 30 (.sliceArr 24 (.x 5) (some (i 1)) (some (.t 29))),oTX 31 6,oC 32 321 [.t 30,.t 31]]
 (q (q (R [oTX 33 0,ox 34 (.bin .lss (.t 33) (i 0))])
 (k (.x 34) (q (R [ot 35 (.idxA 24 1 (.x 5) (i 0)),o0 (.store 1 (.t 35) (C (I .u8 45)))])
 (rG [oTX 36 7,oB 37 .add (i 1) (.t 36),ot 38 (.sliceArr 24 (.x 5) none (some (.t 37))),ot 39 (.b2s (.t 38)),oXT 4 39]
 .ret)) .skip))
 (rG [oTX 40 7,oB 41 .add (i 1) (.t 40),ot 42 (.sliceArr 24 (.x 5) (some (i 1)) (some (.t 41))),ot 43 (.b2s (.t 42)),oXT 4 43]
 .ret)))))))) .skip))
 (rG [oTX 45 0,ot 46 (.conv .u64 (.t 45)),oTX 47 1,oTX 48 0,oB 49 .lss (.t 48) (i 0),ot 50 (.call (.f 322) [(.c (.lit [])),.t 46,.t 47,.t 49,(C bF)]),oM 44 50,oE 51 44 0,oE 52 44 1,oM 8 51,oXT 9 52]
 (rG [oTX 53 9,oXT 4 53]
 .ret)))),
 [.mov (.x 4)],[],false,2⟩
def K273:SFunc:=⟨(rG [oXI 2 0,ox 3 (.mov (C (.nilIface)))]
 (rG [oTX 11 0,ot 12 (.lenS (.t 11)),oXT 4 12]
 (q (q (R [ot 13 (.mov (C bF)),gT 14 (.mov (.x 4)) 13,gT 15 (.bin .lss (i 0) (.t 14)) 13,gT 16 (.mov (.t 15)) 13,gT 17 (.mov (.x 4)) 16,gT 18 (.bin .lss (.t 17) (i 10)) 16,gT 19 (.pick (.t 16) (.t 18) (C bF)) 13,ot 20 (.pick (.t 13) (.t 19) (C bF)),oM 21 20,gF 22 (.mov (C bT)) 21,gT 23 (.mov (.x 4)) 22,gT 24 (.bin .lss (i 0) (.t 23)) 22,gT 25 (.mov (.t 24)) 22,gT 26 (.mov (.x 4)) 25,gT 27 (.bin .lss (.t 26) (i 19)) 25,gT 28 (.pick (.t 25) (.t 27) (C bF)) 22,gF 29 (.pick (.t 22) (.t 28) (C bF)) 21,ox 30 (.pick (.t 21) (C bT) (.t 29))])
 (k (.x 30) (q (R [oTX 31 0,oXT 5 31])
 (q (q (R [oTX 32 0,ot 33 (.idxS (.t 32) (i 0)),ot 34 (.bin .eql (.t 33) (C (I .u8 45))),oM 35 34,gF 36 (.mov (.x 0)) 35,gF 37 (.idxS (.t 36) (i 0)) 35,gF 38 (.bin .eql (.t 37) (C (I .u8 43))) 35,ox 39 (.pick (.t 35) (C bT) (.t 38))])
 (k (.x 39) (q (R [oTX 40 0,ot 41 (.sliceS (.t 40) (some (i 1)) none),oXT 0 41])
 (rG [oTX 42 0,ot 43 (.lenS (.t 42)),ox 44 (.bin .lss (.t 43) (i 1))]
 (k (.x 44) (q .refuse
 .ret) .skip))) .skip))
 (rG [oXI 6 0]
 (q (q (R [oTX 46 0,ox 47 (.s2b (.t 46)),ox 48 (.len (.x 47)),oXI 49 0])
 (bl 0 (lp (q (R [ox 50 (.bin .lss (.x 49) (.x 48))])
 (q (k (.x 50) .skip (ex 0))
 (q (bl 1 (q (R [ot 51 (.idx 1 (.x 47) (.x 49)),oL 52 51,oXT 8 52])
 (rG [oTX 53 8,ot 54 (.bin .sub (.t 53) (C (I .u8 48))),oXT 8 54]
 (q (q (R [oTX 55 8,ox 56 (.bin .gtr (.t 55) (C (I .u8 9)))])
 (k (.x 56) (q .refuse
 .ret) .skip))
 (R [oTX 58 6,oB 59 .mul (.t 58) (i 10),oTX 60 8,ot 61 (.conv .i64 (.t 60)),oB 62 .add (.t 59) (.t 61),oXT 6 62])))))
 (R [oB 63 .add (.x 49) (i 1),oXT 49 63])))))))
 (q (q (R [oTX 64 5,ot 65 (.idxS (.t 64) (i 0)),ox 66 (.bin .eql (.t 65) (C (I .u8 45)))])
 (k (.x 66) (R [oTX 67 6,ot 68 (.un .neg (.t 67)),oXT 6 68]) .skip))
 (rG [oTX 69 6,oXT 2 69,ox 3 (.mov (C (.nilIface)))]
 .ret)))))) .skip))
 (rG [oTX 71 0,oC 72 323 [.t 71,(i 10),(i 0)],oM 70 72,oE 73 70 0,oE 74 70 1,oXT 9 73,oXT 10 74]
 (rG [oTX 75 9,oTX 76 10,oXT 2 75,oXT 3 76]
 .ret))))),
 [.mov (.x 2),.mov (.x 3)],[],false,1⟩
def K275:SFunc:=⟨(rG [oK 3]
 (rG [oTX 4 0,oB 5 .geq (.t 4) (i 0),oM 6 5,gT 7 (.mov (.x 0)) 6,gT 8 (.load1 (.x 1)) 6,gT 9 (.bin .lss (.t 7) (.t 8)) 6,ot 10 (.pick (.t 6) (.t 9) (C bF)),oXT 3 10]
 .ret)),
 [.mov (.x 3)],[],false,2⟩
def K276:SFunc:=⟨(rG [ox 2 (.box (.x 0)),ox 3 (.box (.x 1)),ox 4 (.alloc [pF,.lit []]),oXI 5 0]
 (q (q (R [ot 6 (.loadn 2 (.x 2)),ot 7 (.loadn 2 (.x 3)),oC 8 128 [.t 6,.t 7],ox 9 (.un .not (.t 8))])
 (k (.x 9) (q (R [ot 10 (.build [pF,.lit []] []),oS 2 4 10,oXI 5 1])
 .ret) .skip))
 (rG [oG 11 0 2,oL 12 11,oG 13 1 2,oL 14 13,oG 15 0 3,oL 16 15,ot 17 (.un .not (.t 16)),oG 18 1 3,oL 19 18,oC 20 203 [.t 12,.t 14,.t 17,.t 19],oE 21 20 0,oE 22 20 1,oS 2 4 21,oXT 5 22]
 .ret))),
 [.loadn 2 (.x 4),.mov (.x 5)],[],false,2⟩
def K294:SFunc:=⟨(rG [oK 2]
 (rG [oTX 3 0,oTX 4 0,oB 5 .neq (.t 3) (.t 4),oXT 2 5]
 .ret)),
 [.mov (.x 2)],[],false,1⟩
def K295:SFunc:=⟨(rG [ox 1 (.box (.x 0)),oK 2]
 (q (q (R [oG 3 1 1,oL 4 3,oJ 5 4,ox 6 (.bin .gtr (.t 5) (i 128))])
 (k (.x 6) (q (R [oK 2])
 .ret) .skip))
 (q (q (R [oG 7 1 1,oL 8 7,oJ 9 8,ox 10 (.bin .eql (.t 9) (i 0))])
 (k (.x 10) (q (R [oG 11 0 1,oL 12 11,ot 13 (.un .not (.t 12)),oXT 2 13])
 .ret) .skip))
 (rG [oG 14 1 1,oL 15 14,oG 16 1 1,oL 17 16,oJ 18 17,oB 19 .sub (.t 18) (i 1),oI 20 1 15 19,oL 21 20,ot 22 (.bin .neq (.t 21) (C (I .u32 0))),oXT 2 22]
 .ret)))),
 [.mov (.x 2)],[],false,1⟩
def K296:SFunc:=⟨(rG [ox 1 (.box (.x 0)),oK 2]
 (rG [oG 3 1 1,oL 4 3,oJ 5 4,oB 6 .eql (.t 5) (i 0),oXT 2 6]
 .ret)),
 [.mov (.x 2)],[],false,1⟩
def K297:SFunc:=⟨(rG [ox 2 (.box (.x 0)),ox 3 (.box (.x 1)),ox 4 (.alloc [pF,.lit []]),oXI 5 0]
 (q (q (R [ot 10 (.loadn 2 (.x 2)),oC 11 295 [.t 10],ot 12 (.un .not (.t 11)),oM 13 12,gF 14 (.loadn 2 (.x 3)) 13,gF 15 (.call (.f 295) [.t 14]) 13,gF 16 (.un .not (.t 15)) 13,ox 17 (.pick (.t 13) (C bT) (.t 16))])
 (k (.x 17) (q (R [ot 18 (.build [pF,.lit []] []),oS 2 4 18,oXI 5 1])
 .ret) .skip))
 (rG [ot 19 (.slit [.v (I .u32 0)] 0 []),oG 20 1 2,oL 21 20,ot 22 (.append 4 1 (.t 19) (.t 21)),oXT 6 22]
 (rG [ot 23 (.slit [.v (I .u32 0)] 0 []),oG 24 1 3,oL 25 24,ot 26 (.append 4 1 (.t 23) (.t 25)),oXT 7 26]
 (q (q (R [oTX 27 6,oJ 28 27,oB 29 .eql (.t 28) (i 0),oM 30 29,gF 31 (.mov (.x 7)) 30,gF 32 (.len (.t 31)) 30,gF 33 (.bin .eql (.t 32) (i 0)) 30,ox 34 (.pick (.t 30) (C bT) (.t 33))])
 (k (.x 34) (q (R [oTX 35 6,oTX 36 7,oC 37 342 [.t 35,.t 36],oC 38 341 [(C bF),.t 37],oE 39 38 0,oE 40 38 1,oS 2 4 39,oXT 5 40])
 .ret) .skip))
 (rG [oXI 8 0]
 (q (bl 0 (lp (q (q (R [oTX 41 6,oTX 42 8,oC 43 343 [.t 41,.t 42],ot 44 (.bin .eql (.t 43) (C (I .u32 0))),oM 45 44,gT 46 (.mov (.x 7)) 45,gT 47 (.mov (.x 8)) 45,gT 48 (.call (.f 343) [.t 46,.t 47]) 45,gT 49 (.bin .eql (.t 48) (C (I .u32 0))) 45,ox 50 (.pick (.t 45) (.t 49) (C bF))])
 (k (.x 50) .skip (ex 0)))
 (bl 1 (R [oTX 51 8,oB 52 .add (.t 51) (i 1),oXT 8 52])))))
 (rG [oTX 53 6,oC 54 344 [.t 53],oXT 6 54]
 (rG [oTX 55 7,oC 56 344 [.t 55],oXT 7 56]
 (q (bl 2 (lp (q (q (R [oTX 57 6,oTX 58 7,oC 59 345 [.t 57,.t 58],ox 60 (.bin .neq (.t 59) (i 0))])
 (k (.x 60) .skip (ex 2)))
 (bl 3 (q (q (R [oTX 61 6,oTX 62 7,oC 63 345 [.t 61,.t 62],ox 64 (.bin .lss (.t 63) (i 0))])
 (k (.x 64) (q (R [oTX 65 6,oXT 9 65])
 (rG [oTX 66 7,oXT 6 66]
 (R [oTX 67 9,oXT 7 67]))) .skip))
 (R [oTX 68 6,oTX 69 7,oC 70 346 [.t 68,.t 69],oC 71 344 [.t 70],oXT 6 71]))))))
 (rG [oTX 72 6,oTX 73 8,oC 74 347 [.t 72,.t 73],oC 75 341 [(C bF),.t 74],oE 76 75 0,oE 77 75 1,oS 2 4 76,oXT 5 77]
 .ret))))))))))),
 [.loadn 2 (.x 4),.mov (.x 5)],[],false,2⟩
def K298:SFunc:=⟨(rG [ox 1 (.box (.x 0)),oK 2]
 (rG [oG 3 0 1,oL 4 3,ot 5 (.un .not (.t 4)),oM 6 5,gT 7 (.fadr 1 (.x 1)) 6,gT 8 (.load1 (.t 7)) 6,gT 9 (.len (.t 8)) 6,gT 10 (.bin .eql (.t 9) (i 1)) 6,ot 11 (.pick (.t 6) (.t 10) (C bF)),oM 12 11,gT 13 (.fadr 1 (.x 1)) 12,gT 14 (.load1 (.t 13)) 12,gT 15 (.idx 1 (.t 14) (i 0)) 12,gT 16 (.load1 (.t 15)) 12,gT 17 (.bin .eql (.t 16) (C (I .u32 1))) 12,ot 18 (.pick (.t 12) (.t 17) (C bF)),oXT 2 18]
 .ret)),
 [.mov (.x 2)],[],false,1⟩
def K299:SFunc:=⟨(rG [ox 2 (.box (.x 0)),ox 3 (.box (.x 1)),oK 4]
 (rG [oG 7 0 2,ot 8 (.loadn 2 (.t 7)),oG 9 0 3,ot 10 (.loadn 2 (.t 9)),oC 11 348 [.t 8,.t 10],oXT 5 11]
 (rG [oG 12 2 2,ot 13 (.loadn 2 (.t 12)),oG 14 2 3,ot 15 (.loadn 2 (.t 14)),oC 16 348 [.t 13,.t 15],oXT 6 16]
 (rG [oTX 17 5,oM 18 17,gT 19 (.mov (.x 6)) 18,ot 20 (.pick (.t 18) (.t 19) (C bF)),oXT 4 20]
 .ret)))),
 [.mov (.x 4)],[],false,2⟩
def K300:SFunc:=⟨(rG [oXI 4 0]
 (rG [oTX 6 0,oC 7 115 [.t 6],oXT 5 7]
 (q (q (R [oTX 8 5,oB 9 .eql (.t 8) (i 0),oM 10 9,gT 11 (.mov (.x 1)) 10,gT 12 (.bin .lss (.t 11) (i 0)) 10,gT 13 (.mov (.t 12)) 10,gF 14 (.mov (.x 1)) 13,gF 15 (.mov (.x 0)) 13,gF 16 (.len (.t 15)) 13,gF 17 (.bin .geq (.t 14) (.t 16)) 13,gT 18 (.pick (.t 13) (C bT) (.t 17)) 10,ox 19 (.pick (.t 10) (.t 18) (C bF))])
 (k (.x 19) (q (R [oXI 4 1])
 .ret) .skip))
 (rG [oTX 20 5,oXT 4 20]
 .ret)))),
 [.mov (.x 4)],[],false,2⟩
def K301:SFunc:=⟨(rG [oTX 6 0,oTX 7 0,ot 8 (.nilck (.t 7)),oF 9 4 8,oL 10 9,oTX 11 1,ot 12 (.slit [.v (Y [])] 1 [(0,.t 11)]),ot 13 (.append 16 1 (.t 10) (.t 12)),ot 14 (.nilck (.t 6)),oF 15 4 14,o0 (.store 1 (.t 15) (.t 13))]
 (R [oTX 16 0,oTX 17 0,ot 18 (.nilck (.t 17)),oF 19 5 18,oL 20 19,oTX 21 2,ot 22 (.slit [.v (I .i64 0)] 1 [(0,.t 21)]),ot 23 (.append 8 1 (.t 20) (.t 22)),ot 24 (.nilck (.t 16)),oF 25 5 24,o0 (.store 1 (.t 25) (.t 23))])),
 [],[],false,3⟩
def K302:SFunc:=⟨(rG [oTX 5 0,oTX 6 0,ot 7 (.nilck (.t 6)),oF 8 8 7,oL 9 8,oC 10 349 [.t 5,(i 1),.t 9,(i 0)],oXT 4 10]
 (rG [oTX 11 0,ot 12 (.nilck (.t 11)),oF 13 8 12,oL 14 13,oB 15 .add (.t 14) (i 1),ot 16 (.nilck (.t 11)),oF 17 8 16,o0 (.store 1 (.t 17) (.t 15))]
 (R [oTX 18 0,oTX 19 1,oTX 20 4,oC 21 301 [.t 18,.t 19,.t 20]]))),
 [],[],false,2⟩
def K303:SFunc:=⟨(rG [oN 4]
 (rG [oN 5]
 (q (q (R [oXI 6 0])
 (bl 0 (lp (q (q (R [oTX 8 6,oTX 9 1,oJ 10 9,ox 11 (.bin .lss (.t 8) (.t 10))])
 (k (.x 11) .skip (ex 0)))
 (q (bl 1 (q (R [oTX 14 0,oTX 15 1,oTX 16 6,oI 17 1 15 16,oL 18 17,oC 19 350 [.t 14,.t 18],oXT 7 19])
 (R [oTX 20 5,oTX 21 7,ot 22 (.slit [.v (I .i64 0)] 1 [(0,.t 21)]),ot 23 (.append 8 1 (.t 20) (.t 22)),oXT 5 23])))
 (R [oTX 12 6,oB 13 .add (.t 12) (i 1),oXT 6 13]))))))
 (rG [oTX 24 5,oXT 4 24]
 .ret)))),
 [.mov (.x 4)],[],false,2⟩
def K305:SFunc:=⟨(rG [oN 0]
 (rG [ot 1 (.slit [.v (Y [])] 3 [(0,(C (Y [121,49,32,122,50,32,45,32,122,49,32,121,50]))),(1,(C (Y [122,49,32,120,50,32,45,32,120,49,32,122,50]))),(2,(C (Y [120,49,32,121,50,32,45,32,121,49,32,120,50])))]),oXT 0 1]
 .ret)),
 [.mov (.x 0)],[],false,0⟩
def K308:SFunc:=⟨(rG [oXI 4 0]
 (bl 0 (lp (q (q (R [oTX 7 4,oB 8 .add (.t 7) (i 1),oTX 9 1,oJ 10 9,ox 11 (.bin .lss (.t 8) (.t 10))])
 (k (.x 11) .skip (ex 0)))
 (q (bl 1 (q (q (R [oTX 14 1,oTX 15 4,oB 16 .add (.t 15) (i 1),oI 17 1 14 16,oL 18 17,ot 19 (.idxS (.t 18) (i 0)),ox 20 (.bin .eql (.t 19) (C (I .u8 33)))])
 (k (.x 20) (q (R [oTX 21 0,oTX 22 1,oTX 23 4,oB 24 .add (.t 23) (i 1),oI 25 1 22 24,oL 26 25,ot 27 (.sliceS (.t 26) (some (i 1)) none),oC 28 350 [.t 21,.t 27],oXT 5 28])
 (rG [oTX 29 0,oTX 30 5,oC 31 349 [.t 29,(i 6),.t 30,(i 0)],oXT 5 31]
 (rG [oTX 32 0,oTX 33 0,ot 34 (.nilck (.t 33)),oF 35 0 34,oF 36 3 35,oL 37 36,oTX 38 5,ot 39 (.slit [.v (I .i64 0)] 1 [(0,.t 38)]),ot 40 (.append 8 1 (.t 37) (.t 39)),ot 41 (.nilck (.t 32)),oF 42 0 41,oF 43 3 42,o0 (.store 1 (.t 43) (.t 40))]
 (rG [oTX 44 0,oTX 45 1,oTX 46 4,oI 47 1 45 46,oL 48 47,oTX 49 5,oC 50 301 [.t 44,.t 48,.t 49]]
 (ex 1))))) .skip))
 (rG [oTX 51 0,oTX 52 1,oTX 53 4,oB 54 .add (.t 53) (i 1),oI 55 1 52 54,oL 56 55,oC 57 350 [.t 51,.t 56],oXT 6 57]
 (R [oTX 58 0,oTX 59 1,oTX 60 4,oI 61 1 59 60,oL 62 61,oTX 63 6,oC 64 301 [.t 58,.t 62,.t 63]]))))
 (R [oTX 12 4,oB 13 .add (.t 12) (i 2),oXT 4 13])))))),
 [],[],false,2⟩
def K319:SFunc:=⟨(rG [ox 2 (.mov (C (Y [])))]
 (q (q (R [oTX 3 0,ox 4 (.bin .lss (.t 3) (i 10))])
 (k (.x 4) (q (R [oTX 5 0,oTX 6 0,oB 7 .add (.t 6) (i 1),ot 8 (.sliceS (C (Y [48,49,50,51,52,53,54,55,56,57,97,98,99,100,101,102,103,104,105,106,107,108,109,110,111,112,113,114,115,116,117,118,119,120,121,122])) (some (.t 5)) (some (.t 7))),oXT 2 8])
 .ret) .skip))
 (rG [oTX 9 0,oB 10 .mul (.t 9) (i 2),oTX 11 0,oB 12 .mul (.t 11) (i 2),oB 13 .add (.t 12) (i 2),ot 14 (.sliceS (C (Y [48,48,48,49,48,50,48,51,48,52,48,53,48,54,48,55,48,56,48,57,49,48,49,49,49,50,49,51,49,52,49,53,49,54,49,55,49,56,49,57,50,48,50,49,50,50,50,51,50,52,50,53,50,54,50,55,50,56,50,57,51,48,51,49,51,50,51,51,51,52,51,53,51,54,51,55,51,56,51,57,52,48,52,49,52,50,52,51,52,52,52,53,52,54,52,55,52,56,52,57,53,48,53,49,53,50,53,51,53,52,53,53,53,54,53,55,53,56,53,57,54,48,54,49,54,50,54,51,54,52,54,53,54,54,54,55,54,56,54,57,55,48,55,49,55,50,55,51,55,52,55,53,55,54,55,55,55,56,55,57,56,48,56,49,56,50,56,51,56,52,56,53,56,54,56,55,56,56,56,57,57,48,57,49,57,50,57,51,57,52,57,53,57,54,57,55,57,56,57,57])) (some (.t 10)) (some (.t 13))),oXT 2 14]
 .ret))),
 [.mov (.x 2)],[],false,1⟩
def K341:SFunc:=⟨(rG [ox 4 (.alloc [pF,.lit []]),oXI 5 0]
 (rG [oTX 6 1,oC 7 372 [.t 6],oXT 1 7]
 (q (q (R [oTX 8 1,oJ 9 8,ox 10 (.bin .gtr (.t 9) (i 128))])
 (k (.x 10) (q (R [ot 11 (.build [pF,.lit []] []),oS 2 4 11,oXI 5 2])
 .ret) .skip))
 (rG [oTX 12 0,oM 13 12,gT 14 (.mov (.x 1)) 13,gT 15 (.len (.t 14)) 13,gT 16 (.bin .gtr (.t 15) (i 0)) 13,ot 17 (.pick (.t 13) (.t 16) (C bF)),ot 18 (.slit [.v (I .u32 0)] 0 []),oTX 19 1,ot 20 (.append 4 1 (.t 18) (.t 19)),ot 21 (.build [pF,.lit []] [(0,1,.t 17),(1,1,.t 20)]),oS 2 4 21,oXI 5 0]
 .ret)))),
 [.loadn 2 (.x 4),.mov (.x 5)],[],false,2⟩
def K342:SFunc:=⟨(rG [oN 4]
 (rG [oTX 9 0,oJ 10 9,oTX 11 1,oJ 12 11,ot 13 (.maxmin true (.t 10) (.t 12)),oB 14 .add (.t 13) (i 1),ot 15 (.mkslice 4 [.v (I .u32 0)] (.t 14) (.t 14)),oXT 5 15]
 (rG [ox 6 (.mov (C (I .u64 0)))]
 (q (q (R [oXI 7 0])
 (bl 0 (lp (q (q (R [oTX 16 7,oTX 17 5,oJ 18 17,ox 19 (.bin .lss (.t 16) (.t 18))])
 (k (.x 19) .skip (ex 0)))
 (q (bl 1 (q (R [oTX 22 6,oXT 8 22])
 (q (q (R [oTX 23 7,oTX 24 0,oJ 25 24,ox 26 (.bin .lss (.t 23) (.t 25))])
 (k (.x 26) (R [oTX 27 8,oTX 28 0,oTX 29 7,oI 30 1 28 29,oL 31 30,ot 32 (.conv .u64 (.t 31)),oB 33 .add (.t 27) (.t 32),oXT 8 33]) .skip))
 (q (q (R [oTX 34 7,oTX 35 1,oJ 36 35,ox 37 (.bin .lss (.t 34) (.t 36))])
 (k (.x 37) (R [oTX 38 8,oTX 39 1,oTX 40 7,oI 41 1 39 40,oL 42 41,ot 43 (.conv .u64 (.t 42)),oB 44 .add (.t 38) (.t 43),oXT 8 44]) .skip))
 (rG [oTX 45 5,oTX 46 7,oTX 47 8,ot 48 (.conv .u32 (.t 47)),oI 49 1 45 46,o0 (.store 1 (.t 49) (.t 48))]
 (R [oTX 50 8,ot 51 (.bin .quo (.t 50) (C (I .u64 4294967296))),oXT 6 51]))))))
 (R [oTX 20 7,oB 21 .add (.t 20) (i 1),oXT 7 21]))))))
 (rG [oTX 52 5,oC 53 372 [.t 52],oXT 4 53]
 .ret))))),
 [.mov (.x 4)],[],false,2⟩
def K343:SFunc:=⟨(rG [ox 4 (.mov (C (I .u32 0)))]
 (q (q (R [oTX 5 1,oB 6 .quo (.t 5) (i 32),oTX 7 0,oJ 8 7,ox 9 (.bin .geq (.t 6) (.t 8))])
 (k (.x 9) (q (R [ox 4 (.mov (C (I .u32 0)))])
 .ret) .skip))
 (rG [oTX 10 0,oTX 11 1,oB 12 .quo (.t 11) (i 32),oI 13 1 10 12,oL 14 13,oTX 15 1,oB 16 .rem (.t 15) (i 32),oB 17 .shr (.t 14) (.t 16),ot 18 (.bin .and (.t 17) (C (I .u32 1))),oXT 4 18]
 .ret))),
 [.mov (.x 4)],[],false,2⟩
def K344:SFunc:=⟨(rG [oN 2]
 (rG [oXI 3 0]
 (q (bl 0 (lp (q (q (R [oTX 6 0,oTX 7 3,oC 8 343 [.t 6,.t 7],ox 9 (.bin .eql (.t 8) (C (I .u32 0)))])
 (k (.x 9) .skip (ex 0)))
 (bl 1 (R [oTX 10 3,oB 11 .add (.t 10) (i 1),oXT 3 11])))))
 (rG [oTX 13 0,oTX 14 3,oC 15 373 [.t 13,.t 14],oM 12 15,oE 16 12 0,oE 17 12 1,oXT 4 16,oM 5 17]
 (rG [oTX 18 4,oXT 2 18]
 .ret))))),
 [.mov (.x 2)],[],false,1⟩
def K345:SFunc:=⟨(rG [oXI 4 0]
 (q (q (R [oTX 6 0,oJ 7 6,oTX 8 1,oJ 9 8,ox 10 (.bin .neq (.t 7) (.t 9))])
 (k (.x 10) (q (q (R [oTX 11 0,oJ 12 11,oTX 13 1,oJ 14 13,ox 15 (.bin .lss (.t 12) (.t 14))])
 (k (.x 15) (q (R [ox 4 (.mov (i (-1)))])
 .ret) .skip))
 (rG [oXI 4 1]
 .ret)) .skip))
 (q (q (R [oTX 16 0,oJ 17 16,oB 18 .sub (.t 17) (i 1),oXT 5 18])
 (bl 0 (lp (q (q (R [oTX 19 5,ox 20 (.bin .geq (.t 19) (i 0))])
 (k (.x 20) .skip (ex 0)))
 (q (bl 1 (q (q (D [dF (oTX 23 0),dF (oTX 24 5),dH (oI 25 1 23 24),dH (oL 26 25),dF (oTX 27 1),dF (oTX 28 5),dH (oI 29 1 27 28),dH (oL 30 29),dF (ox 31 (.bin .lss (.t 26) (.t 30)))])
 (k (.x 31) (q (R [ox 4 (.mov (i (-1)))])
 .ret) .skip))
 (q (D [dF (oTX 32 0),dF (oTX 33 5),dH (oI 34 1 32 33),dH (oL 35 34),dF (oTX 36 1),dF (oTX 37 5),dH (oI 38 1 36 37),dH (oL 39 38),dF (ox 40 (.bin .gtr (.t 35) (.t 39)))])
 (k (.x 40) (q (R [oXI 4 1])
 .ret) .skip))))
 (R [oTX 21 5,oB 22 .sub (.t 21) (i 1),oXT 5 22]))))))
 (rG [oXI 4 0]
 .ret)))),
 [.mov (.x 4)],[],false,2⟩
def K346:SFunc:=⟨(rG [oN 4]
 (rG [oTX 9 0,oJ 10 9,ot 11 (.mkslice 4 [.v (I .u32 0)] (.t 10) (.t 10)),oXT 5 11]
 (rG [ox 6 (.mov (C (I .u64 0)))]
 (q (q (R [oXI 7 0])
 (bl 0 (lp (q (q (R [oTX 12 7,oTX 13 0,oJ 14 13,ox 15 (.bin .lss (.t 12) (.t 14))])
 (k (.x 15) .skip (ex 0)))
 (q (bl 1 (q (R [oTX 18 6,oXT 8 18])
 (q (q (R [oTX 19 7,oTX 20 1,oJ 21 20,ox 22 (.bin .lss (.t 19) (.t 21))])
 (k (.x 22) (R [oTX 23 8,oTX 24 1,oTX 25 7,oI 26 1 24 25,oL 27 26,ot 28 (.conv .u64 (.t 27)),oB 29 .add (.t 23) (.t 28),oXT 8 29]) .skip))
 (rG [oTX 30 0,oTX 31 7,oI 32 1 30 31,oL 33 32,ot 34 (.conv .u64 (.t 33)),oTX 35 8,ox 36 (.bin .lss (.t 34) (.t 35))]
 (k (.x 36) (q (R [oTX 37 5,oTX 38 7,oTX 39 0,oTX 40 7,oI 41 1 39 40,oL 42 41,ot 43 (.conv .u64 (.t 42)),ot 44 (.bin .add (.t 43) (C (I .u64 4294967296))),oTX 45 8,oB 46 .sub (.t 44) (.t 45),ot 47 (.conv .u32 (.t 46)),oI 48 1 37 38,o0 (.store 1 (.t 48) (.t 47))])
 (R [ox 6 (.mov (C (I .u64 1)))])) (q (R [oTX 49 5,oTX 50 7,oTX 51 0,oTX 52 7,oI 53 1 51 52,oL 54 53,ot 55 (.conv .u64 (.t 54)),oTX 56 8,oB 57 .sub (.t 55) (.t 56),ot 58 (.conv .u32 (.t 57)),oI 59 1 49 50,o0 (.store 1 (.t 59) (.t 58))])
 (R [ox 6 (.mov (C (I .u64 0)))])))))))
 (R [oTX 16 7,oB 17 .add (.t 16) (i 1),oXT 7 17]))))))
 (rG [oTX 60 5,oC 61 372 [.t 60],oXT 4 61]
 .ret))))),
 [.mov (.x 4)],[],false,2⟩
def K347:SFunc:=⟨(rG [oN 4]
 (rG [oTX 8 0,oJ 9 8,oTX 10 1,oB 11 .quo (.t 10) (i 32),oB 12 .add (.t 9) (.t 11),oB 13 .add (.t 12) (i 1),ot 14 (.mkslice 4 [.v (I .u32 0)] (.t 13) (.t 13)),oXT 5 14]
 (q (q (R [oXI 6 0])
 (bl 0 (lp (q (q (R [oTX 15 6,oTX 16 0,oJ 17 16,ox 18 (.bin .lss (.t 15) (.t 17))])
 (k (.x 18) .skip (ex 0)))
 (q (bl 1 (q (R [oTX 21 0,oTX 22 6,oI 23 1 21 22,oL 24 23,ot 25 (.conv .u64 (.t 24)),oTX 26 1,oB 27 .rem (.t 26) (i 32),oB 28 .shl (.t 25) (.t 27),oXT 7 28])
 (rG [oTX 29 5,oTX 30 6,oTX 31 1,oB 32 .quo (.t 31) (i 32),oB 33 .add (.t 30) (.t 32),oTX 34 5,oTX 35 6,oTX 36 1,oB 37 .quo (.t 36) (i 32),oB 38 .add (.t 35) (.t 37),oI 39 1 34 38,oL 40 39,oTX 41 7,ot 42 (.conv .u32 (.t 41)),oB 43 .or (.t 40) (.t 42),oI 44 1 29 33,o0 (.store 1 (.t 44) (.t 43))]
 (R [oTX 45 5,oTX 46 6,oTX 47 1,oB 48 .quo (.t 47) (i 32),oB 49 .add (.t 46) (.t 48),oB 50 .add (.t 49) (i 1),oTX 51 7,ot 52 (.bin .quo (.t 51) (C (I .u64 4294967296))),ot 53 (.conv .u32 (.t 52)),oI 54 1 45 50,o0 (.store 1 (.t 54) (.t 53))]))))
 (R [oTX 19 6,oB 20 .add (.t 19) (i 1),oXT 6 20]))))))
 (rG [oTX 55 5,oC 56 372 [.t 55],oXT 4 56]
 .ret)))),
 [.mov (.x 4)],[],false,2⟩
def K348:SFunc:=⟨(rG [ox 2 (.box (.x 0)),ox 3 (.box (.x 1)),oK 4]
 (q (q (R [oG 6 0 2,oL 7 6,oG 8 0 3,oL 9 8,ot 10 (.binB .neq (.t 7) (.t 9)),oM 11 10,gF 12 (.fadr 1 (.x 2)) 11,gF 13 (.load1 (.t 12)) 11,gF 14 (.len (.t 13)) 11,gF 15 (.fadr 1 (.x 3)) 11,gF 16 (.load1 (.t 15)) 11,gF 17 (.len (.t 16)) 11,gF 18 (.bin .neq (.t 14) (.t 17)) 11,ox 19 (.pick (.t 11) (C bT) (.t 18))])
 (k (.x 19) (q (R [oK 4])
 .ret) .skip))
 (q (q (R [oXI 5 0])
 (bl 0 (lp (q (q (R [oTX 20 5,oG 21 1 2,oL 22 21,oJ 23 22,ox 24 (.bin .lss (.t 20) (.t 23))])
 (k (.x 24) .skip (ex 0)))
 (q (bl 1 (q (D [dF (oG 27 1 2),dH (oL 28 27),dF (oTX 29 5),dH (oI 30 1 28 29),dH (oL 31 30),dF (oG 32 1 3),dH (oL 33 32),dF (oTX 34 5),dH (oI 35 1 33 34),dH (oL 36 35),dF (ox 37 (.bin .neq (.t 31) (.t 36)))])
 (k (.x 37) (q (R [oK 4])
 .ret) .skip)))
 (R [oTX 25 5,oB 26 .add (.t 25) (i 1),oXT 5 26]))))))
 (rG [ox 4 (.mov (C bT))]
 .ret)))),
 [.mov (.x 4)],[],false,2⟩
def K349:SFunc:=⟨(rG [oXI 8 0]
 (rG [oTX 9 0,oTX 10 0,ot 11 (.nilck (.t 10)),oF 12 0 11,oF 13 1 12,oL 14 13,oTX 15 1,oTX 16 2,oTX 17 3,ot 18 (.build [p0,p0,p0] [(0,1,.t 15),(1,1,.t 16),(2,1,.t 17)]),ot 19 (.slit [.v (I .i64 0),.v (I .i64 0),.v (I .i64 0)] 1 [(0,.t 18)]),ot 20 (.append 24 3 (.t 14) (.t 19)),ot 21 (.nilck (.t 9)),oF 22 0 21,oF 23 1 22,o0 (.store 1 (.t 23) (.t 20))]
 (rG [oTX 24 0,ot 25 (.nilck (.t 24)),oF 26 0 25,oF 27 1 26,oL 28 27,oJ 29 28,oB 30 .sub (.t 29) (i 1),oXT 8 30]
 .ret))),
 [.mov (.x 8)],[],false,4⟩
def K350:SFunc:=⟨(rG [oXI 4 0]
 (rG [oTX 5 0,oTX 6 1,ot 7 (.nilck (.t 5)),oF 8 6 7,o0 (.store 1 (.t 8) (.t 6))]
 (rG [oTX 9 0,ot 10 (.nilck (.t 9)),oF 11 7 10,o0 (.store 1 (.t 11) (i 0))]
 (rG [oTX 12 0,oC 13 374 [.t 12],oXT 4 13]
 .ret)))),
 [.mov (.x 4)],[],false,2⟩
def K372:SFunc:=⟨(rG [oN 2]
 (q (bl 0 (lp (q (q (R [oTX 3 0,oJ 4 3,oB 5 .gtr (.t 4) (i 0),oM 6 5,gT 7 (.mov (.x 0)) 6,gT 8 (.mov (.x 0)) 6,gT 9 (.len (.t 8)) 6,gT 10 (.bin .sub (.t 9) (i 1)) 6,gT 11 (.idx 1 (.t 7) (.t 10)) 6,gT 12 (.load1 (.t 11)) 6,gT 13 (.bin .eql (.t 12) (C (I .u32 0))) 6,ox 14 (.pick (.t 6) (.t 13) (C bF))])
 (k (.x 14) .skip (ex 0)))
 (bl 1 (R [oTX 15 0,oTX 16 0,oJ 17 16,oB 18 .sub (.t 17) (i 1),ot 19 (.slice 1 (.t 15) none (some (.t 18)) none),oXT 0 19])))))
 (rG [oTX 20 0,oXT 2 20]
 .ret))),
 [.mov (.x 2)],[],false,1⟩
def K373:SFunc:=⟨(rG [oN 4,oK 5]
 (q (q (R [oTX 12 1,oB 13 .quo (.t 12) (i 32),oTX 14 0,oJ 15 14,ox 16 (.bin .geq (.t 13) (.t 15))])
 (k (.x 16) (q (R [oTX 17 0,oJ 18 17,oB 19 .gtr (.t 18) (i 0),oN 4,oXT 5 19])
 .ret) .skip))
 (rG [oK 6]
 (q (q (R [oXI 7 0])
 (bl 0 (lp (q (q (R [oTX 20 7,oTX 21 1,oB 22 .quo (.t 21) (i 32),ox 23 (.bin .lss (.t 20) (.t 22))])
 (k (.x 23) .skip (ex 0)))
 (q (bl 1 (R [oTX 26 6,oM 27 26,gF 28 (.mov (.x 0)) 27,gF 29 (.mov (.x 7)) 27,gF 30 (.idx 1 (.t 28) (.t 29)) 27,gF 31 (.load1 (.t 30)) 27,gF 32 (.bin .neq (.t 31) (C (I .u32 0))) 27,ot 33 (.pick (.t 27) (C bT) (.t 32)),oXT 6 33]))
 (R [oTX 24 7,oB 25 .add (.t 24) (i 1),oXT 7 25]))))))
 (rG [oTX 34 0,oJ 35 34,oTX 36 1,oB 37 .quo (.t 36) (i 32),oB 38 .sub (.t 35) (.t 37),ot 39 (.mkslice 4 [.v (I .u32 0)] (.t 38) (.t 38)),oXT 8 39]
 (q (q (R [oXI 9 0])
 (bl 2 (lp (q (q (R [oTX 40 9,oTX 41 8,oJ 42 41,ox 43 (.bin .lss (.t 40) (.t 42))])
 (k (.x 43) .skip (ex 2)))
 (q (bl 3 (q (R [oTX 46 0,oTX 47 9,oTX 48 1,oB 49 .quo (.t 48) (i 32),oB 50 .add (.t 47) (.t 49),oI 51 1 46 50,oL 52 51,ot 53 (.conv .u64 (.t 52)),oXT 10 53])
 (q (q (R [oTX 54 9,oTX 55 1,oB 56 .quo (.t 55) (i 32),oB 57 .add (.t 54) (.t 56),oB 58 .add (.t 57) (i 1),oTX 59 0,oJ 60 59,ox 61 (.bin .lss (.t 58) (.t 60))])
 (k (.x 61) (R [oTX 62 10,oTX 63 0,oTX 64 9,oTX 65 1,oB 66 .quo (.t 65) (i 32),oB 67 .add (.t 64) (.t 66),oB 68 .add (.t 67) (i 1),oI 69 1 63 68,oL 70 69,ot 71 (.conv .u64 (.t 70)),ot 72 (.bin .mul (.t 71) (C (I .u64 4294967296))),oB 73 .add (.t 62) (.t 72),oXT 10 73]) .skip))
 (R [oTX 74 8,oTX 75 9,oTX 76 10,oTX 77 1,oB 78 .rem (.t 77) (i 32),oB 79 .shr (.t 76) (.t 78),ot 80 (.conv .u32 (.t 79)),oI 81 1 74 75,o0 (.store 1 (.t 81) (.t 80))]))))
 (R [oTX 44 9,oB 45 .add (.t 44) (i 1),oXT 9 45]))))))
 (rG [oTX 82 1,oB 83 .rem (.t 82) (i 32),ot 84 (.bin .shl (C (I .u64 1)) (.t 83)),ot 85 (.bin .sub (.t 84) (C (I .u64 1))),oXT 11 85]
 (q (D [dF (oTX 86 8),⟨oC 87 372 [.t 86],.write,0,1⟩,⟨oTX 88 6,.free,0,1⟩,⟨oM 89 88,.free,1,1⟩,⟨gF 90 (.mov (.x 0)) 89,.free,1,1⟩,⟨gF 91 (.mov (.x 1)) 89,.free,1,1⟩,⟨gF 92 (.bin .quo (.t 91) (i 32)) 89,.free,1,1⟩,⟨gF 93 (.idx 1 (.t 90) (.t 92)) 89,.here,1,1⟩,⟨gF 94 (.load1 (.t 93)) 89,.here,1,1⟩,⟨gF 95 (.conv .u64 (.t 94)) 89,.free,1,1⟩,⟨gF 96 (.mov (.x 11)) 89,.free,1,1⟩,⟨gF 97 (.bin .and (.t 95) (.t 96)) 89,.free,1,1⟩,⟨gF 98 (.bin .neq (.t 97) (C (I .u64 0))) 89,.free,1,1⟩,⟨ot 99 (.pick (.t 89) (C bT) (.t 98)),.free,1,1⟩,⟨oXT 4 87,.free,1,1⟩,⟨oXT 5 99,.free,1,1⟩])
 .ret)))))))),
 [.mov (.x 4),.mov (.x 5)],[],false,2⟩
def K374:SFunc:=⟨(rG [oXI 2 0]
 (rG [oXI 3 0]
 (rG [oTX 11 0,oC 12 395 [.t 11,(C (I .u8 45))],oXT 4 12]
 (q (q (R [ox 13 (.mov (.x 4))])
 (k (.x 13) (q (R [oTX 14 0,oC 15 349 [.t 14,(i 2),(i 0),(i 0)],oXT 5 15])
 (rG [oTX 16 0,oC 17 396 [.t 16],oXT 6 17]
 (R [oTX 18 0,oTX 19 5,oTX 20 6,oC 21 349 [.t 18,(i 4),.t 19,.t 20],oXT 3 21]))) (R [oTX 22 0,oC 23 396 [.t 22],oXT 3 23])))
 (bl 0 (lp (bl 1 (q (R [oTX 24 0,oC 25 395 [.t 24,(C (I .u8 43))],oXT 7 25])
 (q (q (R [ox 26 (.mov (.x 7))])
 (k (.x 26) (q (R [oTX 27 0,oC 28 396 [.t 27],oXT 8 28])
 (rG [oTX 29 0,oTX 30 3,oTX 31 8,oC 32 349 [.t 29,(i 3),.t 30,.t 31],oXT 3 32]
 (ex 1))) .skip))
 (rG [oTX 33 0,oC 34 395 [.t 33,(C (I .u8 45))],oXT 9 34]
 (q (q (R [oTX 35 9,ox 36 (.un .not (.t 35))])
 (k (.x 36) (q (R [oTX 37 3,oXT 2 37])
 .ret) .skip))
 (rG [oTX 38 0,oC 39 396 [.t 38],oXT 10 39]
 (R [oTX 40 0,oTX 41 3,oTX 42 10,oC 43 349 [.t 40,(i 4),.t 41,.t 42],oXT 3 43]))))))))))))),
 [.mov (.x 2)],[],false,1⟩
def K395:SFunc:=⟨(rG [oK 4]
 (rG [oTX 5 0,oC 6 402 [.t 5]]
 (q (q (D [dF (oTX 7 0),dF (ot 8 (.nilck (.t 7))),dF (oF 9 7 8),dH (oL 10 9),dF (oTX 11 0),dF (ot 12 (.nilck (.t 11))),dF (oF 13 6 12),dH (oL 14 13),dF (ot 15 (.lenS (.t 14))),dF (oB 16 .lss (.t 10) (.t 15)),dF (oM 17 16),dF (gT 18 (.mov (.x 0)) 17),dF (gT 19 (.nilck (.t 18)) 17),dF (gT 20 (.fadr 6 (.t 19)) 17),dH (gT 21 (.load1 (.t 20)) 17),dF (gT 22 (.mov (.x 0)) 17),dF (gT 23 (.nilck (.t 22)) 17),dF (gT 24 (.fadr 7 (.t 23)) 17),dH (gT 25 (.load1 (.t 24)) 17),dF (gT 26 (.idxS (.t 21) (.t 25)) 17),dF (gT 27 (.mov (.x 1)) 17),dF (gT 28 (.bin .eql (.t 26) (.t 27)) 17),dF (ox 29 (.pick (.t 17) (.t 28) (C bF)))])
 (k (.x 29) (q (R [oTX 30 0,ot 31 (.nilck (.t 30)),oF 32 7 31,oL 33 32,oB 34 .add (.t 33) (i 1),ot 35 (.nilck (.t 30)),oF 36 7 35,o0 (.store 1 (.t 36) (.t 34))])
 (rG [ox 4 (.mov (C bT))]
 .ret)) .skip))
 (rG [oK 4]
 .ret)))),
 [.mov (.x 4)],[],false,2⟩
def K396:SFunc:=⟨(rG [oXI 2 0]
 (rG [oTX 5 0,oC 6 403 [.t 5],oXT 3 6]
 (bl 0 (lp (bl 1 (q (R [oTX 7 0,oC 8 402 [.t 7]])
 (q (q (D [dF (oTX 9 0),dF (ot 10 (.nilck (.t 9))),dF (oF 11 7 10),dH (oL 12 11),dF (oTX 13 0),dF (ot 14 (.nilck (.t 13))),dF (oF 15 6 14),dH (oL 16 15),dF (ot 17 (.lenS (.t 16))),dF (oB 18 .eql (.t 12) (.t 17)),dF (oM 19 18),dF (gF 20 (.mov (.x 0)) 19),dF (gF 21 (.nilck (.t 20)) 19),dF (gF 22 (.fadr 6 (.t 21)) 19),dH (gF 23 (.load1 (.t 22)) 19),dF (gF 24 (.mov (.x 0)) 19),dF (gF 25 (.nilck (.t 24)) 19),dF (gF 26 (.fadr 7 (.t 25)) 19),dH (gF 27 (.load1 (.t 26)) 19),dF (gF 28 (.idxS (.t 23) (.t 27)) 19),dF (gF 29 (.bin .eql (.t 28) (C (I .u8 43))) 19),dF (ot 30 (.pick (.t 19) (C bT) (.t 29))),dF (oM 31 30),dF (gF 32 (.mov (.x 0)) 31),dF (gF 33 (.nilck (.t 32)) 31),dF (gF 34 (.fadr 6 (.t 33)) 31),dH (gF 35 (.load1 (.t 34)) 31),dF (gF 36 (.mov (.x 0)) 31),dF (gF 37 (.nilck (.t 36)) 31),dF (gF 38 (.fadr 7 (.t 37)) 31),dH (gF 39 (.load1 (.t 38)) 31),dF (gF 40 (.idxS (.t 35) (.t 39)) 31),dF (gF 41 (.bin .eql (.t 40) (C (I .u8 45))) 31),dF (ot 42 (.pick (.t 31) (C bT) (.t 41))),dF (oM 43 42),dF (gF 44 (.mov (.x 0)) 43),dF (gF 45 (.nilck (.t 44)) 43),dF (gF 46 (.fadr 6 (.t 45)) 43),dH (gF 47 (.load1 (.t 46)) 43),dF (gF 48 (.mov (.x 0)) 43),dF (gF 49 (.nilck (.t 48)) 43),dF (gF 50 (.fadr 7 (.t 49)) 43),dH (gF 51 (.load1 (.t 50)) 43),dF (gF 52 (.idxS (.t 47) (.t 51)) 43),dF (gF 53 (.bin .eql (.t 52) (C (I .u8 41))) 43),dF (ox 54 (.pick (.t 43) (C bT) (.t 53)))])
 (k (.x 54) (q (R [oTX 55 3,oXT 2 55])
 .ret) .skip))
 (rG [oTX 56 0,oC 57 403 [.t 56],oXT 4 57]
 (R [oTX 58 0,oTX 59 3,oTX 60 4,oC 61 349 [.t 58,(i 5),.t 59,.t 60],oXT 3 61]))))))))),
 [.mov (.x 2)],[],false,1⟩
def K402:SFunc:=⟨(bl 0 (lp (q (q (D [dF (oTX 2 0),dF (ot 3 (.nilck (.t 2))),dF (oF 4 7 3),dH (oL 5 4),dF (oTX 6 0),dF (ot 7 (.nilck (.t 6))),dF (oF 8 6 7),dH (oL 9 8),dF (ot 10 (.lenS (.t 9))),dF (oB 11 .lss (.t 5) (.t 10)),dF (oM 12 11),dF (gT 13 (.mov (.x 0)) 12),dF (gT 14 (.nilck (.t 13)) 12),dF (gT 15 (.fadr 6 (.t 14)) 12),dH (gT 16 (.load1 (.t 15)) 12),dF (gT 17 (.mov (.x 0)) 12),dF (gT 18 (.nilck (.t 17)) 12),dF (gT 19 (.fadr 7 (.t 18)) 12),dH (gT 20 (.load1 (.t 19)) 12),dF (gT 21 (.idxS (.t 16) (.t 20)) 12),dF (gT 22 (.bin .eql (.t 21) (C (I .u8 32))) 12),dF (ox 23 (.pick (.t 12) (.t 22) (C bF)))])
 (k (.x 23) .skip (ex 0)))
 (bl 1 (R [oTX 24 0,ot 25 (.nilck (.t 24)),oF 26 7 25,oL 27 26,oB 28 .add (.t 27) (i 1),ot 29 (.nilck (.t 24)),oF 30 7 29,o0 (.store 1 (.t 30) (.t 28))]))))),
 [],[],false,1⟩
def K403:SFunc:=⟨(rG [oXI 2 0]
 (rG [oTX 4 0,oC 5 405 [.t 4],oXT 3 5]
 (q (q (D [dF (oTX 6 0),dF (ot 7 (.nilck (.t 6))),dF (oF 8 7 7),dH (oL 9 8),dF (oTX 10 0),dF (ot 11 (.nilck (.t 10))),dF (oF 12 6 11),dH (oL 13 12),dF (ot 14 (.lenS (.t 13))),dF (oB 15 .lss (.t 9) (.t 14)),dF (oM 16 15),dF (gT 17 (.mov (.x 0)) 16),dF (gT 18 (.nilck (.t 17)) 16),dF (gT 19 (.fadr 6 (.t 18)) 16),dH (gT 20 (.load1 (.t 19)) 16),dF (gT 21 (.mov (.x 0)) 16),dF (gT 22 (.nilck (.t 21)) 16),dF (gT 23 (.fadr 7 (.t 22)) 16),dH (gT 24 (.load1 (.t 23)) 16),dF (gT 25 (.idxS (.t 20) (.t 24)) 16),dF (gT 26 (.bin .eql (.t 25) (C (I .u8 94))) 16),dF (ox 27 (.pick (.t 16) (.t 26) (C bF)))])
 (k (.x 27) (q (R [oTX 28 0,oTX 29 0,ot 30 (.nilck (.t 29)),oF 31 7 30,oL 32 31,oB 33 .add (.t 32) (i 2),ot 34 (.nilck (.t 28)),oF 35 7 34,o0 (.store 1 (.t 35) (.t 33))])
 (R [oTX 36 0,oTX 37 3,oTX 38 3,oC 39 349 [.t 36,(i 5),.t 37,.t 38],oXT 3 39])) .skip))
 (rG [oTX 40 3,oXT 2 40]
 .ret)))),
 [.mov (.x 2)],[],false,1⟩
def K405:SFunc:=⟨(rG [oXI 2 0]
 (rG [oTX 7 0,oC 8 395 [.t 7,(C (I .u8 40))],oXT 3 8]
 (q (q (R [ox 9 (.mov (.x 3))])
 (k (.x 9) (q (R [oTX 10 0,oC 11 374 [.t 10],oXT 4 11])
 (rG [oTX 12 0,oC 13 395 [.t 12,(C (I .u8 41))]]
 (rG [oTX 14 4,oXT 2 14]
 .ret))) .skip))
 (rG [oTX 15 0,ot 16 (.nilck (.t 15)),oF 17 7 16,oL 18 17,oXT 5 18]
 (q (bl 0 (lp (q (q (D [dF (oTX 19 0),dF (ot 20 (.nilck (.t 19))),dF (oF 21 7 20),dH (oL 22 21),dF (oTX 23 0),dF (ot 24 (.nilck (.t 23))),dF (oF 25 6 24),dH (oL 26 25),dF (ot 27 (.lenS (.t 26))),dF (oB 28 .lss (.t 22) (.t 27)),dF (oM 29 28),dF (gT 30 (.mov (.x 0)) 29),dF (gT 31 (.nilck (.t 30)) 29),dF (gT 32 (.fadr 6 (.t 31)) 29),dH (gT 33 (.load1 (.t 32)) 29),dF (gT 34 (.mov (.x 0)) 29),dF (gT 35 (.nilck (.t 34)) 29),dF (gT 36 (.fadr 7 (.t 35)) 29),dH (gT 37 (.load1 (.t 36)) 29),dF (gT 38 (.idxS (.t 33) (.t 37)) 29),dF (gT 39 (.bin .geq (.t 38) (C (I .u8 97))) 29),dF (gT 40 (.mov (.t 39)) 29),dF (gT 41 (.mov (.x 0)) 40),dF (gT 42 (.nilck (.t 41)) 40),dF (gT 43 (.fadr 6 (.t 42)) 40),dH (gT 44 (.load1 (.t 43)) 40),dF (gT 45 (.mov (.x 0)) 40),dF (gT 46 (.nilck (.t 45)) 40),dF (gT 47 (.fadr 7 (.t 46)) 40),dH (gT 48 (.load1 (.t 47)) 40),dF (gT 49 (.idxS (.t 44) (.t 48)) 40),dF (gT 50 (.bin .leq (.t 49) (C (I .u8 122))) 40),dF (gT 51 (.pick (.t 40) (.t 50) (C bF)) 29),dF (gT 52 (.mov (.t 51)) 29),dF (gF 53 (.mov (.x 0)) 52),dF (gF 54 (.nilck (.t 53)) 52),dF (gF 55 (.fadr 6 (.t 54)) 52),dH (gF 56 (.load1 (.t 55)) 52),dF (gF 57 (.mov (.x 0)) 52),dF (gF 58 (.nilck (.t 57)) 52),dF (gF 59 (.fadr 7 (.t 58)) 52),dH (gF 60 (.load1 (.t 59)) 52),dF (gF 61 (.idxS (.t 56) (.t 60)) 52),dF (gF 62 (.bin .geq (.t 61) (C (I .u8 48))) 52),dF (gF 63 (.mov (.t 62)) 52),dF (gT 64 (.mov (.x 0)) 63),dF (gT 65 (.nilck (.t 64)) 63),dF (gT 66 (.fadr 6 (.t 65)) 63),dH (gT 67 (.load1 (.t 66)) 63),dF (gT 68 (.mov (.x 0)) 63),dF (gT 69 (.nilck (.t 68)) 63),dF (gT 70 (.fadr 7 (.t 69)) 63),dH (gT 71 (.load1 (.t 70)) 63),dF (gT 72 (.idxS (.t 67) (.t 71)) 63),dF (gT 73 (.bin .leq (.t 72) (C (I .u8 57))) 63),dF (gF 74 (.pick (.t 63) (.t 73) (C bF)) 52),dF (gT 75 (.pick (.t 52) (C bT) (.t 74)) 29),dF (ox 76 (.pick (.t 29) (.t 75) (C bF)))])
 (k (.x 76) .skip (ex 0)))
 (bl 1 (R [oTX 77 0,ot 78 (.nilck (.t 77)),oF 79 7 78,oL 80 79,oB 81 .add (.t 80) (i 1),ot 82 (.nilck (.t 77)),oF 83 7 82,o0 (.store 1 (.t 83) (.t 81))])))))
 (q (D [dF (oTX 84 0),dF (ot 85 (.nilck (.t 84))),dF (oF 86 6 85),dH (oL 87 86),dF (oTX 88 5),dF (oTX 89 0),dF (ot 90 (.nilck (.t 89))),dF (oF 91 7 90),dH (oL 92 91),dF (ot 93 (.sliceS (.t 87) (some (.t 88)) (some (.t 92)))),dF (oXT 6 93)])
 (q (q (R [oTX 94 6,ot 95 (.idxS (.t 94) (i 0)),ot 96 (.bin .geq (.t 95) (C (I .u8 48))),oM 97 96,gT 98 (.mov (.x 6)) 97,gT 99 (.idxS (.t 98) (i 0)) 97,gT 100 (.bin .leq (.t 99) (C (I .u8 57))) 97,ox 101 (.pick (.t 97) (.t 100) (C bF))])
 (k (.x 101) (q (R [oTX 102 0,oTX 103 6,ot 104 (.idxS (.t 103) (i 0)),ot 105 (.bin .sub (.t 104) (C (I .u8 48))),ot 106 (.conv .i64 (.t 105)),oC 107 349 [.t 102,(i 2),.t 106,(i 0)],oXT 2 107])
 .ret) .skip))
 (rG [oTX 108 0,oTX 109 6,oC 110 406 [.t 108,.t 109],oXT 2 110]
 .ret)))))))),
 [.mov (.x 2)],[],false,1⟩
def K406:SFunc:=⟨(rG [oXI 4 0]
 (q (q (R [oTX 6 0,ot 7 (.nilck (.t 6)),oF 8 4 7,oL 9 8,oJ 10 9,oB 11 .sub (.t 10) (i 1),oXT 5 11])
 (bl 0 (lp (q (q (R [oTX 12 5,ox 13 (.bin .geq (.t 12) (i 0))])
 (k (.x 13) .skip (ex 0)))
 (q (bl 1 (q (R [oTX 16 0,ot 17 (.nilck (.t 16)),oF 18 4 17,oL 19 18,oTX 20 5,oI 21 1 19 20,oL 22 21,oTX 23 1,ox 24 (.bin .eql (.t 22) (.t 23))])
 (k (.x 24) (q (R [oTX 25 0,ot 26 (.nilck (.t 25)),oF 27 5 26,oL 28 27,oTX 29 5,oI 30 1 28 29,oL 31 30,oXT 4 31])
 .ret) .skip)))
 (R [oTX 14 5,oB 15 .sub (.t 14) (i 1),oXT 5 15]))))))
 (rG [oXI 4 0]
 .ret))),
 [.mov (.x 4)],[],false,2⟩
end Go.Proofs.YtchgldaddcolhaaGreatDoor
namespace Go.Proofs.YtchgldaddcolhaaGreatDoor
open Go
variable[Sub]
section
variable{P:Program}{kn:TypeId→Bool}{w w':World}{g g':Gh}{H H':List Obj}
theorem evo_push{ob:Go.Obj}(hp:Pushed w w' ob)(hs:StRel w g H):Evo w g H w' g H∧StRel w' g H:=by
 have hc:∀ b i,g.D b i→cellAt w' b i = cellAt w b i:=fun b i hd=>cellAt_heap (hp.old (hs.dom b i hd)) i
 have hr:∀ c a,Rep w g H c a→Rep w' g H c a:=fun c a h=>h.step (fun _ _ h=>h) hc (fun l o' hl=>.same rfl rfl rfl rfl)
 refine⟨⟨fun _ _ h=>h,hc,hr,hp.keep _,fun _ _ h=>.inl h,fun _ _ h=>.inl h,rfl⟩,⟨fun l o' hl=>?_,hs.inj2,hs.stand,fun b i hd=>by rw[hp.size]; have:=hs.dom b i hd; omega,fun l b hl he=>by rw[hp.size]; have:=hs.ext l b hl he; exact⟨by omega,this.2⟩,hs.glob.step (fun _ _ h=>h) hc⟩⟩
 exact (hs.objs l o' hl).keep rfl rfl rfl (fun b hb=>hp.old (hs.has_lt (List.getElem?_eq_some_iff.1 hl).1 hb)) (fun _ _ h=>h) hc hr
theorem evo_loop{l:Nat}{st st':LS}{env env':List (Nat×AV)}{ps ps':List Nat}{a b a' b':SCode}{r r':Go.Loop}(hs:StRel w g H)(hl:H[l]? = some (.loop st env ps a b))(hh:w.heap[g.blk l]? = some (.loop r))(hrel:LoopRel w g H r' st' env' ps' a' b') :
  Evo w g H (w.putObj (g.blk l) (.loop r')) g (H.set l (.loop st' env' ps' a' b'))∧StRel (w.putObj (g.blk l) (.loop r')) g (H.set l (.loop st' env' ps' a' b')):=by
 have hlt:g.blk l < w.heap.size:=(Array.getElem?_eq_some_iff.1 hh).1
 have hst:∀ i,¬ g.D (g.blk l) i:=hs.stand l _ hl
 have hll:=(List.getElem?_eq_some_iff.1 hl).1
 refine evo_obj (Q:=fun _=>False) hs hl rfl rfl rfl (fun b i=>by simp) ⟨fun b hb=>World.putObj_heap_other hb,World.putObj_size,rfl,rfl,⟨rfl,Nat.le_refl _⟩,fun vs e f h=>(by rw[hh]at h; cases h),fun _=>hst⟩
  (.loop hl (List.getElem?_set_self hll) rfl) (fun hr=>⟨r',World.putObj_heap_same hlt,hrel.keep rfl hr⟩) hst
theorem loop_rel{l:Nat}{st:LS}{env:List (Nat×AV)}{ps:List Nat}{a b:SCode}(hs:StRel w g H)(hl:H[l]? = some (.loop st env ps a b)):∃ r,w.heap[g.blk l]? = some (.loop r)∧LoopRel w g H r st env ps a b:=hs.objs l _ hl
theorem yld_blk{l n:Nat}(h:Rep w g H (.func (.yield n) #[] #[]) (.yld l)):g.blk l = n:=by
 generalize hc:Value.func (.yield n) #[] #[] = c at h
 cases h with
 | yld=>cases hc; rfl
theorem range_call{fo:Operand}{a:Act}{gf l:Nat}{first cap:List AV}(hok:FnOk P gf)(hf:Rep w g H (a.eval fo) (.fn (.func gf) first cap)) :
  ∃ (d:Deferred) (cf cc:Array Value),ArgsRep w g H cf first∧ArgsRep w g H cc cap∧(∀ w:World,(resolve a.eval (rangeCall fo l) 0).run P w = .ok d w)∧∀ w:World,(invoke d.target d.args).run P w = .ok (.enter gf (cf++#[.func (.yield l) #[] #[]]++cc)) w:=by
 obtain⟨fn,code,h1,h2,h3⟩:=hok
 simp only[beq_eq_false_iff_ne,ne_eq]at h2
 generalize hfv:a.eval fo = fv at hf
 cases hf with
 | @fn _ cf cc _ _ e1 e2 r1 r2 =>
  refine⟨{ target:=.fn (.func gf) cc,args:=cf++#[.func (.yield l) #[] #[]] },cf,cc,⟨e1,r1⟩,⟨e2,r2⟩,fun w=>?_,fun w=>?_⟩
  ·have e:resolve a.eval (rangeCall fo l) 0 = Deferred.ofValue (a.eval fo) (#[Operand.const (.func (.yield l) #[] #[])].map a.eval):=rfl
   rw[e,hfv]
   simp[Deferred.ofValue,Act.eval]
  ·simp[Go.invoke,callFunc,h1,h2,h3,Act.eval]
theorem exec_range{f:SA}{ps:List Nat}{ca cb:SCode}{s:St}{gf:FuncId}{first cap:List AV}{r:AV×List Obj}{x:SExit}{st:LS}{env1:List (Nat×AV)}{ps1:List Nat}{a1 b1:SCode}(hev:ev ⟨[],s.env⟩ f = some (.fn (.func gf) first cap))(hok:FnOk P gf)(hcall:CallSim P kn gf (first++[.yld s.H.length]++cap) (s.H++[.loop .ready s.env ps ca cb]) r)(hl:r.2[s.H.length]? = some (.loop st env1 ps1 a1 b1))(hx:(st = .ready∧x = .normal)∨st = .done x):ExecM P kn (.range f ps ca cb) s (x,⟨s.env,r.2.set s.H.length .over⟩):=by
 intro n0 r0 lone nt vars code hc a w g hp
 cases hc with
 | @range fo _ psA ca' cb' _ _ hv hps hf ha hb =>
 refine wpIn_rangeFunc fun fn _=>?_
 have hfr:Rep w g s.H (a.eval fo) (.fn (.func gf) first cap):=arg_rep hp.env hf hev
 have enter:∃ (l:Nat) (mk:List Deferred) (wm w1:World) (r:Go.Loop) (bs:List Nat),(Instr.enterLoop fn a.tmps psA ca' cb' (FR r0).round).run P w = .ok (l,mk) w1∧l = wm.heap.size∧Pushed wm w1 (.loop r) ∧
   r.state = .ready∧r.pending = none∧r.tmps = a.tmps∧r.params = psA∧r.assign = ca'∧r.body = cb'∧Evo w g s.H wm g s.H∧StRel wm g s.H∧mk = bs.map mark∧bs.Nodup∧∀ b ∈ bs,b = w.heap.size∧wm.heap[b]? = some (.deferred (some []))∧w.heap.size < wm.heap.size:=by
  cases r0 with
  | none =>
   have hpd:Pushed w (w.alloc (.deferred (some []))) (.deferred (some [])):=⟨rfl,rfl,rfl,⟨rfl,Nat.le_refl _⟩⟩
   obtain⟨e1,e2⟩:=evo_push hpd hp.st
   refine⟨_,_,w.alloc (.deferred (some [])),_,{ state:=.ready,pending:=none,fn,tmps:=a.tmps,params:=psA,assign:=ca',body:=cb',defers:=w.heap.size },[w.heap.size],run_enterLoop_outer _ _ _ _ _,by simp,⟨rfl,rfl,rfl,⟨rfl,Nat.le_refl _⟩⟩,rfl,rfl,rfl,rfl,rfl,rfl,e1,e2,rfl,by simp,fun b hb=>?_⟩
   simp only[List.mem_singleton]at hb
   subst hb
   exact⟨rfl,World.alloc_heap_new w _,by simp⟩
  | some l0 =>
   obtain⟨l,hr⟩:=hp.rd l0 rfl
   have hbl:=yld_blk hr
   cases hr with
   | yld h1 =>
    obtain⟨r2,h2,_⟩:=loop_rel hp.st h1
    exact⟨_,_,w,_,_,[],run_enterLoop_inner h2 _ _ _ _ _,rfl,⟨rfl,rfl,rfl,⟨rfl,Nat.le_refl _⟩⟩,rfl,rfl,rfl,rfl,rfl,rfl,.refl _ _ _,hp.st,rfl,List.nodup_nil,fun b h=>by cases h⟩
 obtain⟨l,mk,wm,w1,rec,bs,hen,rfl,hpush,s1,s2,s3,s4,s5,s6,ev0,st0,rfl,hnd,hbs⟩:=enter
 obtain⟨ev1,st1⟩:=evo_new (cap:=0) (o:=.loop .ready s.env psA.toList ca cb) hpush st0 (fun _ _ _ _ h=>by cases h) (fun hr=>by
  refine⟨rec,by rw[Gh.add_eq.1]; exact hpush.new,⟨s1,s2⟩,fun _=>⟨by rw[s4],fun t v hv=>?_,nt,vars,?_,?_,by rw[s3]; exact hp.size,fun t v hv=>hp.fr.env t v hv,hps⟩⟩
  ·rw[s3]; exact hr _ _ (ev0.rep _ _ (hp.env.env t v hv))
  ·rw[s5]; show g.cd ca' ca nt vars; rw[hp.cd]; exact⟨hv,lone,ha⟩
  ·rw[s6]; show g.cd cb' cb nt vars; rw[hp.cd]; exact⟨hv,lone,hb⟩)
 generalize hg1:g.add s.H.length wm.heap.size 0 0 = g1 at ev1 st1
 have hblk1:g1.blk s.H.length = wm.heap.size:=by rw[← hg1]; exact Gh.add_eq.1
 have ev01:=ev0.trans ev1
 obtain⟨d,cf,cc,q1,q2,q3,q4⟩:=range_call (l:=wm.heap.size) hok (ev01.rep _ _ hfr)
 have hy:Rep w1 g1 (s.H++[.loop .ready s.env psA.toList ca cb]) (.func (.yield wm.heap.size) #[] #[]) (.yld s.H.length):=by
  rw[← hblk1]; exact .yld (st:=.ready) (env:=s.env) (ps:=psA.toList) (a:=ca) (b:=cb) (by simp)
 have hargs:ArgsRep w1 g1 (s.H++[.loop .ready s.env psA.toList ca cb]) (cf++#[.func (.yield wm.heap.size) #[] #[]]++cc) (first++[.yld s.H.length]++cap):=by
  refine args_append (args_append q1 ⟨rfl,fun i c x hc hx=>?_⟩) q2
  cases i with
  | zero=>simp at hc hx; subst hc; subst hx; exact hy
  | succ i=>simp at hc
 refine⟨wm.heap.size,bs.map mark,w1,d,w1,gf,_,w1,hen,q3 w1,fun _ _=>trivial,q4 w1,fun h=>(by cases h),callsIn_FR ((hcall w1 g1 _ (ev01.cd.trans hp.cd) st1 hargs).mono fun e w3 he=>?_)⟩
 obtain⟨v,g3,rfl,ev3,st3,_⟩:=he
 have hblk3:g3.blk s.H.length = wm.heap.size:=yld_blk (ev3.rep _ _ hy)
 obtain⟨r3,hr3,hrel⟩:=loop_rel st3 hl
 rw[hblk3]at hr3
 have hnb:r3.state ≠ .busy:=by
  have:=hrel.1
  rcases hx with ⟨rfl,_⟩ | rfl
  ·rw[this.1]; simp
  ·rw[this.1]; simp
 obtain⟨ev4,st4⟩:=evo_loop (st':=.gone) (env':=[]) (ps':=[]) (a':=.skip) (b':=.skip) (r':={ r3 with state:=.exhausted }) st3 hl (by rw[hblk3]; exact hr3) ⟨trivial,fun h=>absurd rfl h⟩
 rw[hblk3]at ev4 st4
 have evA:=((ev01.trans ev3).trans ev4)
 have hmarks:Marks P n0 (w3.putObj wm.heap.size (.loop { r3 with state:=.exhausted })) g3 (r.2.set s.H.length .over) (bs.map mark++a.defers):=by
  obtain⟨bs0,hd0,hn0,hall,hqs⟩:=hp.mks
  have hlf:lefts (bs.map Sum.inl++bs0) = bs++lefts bs0:=by
   simp[lefts,List.filterMap_append,List.filterMap_map,Function.comp_def]
  refine⟨bs.map .inl++bs0,by rw[hd0,List.map_append,List.map_map]; rfl,?_,fun b hb=>?_,fun p hp'=>?_⟩
  ·rw[hlf]
   refine List.nodup_append.2 ⟨hnd,hn0,fun b hb b' hb' e=>?_⟩
   subst e
   have h1:=(hbs b hb).1
   have h2:=(hall b hb').2.1
   have:=(Array.getElem?_eq_some_iff.1 h2).1
   omega
  ·rw[hlf]at hb
   rcases List.mem_append.1 hb with hb | hb
   ·obtain⟨e1,e2,e3⟩:=hbs b hb
    refine⟨by rw[e1]; exact hp.nle,?_⟩
    have hno:∀ i,¬ OwnAny g s.H b i:=fun i ho=>by
     obtain⟨⟨m,hm,he⟩,_⟩:=ho
     have:=hp.st.has_lt hm he
     omega
    exact unowned_evo (ev1.trans (ev3.trans ev4)) e2 hno
   ·exact⟨(hall b hb).1,unowned_evo evA (hall b hb).2.1 (hall b hb).2.2⟩
  ·rcases List.mem_append.1 hp' with hp' | hp'
   ·simp at hp'
   ·exact hqs p hp'
 have post:∀ e,ExitRel x e→PostX P n0 vars w g s.H a (x,⟨s.env,r.2.set s.H.length .over⟩) e { a with defers:=bs.map mark++a.defers } (w3.putObj wm.heap.size (.loop { r3 with state:=.exhausted })):=fun e he =>
  ⟨he,g3,evA,st4,hp.env.evo evA,hp.fr,hmarks,rfl⟩
 have hend:=run_endLoop (P:=P) hr3 hnb
 rcases hx with ⟨rfl,rfl⟩ | rfl
 ·have hpn:r3.pending = none:=hrel.1.2
  exact⟨none,_,by rw[hend,hpn],post .normal trivial⟩
 ·obtain⟨_,c,hc1,hc2⟩:=hrel.1
  refine⟨some c,_,by rw[hend,hc2],?_⟩
  have post':=post
  rw[hc2]at post'
  cases x with
  | normal=>cases hc1
  | exit i=>cases hc1; exact wpIn_exit (post' (.exit i) rfl)
  | ret=>cases hc1; exact wpIn_ret (post' .ret trivial)
theorem puts_rel{nt:Nat}{vars:List Nat}:∀ {ps:List Nat} {aZ:List AV} {cs:List Value} {tmps:Array Value} {env:Env},ps.length = aZ.length→aZ.length = cs.length→(∀ p ∈ ps,p ∈ vars∧p < nt)→nt ≤ tmps.size →
  (∀ (i:Nat) (c:Value) (x:AV),cs[i]? = some c→aZ[i]? = some x→Rep w g H c x)→(∀ (t:Nat) (v:AV),lk env t = some v→Rep w g H (tmps.getD t undef) v)→(∀ (t:Nat) (v:AV),lk env t = some v→t ∈ vars) →
  ((ps.zip cs).foldl (fun t p=>t.setIfInBounds p.1 p.2) tmps).size = tmps.size∧(∀ (t:Nat) (v:AV),lk (puts env ps aZ) t = some v→Rep w g H (((ps.zip cs).foldl (fun t p=>t.setIfInBounds p.1 p.2) tmps).getD t undef) v) ∧
   ∀ (t:Nat) (v:AV),lk (puts env ps aZ) t = some v→t ∈ vars
 | [],aZ,cs,tmps,env,_,_,_,_,_,h1,h2=>by
  have e1:puts env [] aZ = env:=by cases aZ <;> rfl
  rw[e1]
  exact⟨rfl,h1,h2⟩
 | p::ps,[],cs,_,_,h,_,_,_,_,_,_=>by simp at h
 | p::ps,a::aZ,[],_,_,_,h,_,_,_,_,_=>by simp at h
 | p::ps,a::aZ,c::cs,tmps,env,l1,l2,hp,hn,hr,h1,h2=>by
  simp only[List.length_cons,Nat.add_right_cancel_iff]at l1 l2
  have hpv:=hp p (by simp)
  obtain⟨k1,k2,k3⟩:=puts_rel (ps:=ps) (aZ:=aZ) (cs:=cs) (tmps:=tmps.setIfInBounds p c) (env:=upd env p a) l1 l2 (fun q hq=>hp q (by simp[hq])) (by simpa using hn) (fun i c' x hc hx=>hr (i + 1) c' x (by simpa using hc) (by simpa using hx))
   (fun t v hv=>by
    rw[lk_upd]at hv
    simp only[Array.getD_eq_getD_getElem?,Array.getElem?_setIfInBounds]
    split at hv
    ·rename_i e; cases hv; subst e
     rw[if_pos rfl,if_pos (by omega)]
     exact hr 0 c a rfl rfl
    ·rename_i e; rw[if_neg e]; rw[← Array.getD_eq_getD_getElem?]; exact h1 t v hv)
   (fun t v hv=>by
    rw[lk_upd]at hv
    split at hv
    ·rename_i e; rw[← e]; exact hpv.1
    ·exact h2 t v hv)
  simp only[List.zip_cons_cons,List.foldl_cons,puts]
  exact⟨k1.trans (by simp),k2,k3⟩
theorem loopRel_busy{r:Go.Loop}{st:LS}{env:List (Nat×AV)}{ps:List Nat}{a b:SCode}(h:LoopRel w g H r st env ps a b)(hg:st ≠ .gone)(r':Go.Loop)(st':LS)(hs:stOk r' st')(e1:r'.params = r.params)(e2:r'.tmps = r.tmps)(e3:r'.assign = r.assign)(e4:r'.body = r.body) :
  LoopRel w g H r' st' env ps a b:=by
 refine⟨hs,fun _=>?_⟩
 have:=h.2 hg
 rw[e1,e2,e3,e4]
 exact this
theorem yield_sim{l:Nat}{args:List AV}{env env1 env2:List (Nat×AV)}{ps ps1 ps2:List Nat}{a b a1 b1 a2 b2:SCode}{s1 s2:St}{x:SExit}(hl:H[l]? = some (.loop .ready env ps a b))(hlen:args.length = ps.length)(ha:ExecM P kn a ⟨puts env ps args,H⟩ (.normal,s1))(hl1:s1.H[l]? = some (.loop .ready env1 ps1 a1 b1))(hb:ExecM P kn b ⟨s1.env,s1.H.set l (.loop .busy env1 ps1 a1 b1)⟩ (x,s2))(hl2:s2.H[l]? = some (.loop .busy env2 ps2 a2 b2)) :
  YieldSim P kn l args H (match x with
   | .normal=>(.p (.v (.bool true)),s2.H.set l (.loop .ready env2 ps2 a2 b2))
   | x=>(.p (.v (.bool false)),s2.H.set l (.loop (.done x) env2 ps2 a2 b2))):=by
 intro w g cs hcd hs hargs r0
 obtain⟨r,hr,hrel⟩:=loop_rel hs hl
 obtain⟨hpar,htm,nt,vars,cda,cdb,hnt,hvars,hps⟩:=hrel.2 (by simp)
 rw[hcd]at cda cdb
 obtain⟨hv2,lone,cda⟩:=cda
 obtain⟨_,lone',cdb⟩:=cdb
 have hsz:cs.size = r.params.size:=by rw[hargs.1,hlen,← hpar]; simp
 have hyl:Rep w g H (.func (.yield (g.blk l)) #[] #[]) (.yld l):=.yld hl
 generalize hbl:g.blk l = bl at hr hyl ⊢
 refine⟨r.fn,_,r.assign,r.body,run_yield hr hsz,roundIn_of_wpIn trivial ?_⟩
 have hfold:((r.params.zip cs).foldl (fun tmps p=>tmps.setIfInBounds p.1 p.2) r.tmps) = (ps.zip cs.toList).foldl (fun t p=>t.setIfInBounds p.1 p.2) r.tmps:=by
  rw[← Array.foldl_toList,Array.toList_zip,hpar]
 obtain⟨k1,k2,k3⟩:=puts_rel (w:=w) (g:=g) (H:=H) (ps:=ps) (aZ:=args) (cs:=cs.toList) (tmps:=r.tmps) (env:=env) hlen.symm (by simp[hargs.1]) hps hnt (fun i c y hc hy=>hargs.2 i c y (by simpa using hc) hy) htm hvars
 rw[← hfold]at k1 k2
 refine wpIn_mono (ha.go 0 (some bl) lone nt vars _ cda _ w g ⟨⟨fun t v h=>(by cases h),k2,hs.glob⟩,⟨fun t v h=>(by cases h),k3⟩,by show nt ≤ Array.size _; rw[k1]; exact hnt,hs,hcd,.nil,Nat.zero_le _,(fun l0 e=>by cases e; exact⟨l,hyl⟩),fun h=>absurd h hv2⟩) fun e act1 w1 hq=>?_
 obtain⟨q0,g1,q1,q2,q3,q4,q5,q6⟩:=hq
 cases e with
 | normal =>
  have hyl1:=q1.rep _ _ hyl
  have hb1:=yld_blk hyl1
  obtain⟨r1,hr1,hrel1⟩:=loop_rel q2 hl1
  rw[hb1]at hr1
  obtain⟨ev2,st2⟩:=evo_loop (r':={ r1 with state:=.busy }) (st':=.busy) (env':=env1) (ps':=ps1) (a':=a1) (b':=b1) q2 hl1 (by rw[hb1]; exact hr1) (loopRel_busy hrel1 (by simp) _ _ rfl rfl rfl rfl rfl)
  rw[hb1]at ev2 st2
  refine⟨_,run_beginRound hr1 hrel1.1.1,?_⟩
  refine wpIn_mono (hb.go 0 (some bl) lone' nt vars _ cdb act1 _ g1 ⟨q3.evo ev2,q4,by rw[q6]; show nt ≤ Array.size _; rw[k1]; exact hnt,st2,q1.cd.trans hcd,q5.evo ev2,Nat.zero_le _,(fun l0 e=>by cases e; exact⟨l,ev2.rep _ _ hyl1⟩),fun h=>absurd h hv2⟩) fun e act3 w3 hq=>?_
  obtain⟨t0,g3,t1,t2,_⟩:=hq
  have hb3:=yld_blk (t1.rep _ _ (ev2.rep _ _ hyl1))
  obtain⟨r3,hr3,hrel3⟩:=loop_rel t2 hl2
  rw[hb3]at hr3
  have fin:∀ (j:Option Code) (st':LS),stOk { r3 with state:=if j.isNone then .ready else .done,pending:=j } st'→∃ v w',(Instr.endRound bl j).run P w3 = .ok v w'∧v = .bool j.isNone ∧
    ∃ g',Evo w g H w' g' (s2.H.set l (.loop st' env2 ps2 a2 b2))∧StRel w' g' (s2.H.set l (.loop st' env2 ps2 a2 b2)):=fun j st' hst=>by
   obtain⟨ev4,st4⟩:=evo_loop (r':={ r3 with state:=if j.isNone then .ready else .done,pending:=j }) (st':=st') (env':=env2) (ps':=ps2) (a':=a2) (b':=b2) t2 hl2 (by rw[hb3]; exact hr3) (loopRel_busy hrel3 (by simp) _ _ hst rfl rfl rfl rfl)
   rw[hb3]at ev4 st4
   exact⟨_,_,run_endRound j hr3,rfl,g3,((q1.trans ev2).trans t1).trans ev4,st4⟩
  have rb:∀ {w':World} {g':Gh} {H':List Obj} (t:Bool),Rep w' g' H' (.bool t) (.p (.v (.bool t))):=fun t=>.p (.v rfl)
  cases x with
  | normal =>
   cases e <;> first | exact t0.elim | skip
   obtain⟨v,w4,h1,rfl,g4,h2,h3⟩:=fin none .ready ⟨rfl,rfl⟩
   exact⟨_,w4,h1,_,g4,rfl,h2,h3,rb true⟩
  | exit i =>
   cases e <;> first | exact t0.elim | skip
   have hij:i = _:=t0
   subst hij
   obtain⟨v,w4,h1,rfl,g4,h2,h3⟩:=fin (some (.exit i)) (.done (.exit i)) ⟨rfl,_,rfl,rfl⟩
   exact⟨_,w4,h1,_,g4,rfl,h2,h3,rb false⟩
  | ret =>
   cases e <;> first | exact t0.elim | skip
   obtain⟨v,w4,h1,rfl,g4,h2,h3⟩:=fin (some .ret) (.done .ret) ⟨rfl,_,rfl,rfl⟩
   exact⟨_,w4,h1,_,g4,rfl,h2,h3,rb false⟩
 | _=>exact q0.elim
end
end Go.Proofs.YtchgldaddcolhaaGreatDoor
namespace Go.Proofs.YtchgldaddcolhaaGreatDoor
open Go
variable[Sub]
def compRes(P:Program):ResultVar→Option SOp
 | .tmp t=>some (SOp.mov (.x t))
 | .cell t ty=>(isAggT P ty).bind fun g=>if g then (sizeT P ty).map fun n=>SOp.loadn n (.x t) else some (SOp.load1 (.x t))
structure CodeOk (P:Program) (kn:TypeId→Bool) (f:FuncId) (F:SFunc):Prop where
 ok:∃ fn c lone vars,P.funcs[f]? = some fn∧(fn.name == "runtime.NumGoroutine") = false∧fn.body = some c∧comp P kn lone fn.ntmps vars c = some F.body∧(∀ i,i < F.arity→i ∈ vars) ∧
  fn.results.toList.mapM (compRes P) = some F.results∧(1000002 ∈ vars→∀ h,kn (3000000 + h) = true→QuietF P h)
section
variable{P:Program}{kn:TypeId→Bool}{w w' w1:World}{g g':Gh}{H H':List Obj}{e:Fr}
theorem begin0_lk:∀ (args:List AV) (n t:Nat) (v:AV),lk (begin0 n args) t = some v→n ≤ t∧args[t - n]? = some v
 | [],n,t,v,h=>by cases h
 | a::aZ,n,t,v,h=>by
  simp only[begin0,lk]at h
  split at h
  ·rename_i e; subst e; cases h; simp
  ·rename_i hne
   obtain⟨h1,h2⟩:=begin0_lk aZ (n + 1) t v h
   refine⟨by omega,?_⟩
   rw[show t - n = (t - (n + 1)) + 1 by omega]
   simpa using h2
theorem load_var {t:TypeId} {x:Nat} {tmps:Array Value} {sop:SOp} {v:AV} {H':List Obj} (hs:StRel w g H) (hl:∀ t v,lk e.env t = some v→Rep w g H (tmps.getD t undef) v)
  (hc:compRes P (.cell x t) = some sop) (hr:evOp e H sop = some (v,H')):∃ cv,((asAddr (tmps.getD x undef)).run P w).andThen (fun a w=>(loadVar t a).run P w) = .ok cv w∧Rep w g H cv v∧H' = H:=by
 have fin:∀ {u:AV},lk e.env x = some u→RunV P ⟨tmps,[]⟩ w g H ⟨none,.load t (.tmp x),0, "",#[],none⟩ v→(∃ p:Addr,tmps.getD x undef = .pointer (some p)) →
   ∃ cv,((asAddr (tmps.getD x undef)).run P w).andThen (fun a w=>(loadVar t a).run P w) = .ok cv w∧Rep w g H cv v:=fun hu hrun hp=>by
  obtain⟨cv,h1,h2⟩:=hrun
  obtain⟨p,hp⟩:=hp
  refine⟨cv,?_,h2⟩
  rw[hp]
  simp only[execOp,Act.eval,hp,Instr.loadAt,Instr.sureAddr,Sem.run_bind,Sem.run_pure,Result.andThen_ok]at h1
  simp only[asAddr,Sem.run_pure,Result.andThen_ok]
  cases hq:(loadVar t p).run P w with
  | ok c w2=>rw[hq]at h1; simp at h1; rw[h1.1,h1.2]
  | halt=>rw[hq]at h1; cases h1
 simp only[compRes,Option.bind_eq_some_iff]at hc
 obtain⟨gg,hgg,hc⟩:=hc
 obtain⟨d,hd,hda⟩:=agg_some hgg
 cases gg with
 | true =>
  simp only[if_true,Option.map_eq_some_iff]at hc
  obtain⟨n,hn,rfl⟩:=hc
  obtain⟨ti,hti,rfl⟩:=size_some hn
  simp only[evOp,Option.bind_eq_some_iff,Option.map_eq_some_iff,Prod.mk.injEq,ev]at hr
  obtain⟨u,hu,cs,hcs,rfl,rfl⟩:=hr
  have hrep:=hl x u hu
  have hrun:RunV P ⟨tmps,[]⟩ w g H ⟨none,.load t (.tmp x),0, "",#[],none⟩ (.agg cs):=run_loadn hs hd hda hti hrep hcs
  obtain⟨p,hp,_⟩:=load_rep hs hrep hcs
  obtain⟨cv,h1,h2⟩:=fin hu hrun ⟨p,hp⟩
  exact⟨cv,h1,h2,rfl⟩
 | false =>
  simp only[Bool.false_eq_true,if_false,Option.some.injEq]at hc
  subst hc
  simp only[evOp,Option.bind_eq_some_iff,Option.map_eq_some_iff,Prod.mk.injEq,ev]at hr
  obtain⟨u,hu,c,hcv,rfl,rfl⟩:=hr
  have hrep:=hl x u hu
  have hrun:RunV P ⟨tmps,[]⟩ w g H ⟨none,.load t (.tmp x),0, "",#[],none⟩ c:=run_load1 hs hd hda hrep hcv
  have hp:∃ p:Addr,tmps.getD x undef = .pointer (some p):=by
   unfold load1V at hcv
   split at hcv
   ·rename_i c' hl'
    obtain⟨p,hp,_⟩:=load_rep hs hrep hl'
    exact⟨p,hp⟩
   ·cases hcv
  obtain⟨cv,h1,h2⟩:=fin hu hrun hp
  exact⟨cv,h1,h2,rfl⟩
def resV(tmps:Array Value):ResultVar→Sem Value
 | .tmp t=>pure (tmps.getD t undef)
 | .cell a t=>do loadVar t (← asAddr (tmps.getD a undef))
theorem results_eq(fn:Func)(tmps:Array Value):results fn tmps = (do let vs ← fn.results.mapM (resV tmps); pure (if h:vs.size = 1 then vs[0] else .tuple vs)):=by
 unfold results
 rfl
theorem res_rep{tmps:Array Value}(hs:StRel w g H)(hl:∀ t v,lk e.env t = some v→Rep w g H (tmps.getD t undef) v):∀ {l:List ResultVar} {sops:List SOp} {rs:List AV},
  l.mapM (compRes P) = some sops→evRes e H sops = some rs →
  ∃ vs:List Value,(l.mapM (resV tmps)).run P w = .ok vs w∧vs.length = rs.length∧∀ (i:Nat) (c:Value) (x:AV),vs[i]? = some c→rs[i]? = some x→Rep w g H c x
 | [],sops,rs,h1,h2=>by
  simp at h1
  subst h1
  simp only[evRes,Option.some.injEq]at h2
  subst h2
  exact⟨[],by simp,rfl,fun i c x h=>by simp at h⟩
 | r::l,sops,rs,h1,h2=>by
  simp only[List.mapM_cons,Option.bind_eq_bind,Option.bind_eq_some_iff,Option.pure_def,Option.some.injEq]at h1
  obtain⟨sop,hsop,sops',hsops,rfl⟩:=h1
  simp only[evRes,Option.bind_eq_some_iff,Option.map_eq_some_iff]at h2
  obtain⟨⟨v,H'⟩,hv,rs',hrs,rfl⟩:=h2
  obtain⟨vs,k1,k2,k3⟩:=res_rep hs hl hsops hrs
  have one:∃ cv,(resV tmps r).run P w = .ok cv w∧Rep w g H cv v:=by
   cases r with
   | tmp t =>
    simp only[compRes,Option.some.injEq]at hsop
    subst hsop
    simp only[evOp,Option.map_eq_some_iff,Prod.mk.injEq,ev]at hv
    obtain⟨u,hu,rfl,rfl⟩:=hv
    exact⟨_,rfl,hl t u hu⟩
   | cell x t =>
    obtain⟨cv,q1,q2,_⟩:=load_var hs hl hsop hv
    exact⟨cv,by simp only[resV,Sem.run_bind]; exact q1,q2⟩
  obtain⟨cv,q1,q2⟩:=one
  refine⟨cv::vs,?_,by simp[k2],fun i c x hc hx=>?_⟩
  ·simp only[List.mapM_cons,Sem.run_bind,q1,Result.andThen_ok,k1,Sem.run_pure]
  ·cases i with
   | zero=>simp at hc hx; subst hc; subst hx; exact q2
   | succ i=>simp at hc hx; exact k3 i c x hc hx
theorem evo_tail{w'':World}{x:Option (List Deferred)}{b:Nat}(he:Evo w g H w' g' H')(hs:StRel w' g' H')(hb:w.heap.size ≤ b)(hh:w'.heap[b]? = some (.deferred x))(hn:∀ i,¬ OwnAny g' H' b i)(hw:w'' = w'.putObj b (.deferred none)) :
  Evo w g H w'' g' H'∧StRel w'' g' H'∧∀ c a,Rep w' g' H' c a→Rep w'' g' H' c a:=by
 subst hw
 have hlt:b < w'.heap.size:=(Array.getElem?_eq_some_iff.1 hh).1
 have hc:∀ b' i,cellAt (w'.putObj b (.deferred none)) b' i = cellAt w' b' i:=fun b' i=>by
  by_cases e:b' = b
  ·subst e; simp[cellAt,World.cell?,World.putObj_heap_same hlt,hh]
  ·exact cellAt_heap (World.putObj_heap_other e) i
 have hr:∀ c a,Rep w' g' H' c a→Rep (w'.putObj b (.deferred none)) g' H' c a:=fun c a hr=>hr.step (fun _ _ h=>h) (fun b i _=>hc b i) (fun l o _=>.same rfl rfl rfl rfl)
 have hnb:∀ l o,H'[l]? = some o→∀ x,g'.Has l x→x ≠ b:=fun l o hl x hx e=>by
  subst e
  have hlt':=(List.getElem?_eq_some_iff.1 hl).1
  rcases hx with rfl | hx
  ·obtain⟨i,hi⟩:=free_cell (hs.stand l o hl)
   exact hn i ⟨⟨l,hlt',.inl rfl⟩,hi⟩
  ·exact hn 0 ⟨⟨l,hlt',.inr hx⟩,(hs.ext l _ hlt' hx).2.2 0⟩
 obtain⟨a1,a2,a3,a4,a5⟩:=he.keep
 refine⟨⟨he.D,fun b i hd=>(hc b i).trans (he.cells b i hd),fun c a h=>hr _ _ (he.rep _ _ h),⟨a1,a2,a3,by simpa using a4,fun b' hb'=>?_⟩,he.own,he.newD,he.cd⟩,⟨fun l o hl=>?_,hs.inj2,hs.stand,fun b i hd=>by simpa using hs.dom b i hd,fun l b hl hx=>by simpa using hs.ext l b hl hx,hs.glob.step (fun _ _ h=>h) (fun b i _=>hc b i)⟩,hr⟩
 ·have h5:=a5 b' hb'
  have e:(w'.putObj b (.deferred none)).heap[b']? = w'.heap[b']?:=World.putObj_heap_other (by omega)
  split
  ·rename_i vs e1 f hw; simp only[hw]at h5; rw[e]; exact h5
  ·rename_i o hne
   intro ho
   rw[e]
   split at h5
   ·rename_i vs e1 f hw; exact absurd hw (hne _ _ _)
   ·exact h5 ho
 ·exact (hs.objs l o hl).keep rfl rfl rfl (fun x hx=>World.putObj_heap_other (hnb l o hl x hx)) (fun _ _ h=>h) (fun b i _=>hc b i) hr
theorem leaves_marks{fn:Func}{tmps:Array Value}{R:Ending→World→Prop}:∀ {bs:List (Nat ⊕ (FuncId×Array Value))} {w':World},Evo w g H w' g' H'→StRel w' g' H'→(∀ c a,Rep w1 g' H' c a→Rep w' g' H' c a)→(lefts bs).Nodup →
  (∀ b ∈ lefts bs,w.heap.size ≤ b∧w'.heap[b]? = some (.deferred (some []))∧∀ i,¬ OwnAny g' H' b i)→(∀ p,.inr p ∈ bs→QuietF P p.1)→(∀ w'',Evo w g H w'' g' H'→StRel w'' g' H'→(∀ c a,Rep w1 g' H' c a→Rep w'' g' H' c a)→∃ v,(results fn tmps).run P w'' = .ok v w''∧R (.returned v) w'') →
  LeavesInM (FR none) 0 P fn tmps R (bs.map dfr) .returning w'
 | [],w',he,hs,hr,_,_,_,h=>h w' he hs hr
 | .inl b::bs,w',he,hs,hr,hn,hb,hq,h=>by
  obtain⟨n1,n2⟩:=List.nodup_cons.1 (show (b::lefts bs).Nodup from hn)
  obtain⟨b1,b2,b3⟩:=hb b (mem_lefts.2 (by simp))
  obtain⟨e1,s1,r1⟩:=evo_tail he hs b1 b2 b3 rfl
  refine⟨by simp,.inl ⟨b,_,rfl,run_takeDeferred b2,leaves_marks e1 s1 (fun c a h=>r1 _ _ (hr _ _ h)) n2 (fun c hc=>?_) (fun p hp=>hq p (by simp[hp])) h⟩⟩
  obtain⟨c1,c2,c3⟩:=hb c (mem_lefts.2 (by simp[mem_lefts.1 hc]))
  have hcb:c ≠ b:=fun e=>n1 (by rw[← e]; exact hc)
  exact⟨c1,by rw[World.putObj_heap_other hcb]; exact c2,c3⟩
 | .inr p::bs,w',he,hs,hr,hn,hb,hq,h=>by
  obtain⟨⟨fd,code,f1,f2,f3⟩,hc⟩:=hq p (by simp)
  simp only[beq_eq_false_iff_ne,ne_eq]at f2
  refine⟨by simp,.inr ⟨fun h=>(by cases h),_,_,p.1,p.2,rfl,?_,fun _ _=>trivial,(hc p.2 w').mono fun e u' w'' hx=>?_⟩⟩
  ·show (invoke (.fn (.func p.1) p.2) #[]).run P w' = _
   simp[Go.invoke,callFunc,f1,f2,f3]
  ·obtain⟨⟨v,rfl⟩,rfl,rfl⟩:=hx
   exact leaves_marks he hs hr hn (fun c hc=>hb c hc) (fun q hp=>hq q (by simp[hp])) h
theorem call_sim{f:FuncId}{F:SFunc}{args:List AV}{r:SExit×St}{rs:List AV}(hok:CodeOk P kn f F)(ha:args.length = F.arity)(he:ExecM P kn F.body ⟨begin0 0 args,H⟩ r)(hx:∀ i,r.1 ≠ .exit i)(hr:evRes ⟨[],r.2.env⟩ r.2.H F.results = some rs):CallSim P kn f args H (tupOf rs,r.2.H):=by
 obtain⟨fn,c,lone,vars,h1,_,h3,h4,h5,h6,hqt⟩:=hok.ok
 intro w g cs hcd hs hargs
 have hget:∀ t v,args[t]? = some v→∃ cv,cs[t]? = some cv∧(cs++Array.replicate (fn.ntmps - cs.size) undef).getD t undef = cv:=fun t v ht=>by
  have hlt:t < cs.size:=by rw[hargs.1]; exact (List.getElem?_eq_some_iff.1 ht).1
  refine⟨cs[t],by simp[hlt],?_⟩
  rw[Array.getD_eq_getD_getElem?,Array.getElem?_append_left hlt]
  simp[hlt]
 have hpre:Pre P kn w.heap.size none fn.ntmps vars { tmps:=cs++Array.replicate (fn.ntmps - cs.size) undef,defers:=[] } w g ⟨begin0 0 args,H⟩:=by
  refine⟨⟨fun t v h=>(by cases h),fun t v h=>?_,hs.glob⟩,⟨fun t v h=>(by cases h),fun t v h=>?_⟩,by simp; omega,hs,hcd,.nil,Nat.le_refl _,(fun l0 e=>by cases e),fun h=>⟨rfl,hqt h⟩⟩
  ·obtain⟨_,h7⟩:=begin0_lk args 0 t v h
   simp only[Nat.sub_zero]at h7
   obtain⟨cv,q1,q2⟩:=hget t v h7
   show Rep w g H ((cs++Array.replicate (fn.ntmps - cs.size) undef).getD t undef) v
   rw[q2]
   exact hargs.2 t cv v q1 h7
  ·obtain⟨_,h7⟩:=begin0_lk args 0 t v h
   simp only[Nat.sub_zero]at h7
   exact h5 t (by rw[← ha]; exact (List.getElem?_eq_some_iff.1 h7).1)
 refine callsIn_wide.1 (callsIn_of_wp_marks (F:=FR none) (n:=0) h1 h3 trivial (wpIn_mono (he.go w.heap.size none lone fn.ntmps vars c h4 _ w g hpre) fun e a' w' hq=>?_))
 obtain⟨q0,g',q1,q2,q3,_,q5,_⟩:=hq
 have fin:LeavesInM (FR none) 0 P fn a'.tmps (fun e w''=>∃ v g',e = .returned v∧Evo w g H w'' g' r.2.H∧StRel w'' g' r.2.H∧Rep w'' g' r.2.H v (tupOf rs)) a'.defers .returning w':=by
  obtain⟨bs,d1,d2,d3,d4⟩:=q5
  rw[d1]
  refine leaves_marks q1 q2 (fun _ _ h=>h) d2 d3 d4 fun w'' q1' q2' qr=>?_
  have q3':EnvRel w'' g' r.2.H a'.tmps ⟨[],r.2.env⟩:=⟨fun t v h=>qr _ _ (q3.loc t v h),fun t v h=>qr _ _ (q3.env t v h),q2'.glob⟩
  obtain⟨vs,k1,k2,k3⟩:=res_rep (e:=⟨[],r.2.env⟩) q2' q3'.env h6 hr
  have hm:(fn.results.mapM (resV a'.tmps)).run P w'' = .ok vs.toArray w'':=by
   rw[Array.mapM_eq_mapM_toList]
   simp[k1]
  have hrun:(results fn a'.tmps).run P w'' = .ok (if h:vs.toArray.size = 1 then vs.toArray[0] else .tuple vs.toArray) w'':=by
   rw[results_eq]
   simp only[Sem.run_bind,hm,Result.andThen_ok,Sem.run_pure]
  refine⟨_,hrun,_,g',rfl,q1',q2',?_⟩
  by_cases hl:rs.length = 1
  ·obtain⟨r1,rfl⟩:=List.length_eq_one_iff.1 hl
   obtain⟨v1,rfl⟩:=List.length_eq_one_iff.1 (show vs.length = 1 by rw[k2]; rfl)
   exact k3 0 v1 r1 rfl rfl
  ·have hne:¬ vs.toArray.size = 1:=by simp; omega
   rw[dif_neg hne]
   have ht:tupOf rs = .tup rs:=by
    unfold tupOf
    split
    ·rename_i r1; exact absurd rfl hl
    ·rfl
   rw[ht]
   exact .tup (by simpa using k2) (fun i c x hc hx=>k3 i c x (by simpa using hc) hx)
 cases hrx:r.1 with
 | normal=>rw[hrx]at q0; cases e <;> first | exact q0.elim | exact fin
 | ret=>rw[hrx]at q0; cases e <;> first | exact q0.elim | exact fin
 | exit i=>exact absurd hrx (hx i)
end
end Go.Proofs.YtchgldaddcolhaaGreatDoor

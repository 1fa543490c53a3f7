/- Part of the proof of Rows.ProverMiddlesCardSaid: PmK2. -/
import Derived.Test.YtepbfecmageleaaGreatDoorP01
set_option linter.all false
namespace Go.Proofs.YtepbfecmageleaaGreatDoor
open Go
def K163:SFunc:=⟨(q (R [oXI 2 0])
 (q (k (C bF) (q (R [oTX 3 0,ot 4 (.conv .u32 (.t 3)),oC 5 160 [.t 4],oXT 2 5])
 .ret) .skip)
 (q (R [oTX 6 0,oC 7 201 [.t 6],oXT 2 7])
 .ret))),
 [.mov (.x 2)],[],false,1⟩
def K164:SFunc:=⟨(q (R [ox 1 (.box (.x 0)),ox 2 (.mov (C bF))])
 (q (R [oG 3 0 1,oF 4 0 3,oL 5 4,ot 6 (.un .not (.t 5)),ot 7 (.mov (.t 6)),og (.t 8) (.fadr 2 (.x 1)) (.t 7) true,og (.t 9) (.fadr 0 (.t 8)) (.t 7) true,og (.t 10) (.load1 (.t 9)) (.t 7) true,og (.t 11) (.un .not (.t 10)) (.t 7) true,ot 12 (.pick (.t 7) (.t 11) (C bF)),ot 13 (.mov (.t 12)),og (.t 14) (.fadr 0 (.x 1)) (.t 13) true,og (.t 15) (.fadr 1 (.t 14)) (.t 13) true,og (.t 16) (.load1 (.t 15)) (.t 13) true,og (.t 17) (.len (.t 16)) (.t 13) true,og (.t 18) (.bin .eql (.t 17) (i 0)) (.t 13) true,ot 19 (.pick (.t 13) (.t 18) (C bF)),ot 20 (.mov (.t 19)),og (.t 21) (.fadr 2 (.x 1)) (.t 20) true,og (.t 22) (.fadr 1 (.t 21)) (.t 20) true,og (.t 23) (.load1 (.t 22)) (.t 20) true,og (.t 24) (.len (.t 23)) (.t 20) true,og (.t 25) (.bin .eql (.t 24) (i 0)) (.t 20) true,ot 26 (.pick (.t 20) (.t 25) (C bF)),oXT 2 26])
 .ret)),
 [.mov (.x 2)],[],false,1⟩
def K165:SFunc:=⟨(q (R [ox 4 (.mov (C bF))])
 (q (R [oTX 5 0,oTX 6 1,oC 7 202 [.t 5,.t 6],oB 8 .geq (.t 7) (i 0),oXT 4 8])
 .ret)),
 [.mov (.x 4)],[],false,2⟩
def K166:SFunc:=⟨(q (R [ox 2 (.box (.x 0)),ox 3 (.mov (C bF))])
 (q (R [oG 4 0 2,oL 5 4,oG 6 0 1,oL 7 6,oB 8 .eql (.t 5) (.t 7),oXT 3 8])
 .ret)),
 [.mov (.x 3)],[],false,2⟩
def K167:SFunc:=⟨(q (R [ox 4 (.mov (C (I .u64 0))),ox 5 (.mov (C (I .u64 0)))])
 (q (k (C bF) (q (R [oTX 11 0,ot 12 (.conv .u32 (.t 11)),oTX 13 1,ot 14 (.conv .u32 (.t 13)),oC 15 203 [.t 12,.t 14],ot 10 (.mov (.t 15)),ot 16 (.extract (.t 10) 0),ot 17 (.extract (.t 10) 1),oXT 6 16,oXT 7 17])
 (q (R [oTX 18 6,ot 19 (.conv .u64 (.t 18)),oTX 20 7,ot 21 (.conv .u64 (.t 20)),oXT 4 19,oXT 5 21])
 .ret)) .skip)
 (q (R [oTX 23 0,oTX 24 1,oC 25 204 [.t 23,.t 24],ot 22 (.mov (.t 25)),ot 26 (.extract (.t 22) 0),ot 27 (.extract (.t 22) 1),oXT 8 26,oXT 9 27])
 (q (R [oTX 28 8,oTX 29 9,oXT 4 28,oXT 5 29])
 .ret)))),
 [.mov (.x 4),.mov (.x 5)],[],false,2⟩
def K168:SFunc:=⟨(q (R [ox 4 (.alloc [.lit [],.lit []])])
 (q (q (R [ox 6 (.mov (.x 0))])
 (bl 0 (q (R [oB 8 .eql (.x 6) (i 1),oXT 7 8])
 (k (.x 7) (q (R [ot 9 (.slit [.v (Y [])] 4 [(0,(C (Y [120,120]))),(1,(C (Y [105,110]))),(2,(C (Y [121,121]))),(3,(C (Y [105,110])))]),ot 10 (.slit [.v (Y [])] 3 [(0,(C (Y [120,120]))),(1,(C (Y [121,121]))),(2,(C (Y [49])))]),ot 11 (.build [.lit [],.lit []] [(0,1,.t 9),(1,1,.t 10)]),o0 (.store 2 (.x 4) (.t 11))])
 .ret) (q (R [oB 13 .eql (.x 6) (i 2),oXT 12 13])
 (k (.x 12) (q (q (R [ox 14 (.mov (.x 1))])
 (k (.x 14) (q (R [ot 15 (.slit [.v (Y [])] 10 [(0,(C (Y [116]))),(1,(C (Y [105,110]))),(2,(C (Y [109]))),(3,(C (Y [49,32,43,32,116,94,50]))),(4,(C (Y [107]))),(5,(C (Y [49,32,45,32,116,94,50]))),(6,(C (Y [100,120]))),(7,(C (Y [50,32,117,32,97,120,32,43,32,112,32,97,122]))),(8,(C (Y [100,121]))),(9,(C (Y [50,32,117,32,97,121,32,43,32,113,32,97,122])))]),ot 16 (.slit [.v (Y [])] 3 [(0,(C (Y [45,112,32,97,122,32,109,32,43,32,107,32,100,120,32,45,32,50,32,116,32,100,121]))),(1,(C (Y [45,113,32,97,122,32,109,32,43,32,50,32,116,32,100,120,32,43,32,107,32,100,121]))),(2,(C (Y [50,32,117,32,97,122,32,109])))]),ot 17 (.build [.lit [],.lit []] [(0,1,.t 15),(1,1,.t 16)]),o0 (.store 2 (.x 4) (.t 17))])
 .ret) .skip))
 (q (R [ot 18 (.slit [.v (Y [])] 4 [(0,(C (Y [116]))),(1,(C (Y [105,110]))),(2,(C (Y [110]))),(3,(C (Y [97,94,50,32,43,32,98,94,50])))]),ot 19 (.slit [.v (Y [])] 3 [(0,(C (Y [45,97,32,99,32,45,32,116,32,98,32,110]))),(1,(C (Y [45,98,32,99,32,43,32,116,32,97,32,110]))),(2,(C (Y [110])))]),ot 20 (.build [.lit [],.lit []] [(0,1,.t 18),(1,1,.t 19)]),o0 (.store 2 (.x 4) (.t 20))])
 .ret)) (q (q (R [oB 22 .eql (.x 6) (i 3),oXT 21 22])
 (k (.x 21) .skip (R [oB 23 .eql (.x 6) (i 4),oXT 21 23])))
 (k (.x 21) (q (R [oC 24 173 [],ot 25 (.build [.lit [],.lit []] [(0,1,(.c (.lit []))),(1,1,.t 24)]),o0 (.store 2 (.x 4) (.t 25))])
 .ret) (q (q (R [oB 27 .eql (.x 6) (i 5),oXT 26 27])
 (k (.x 26) .skip (R [oB 28 .eql (.x 6) (i 6),oXT 26 28])))
 (k (.x 26) (q (R [ot 29 (.slit [.v (Y [])] 12 [(0,(C (Y [119]))),(1,(C (Y [122,50,32,122,51]))),(2,(C (Y [101,120]))),(3,(C (Y [120,51,32,122,50,32,45,32,120,50,32,122,51]))),(4,(C (Y [101,121]))),(5,(C (Y [121,51,32,122,50,32,45,32,121,50,32,122,51]))),(6,(C (Y [100]))),(7,(C (Y [101,120,94,50,32,43,32,101,121,94,50]))),(8,(C (Y [118]))),(9,(C (Y [119,94,50]))),(10,(C (Y [103]))),(11,(C (Y [122,49,94,50])))]),ot 30 (.slit [.v (Y [])] 7 [(0,(C (Y [103,32,118]))),(1,(C (Y [45,50,32,120,49,32,122,49,32,118]))),(2,(C (Y [45,50,32,121,49,32,122,49,32,118]))),(3,(C (Y [40,120,49,94,50,32,43,32,121,49,94,50,41,32,118,32,45,32,103,32,100]))),(4,(C (Y [120,49,32,119,32,43,32,122,49,32,101,120]))),(5,(C (Y [121,49,32,119,32,43,32,122,49,32,101,121]))),(6,(C (Y [122,49,32,119])))]),ot 31 (.build [.lit [],.lit []] [(0,1,.t 29),(1,1,.t 30)]),o0 (.store 2 (.x 4) (.t 31))])
 .ret) (q (R [oB 33 .eql (.x 6) (i 7),oXT 32 33])
 (k (.x 32) (q (R [oC 34 175 [(i 3)],ot 35 (.slit [.v (Y [])] 7 [(0,(C (Y [102,49,32,40,103,50,32,104,51,32,45,32,104,50,32,103,51,41,32,45,32,103,49,32,40,102,50,32,104,51,32,45,32,104,50,32,102,51,41,32,43,32,104,49,32,40,102,50,32,103,51,32,45,32,103,50,32,102,51,41]))),(1,(C (Y [45,40,115,49,32,40,103,50,32,104,51,32,45,32,104,50,32,103,51,41,32,45,32,103,49,32,40,115,50,32,104,51,32,45,32,104,50,32,115,51,41,32,43,32,104,49,32,40,115,50,32,103,51,32,45,32,103,50,32,115,51,41,41]))),(2,(C (Y [115,49,32,40,102,50,32,104,51,32,45,32,104,50,32,102,51,41,32,45,32,102,49,32,40,115,50,32,104,51,32,45,32,104,50,32,115,51,41,32,43,32,104,49,32,40,115,50,32,102,51,32,45,32,102,50,32,115,51,41]))),(3,(C (Y [45,40,115,49,32,40,102,50,32,103,51,32,45,32,103,50,32,102,51,41,32,45,32,102,49,32,40,115,50,32,103,51,32,45,32,103,50,32,115,51,41,32,43,32,103,49,32,40,115,50,32,102,51,32,45,32,102,50,32,115,51,41,41]))),(4,(C (Y [120,49]))),(5,(C (Y [121,49]))),(6,(C (Y [122,49])))]),ot 36 (.build [.lit [],.lit []] [(0,1,.t 34),(1,1,.t 35)]),o0 (.store 2 (.x 4) (.t 36))])
 .ret) (q (R [oB 38 .eql (.x 6) (i 8),oXT 37 38])
 (k (.x 37) (q (R [ot 39 (.call (.f 205) [(.c (.lit []))]),o0 (.store 2 (.x 4) (.t 39))])
 .ret) (q (R [oB 41 .eql (.x 6) (i 9),oXT 40 41])
 (k (.x 40) (q (R [ot 42 (.slit [.v (Y [])] 14 [(0,(C (Y [97]))),(1,(C (Y [117,50,32,112,49,32,45,32,117,49,32,112,50]))),(2,(C (Y [98]))),(3,(C (Y [117,50,32,113,49,32,45,32,117,49,32,113,50]))),(4,(C (Y [99]))),(5,(C (Y [117,50,32,114,49,32,45,32,117,49,32,114,50]))),(6,(C (Y [117]))),(7,(C (Y [117,49]))),(8,(C (Y [112]))),(9,(C (Y [112,49]))),(10,(C (Y [113]))),(11,(C (Y [113,49]))),(12,(C (Y [114]))),(13,(C (Y [114,49])))]),oC 43 205 [.t 42],o0 (.store 2 (.x 4) (.t 43))])
 .ret) (q (R [oB 45 .eql (.x 6) (i 15),oXT 44 45])
 (k (.x 44) (q (R [ot 46 (.slit [.v (Y [])] 6 [(0,(C (Y [97]))),(1,(C (Y [50,32,117,32,120,32,43,32,112,32,122]))),(2,(C (Y [98]))),(3,(C (Y [50,32,117,32,121,32,43,32,113,32,122]))),(4,(C (Y [99]))),(5,(C (Y [112,32,120,32,43,32,113,32,121,32,43,32,50,32,114,32,122])))]),oC 47 205 [.t 46],ox 5 (.alloc [.lit [],.lit []]),o0 (.store 2 (.x 5) (.t 47))])
 (q (D [dF (oG 48 0 5),dH (oL 49 48),dF (oG 50 1 5),dH (oL 51 50),dH (ot 52 (.idx 1 (.t 51) (i 0))),dH (oL 53 52),dF (oG 54 1 5),dH (oL 55 54),dH (ot 56 (.idx 1 (.t 55) (i 1))),dH (oL 57 56),dF (oG 58 1 5),dH (oL 59 58),dH (ot 60 (.idx 1 (.t 59) (i 2))),dH (oL 61 60),dL (ot 62 (.slit [.v (Y [])] 6 [(0,(C (Y [116,120]))),(1,.t 53),(2,(C (Y [116,121]))),(3,.t 57),(4,(C (Y [116,122]))),(5,.t 61)])),⟨ot 63 (.append 16 1 (.t 49) (.t 62)),.write,0,1⟩,⟨oG 64 0 5,.free,1,1⟩,⟨o0 (.store 1 (.t 64) (.t 63)),.write,1,2⟩])
 (q (R [ot 65 (.slit [.v (Y [])] 3 [(0,(C (Y [50,32,117,32,116,120,32,43,32,112,32,116,122]))),(1,(C (Y [50,32,117,32,116,121,32,43,32,113,32,116,122]))),(2,(C (Y [112,32,116,120,32,43,32,113,32,116,121,32,43,32,50,32,114,32,116,122])))]),oG 66 1 5,o0 (.store 1 (.t 66) (.t 65))])
 (q (R [ot 67 (.loadn 2 (.x 5)),o0 (.store 2 (.x 4) (.t 67))])
 .ret)))) .skip))))))))))))))))))
 (q (R [oTX 68 0,oC 69 206 [.t 68],o0 (.store 2 (.x 4) (.t 69))])
 .ret))),
 [.loadn 2 (.x 4)],[],false,2⟩
def K169:SFunc:=⟨(q (R [oXI 4 0])
 (q (q (R [oTX 6 0,oC 7 78 [.t 6],oXT 5 7])
 (q (R [oTX 8 5,ox 9 (.bin .neq (.t 8) (i 0))])
 (k (.x 9) (q (R [oTX 10 5,oXT 4 10])
 .ret) .skip)))
 (q (q (R [oTX 11 1,oB 12 .lss (.t 11) (i 0),ot 13 (.mov (.t 12)),og (.t 14) (.mov (.x 1)) (.t 13) false,og (.t 15) (.mov (.x 0)) (.t 13) false,og (.t 16) (.len (.t 15)) (.t 13) false,og (.t 17) (.bin .geq (.t 14) (.t 16)) (.t 13) false,ox 18 (.pick (.t 13) (C bT) (.t 17))])
 (k (.x 18) (q (R [oXI 4 1])
 .ret) .skip))
 (q (R [oXI 4 0])
 .ret)))),
 [.mov (.x 4)],[],false,2⟩
def K170:SFunc:=⟨(q (R [ox 2 (.mov (C (Y [])))])
 (q (R [oTX 3 0,oC 4 207 [.t 3],oXT 2 4])
 .ret)),
 [.mov (.x 2)],[],false,1⟩
def K171:SFunc:=⟨(q (R [oXI 8 0])
 (q (R [oTX 9 0,oTX 10 0,ot 11 (.nilck (.t 10)),oF 12 0 11,oF 13 1 12,oL 14 13,oTX 15 1,oTX 16 2,oTX 17 3,ot 18 (.build [p0,p0,p0] [(0,1,.t 15),(1,1,.t 16),(2,1,.t 17)]),ot 19 (.slit [.v (I .i64 0),.v (I .i64 0),.v (I .i64 0)] 1 [(0,.t 18)]),ot 20 (.append 24 3 (.t 14) (.t 19)),ot 21 (.nilck (.t 9)),oF 22 0 21,oF 23 1 22,o0 (.store 1 (.t 23) (.t 20))])
 (q (R [oTX 24 0,ot 25 (.nilck (.t 24)),oF 26 0 25,oF 27 1 26,oL 28 27,ot 29 (.len (.t 28)),oB 30 .sub (.t 29) (i 1),oXT 8 30])
 .ret))),
 [.mov (.x 8)],[],false,4⟩
def K172:SFunc:=⟨(q (R [ox 2 (.box (.x 0)),oXI 4 0])
 (q (R [oTX 9 1,ot 10 (.build [.p (.v (Y [])),p0] [(0,1,.t 9)]),ot 11 (.box (.t 10)),ox 5 (.alloc [.p (.v (.pointer none))]),o0 (.store 1 (.x 5) (.t 11))])
 (q (R [ox 6 (.alloc [.p (.v (.nilFunc))])])
 (q (R [ot 12 (.mkfn (.func 208) [] [.x 5,.x 6,.x 2]),ox 7 (.alloc [.p (.v (.nilFunc))]),o0 (.store 1 (.x 7) (.t 12))])
 (q (R [ot 13 (.mkfn (.func 212) [] [.x 7,.x 5,.x 2]),ox 8 (.alloc [.p (.v (.nilFunc))]),o0 (.store 1 (.x 8) (.t 13))])
 (q (R [ot 14 (.mkfn (.func 213) [] [.x 5,.x 2,.x 8]),o0 (.store 1 (.x 6) (.t 14))])
 (q (R [ot 15 (.load1 (.x 6)),ot 16 (.call (.t 15) []),oXT 4 16])
 .ret))))))),
 [.mov (.x 4)],[],false,2⟩
def K173:SFunc:=⟨(q (R [ox 0 (.mov (.c (.lit [])))])
 (q (R [ot 1 (.slit [.v (Y [])] 3 [(0,(C (Y [121,49,32,122,50,32,45,32,122,49,32,121,50]))),(1,(C (Y [122,49,32,120,50,32,45,32,120,49,32,122,50]))),(2,(C (Y [120,49,32,121,50,32,45,32,121,49,32,120,50])))]),oXT 0 1])
 .ret)),
 [.mov (.x 0)],[],false,0⟩
def K176:SFunc:=⟨(q (R [ox 1 (.box (.x 0)),oXI 2 0])
 (q (q (R [oG 10 0 1,oL 11 10,oB 12 .lss (.t 11) (i 0),ot 13 (.mov (.t 12)),og (.t 14) (.fadr 0 (.x 1)) (.t 13) false,og (.t 15) (.load1 (.t 14)) (.t 13) false,og (.t 16) (.bin .gtr (.t 15) (i 20)) (.t 13) false,ot 17 (.pick (.t 13) (C bT) (.t 16)),ot 18 (.mov (.t 17)),og (.t 19) (.fadr 1 (.x 1)) (.t 18) false,og (.t 20) (.load1 (.t 19)) (.t 18) false,og (.t 21) (.len (.t 20)) (.t 18) false,og (.t 22) (.bin .gtr (.t 21) (i 8192)) (.t 18) false,ot 23 (.pick (.t 18) (C bT) (.t 22)),ot 24 (.mov (.t 23)),og (.t 25) (.fadr 3 (.x 1)) (.t 24) false,og (.t 26) (.load1 (.t 25)) (.t 24) false,og (.t 27) (.len (.t 26)) (.t 24) false,og (.t 28) (.bin .gtr (.t 27) (i 5)) (.t 24) false,ox 29 (.pick (.t 24) (C bT) (.t 28))])
 (k (.x 29) (q (R [oXI 2 3])
 .ret) .skip))
 (q (R [oXI 3 0])
 (q (q (R [oG 30 1 1,ox 31 (.load1 (.t 30)),ox 32 (.len (.x 31)),oXI 33 0])
 (bl 0 (lp (q (R [ox 34 (.bin .lss (.x 33) (.x 32))])
 (q (k (.x 34) .skip (ex 0))
 (q (bl 1 (q (R [oTX 35 33,ot 36 (.idx 3 (.x 31) (.x 33)),ot 37 (.loadn 3 (.t 36)),ox 5 (.alloc [p0,p0,p0]),oXT 4 35,o0 (.store 3 (.x 5) (.t 37))])
 (q (q (R [ot 38 (.loadn 3 (.x 5)),oTX 39 4,oG 40 0 1,oL 41 40,oC 42 214 [.t 38,.t 39,.t 41],ox 43 (.un .not (.t 42))])
 (k (.x 43) (q (R [oXI 2 3])
 .ret) .skip))
 (q (q (R [oG 44 0 5,oL 45 44,ox 46 (.bin .neq (.t 45) (i 6))])
 (k (.x 46) (ex 1) .skip))
 (q (q (R [oTX 47 3,oG 48 3 1,oL 49 48,ot 50 (.len (.t 49)),oB 51 .eql (.t 47) (.t 50),ot 52 (.mov (.t 51)),og (.t 53) (.fadr 3 (.x 1)) (.t 52) false,og (.t 54) (.load1 (.t 53)) (.t 52) false,og (.t 55) (.mov (.x 3)) (.t 52) false,og (.t 56) (.idx 1 (.t 54) (.t 55)) (.t 52) false,og (.t 57) (.load1 (.t 56)) (.t 52) false,og (.t 58) (.mov (.x 4)) (.t 52) false,og (.t 59) (.bin .neq (.t 57) (.t 58)) (.t 52) false,ox 60 (.pick (.t 52) (C bT) (.t 59))])
 (k (.x 60) (q (R [oXI 2 3])
 .ret) .skip))
 (R [oTX 61 3,oB 62 .add (.t 61) (i 1),oXT 3 62]))))))
 (R [oB 63 .add (.x 33) (i 1),oXT 33 63])))))))
 (q (q (R [oTX 64 3,oG 65 3 1,oL 66 65,ot 67 (.len (.t 66)),ox 68 (.bin .neq (.t 64) (.t 67))])
 (k (.x 68) (q (R [oXI 2 3])
 .ret) .skip))
 (q (q (R [oG 69 2 1,ox 70 (.load1 (.t 69)),ox 71 (.len (.x 70)),oXI 72 0])
 (bl 2 (lp (q (R [ox 73 (.bin .lss (.x 72) (.x 71))])
 (q (k (.x 73) .skip (ex 2))
 (q (bl 3 (q (R [ot 74 (.idx 1 (.x 70) (.x 72)),oL 75 74,oXT 7 75])
 (q (q (R [oTX 76 7,ot 77 (.len (.t 76)),oB 78 .neq (.t 77) (i 3),ot 79 (.mov (.t 78)),og (.t 80) (.mov (.x 7)) (.t 79) true,og (.t 81) (.len (.t 80)) (.t 79) true,og (.t 82) (.bin .neq (.t 81) (i 7)) (.t 79) true,ox 83 (.pick (.t 79) (.t 82) (C bF))])
 (k (.x 83) (q (R [oXI 2 3])
 .ret) .skip))
 (q (R [ox 84 (.mov (.x 7)),ox 85 (.len (.x 84)),oXI 86 0])
 (bl 4 (lp (q (R [ox 87 (.bin .lss (.x 86) (.x 85))])
 (q (k (.x 87) .skip (ex 4))
 (q (bl 5 (q (R [ot 88 (.idx 1 (.x 84) (.x 86)),oL 89 88,oXT 9 89])
 (q (R [oTX 90 9,oB 91 .lss (.t 90) (i 0),ot 92 (.mov (.t 91)),og (.t 93) (.mov (.x 9)) (.t 92) false,og (.t 94) (.fadr 1 (.x 1)) (.t 92) false,og (.t 95) (.load1 (.t 94)) (.t 92) false,og (.t 96) (.len (.t 95)) (.t 92) false,og (.t 97) (.bin .geq (.t 93) (.t 96)) (.t 92) false,ox 98 (.pick (.t 92) (C bT) (.t 97))])
 (k (.x 98) (q (R [oXI 2 3])
 .ret) .skip))))
 (R [oB 99 .add (.x 86) (i 1),oXT 86 99]))))))))))
 (R [oB 100 .add (.x 72) (i 1),oXT 72 100])))))))
 (q (R [oXI 2 0])
 .ret))))))),
 [.mov (.x 2)],[],false,1⟩
def K178:SFunc:=⟨(q (R [ox 2 (.box (.x 0)),ox 3 (.box (.x 1)),ox 4 (.alloc [pF,.lit []]),oXI 5 0])
 (q (q (R [ot 6 (.loadn 2 (.x 2)),ot 7 (.loadn 2 (.x 3)),oC 8 60 [.t 6,.t 7],ox 9 (.un .not (.t 8))])
 (k (.x 9) (q (R [ot 10 (.build [pF,.lit []] []),o0 (.store 2 (.x 4) (.t 10)),oXI 5 1])
 .ret) .skip))
 (q (R [oG 11 0 2,oL 12 11,oG 13 1 2,oL 14 13,oG 15 0 3,oL 16 15,ot 17 (.un .not (.t 16)),oG 18 1 3,oL 19 18,oC 20 114 [.t 12,.t 14,.t 17,.t 19],ot 21 (.extract (.t 20) 0),ot 22 (.extract (.t 20) 1),o0 (.store 2 (.x 4) (.t 21)),oXT 5 22])
 .ret))),
 [.loadn 2 (.x 4),.mov (.x 5)],[],false,2⟩
def K179:SFunc:=⟨(q (R [ox 1 (.box (.x 0)),ox 2 (.alloc [pF,.lit [],pF,.lit []])])
 (q (R [oG 3 0 1,oF 4 1 3,oL 5 4,oC 6 161 [.t 5],oG 7 0 1,oF 8 1 7,o0 (.store 1 (.t 8) (.t 6))])
 (q (R [oG 9 2 1,oF 10 1 9,oL 11 10,oC 12 161 [.t 11],oG 13 2 1,oF 14 1 13,o0 (.store 1 (.t 14) (.t 12))])
 (q (R [ot 15 (.loadn 4 (.x 1)),o0 (.store 4 (.x 2) (.t 15))])
 .ret)))),
 [.loadn 4 (.x 2)],[],false,1⟩
def K180:SFunc:=⟨(q (R [ox 2 (.box (.x 0)),ox 3 (.box (.x 1)),ox 4 (.alloc [pF,.lit [],pF,.lit []]),oXI 5 0])
 (q (bl 0 (q (R [ot 8 (.loadn 2 (.x 2)),oC 9 102 [.t 8],ot 10 (.un .not (.t 9)),ot 11 (.mov (.t 10)),og (.t 12) (.loadn 2 (.x 3)) (.t 11) false,og (.t 13) (.call (.f 102) [.t 12]) (.t 11) false,og (.t 14) (.un .not (.t 13)) (.t 11) false,ot 15 (.pick (.t 11) (C bT) (.t 14)),oXT 7 15])
 (k (.x 7) (q (R [ot 16 (.build [pF,.lit [],pF,.lit []] []),o0 (.store 4 (.x 4) (.t 16)),oXI 5 1])
 .ret) (q (R [ot 18 (.loadn 2 (.x 3)),oC 19 100 [.t 18],oXT 17 19])
 (k (.x 17) (q (R [ot 20 (.build [pF,.lit [],pF,.lit []] []),o0 (.store 4 (.x 4) (.t 20)),oXI 5 4])
 .ret) .skip)))))
 (q (R [ot 21 (.loadn 2 (.x 2)),ot 22 (.loadn 2 (.x 3)),oC 23 215 [.t 21,.t 22],ox 6 (.alloc [pF,.lit [],pF,.lit []]),o0 (.store 4 (.x 6) (.t 23))])
 (q (D [dF (oG 24 0 6),dH (ot 25 (.loadn 2 (.t 24))),dL (oC 26 216 [.t 25]),dF (oG 27 2 6),dH (ot 28 (.loadn 2 (.t 27))),⟨oC 29 216 [.t 28],.write,0,1⟩,⟨ot 30 (.build [pF,.lit [],pF,.lit []] [(0,2,.t 26),(2,2,.t 29)]),.free,1,1⟩,⟨o0 (.store 4 (.x 4) (.t 30)),.write,1,2⟩,⟨oXI 5 0,.free,2,2⟩])
 .ret)))),
 [.loadn 4 (.x 4),.mov (.x 5)],[],false,2⟩
def K181:SFunc:=⟨(q (R [ox 2 (.box (.x 0)),ox 3 (.box (.x 1)),ox 4 (.alloc [pF,.lit [],pF,.lit []]),oXI 5 0])
 (q (R [ot 6 (.loadn 4 (.x 2)),ot 7 (.loadn 4 (.x 3)),ot 8 (.mkfn (.func 217) [] [.x 2,.x 3]),oC 9 183 [.t 6,.t 7,.t 8],ot 10 (.extract (.t 9) 0),ot 11 (.extract (.t 9) 1),o0 (.store 4 (.x 4) (.t 10)),oXT 5 11])
 .ret)),
 [.loadn 4 (.x 4),.mov (.x 5)],[],false,2⟩
def K182:SFunc:=⟨(q (R [ox 2 (.box (.x 0)),ox 3 (.box (.x 1)),ox 4 (.alloc [pF,.lit [],pF,.lit []]),oXI 5 0])
 (q (R [ot 6 (.loadn 4 (.x 2)),ot 7 (.loadn 4 (.x 3)),ot 8 (.mkfn (.func 218) [] [.x 2,.x 3]),oC 9 183 [.t 6,.t 7,.t 8],ot 10 (.extract (.t 9) 0),ot 11 (.extract (.t 9) 1),o0 (.store 4 (.x 4) (.t 10)),oXT 5 11])
 .ret)),
 [.loadn 4 (.x 4),.mov (.x 5)],[],false,2⟩
def K183:SFunc:=⟨(q (R [ox 3 (.box (.x 0)),ox 4 (.box (.x 1)),ox 6 (.alloc [pF,.lit [],pF,.lit []]),oXI 7 0])
 (q (q (R [ot 12 (.loadn 4 (.x 3)),ot 13 (.loadn 4 (.x 4)),ot 14 (.slit [.v (bF),.sl [],.v (bF),.sl []] 2 [(0,.t 12),(1,.t 13)]),oC 15 186 [.t 14],ox 16 (.un .not (.t 15))])
 (k (.x 16) (q (R [ot 17 (.build [pF,.lit [],pF,.lit []] []),o0 (.store 4 (.x 6) (.t 17)),oXI 7 1])
 .ret) .skip))
 (q (R [ox 8 (.alloc [p0]),o0 (.store 1 (.x 8) (i 0))])
 (q (R [ot 18 (.mkfn (.func 219) [] [.x 8]),oXT 9 18])
 (q (R [oTX 20 2,oTX 21 9,ot 22 (.call (.t 21) [(.f 63)]),oTX 23 9,ot 24 (.call (.t 23) [(.f 68)]),ot 25 (.call (.t 20) [.t 22,.t 24]),ot 19 (.mov (.t 25)),ot 26 (.extract (.t 19) 0),ot 27 (.extract (.t 19) 1),ox 10 (.alloc [pF,.lit []]),ox 11 (.alloc [pF,.lit []]),o0 (.store 2 (.x 10) (.t 26)),o0 (.store 2 (.x 11) (.t 27))])
 (q (q (R [ot 28 (.load1 (.x 8)),ox 29 (.bin .neq (.t 28) (i 0))])
 (k (.x 29) (q (D [dF (ot 30 (.build [pF,.lit [],pF,.lit []] [])),⟨ot 31 (.load1 (.x 8)),.read,0,1⟩,⟨o0 (.store 4 (.x 6) (.t 30)),.write,0,1⟩,⟨oXT 7 31,.free,1,1⟩])
 .ret) .skip))
 (q (R [ot 32 (.loadn 2 (.x 10)),ot 33 (.loadn 2 (.x 11)),oC 34 215 [.t 32,.t 33],o0 (.store 4 (.x 6) (.t 34)),oXI 7 0])
 .ret))))))),
 [.loadn 4 (.x 6),.mov (.x 7)],[],false,3⟩
def K184:SFunc:=⟨(q (R [ox 6 (.alloc [pF,.lit []]),ox 7 (.alloc [pF,.lit []])])
 (q (D [⟨oTX 10 0,.free,0,2⟩,⟨oG 11 0 2,.free,0,2⟩,⟨ot 12 (.loadn 2 (.t 11)),.read,0,2⟩,⟨oG 13 2 3,.free,0,2⟩,⟨ot 14 (.loadn 2 (.t 13)),.read,0,2⟩,⟨ot 15 (.call (.t 10) [.t 12,.t 14]),.write,0,3⟩,⟨oTX 16 0,.free,0,3⟩,⟨oG 17 0 3,.free,0,3⟩,⟨ot 18 (.loadn 2 (.t 17)),.read,0,3⟩,⟨oG 19 2 2,.free,0,3⟩,⟨ot 20 (.loadn 2 (.t 19)),.read,0,3⟩,⟨ot 21 (.call (.t 16) [.t 18,.t 20]),.write,1,4⟩,⟨ox 8 (.alloc [pF,.lit []]),.fresh,0,4⟩,⟨ox 9 (.alloc [pF,.lit []]),.fresh,0,4⟩,⟨o0 (.store 2 (.x 8) (.t 15)),.write,4,5⟩,⟨o0 (.store 2 (.x 9) (.t 21)),.write,5,6⟩])
 (q (D [dF (oTX 22 1),dH (ot 23 (.loadn 2 (.x 8))),dH (ot 24 (.loadn 2 (.x 9))),dL (oC 25 185 [.t 24]),⟨ot 26 (.call (.t 22) [.t 23,.t 25]),.write,0,1⟩,⟨o0 (.store 2 (.x 6) (.t 26)),.write,1,2⟩])
 (q (D [⟨ot 27 (.loadn 2 (.x 6)),.read,0,1⟩,dF (oTX 28 0),dF (oG 29 2 2),dH (ot 30 (.loadn 2 (.t 29))),dF (oG 31 2 3),dH (ot 32 (.loadn 2 (.t 31))),⟨ot 33 (.call (.t 28) [.t 30,.t 32]),.write,0,1⟩,⟨o0 (.store 2 (.x 6) (.t 27)),.write,1,2⟩,⟨o0 (.store 2 (.x 7) (.t 33)),.write,2,3⟩])
 .ret)))),
 [.loadn 2 (.x 6),.loadn 2 (.x 7)],[],false,4⟩
def K185:SFunc:=⟨(q (R [ox 1 (.box (.x 0)),ox 2 (.alloc [pF,.lit []])])
 (q (q (R [oG 3 1 1,oL 4 3,ot 5 (.len (.t 4)),ox 6 (.bin .eql (.t 5) (i 0))])
 (k (.x 6) (q (R [ot 7 (.build [pF,.lit []] []),o0 (.store 2 (.x 2) (.t 7))])
 .ret) .skip))
 (q (D [⟨oG 8 0 1,.free,0,1⟩,⟨oL 9 8,.read,0,1⟩,⟨ot 10 (.un .not (.t 9)),.free,0,1⟩,dL (ot 11 (.slit [.v (I .u32 0)] 0 [])),dF (oG 12 1 1),dH (oL 13 12),⟨ot 14 (.append 4 1 (.t 11) (.t 13)),.write,0,1⟩,⟨ot 15 (.build [pF,.lit []] [(0,1,.t 10),(1,1,.t 14)]),.free,1,1⟩,⟨o0 (.store 2 (.x 2) (.t 15)),.write,1,2⟩])
 .ret))),
 [.loadn 2 (.x 2)],[],false,1⟩
def K186:SFunc:=⟨(q (R [ox 2 (.mov (C bF))])
 (q (q (R [ox 5 (.mov (.x 0)),ox 6 (.len (.x 5)),oXI 7 0])
 (bl 0 (lp (q (R [ox 8 (.bin .lss (.x 7) (.x 6))])
 (q (k (.x 8) .skip (ex 0))
 (q (bl 1 (q (R [ot 9 (.idx 4 (.x 5) (.x 7)),ot 10 (.loadn 4 (.t 9)),ox 4 (.alloc [pF,.lit [],pF,.lit []]),o0 (.store 4 (.x 4) (.t 10))])
 (q (R [ot 11 (.loadn 4 (.x 4)),oC 12 99 [.t 11],ox 13 (.un .not (.t 12))])
 (k (.x 13) (q (R [ox 2 (.mov (C bF))])
 .ret) .skip))))
 (R [oB 14 .add (.x 7) (i 1),oXT 7 14])))))))
 (q (R [ox 2 (.mov (C bT))])
 .ret))),
 [.mov (.x 2)],[],false,1⟩
def K188:SFunc:=⟨(q (R [oXI 4 0])
 (q (R [oTX 10 0,oC 11 45 [.t 10],ot 9 (.mov (.t 11)),ot 12 (.extract (.t 9) 0),ot 13 (.extract (.t 9) 1),oXT 5 12,oXT 6 13])
 (q (q (R [oTX 14 6,ox 15 (.bin .neq (.t 14) (i 0))])
 (k (.x 15) (q (R [oTX 16 6,oXT 4 16])
 .ret) .skip))
 (q (q (R [oTX 17 1,ot 18 (.len (.t 17)),oTX 19 5,ot 20 (.len (.t 19)),ox 21 (.bin .neq (.t 18) (.t 20))])
 (k (.x 21) (q (R [oXI 4 1])
 .ret) .skip))
 (q (q (R [ox 22 (.mov (.x 1)),ox 23 (.len (.x 22)),oXI 24 0])
 (bl 0 (lp (q (R [ox 25 (.bin .lss (.x 24) (.x 23))])
 (q (k (.x 25) .skip (ex 0))
 (q (bl 1 (q (R [ot 26 (.idx 4 (.x 22) (.x 24)),ot 27 (.loadn 4 (.t 26)),ox 8 (.alloc [pF,.lit [],pF,.lit []]),o0 (.store 4 (.x 8) (.t 27))])
 (q (R [ot 28 (.loadn 4 (.x 8)),oC 29 99 [.t 28],ox 30 (.un .not (.t 29))])
 (k (.x 30) (q (R [oXI 4 1])
 .ret) .skip))))
 (R [oB 31 .add (.x 24) (i 1),oXT 24 31])))))))
 (q (R [oXI 4 0])
 .ret)))))),
 [.mov (.x 4)],[],false,2⟩
def K189:SFunc:=⟨(q (R [ox 4 (.alloc [p0,p0,.lit []])])
 (q (q (R [oTX 15 0,oTX 16 1,oC 17 221 [.t 15,.t 16],ot 14 (.mov (.t 17)),ot 18 (.extract (.t 14) 0),ot 19 (.extract (.t 14) 1),ox 5 (.alloc [p0,p0,.lit []]),o0 (.store 3 (.x 5) (.t 18)),oXT 6 19])
 (q (R [ox 20 (.mov (.x 6))])
 (k (.x 20) (q (R [ot 21 (.loadn 3 (.x 5)),o0 (.store 3 (.x 4) (.t 21))])
 .ret) .skip)))
 (q (R [oXI 7 0])
 (q (q (R [oTX 22 1,ox 23 (.bin .gtr (.t 22) (i 0))])
 (k (.x 23) (R [oTX 24 0,ot 25 (.nilck (.t 24)),oF 26 7 25,oL 27 26,oTX 28 1,oB 29 .sub (.t 28) (i 1),ot 30 (.idx 1 (.t 27) (.t 29)),oL 31 30,oXT 7 31]) .skip))
 (q (D [dF (oTX 32 0),dF (oTX 33 0),dF (ot 34 (.nilck (.t 33))),dF (oF 35 2 34),dH (ot 36 (.loadn 4 (.t 35))),dF (oTX 37 7),dF (oTX 38 0),dF (ot 39 (.nilck (.t 38))),dF (oF 40 7 39),dH (oL 41 40),dF (oTX 42 1),dH (ot 43 (.idx 1 (.t 41) (.t 42))),dH (oL 44 43),⟨oC 45 157 [.t 32,.t 36,.t 37,.t 44],.write,0,1⟩])
 (q (q (R [oTX 46 0,ot 47 (.nilck (.t 46)),oF 48 0 47,oL 49 48,ot 50 (.nilck (.t 49)),oF 51 4 50,oL 52 51,ox 53 (.bin .neq (.t 52) (i 0))])
 (k (.x 53) (q (R [ot 54 (.build [p0,p0,.lit []] []),o0 (.store 3 (.x 4) (.t 54))])
 .ret) .skip))
 (q (R [oTX 55 0,ot 56 (.nilck (.t 55)),oF 57 2 56,oF 58 2 57,oL 59 58,oTX 60 1,ot 61 (.idx 1 (.t 59) (.t 60)),oL 62 61,oXT 8 62])
 (q (q (R [ox 63 (.mov (.x 8)),ox 64 (.len (.x 63)),oXI 65 0])
 (bl 0 (lp (q (R [ox 66 (.bin .lss (.x 65) (.x 64))])
 (q (k (.x 66) .skip (ex 0))
 (q (bl 1 (q (R [ot 67 (.idx 1 (.x 63) (.x 65)),oL 68 67,oXT 10 68])
 (q (R [oTX 69 0,ot 70 (.nilck (.t 69)),oF 71 6 70,oL 72 71,oTX 73 10,ot 74 (.idx 1 (.t 72) (.t 73)),oL 75 74,ox 76 (.isnil false (.t 75))])
 (k (.x 76) (q (R [oTX 77 1,ot 78 (.build [p0,p0,.lit []] [(0,1,(i 3)),(1,1,.t 77)]),o0 (.store 3 (.x 4) (.t 78))])
 .ret) .skip))))
 (R [oB 79 .add (.x 65) (i 1),oXT 65 79])))))))
 (q (q (R [oTX 80 0,oTX 81 8,oTX 82 8,ot 83 (.len (.t 82)),ot 84 (.maxmin false (.t 83) (i 4)),ot 85 (.slice 1 (.t 81) none (some (.t 84)) none),oC 86 158 [.t 80,.t 85],ox 87 (.un .not (.t 86))])
 (k (.x 87) (q (R [oTX 88 1,ot 89 (.build [p0,p0,.lit []] [(0,1,(i 2)),(1,1,.t 88)]),o0 (.store 3 (.x 4) (.t 89))])
 .ret) .skip))
 (q (R [ot 90 (.build [p0,p0,.lit []] [(0,1,(i 1))]),ox 11 (.alloc [p0,p0,.lit []]),o0 (.store 3 (.x 11) (.t 90))])
 (q (q (R [ox 91 (.mov (.x 8)),ox 92 (.len (.x 91)),oXI 93 0])
 (bl 2 (lp (q (R [ox 94 (.bin .lss (.x 93) (.x 92))])
 (q (k (.x 94) .skip (ex 2))
 (q (bl 3 (q (R [ot 95 (.idx 1 (.x 91) (.x 93)),oL 96 95,oXT 13 96])
 (D [⟨oG 97 2 11,.free,0,1⟩,⟨oL 98 97,.read,0,1⟩,dF (oTX 99 0),dF (ot 100 (.nilck (.t 99))),dF (oF 101 6 100),dH (oL 102 101),dF (oTX 103 13),dH (ot 104 (.idx 1 (.t 102) (.t 103))),dH (oL 105 104),⟨oC 106 190 [.t 105],.write,0,1⟩,⟨ot 107 (.slit [.sl []] 1 [(0,.t 106)]),.lone,1,1⟩,⟨ot 108 (.append 24 1 (.t 98) (.t 107)),.write,1,2⟩,⟨oG 109 2 11,.free,2,2⟩,⟨o0 (.store 1 (.t 109) (.t 108)),.write,2,3⟩])))
 (R [oB 110 .add (.x 93) (i 1),oXT 93 110])))))))
 (q (R [ot 111 (.loadn 3 (.x 11)),o0 (.store 3 (.x 4) (.t 111))])
 .ret)))))))))))),
 [.loadn 3 (.x 4)],[],false,2⟩
def K190:SFunc:=⟨(q (R [ox 2 (.mov (.c (.lit [])))])
 (q (R [oTX 5 0,ot 6 (.len (.t 5)),ot 7 (.mkslice 64 [.v (bF),.sl [],.v (bF),.sl []] (.t 6) (.t 6)),oXT 3 7])
 (q (q (R [oTX 8 0,ox 9 (.len (.t 8)),oXI 10 0])
 (bl 0 (lp (q (R [ox 11 (.bin .lss (.x 10) (.x 9))])
 (q (k (.x 11) .skip (ex 0))
 (q (bl 1 (q (R [oTX 12 10,oXT 4 12])
 (R [oTX 13 3,oTX 14 4,oTX 15 0,oTX 16 4,ot 17 (.idx 4 (.t 15) (.t 16)),ot 18 (.loadn 4 (.t 17)),oC 19 222 [.t 18],ot 20 (.idx 4 (.t 13) (.t 14)),o0 (.store 4 (.t 20) (.t 19))])))
 (R [oB 21 .add (.x 10) (i 1),oXT 10 21])))))))
 (q (R [oTX 22 3,oXT 2 22])
 .ret)))),
 [.mov (.x 2)],[],false,1⟩
def K191:SFunc:=⟨(q (R [ox 2 (.alloc [.p (.v (.nilFunc)),.p (.v (.nilFunc)),.p (.v (.nilFunc)),.p (.v (.nilFunc)),.p (.v (.nilFunc))])])
 (q (R [oTX 3 0,ot 4 (.mkfn (.func 223) [.t 3] []),oTX 5 0,ot 6 (.mkfn (.func 224) [.t 5] []),oTX 7 0,ot 8 (.mkfn (.func 225) [.t 7] []),oTX 9 0,ot 10 (.mkfn (.func 226) [.t 9] []),oTX 11 0,ot 12 (.mkfn (.func 227) [.t 11] []),ot 13 (.build [.p (.v (.nilFunc)),.p (.v (.nilFunc)),.p (.v (.nilFunc)),.p (.v (.nilFunc)),.p (.v (.nilFunc))] [(0,1,.t 4),(1,1,.t 6),(2,1,.t 8),(3,1,.t 10),(4,1,.t 12)]),o0 (.store 5 (.x 2) (.t 13))])
 .ret)),
 [.loadn 5 (.x 2)],[],false,1⟩
def K192:SFunc:=⟨(q (R [oXI 4 0])
 (q (q (R [oTX 7 0,ot 8 (.nilck (.t 7)),oF 9 4 8,oL 10 9,ox 11 (.bin .neq (.t 10) (i 0))])
 (k (.x 11) (q (R [oXI 4 0])
 .ret) .skip))
 (q (R [oTX 13 0,ot 14 (.nilck (.t 13)),oF 15 0 14,ot 16 (.loadn 1 (.t 15)),oTX 17 1,oC 18 228 [.t 16,.t 17],ot 12 (.mov (.t 18)),ot 19 (.extract (.t 12) 0),ot 20 (.extract (.t 12) 1),oXT 5 19,oXT 6 20])
 (q (R [oTX 21 0,oTX 22 6,ot 23 (.nilck (.t 21)),oF 24 4 23,o0 (.store 1 (.t 24) (.t 22))])
 (q (R [oTX 25 5,oXT 4 25])
 .ret))))),
 [.mov (.x 4)],[],false,2⟩
def K201:SFunc:=⟨(q (R [oXI 2 0])
 (q (q (R [oTX 3 0,ox 4 (.bin .geq (.t 3) (C (I .u64 4294967296)))])
 (k (.x 4) (q (R [oTX 5 0,ot 6 (.bin .shr (.t 5) (C (I .u64 32))),oXT 0 6])
 (R [oXI 2 32])) .skip))
 (q (q (R [oTX 7 0,ox 8 (.bin .geq (.t 7) (C (I .u64 65536)))])
 (k (.x 8) (q (R [oTX 9 0,ot 10 (.bin .shr (.t 9) (C (I .u64 16))),oXT 0 10])
 (R [oTX 11 2,oB 12 .add (.t 11) (i 16),oXT 2 12])) .skip))
 (q (q (R [oTX 13 0,ox 14 (.bin .geq (.t 13) (C (I .u64 256)))])
 (k (.x 14) (q (R [oTX 15 0,ot 16 (.bin .shr (.t 15) (C (I .u64 8))),oXT 0 16])
 (R [oTX 17 2,oB 18 .add (.t 17) (i 8),oXT 2 18])) .skip))
 (q (R [oTX 19 2,oTX 20 0,ot 21 (.conv .u8 (.t 20)),ot 22 (.idxS (C (.string lenTab)) (.t 21)),ot 23 (.conv .i64 (.t 22)),oB 24 .add (.t 19) (.t 23),oXT 2 24])
 .ret))))),
 [.mov (.x 2)],[],false,1⟩
def K202:SFunc:=⟨(q (R [oXI 4 0])
 (q (q (R [oTX 6 0,ox 7 (.len (.t 6)),oXI 8 0])
 (bl 0 (lp (q (R [ox 9 (.bin .lss (.x 8) (.x 7))])
 (q (k (.x 9) .skip (ex 0))
 (q (bl 1 (q (R [oTX 10 8,oXT 5 10])
 (q (R [oTX 11 1,oTX 12 0,oTX 13 5,ot 14 (.idx 12 (.t 12) (.t 13)),ot 15 (.loadn 12 (.t 14)),ox 16 (.call (.t 11) [.t 15])])
 (k (.x 16) (q (R [oTX 17 5,oXT 4 17])
 .ret) .skip))))
 (R [oB 18 .add (.x 8) (i 1),oXT 8 18])))))))
 (q (R [ox 4 (.mov (i (-1)))])
 .ret))),
 [.mov (.x 4)],[],false,2⟩
def K204:SFunc:=⟨(q (R [ox 4 (.mov (C (I .u64 0))),ox 5 (.mov (C (I .u64 0)))])
 (q (R [oTX 14 0,ot 15 (.bin .and (.t 14) (C (I .u64 4294967295))),oXT 6 15])
 (q (R [oTX 16 0,ot 17 (.bin .shr (.t 16) (C (I .u64 32))),oXT 7 17])
 (q (R [oTX 18 1,ot 19 (.bin .and (.t 18) (C (I .u64 4294967295))),oXT 8 19])
 (q (R [oTX 20 1,ot 21 (.bin .shr (.t 20) (C (I .u64 32))),oXT 9 21])
 (q (R [oTX 22 6,oTX 23 8,oB 24 .mul (.t 22) (.t 23),oXT 10 24])
 (q (R [oTX 25 7,oTX 26 8,oB 27 .mul (.t 25) (.t 26),oTX 28 10,ot 29 (.bin .shr (.t 28) (C (I .u64 32))),oB 30 .add (.t 27) (.t 29),oXT 11 30])
 (q (R [oTX 31 11,ot 32 (.bin .and (.t 31) (C (I .u64 4294967295))),oXT 12 32])
 (q (R [oTX 33 11,ot 34 (.bin .shr (.t 33) (C (I .u64 32))),oXT 13 34])
 (q (R [oTX 35 12,oTX 36 6,oTX 37 9,oB 38 .mul (.t 36) (.t 37),oB 39 .add (.t 35) (.t 38),oXT 12 39])
 (q (R [oTX 40 7,oTX 41 9,oB 42 .mul (.t 40) (.t 41),oTX 43 13,oB 44 .add (.t 42) (.t 43),oTX 45 12,ot 46 (.bin .shr (.t 45) (C (I .u64 32))),oB 47 .add (.t 44) (.t 46),oXT 4 47])
 (q (R [oTX 48 0,oTX 49 1,oB 50 .mul (.t 48) (.t 49),oXT 5 50])
 .ret)))))))))))),
 [.mov (.x 4),.mov (.x 5)],[],false,2⟩
def K206:SFunc:=⟨(q (R [ox 2 (.alloc [.lit [],.lit []])])
 (q (q (R [ox 3 (.mov (.x 0))])
 (bl 0 (q (R [oB 5 .eql (.x 3) (i 10),oXT 4 5])
 (k (.x 4) (q (R [ot 6 (.slit [.v (Y [])] 2 [(0,(C (Y [111]))),(1,(C (Y [48])))]),ot 7 (.slit [.v (Y [])] 3 [(0,(C (Y [121,32,111,32,45,32,122,32,98]))),(1,(C (Y [122,32,97,32,45,32,120,32,111]))),(2,(C (Y [120,32,98,32,45,32,121,32,97])))]),ot 8 (.build [.lit [],.lit []] [(0,1,.t 6),(1,1,.t 7)]),o0 (.store 2 (.x 2) (.t 8))])
 .ret) (q (R [oB 10 .eql (.x 3) (i 11),oXT 9 10])
 (k (.x 9) (q (R [ot 11 (.slit [.v (Y [])] 4 [(0,(C (Y [111]))),(1,(C (Y [48]))),(2,(C (Y [101]))),(3,(C (Y [111,32,45,32,98])))]),ot 12 (.slit [.v (Y [])] 3 [(0,(C (Y [121,32,111,32,45,32,122,32,97]))),(1,(C (Y [122,32,101,32,45,32,120,32,111]))),(2,(C (Y [120,32,97,32,45,32,121,32,101])))]),ot 13 (.build [.lit [],.lit []] [(0,1,.t 11),(1,1,.t 12)]),o0 (.store 2 (.x 2) (.t 13))])
 .ret) (q (R [oB 15 .eql (.x 3) (i 12),oXT 14 15])
 (k (.x 14) (q (R [ot 16 (.slit [.v (Y [])] 3 [(0,(C (Y [120,49,32,122,50,32,43,32,120,50,32,122,49]))),(1,(C (Y [121,49,32,122,50,32,43,32,121,50,32,122,49]))),(2,(C (Y [50,32,122,49,32,122,50])))]),ot 17 (.build [.lit [],.lit []] [(0,1,(.c (.lit []))),(1,1,.t 16)]),o0 (.store 2 (.x 2) (.t 17))])
 .ret) (q (R [oB 19 .eql (.x 3) (i 13),oXT 18 19])
 (k (.x 18) (q (R [ot 20 (.slit [.v (Y [])] 4 [(0,(C (Y [110]))),(1,(C (Y [97,94,50,32,43,32,98,94,50]))),(2,(C (Y [107]))),(3,(C (Y [97,32,120,32,43,32,98,32,121,32,43,32,99,32,122])))]),ot 21 (.slit [.v (Y [])] 3 [(0,(C (Y [110,32,120,32,45,32,50,32,97,32,107]))),(1,(C (Y [110,32,121,32,45,32,50,32,98,32,107]))),(2,(C (Y [110,32,122])))]),ot 22 (.build [.lit [],.lit []] [(0,1,.t 20),(1,1,.t 21)]),o0 (.store 2 (.x 2) (.t 22))])
 .ret) (q (R [oB 24 .eql (.x 3) (i 14),oXT 23 24])
 (k (.x 23) (q (R [ot 25 (.slit [.v (Y [])] 18 [(0,(C (Y [118,120]))),(1,(C (Y [120,49,32,122,50,32,45,32,120,50,32,122,49]))),(2,(C (Y [118,121]))),(3,(C (Y [121,49,32,122,50,32,45,32,121,50,32,122,49]))),(4,(C (Y [119,120]))),(5,(C (Y [120,51,32,122,50,32,45,32,120,50,32,122,51]))),(6,(C (Y [119,121]))),(7,(C (Y [121,51,32,122,50,32,45,32,121,50,32,122,51]))),(8,(C (Y [118]))),(9,(C (Y [118,120,94,50,32,43,32,118,121,94,50]))),(10,(C (Y [119]))),(11,(C (Y [119,120,94,50,32,43,32,119,121,94,50]))),(12,(C (Y [115]))),(13,(C (Y [33,118,32,119]))),(14,(C (Y [100,120]))),(15,(C (Y [119,32,118,120,32,43,32,115,32,119,120]))),(16,(C (Y [100,121]))),(17,(C (Y [119,32,118,121,32,43,32,115,32,119,121])))]),ot 26 (.slit [.v (Y [])] 3 [(0,(C (Y [45,122,50,32,100,121]))),(1,(C (Y [122,50,32,100,120]))),(2,(C (Y [120,50,32,100,121,32,45,32,121,50,32,100,120])))]),ot 27 (.build [.lit [],.lit []] [(0,1,.t 25),(1,1,.t 26)]),o0 (.store 2 (.x 2) (.t 27))])
 .ret) .skip))))))))))))
 (q (R [ot 28 (.slit [.v (Y [])] 3 [(0,(C (Y [45,112]))),(1,(C (Y [45,113]))),(2,(C (Y [50,32,117])))]),ot 29 (.build [.lit [],.lit []] [(0,1,(.c (.lit []))),(1,1,.t 28)]),o0 (.store 2 (.x 2) (.t 29))])
 .ret))),
 [.loadn 2 (.x 2)],[],false,1⟩
def K207:SFunc:=⟨(q (R [ox 2 (.mov (C (Y [])))])
 (q (R [oTX 3 0,oC 4 234 [.t 3,(i 10)],oXT 2 4])
 .ret)),
 [.mov (.x 2)],[],false,1⟩
def K208:SFunc:=⟨(q (R [oXI 3 0])
 (q (R [oXI 4 0])
 (q (q (R [ot 8 (.load1 (.x 0)),oC 9 209 [.t 8],ox 10 (.bin .eql (.t 9) (C (I .u8 40)))])
 (k (.x 10) (q (R [ot 11 (.load1 (.x 0)),ot 12 (.nilck (.t 11)),oF 13 1 12,oL 14 13,oB 15 .add (.t 14) (i 1),ot 16 (.nilck (.t 11)),oF 17 1 16,o0 (.store 1 (.t 17) (.t 15))])
 (q (R [ot 18 (.load1 (.x 1)),ot 19 (.call (.t 18) []),oXT 4 19])
 (q (R [ot 20 (.load1 (.x 0)),oC 21 209 [.t 20]])
 (R [ot 22 (.load1 (.x 0)),ot 23 (.nilck (.t 22)),oF 24 1 23,oL 25 24,oB 26 .add (.t 25) (i 1),ot 27 (.nilck (.t 22)),oF 28 1 27,o0 (.store 1 (.t 28) (.t 26))])))) (q (R [ot 29 (.load1 (.x 0)),oC 30 210 [.t 29],oXT 5 30])
 (q (R [oTX 31 5,ot 32 (.idxS (.t 31) (i 0)),ox 33 (.bin .leq (.t 32) (C (I .u8 57)))])
 (k (.x 33) (q (R [oTX 35 5,oC 36 211 [.t 35],ot 34 (.mov (.t 36)),ot 37 (.extract (.t 34) 0),ot 38 (.extract (.t 34) 1),oXT 6 37,ot 7 (.mov (.t 38))])
 (R [ot 39 (.load1 (.x 2)),oTX 40 6,oC 41 171 [.t 39,(i 2),.t 40,(i 0)],oXT 4 41])) (R [ot 42 (.load1 (.x 2)),ot 43 (.nilck (.t 42)),oF 44 4 43,oL 45 44,oTX 46 5,ot 47 (.mapget false [.str] (p0) false (.t 45) (.t 46)),oXT 4 47]))))))
 (q (q (D [dH (ot 48 (.load1 (.x 0))),dF (ot 49 (.nilck (.t 48))),dF (oF 50 1 49),dH (oL 51 50),dH (ot 52 (.load1 (.x 0))),dF (ot 53 (.nilck (.t 52))),dF (oF 54 0 53),dH (oL 55 54),dF (ot 56 (.lenS (.t 55))),dF (oB 57 .lss (.t 51) (.t 56)),dF (ot 58 (.mov (.t 57))),dH (og (.t 59) (.load1 (.x 0)) (.t 58) true),dF (og (.t 60) (.nilck (.t 59)) (.t 58) true),dF (og (.t 61) (.fadr 0 (.t 60)) (.t 58) true),dH (og (.t 62) (.load1 (.t 61)) (.t 58) true),dH (og (.t 63) (.load1 (.x 0)) (.t 58) true),dF (og (.t 64) (.nilck (.t 63)) (.t 58) true),dF (og (.t 65) (.fadr 1 (.t 64)) (.t 58) true),dH (og (.t 66) (.load1 (.t 65)) (.t 58) true),dF (og (.t 67) (.idxS (.t 62) (.t 66)) (.t 58) true),dF (og (.t 68) (.bin .eql (.t 67) (C (I .u8 94))) (.t 58) true),dF (ox 69 (.pick (.t 58) (.t 68) (C bF)))])
 (k (.x 69) (q (R [ot 70 (.load1 (.x 0)),ot 71 (.nilck (.t 70)),oF 72 1 71,oL 73 72,oB 74 .add (.t 73) (i 2),ot 75 (.nilck (.t 70)),oF 76 1 75,o0 (.store 1 (.t 76) (.t 74))])
 (R [ot 77 (.load1 (.x 2)),oTX 78 4,oTX 79 4,oC 80 171 [.t 77,(i 5),.t 78,.t 79],oXT 4 80])) .skip))
 (q (R [oTX 81 4,oXT 3 81])
 .ret))))),
 [.mov (.x 3)],[],false,3⟩
def K209:SFunc:=⟨(q (R [ox 2 (.mov (C (I .u8 0)))])
 (q (bl 0 (lp (q (q (D [dF (oTX 3 0),dF (ot 4 (.nilck (.t 3))),dF (oF 5 1 4),dH (oL 6 5),dF (oTX 7 0),dF (ot 8 (.nilck (.t 7))),dF (oF 9 0 8),dH (oL 10 9),dF (ot 11 (.lenS (.t 10))),dF (oB 12 .lss (.t 6) (.t 11)),dF (ot 13 (.mov (.t 12))),dF (og (.t 14) (.mov (.x 0)) (.t 13) true),dF (og (.t 15) (.nilck (.t 14)) (.t 13) true),dF (og (.t 16) (.fadr 0 (.t 15)) (.t 13) true),dH (og (.t 17) (.load1 (.t 16)) (.t 13) true),dF (og (.t 18) (.mov (.x 0)) (.t 13) true),dF (og (.t 19) (.nilck (.t 18)) (.t 13) true),dF (og (.t 20) (.fadr 1 (.t 19)) (.t 13) true),dH (og (.t 21) (.load1 (.t 20)) (.t 13) true),dF (og (.t 22) (.idxS (.t 17) (.t 21)) (.t 13) true),dF (og (.t 23) (.bin .eql (.t 22) (C (I .u8 32))) (.t 13) true),dF (ox 24 (.pick (.t 13) (.t 23) (C bF)))])
 (k (.x 24) .skip (ex 0)))
 (bl 1 (R [oTX 25 0,ot 26 (.nilck (.t 25)),oF 27 1 26,oL 28 27,oB 29 .add (.t 28) (i 1),ot 30 (.nilck (.t 25)),oF 31 1 30,o0 (.store 1 (.t 31) (.t 29))])))))
 (q (q (D [dF (oTX 32 0),dF (ot 33 (.nilck (.t 32))),dF (oF 34 1 33),dH (oL 35 34),dF (oTX 36 0),dF (ot 37 (.nilck (.t 36))),dF (oF 38 0 37),dH (oL 39 38),dF (ot 40 (.lenS (.t 39))),dF (ox 41 (.bin .eql (.t 35) (.t 40)))])
 (k (.x 41) (q (R [ox 2 (.mov (C (I .u8 0)))])
 .ret) .skip))
 (q (D [dF (oTX 42 0),dF (ot 43 (.nilck (.t 42))),dF (oF 44 0 43),dH (oL 45 44),dF (oTX 46 0),dF (ot 47 (.nilck (.t 46))),dF (oF 48 1 47),dH (oL 49 48),dF (ot 50 (.idxS (.t 45) (.t 49))),dF (oXT 2 50)])
 .ret)))),
 [.mov (.x 2)],[],false,1⟩
def K210:SFunc:=⟨(q (R [ox 2 (.mov (C (Y [])))])
 (q (R [oTX 5 0,oC 6 209 [.t 5]])
 (q (R [oTX 7 0,ot 8 (.nilck (.t 7)),oF 9 1 8,oL 10 9,oXT 3 10])
 (q (bl 0 (lp (q (q (D [dF (oTX 11 0),dF (ot 12 (.nilck (.t 11))),dF (oF 13 1 12),dH (oL 14 13),dF (oTX 15 0),dF (ot 16 (.nilck (.t 15))),dF (oF 17 0 16),dH (oL 18 17),dF (ot 19 (.lenS (.t 18))),dF (ox 20 (.bin .lss (.t 14) (.t 19)))])
 (k (.x 20) .skip (ex 0)))
 (bl 1 (q (D [dF (oTX 21 0),dF (ot 22 (.nilck (.t 21))),dF (oF 23 0 22),dH (oL 24 23),dF (oTX 25 0),dF (ot 26 (.nilck (.t 25))),dF (oF 27 1 26),dH (oL 28 27),dF (ot 29 (.idxS (.t 24) (.t 28))),dF (oXT 4 29)])
 (q (q (R [oTX 30 4,ot 31 (.bin .lss (.t 30) (C (I .u8 97))),ot 32 (.mov (.t 31)),og (.t 33) (.mov (.x 4)) (.t 32) false,og (.t 34) (.bin .gtr (.t 33) (C (I .u8 122))) (.t 32) false,ot 35 (.pick (.t 32) (C bT) (.t 34)),ot 36 (.mov (.t 35)),og (.t 37) (.mov (.x 4)) (.t 36) true,og (.t 38) (.bin .lss (.t 37) (C (I .u8 48))) (.t 36) true,og (.t 39) (.mov (.t 38)) (.t 36) true,og (.t 40) (.mov (.x 4)) (.t 39) false,og (.t 41) (.bin .gtr (.t 40) (C (I .u8 57))) (.t 39) false,og (.t 42) (.pick (.t 39) (C bT) (.t 41)) (.t 36) true,ox 43 (.pick (.t 36) (.t 42) (C bF))])
 (k (.x 43) (ex 0) .skip))
 (R [oTX 44 0,ot 45 (.nilck (.t 44)),oF 46 1 45,oL 47 46,oB 48 .add (.t 47) (i 1),ot 49 (.nilck (.t 44)),oF 50 1 49,o0 (.store 1 (.t 50) (.t 48))])))))))
 (q (D [dF (oTX 51 0),dF (ot 52 (.nilck (.t 51))),dF (oF 53 0 52),dH (oL 54 53),dF (oTX 55 3),dF (oTX 56 0),dF (ot 57 (.nilck (.t 56))),dF (oF 58 1 57),dH (oL 59 58),dF (ot 60 (.sliceS (.t 54) (some (.t 55)) (some (.t 59)))),dF (oXT 2 60)])
 .ret))))),
 [.mov (.x 2)],[],false,1⟩
def K211:SFunc:=⟨(q (R [oXI 2 0,ox 3 (.mov (C (.nilIface)))])
 (q (R [oTX 7 0,oC 8 235 [.t 7],ot 6 (.mov (.t 8)),ot 9 (.extract (.t 6) 0),ot 10 (.extract (.t 6) 1),oXT 4 9,oXT 5 10])
 (q (q (R [oTX 11 5,ox 12 (.isnilI true (.t 11))])
 (k (.x 12) (q (R [oTX 13 4,oTX 14 0,oTX 15 5,ot 16 (.call (.f 236) [(C (Y [65,116,111,105])),.t 14,(i 0),(i 0),.t 15]),oXT 2 13,oXT 3 16])
 .ret) .skip))
 (q (R [oTX 17 4,oXT 2 17,ox 3 (.mov (C (.nilIface)))])
 .ret)))),
 [.mov (.x 2),.mov (.x 3)],[],false,1⟩
def K212:SFunc:=⟨(q (R [oXI 3 0])
 (q (R [ot 7 (.load1 (.x 0)),ot 8 (.call (.t 7) []),oXT 4 8])
 (q (q (R [ot 9 (.load1 (.x 1)),oC 10 209 [.t 9],oXT 5 10])
 (bl 0 (lp (q (q (R [oTX 11 5,ot 12 (.bin .neq (.t 11) (C (I .u8 0))),ot 13 (.mov (.t 12)),og (.t 14) (.mov (.x 5)) (.t 13) true,og (.t 15) (.bin .neq (.t 14) (C (I .u8 43))) (.t 13) true,ot 16 (.pick (.t 13) (.t 15) (C bF)),ot 17 (.mov (.t 16)),og (.t 18) (.mov (.x 5)) (.t 17) true,og (.t 19) (.bin .neq (.t 18) (C (I .u8 45))) (.t 17) true,ot 20 (.pick (.t 17) (.t 19) (C bF)),ot 21 (.mov (.t 20)),og (.t 22) (.mov (.x 5)) (.t 21) true,og (.t 23) (.bin .neq (.t 22) (C (I .u8 41))) (.t 21) true,ox 24 (.pick (.t 21) (.t 23) (C bF))])
 (k (.x 24) .skip (ex 0)))
 (q (bl 1 (q (R [ot 27 (.load1 (.x 0)),ot 28 (.call (.t 27) []),oXT 6 28])
 (R [ot 29 (.load1 (.x 2)),oTX 30 4,oTX 31 6,oC 32 171 [.t 29,(i 5),.t 30,.t 31],oXT 4 32])))
 (R [ot 25 (.load1 (.x 1)),oC 26 209 [.t 25],oXT 5 26]))))))
 (q (R [oTX 33 4,oXT 3 33])
 .ret)))),
 [.mov (.x 3)],[],false,3⟩
def K213:SFunc:=⟨(q (R [oXI 3 0])
 (q (R [oXI 4 0])
 (q (q (R [ot 9 (.load1 (.x 0)),oC 10 209 [.t 9],ox 11 (.bin .eql (.t 10) (C (I .u8 45)))])
 (k (.x 11) (q (R [ot 12 (.load1 (.x 0)),ot 13 (.nilck (.t 12)),oF 14 1 13,oL 15 14,oB 16 .add (.t 15) (i 1),ot 17 (.nilck (.t 12)),oF 18 1 17,o0 (.store 1 (.t 18) (.t 16))])
 (q (R [ot 19 (.load1 (.x 1)),oC 20 171 [.t 19,(i 2),(i 0),(i 0)],oXT 5 20])
 (D [⟨ot 21 (.load1 (.x 1)),.read,0,1⟩,⟨oTX 22 5,.free,0,1⟩,dH (ot 23 (.load1 (.x 2))),⟨ot 24 (.call (.t 23) []),.write,0,1⟩,⟨oC 25 171 [.t 21,(i 4),.t 22,.t 24],.write,1,2⟩,⟨oXT 4 25,.free,2,2⟩]))) (R [ot 26 (.load1 (.x 2)),ot 27 (.call (.t 26) []),oXT 4 27])))
 (q (q (R [ot 28 (.load1 (.x 0)),oC 29 209 [.t 28],oXT 6 29])
 (bl 0 (lp (q (q (R [oTX 30 6,ot 31 (.bin .eql (.t 30) (C (I .u8 43))),ot 32 (.mov (.t 31)),og (.t 33) (.mov (.x 6)) (.t 32) false,og (.t 34) (.bin .eql (.t 33) (C (I .u8 45))) (.t 32) false,ox 35 (.pick (.t 32) (C bT) (.t 34))])
 (k (.x 35) .skip (ex 0)))
 (q (bl 1 (q (R [ot 38 (.load1 (.x 0)),ot 39 (.nilck (.t 38)),oF 40 1 39,oL 41 40,oB 42 .add (.t 41) (i 1),ot 43 (.nilck (.t 38)),oF 44 1 43,o0 (.store 1 (.t 44) (.t 42))])
 (q (R [ot 45 (.load1 (.x 2)),ot 46 (.call (.t 45) []),oXT 7 46])
 (q (R [oXI 8 3])
 (q (q (R [oTX 47 6,ox 48 (.bin .eql (.t 47) (C (I .u8 45)))])
 (k (.x 48) (R [oXI 8 4]) .skip))
 (R [ot 49 (.load1 (.x 1)),oTX 50 8,oTX 51 4,oTX 52 7,oC 53 171 [.t 49,.t 50,.t 51,.t 52],oXT 4 53]))))))
 (R [ot 36 (.load1 (.x 0)),oC 37 209 [.t 36],oXT 6 37]))))))
 (q (R [oTX 54 4,oXT 3 54])
 .ret))))),
 [.mov (.x 3)],[],false,3⟩
def K214:SFunc:=⟨(q (R [ox 3 (.box (.x 0)),ox 4 (.box (.x 1)),ox 6 (.mov (C bF))])
 (q (R [ot 8 (.mkfn (.func 237) [] [.x 4]),oXT 7 8])
 (q (q (R [oG 9 0 3,ox 10 (.load1 (.t 9))])
 (bl 0 (q (R [oB 12 .eql (.x 10) (i 1),oXT 11 12])
 (k (.x 11) (q (R [oG 13 1 3,oL 14 13,oB 15 .geq (.t 14) (i 0),ot 16 (.mov (.t 15)),og (.t 17) (.fadr 1 (.x 3)) (.t 16) true,og (.t 18) (.load1 (.t 17)) (.t 16) true,og (.t 19) (.mov (.x 2)) (.t 16) true,og (.t 20) (.bin .lss (.t 18) (.t 19)) (.t 16) true,ot 21 (.pick (.t 16) (.t 20) (C bF)),ot 22 (.mov (.t 21)),og (.t 23) (.fadr 2 (.x 3)) (.t 22) true,og (.t 24) (.load1 (.t 23)) (.t 22) true,og (.t 25) (.bin .eql (.t 24) (i 0)) (.t 22) true,ot 26 (.pick (.t 22) (.t 25) (C bF)),oXT 6 26])
 .ret) (q (R [oB 28 .eql (.x 10) (i 2),oXT 27 28])
 (k (.x 27) (q (R [oG 29 1 3,oL 30 29,ot 31 (.bin .geq (.t 30) (i (-1000))),ot 32 (.mov (.t 31)),og (.t 33) (.fadr 1 (.x 3)) (.t 32) true,og (.t 34) (.load1 (.t 33)) (.t 32) true,og (.t 35) (.bin .leq (.t 34) (i 1000)) (.t 32) true,ot 36 (.pick (.t 32) (.t 35) (C bF)),ot 37 (.mov (.t 36)),og (.t 38) (.fadr 2 (.x 3)) (.t 37) true,og (.t 39) (.load1 (.t 38)) (.t 37) true,og (.t 40) (.bin .eql (.t 39) (i 0)) (.t 37) true,ot 41 (.pick (.t 37) (.t 40) (C bF)),oXT 6 41])
 .ret) (q (q (R [oB 43 .eql (.x 10) (i 3),oXT 42 43])
 (k (.x 42) .skip (q (R [oB 44 .eql (.x 10) (i 4),oXT 42 44])
 (k (.x 42) .skip (R [oB 45 .eql (.x 10) (i 5),oXT 42 45])))))
 (k (.x 42) (q (R [oTX 46 7,oG 47 1 3,oL 48 47,ot 49 (.call (.t 46) [.t 48]),ot 50 (.mov (.t 49)),og (.t 51) (.mov (.x 7)) (.t 50) true,og (.t 52) (.fadr 2 (.x 3)) (.t 50) true,og (.t 53) (.load1 (.t 52)) (.t 50) true,og (.t 54) (.call (.t 51) [.t 53]) (.t 50) true,ot 55 (.pick (.t 50) (.t 54) (C bF)),oXT 6 55])
 .ret) (q (R [oB 57 .eql (.x 10) (i 6),oXT 56 57])
 (k (.x 56) (q (R [oTX 58 7,oG 59 1 3,oL 60 59,ot 61 (.call (.t 58) [.t 60]),ot 62 (.mov (.t 61)),og (.t 63) (.fadr 2 (.x 3)) (.t 62) true,og (.t 64) (.load1 (.t 63)) (.t 62) true,og (.t 65) (.bin .eql (.t 64) (i 0)) (.t 62) true,ot 66 (.pick (.t 62) (.t 65) (C bF)),oXT 6 66])
 .ret) .skip))))))))))
 (q (R [ox 6 (.mov (C bF))])
 .ret)))),
 [.mov (.x 6)],[],false,3⟩
def K215:SFunc:=⟨(q (R [ox 2 (.box (.x 0)),ox 3 (.box (.x 1)),ox 4 (.alloc [pF,.lit [],pF,.lit []])])
 (q (q (R [oG 7 0 3,ox 8 (.load1 (.t 7))])
 (k (.x 8) (D [dH (ot 9 (.loadn 2 (.x 2))),dL (oC 10 185 [.t 9]),dH (ot 11 (.loadn 2 (.x 3))),⟨oC 12 185 [.t 11],.write,0,1⟩,⟨o0 (.store 2 (.x 2) (.t 10)),.write,1,2⟩,⟨o0 (.store 2 (.x 3) (.t 12)),.write,2,3⟩]) .skip))
 (q (R [ot 14 (.loadn 2 (.x 2)),ot 15 (.loadn 2 (.x 3)),oC 16 30 [.t 14,.t 15],ot 13 (.mov (.t 16)),ot 17 (.extract (.t 13) 0),ot 18 (.extract (.t 13) 1),ox 5 (.alloc [pF,.lit []]),o0 (.store 2 (.x 5) (.t 17)),ot 6 (.mov (.t 18))])
 (q (q (R [ot 19 (.loadn 2 (.x 5)),oC 20 159 [.t 19],ox 21 (.un .not (.t 20))])
 (k (.x 21) (q (R [ot 23 (.loadn 2 (.x 2)),ot 24 (.loadn 2 (.x 5)),oC 25 64 [.t 23,.t 24],ot 22 (.mov (.t 25)),ot 26 (.extract (.t 22) 0),ot 27 (.extract (.t 22) 1),ot 28 (.extract (.t 22) 2),o0 (.store 2 (.x 2) (.t 26))])
 (R [ot 30 (.loadn 2 (.x 3)),ot 31 (.loadn 2 (.x 5)),oC 32 64 [.t 30,.t 31],ot 29 (.mov (.t 32)),ot 33 (.extract (.t 29) 0),ot 34 (.extract (.t 29) 1),ot 35 (.extract (.t 29) 2),o0 (.store 2 (.x 3) (.t 33))])) .skip))
 (q (R [ot 36 (.loadn 2 (.x 2)),ot 37 (.loadn 2 (.x 3)),ot 38 (.build [pF,.lit [],pF,.lit []] [(0,2,.t 36),(2,2,.t 37)]),o0 (.store 4 (.x 4) (.t 38))])
 .ret))))),
 [.loadn 4 (.x 4)],[],false,2⟩
def K216:SFunc:=⟨(q (R [ox 1 (.box (.x 0)),ox 2 (.alloc [pF,.lit []])])
 (q (D [⟨oG 3 0 1,.free,0,1⟩,⟨oL 4 3,.read,0,1⟩,dF (oG 5 1 1),dH (oL 6 5),⟨ot 7 (.append 4 1 (.c (.lit [])) (.t 6)),.write,0,1⟩,⟨ot 8 (.build [pF,.lit []] [(0,1,.t 4),(1,1,.t 7)]),.free,1,1⟩,⟨o0 (.store 2 (.x 2) (.t 8)),.write,1,2⟩])
 .ret)),
 [.loadn 2 (.x 2)],[],false,1⟩
def K217:SFunc:=⟨(q (R [ox 6 (.alloc [pF,.lit []]),ox 7 (.alloc [pF,.lit []])])
 (q (R [oTX 8 0,oG 9 0 2,ot 10 (.loadn 2 (.t 9)),oG 11 0 3,ot 12 (.loadn 2 (.t 11)),ot 13 (.call (.t 8) [.t 10,.t 12]),o0 (.store 2 (.x 6) (.t 13))])
 (q (D [⟨ot 14 (.loadn 2 (.x 6)),.read,0,1⟩,dF (oTX 15 0),dF (oG 16 2 2),dH (ot 17 (.loadn 2 (.t 16))),dF (oG 18 2 3),dH (ot 19 (.loadn 2 (.t 18))),⟨ot 20 (.call (.t 15) [.t 17,.t 19]),.write,0,1⟩,⟨o0 (.store 2 (.x 6) (.t 14)),.write,1,2⟩,⟨o0 (.store 2 (.x 7) (.t 20)),.write,2,3⟩])
 .ret))),
 [.loadn 2 (.x 6),.loadn 2 (.x 7)],[],false,4⟩
def K218:SFunc:=⟨(q (R [ox 6 (.alloc [pF,.lit []]),ox 7 (.alloc [pF,.lit []])])
 (q (D [⟨oTX 10 0,.free,0,2⟩,⟨oG 11 0 2,.free,0,2⟩,⟨ot 12 (.loadn 2 (.t 11)),.read,0,2⟩,⟨oG 13 2 3,.free,0,2⟩,⟨ot 14 (.loadn 2 (.t 13)),.read,0,2⟩,⟨ot 15 (.call (.t 10) [.t 12,.t 14]),.write,0,3⟩,⟨oTX 16 0,.free,0,3⟩,⟨oG 17 0 3,.free,0,3⟩,⟨ot 18 (.loadn 2 (.t 17)),.read,0,3⟩,⟨oG 19 2 2,.free,0,3⟩,⟨ot 20 (.loadn 2 (.t 19)),.read,0,3⟩,⟨ot 21 (.call (.t 16) [.t 18,.t 20]),.write,1,4⟩,⟨ox 8 (.alloc [pF,.lit []]),.fresh,0,4⟩,⟨ox 9 (.alloc [pF,.lit []]),.fresh,0,4⟩,⟨o0 (.store 2 (.x 8) (.t 15)),.write,4,5⟩,⟨o0 (.store 2 (.x 9) (.t 21)),.write,5,6⟩])
 (q (R [oTX 22 1,ot 23 (.loadn 2 (.x 8)),ot 24 (.loadn 2 (.x 9)),ot 25 (.call (.t 22) [.t 23,.t 24]),o0 (.store 2 (.x 6) (.t 25))])
 (q (D [⟨ot 26 (.loadn 2 (.x 6)),.read,0,1⟩,dF (oTX 27 0),dF (oG 28 2 2),dH (ot 29 (.loadn 2 (.t 28))),dF (oG 30 2 3),dH (ot 31 (.loadn 2 (.t 30))),⟨ot 32 (.call (.t 27) [.t 29,.t 31]),.write,0,1⟩,⟨o0 (.store 2 (.x 6) (.t 26)),.write,1,2⟩,⟨o0 (.store 2 (.x 7) (.t 32)),.write,2,3⟩])
 .ret)))),
 [.loadn 2 (.x 6),.loadn 2 (.x 7)],[],false,4⟩
def K219:SFunc:=⟨(q (R [ox 2 (.box (.x 0)),ox 3 (.mov (C (.nilFunc)))])
 (q (R [ot 4 (.mkfn (.func 220) [] [.x 1,.x 2]),oXT 3 4])
 .ret)),
 [.mov (.x 3)],[],false,2⟩
def K220:SFunc:=⟨(q (R [ox 4 (.box (.x 0)),ox 5 (.box (.x 1)),ox 6 (.alloc [pF,.lit []])])
 (q (q (R [ot 9 (.load1 (.x 2)),ox 10 (.bin .neq (.t 9) (i 0))])
 (k (.x 10) (q (R [ot 11 (.build [pF,.lit []] []),o0 (.store 2 (.x 6) (.t 11))])
 .ret) .skip))
 (q (R [ot 13 (.load1 (.x 3)),ot 14 (.loadn 2 (.x 4)),ot 15 (.loadn 2 (.x 5)),ot 16 (.call (.t 13) [.t 14,.t 15]),ot 12 (.mov (.t 16)),ot 17 (.extract (.t 12) 0),ot 18 (.extract (.t 12) 1),ox 7 (.alloc [pF,.lit []]),o0 (.store 2 (.x 7) (.t 17)),oXT 8 18])
 (q (R [oTX 19 8,o0 (.store 1 (.x 2) (.t 19))])
 (q (R [ot 20 (.loadn 2 (.x 7)),o0 (.store 2 (.x 6) (.t 20))])
 .ret))))),
 [.loadn 2 (.x 6)],[],false,4⟩
def K221:SFunc:=⟨(q (R [ox 4 (.alloc [p0,p0,.lit []]),ox 5 (.mov (C bF))])
 (q (R [ot 11 (.build [p0,p0,.lit []] []),ox 6 (.alloc [p0,p0,.lit []]),o0 (.store 3 (.x 6) (.t 11)),ox 7 (.mov (C bF))])
 (q (q (R [oTX 12 0,ot 13 (.nilck (.t 12)),oF 14 1 13,oL 15 14,oTX 16 1,ot 17 (.idx 12 (.t 15) (.t 16)),oF 18 2 17,ox 19 (.load1 (.t 18)),ox 20 (.len (.x 19)),oXI 21 0])
 (bl 0 (lp (q (R [ox 22 (.bin .lss (.x 21) (.x 20))])
 (q (k (.x 22) .skip (ex 0))
 (q (bl 1 (q (R [ot 23 (.idx 1 (.x 19) (.x 21)),oL 24 23,oXT 9 24])
 (q (R [oTX 25 0,ot 26 (.nilck (.t 25)),oF 27 8 26,oF 28 2 27,oL 29 28,oTX 30 9,ot 31 (.idx 3 (.t 29) (.t 30)),ot 32 (.loadn 3 (.t 31)),ox 10 (.alloc [p0,p0,.lit []]),o0 (.store 3 (.x 10) (.t 32))])
 (q (R [oG 33 0 10,oL 34 33,oB 35 .neq (.t 34) (i 1),ot 36 (.mov (.t 35)),og (.t 37) (.mov (.x 7)) (.t 36) true,og (.t 38) (.un .not (.t 37)) (.t 36) true,og (.t 39) (.mov (.t 38)) (.t 36) true,og (.t 40) (.fadr 1 (.x 10)) (.t 39) false,og (.t 41) (.load1 (.t 40)) (.t 39) false,og (.t 42) (.fadr 1 (.x 6)) (.t 39) false,og (.t 43) (.load1 (.t 42)) (.t 39) false,og (.t 44) (.bin .lss (.t 41) (.t 43)) (.t 39) false,og (.t 45) (.pick (.t 39) (C bT) (.t 44)) (.t 36) true,ox 46 (.pick (.t 36) (.t 45) (C bF))])
 (k (.x 46) (R [oG 47 0 10,oL 48 47,oG 49 1 10,oL 50 49,ot 51 (.build [p0,p0,.lit []] [(0,1,.t 48),(1,1,.t 50)]),o0 (.store 3 (.x 6) (.t 51)),ox 7 (.mov (C bT))]) .skip)))))
 (R [oB 52 .add (.x 21) (i 1),oXT 21 52])))))))
 (q (R [ot 53 (.loadn 3 (.x 6)),oTX 54 7,o0 (.store 3 (.x 4) (.t 53)),oXT 5 54])
 .ret)))),
 [.loadn 3 (.x 4),.mov (.x 5)],[],false,2⟩
def K222:SFunc:=⟨(q (R [ox 1 (.box (.x 0)),ox 2 (.alloc [pF,.lit [],pF,.lit []])])
 (q (D [dF (oG 3 0 1),dH (ot 4 (.loadn 2 (.t 3))),⟨oC 5 238 [.t 4],.write,0,1⟩,⟨oG 6 2 1,.free,0,1⟩,⟨ot 7 (.loadn 2 (.t 6)),.read,0,1⟩,⟨oC 8 238 [.t 7],.write,1,2⟩,⟨ot 9 (.build [pF,.lit [],pF,.lit []] [(0,2,.t 5),(2,2,.t 8)]),.free,2,2⟩,⟨o0 (.store 4 (.x 2) (.t 9)),.write,2,3⟩])
 .ret)),
 [.loadn 4 (.x 2)],[],false,1⟩
def K223:SFunc:=⟨(q (R [ox 4 (.mov (.c (.p (.nsl))))])
 (q (R [oTX 8 1,oC 9 151 [.t 8,(i 1)],ot 7 (.mov (.t 9)),ot 10 (.extract (.t 7) 0),ot 11 (.extract (.t 7) 1),ox 5 (.alloc [pF,.lit [],pF,.lit []]),o0 (.store 4 (.x 5) (.t 10)),ot 6 (.mov (.t 11))])
 (q (R [ot 12 (.loadn 4 (.x 5)),ot 13 (.slit [.v (bF),.sl [],.v (bF),.sl []] 1 [(0,.t 12)]),oXT 4 13])
 .ret))),
 [.mov (.x 4)],[],false,2⟩
def K224:SFunc:=⟨(q (R [ox 6 (.mov (.c (.p (.nsl))))])
 (q (q (R [oTX 7 0,oTX 8 1,oTX 9 2,ox 10 (.call (.f 239) [.t 7,.t 8,.t 9])])
 (k (.x 10) (q (R [ox 6 (.mov (.c (.p (.nsl))))])
 .ret) .skip))
 (q (R [oTX 11 0,oTX 12 0,ot 13 (.nilck (.t 12)),oF 14 0 13,ot 15 (.loadn 1 (.t 14)),oTX 16 1,oTX 17 2,oC 18 241 [.t 15,.t 16,.t 17],ot 19 (.extract (.t 18) 0),ot 20 (.extract (.t 18) 1),oC 21 240 [.t 11,.t 19,.t 20],oXT 6 21])
 .ret))),
 [.mov (.x 6)],[],false,3⟩
def K225:SFunc:=⟨(q (R [ox 6 (.mov (.c (.p (.nsl))))])
 (q (q (R [oTX 7 0,oTX 8 1,oTX 9 2,ox 10 (.call (.f 239) [.t 7,.t 8,.t 9])])
 (k (.x 10) (q (R [ox 6 (.mov (.c (.p (.nsl))))])
 .ret) .skip))
 (q (R [oTX 11 0,oTX 12 0,ot 13 (.nilck (.t 12)),oF 14 0 13,ot 15 (.loadn 1 (.t 14)),oTX 16 1,oTX 17 2,oC 18 242 [.t 15,.t 16,.t 17],ot 19 (.extract (.t 18) 0),ot 20 (.extract (.t 18) 1),oC 21 240 [.t 11,.t 19,.t 20],oXT 6 21])
 .ret))),
 [.mov (.x 6)],[],false,3⟩
def K226:SFunc:=⟨(q (R [ox 6 (.mov (.c (.p (.nsl))))])
 (q (q (R [oTX 7 0,oTX 8 1,oTX 9 2,ox 10 (.call (.f 239) [.t 7,.t 8,.t 9])])
 (k (.x 10) (q (R [ox 6 (.mov (.c (.p (.nsl))))])
 .ret) .skip))
 (q (R [oTX 11 0,oTX 12 0,ot 13 (.nilck (.t 12)),oF 14 0 13,ot 15 (.loadn 1 (.t 14)),oTX 16 1,oTX 17 2,oC 18 243 [.t 15,.t 16,.t 17],ot 19 (.extract (.t 18) 0),ot 20 (.extract (.t 18) 1),oC 21 240 [.t 11,.t 19,.t 20],oXT 6 21])
 .ret))),
 [.mov (.x 6)],[],false,3⟩
def K228:SFunc:=⟨(q (R [ox 2 (.box (.x 0)),oXI 4 0,oXI 5 0])
 (q (q (R [ot 8 (.loadn 1 (.x 2)),oTX 9 1,oC 10 245 [.t 8,.t 9],ox 11 (.un .not (.t 10))])
 (k (.x 11) (q (R [oXI 4 0,oXI 5 1])
 .ret) .skip))
 (q (R [ot 12 (.loadn 1 (.x 2)),oC 13 246 [.t 12],oXT 6 13])
 (q (R [oTX 14 6,oTX 15 1,oC 16 247 [.t 14,.t 15],oXT 7 16])
 (q (q (R [oTX 17 6,ot 18 (.nilck (.t 17)),oF 19 1 18,oL 20 19,ox 21 (.bin .neq (.t 20) (i 0))])
 (k (.x 21) (q (D [dF (oTX 22 6),dF (ot 23 (.nilck (.t 22))),dF (oF 24 1 23),dH (oL 25 24),dF (oXI 4 0),dF (oXT 5 25)])
 .ret) .skip))
 (q (R [oTX 26 7,oXT 4 26,oXI 5 0])
 .ret)))))),
 [.mov (.x 4),.mov (.x 5)],[],false,2⟩
def K234:SFunc:=⟨(q (R [ox 4 (.mov (C (Y [])))])
 (q (q (R [oTX 10 1,ox 11 (.bin .eql (.t 10) (i 10))])
 (k (.x 11) (q (q (R [oTX 12 0,oB 13 .leq (i 0) (.t 12),ot 14 (.mov (.t 13)),og (.t 15) (.mov (.x 0)) (.t 14) true,og (.t 16) (.bin .lss (.t 15) (i 100)) (.t 14) true,ox 17 (.pick (.t 14) (.t 16) (C bF))])
 (k (.x 17) (q (R [oTX 18 0,oC 19 249 [.t 18],oXT 4 19])
 .ret) .skip))
 (q (R [ox 5 (.alloc [.p (.v (I .u8 0)),.p (.v (I .u8 0)),.p (.v (I .u8 0)),.p (.v (I .u8 0)),.p (.v (I .u8 0)),.p (.v (I .u8 0)),.p (.v (I .u8 0)),.p (.v (I .u8 0)),.p (.v (I .u8 0)),.p (.v (I .u8 0)),.p (.v (I .u8 0)),.p (.v (I .u8 0)),.p (.v (I .u8 0)),.p (.v (I .u8 0)),.p (.v (I .u8 0)),.p (.v (I .u8 0)),.p (.v (I .u8 0)),.p (.v (I .u8 0)),.p (.v (I .u8 0)),.p (.v (I .u8 0)),.p (.v (I .u8 0)),.p (.v (I .u8 0)),.p (.v (I .u8 0)),.p (.v (I .u8 0))])])
 (q (R [oTX 20 0,ot 21 (.conv .u64 (.t 20)),oXT 6 21])
 (q (q (R [oTX 22 0,ox 23 (.bin .lss (.t 22) (i 0))])
 (k (.x 23) (R [oTX 24 6,ot 25 (.un .neg (.t 24)),oXT 6 25]) .skip))
 (q (R [oTX 26 6,oC 27 250 [.t 26],oXT 7 27])
 (q (R [oTX 28 7,oB 29 .add (i 1) (.t 28),ot 30 (.sliceArr 24 (.x 5) (some (i 1)) (some (.t 29))),oTX 31 6,oC 32 251 [.t 30,.t 31]])
 (q (q (R [oTX 33 0,ox 34 (.bin .lss (.t 33) (i 0))])
 (k (.x 34) (q (R [ot 35 (.idxA 24 1 (.x 5) (i 0)),o0 (.store 1 (.t 35) (C (I .u8 45)))])
 (q (R [oTX 36 7,oB 37 .add (i 1) (.t 36),ot 38 (.sliceArr 24 (.x 5) none (some (.t 37))),ot 39 (.b2s (.t 38)),oXT 4 39])
 .ret)) .skip))
 (q (R [oTX 40 7,oB 41 .add (i 1) (.t 40),ot 42 (.sliceArr 24 (.x 5) (some (i 1)) (some (.t 41))),ot 43 (.b2s (.t 42)),oXT 4 43])
 .ret)))))))) .skip))
 (q (R [oTX 45 0,ot 46 (.conv .u64 (.t 45)),oTX 47 1,oTX 48 0,oB 49 .lss (.t 48) (i 0),ot 50 (.call (.f 252) [(.c (.lit [])),.t 46,.t 47,.t 49,(C bF)]),ot 44 (.mov (.t 50)),ot 51 (.extract (.t 44) 0),ot 52 (.extract (.t 44) 1),ot 8 (.mov (.t 51)),oXT 9 52])
 (q (R [oTX 53 9,oXT 4 53])
 .ret)))),
 [.mov (.x 4)],[],false,2⟩
def K235:SFunc:=⟨(q (R [oXI 2 0,ox 3 (.mov (C (.nilIface)))])
 (q (R [oTX 11 0,ot 12 (.lenS (.t 11)),oXT 4 12])
 (q (q (R [ot 13 (.mov (C bF)),og (.t 14) (.mov (.x 4)) (.t 13) true,og (.t 15) (.bin .lss (i 0) (.t 14)) (.t 13) true,og (.t 16) (.mov (.t 15)) (.t 13) true,og (.t 17) (.mov (.x 4)) (.t 16) true,og (.t 18) (.bin .lss (.t 17) (i 10)) (.t 16) true,og (.t 19) (.pick (.t 16) (.t 18) (C bF)) (.t 13) true,ot 20 (.pick (.t 13) (.t 19) (C bF)),ot 21 (.mov (.t 20)),og (.t 22) (.mov (C bT)) (.t 21) false,og (.t 23) (.mov (.x 4)) (.t 22) true,og (.t 24) (.bin .lss (i 0) (.t 23)) (.t 22) true,og (.t 25) (.mov (.t 24)) (.t 22) true,og (.t 26) (.mov (.x 4)) (.t 25) true,og (.t 27) (.bin .lss (.t 26) (i 19)) (.t 25) true,og (.t 28) (.pick (.t 25) (.t 27) (C bF)) (.t 22) true,og (.t 29) (.pick (.t 22) (.t 28) (C bF)) (.t 21) false,ox 30 (.pick (.t 21) (C bT) (.t 29))])
 (k (.x 30) (q (R [oTX 31 0,oXT 5 31])
 (q (q (R [oTX 32 0,ot 33 (.idxS (.t 32) (i 0)),ot 34 (.bin .eql (.t 33) (C (I .u8 45))),ot 35 (.mov (.t 34)),og (.t 36) (.mov (.x 0)) (.t 35) false,og (.t 37) (.idxS (.t 36) (i 0)) (.t 35) false,og (.t 38) (.bin .eql (.t 37) (C (I .u8 43))) (.t 35) false,ox 39 (.pick (.t 35) (C bT) (.t 38))])
 (k (.x 39) (q (R [oTX 40 0,ot 41 (.sliceS (.t 40) (some (i 1)) none),oXT 0 41])
 (q (R [oTX 42 0,ot 43 (.lenS (.t 42)),ox 44 (.bin .lss (.t 43) (i 1))])
 (k (.x 44) (q .refuse
 .ret) .skip))) .skip))
 (q (R [oXI 6 0])
 (q (q (R [oTX 46 0,ox 47 (.s2b (.t 46)),ox 48 (.len (.x 47)),oXI 49 0])
 (bl 0 (lp (q (R [ox 50 (.bin .lss (.x 49) (.x 48))])
 (q (k (.x 50) .skip (ex 0))
 (q (bl 1 (q (R [ot 51 (.idx 1 (.x 47) (.x 49)),oL 52 51,oXT 8 52])
 (q (R [oTX 53 8,ot 54 (.bin .sub (.t 53) (C (I .u8 48))),oXT 8 54])
 (q (q (R [oTX 55 8,ox 56 (.bin .gtr (.t 55) (C (I .u8 9)))])
 (k (.x 56) (q .refuse
 .ret) .skip))
 (R [oTX 58 6,oB 59 .mul (.t 58) (i 10),oTX 60 8,ot 61 (.conv .i64 (.t 60)),oB 62 .add (.t 59) (.t 61),oXT 6 62])))))
 (R [oB 63 .add (.x 49) (i 1),oXT 49 63])))))))
 (q (q (R [oTX 64 5,ot 65 (.idxS (.t 64) (i 0)),ox 66 (.bin .eql (.t 65) (C (I .u8 45)))])
 (k (.x 66) (R [oTX 67 6,ot 68 (.un .neg (.t 67)),oXT 6 68]) .skip))
 (q (R [oTX 69 6,oXT 2 69,ox 3 (.mov (C (.nilIface)))])
 .ret)))))) .skip))
 (q (R [oTX 71 0,oC 72 253 [.t 71,(i 10),(i 0)],ot 70 (.mov (.t 72)),ot 73 (.extract (.t 70) 0),ot 74 (.extract (.t 70) 1),oXT 9 73,oXT 10 74])
 (q (R [oTX 75 9,oTX 76 10,oXT 2 75,oXT 3 76])
 .ret))))),
 [.mov (.x 2),.mov (.x 3)],[],false,1⟩
def K237:SFunc:=⟨(q (R [ox 3 (.mov (C bF))])
 (q (R [oTX 4 0,oB 5 .geq (.t 4) (i 0),ot 6 (.mov (.t 5)),og (.t 7) (.mov (.x 0)) (.t 6) true,og (.t 8) (.load1 (.x 1)) (.t 6) true,og (.t 9) (.bin .lss (.t 7) (.t 8)) (.t 6) true,ot 10 (.pick (.t 6) (.t 9) (C bF)),oXT 3 10])
 .ret)),
 [.mov (.x 3)],[],false,2⟩
def K238:SFunc:=⟨(q (R [ox 1 (.box (.x 0)),ox 2 (.alloc [pF,.lit []])])
 (q (R [oG 4 1 1,oL 5 4,ot 6 (.len (.t 5)),ot 7 (.mkslice 4 [.v (I .u32 0)] (.t 6) (.t 6)),oXT 3 7])
 (q (R [oTX 8 3,oG 9 1 1,oL 10 9,ot 11 (.copy 1 (.t 8) (.t 10))])
 (q (R [oG 12 0 1,oL 13 12,oTX 14 3,ot 15 (.build [pF,.lit []] [(0,1,.t 13),(1,1,.t 14)]),o0 (.store 2 (.x 2) (.t 15))])
 .ret)))),
 [.loadn 2 (.x 2)],[],false,1⟩
def K239:SFunc:=⟨(q (R [ox 6 (.mov (C bF))])
 (q (R [oTX 7 0,ot 8 (.nilck (.t 7)),oF 9 4 8,oL 10 9,oB 11 .neq (.t 10) (i 0),ot 12 (.mov (.t 11)),og (.t 13) (.mov (.x 1)) (.t 12) false,og (.t 14) (.isnil false (.t 13)) (.t 12) false,ot 15 (.pick (.t 12) (C bT) (.t 14)),ot 16 (.mov (.t 15)),og (.t 17) (.mov (.x 2)) (.t 16) false,og (.t 18) (.isnil false (.t 17)) (.t 16) false,ot 19 (.pick (.t 16) (C bT) (.t 18)),oXT 6 19])
 .ret)),
 [.mov (.x 6)],[],false,3⟩
def K240:SFunc:=⟨(q (R [ox 6 (.mov (.c (.p (.nsl))))])
 (q (q (R [oTX 7 0,ot 8 (.nilck (.t 7)),oF 9 4 8,oL 10 9,ox 11 (.bin .eql (.t 10) (i 0))])
 (k (.x 11) (R [oTX 12 0,oTX 13 2,ot 14 (.nilck (.t 12)),oF 15 4 14,o0 (.store 1 (.t 15) (.t 13))]) .skip))
 (q (R [oTX 16 1,oXT 6 16])
 .ret))),
 [.mov (.x 6)],[],false,3⟩
def K241:SFunc:=⟨(q (R [ox 3 (.box (.x 0)),ox 6 (.mov (.c (.lit []))),oXI 7 0])
 (q (R [ot 8 (.loadn 1 (.x 3)),oTX 9 1,oTX 10 2,oC 11 258 [.t 8,.t 9,.t 10,(.f 259)],ot 12 (.extract (.t 11) 0),ot 13 (.extract (.t 11) 1),oXT 6 12,oXT 7 13])
 .ret)),
 [.mov (.x 6),.mov (.x 7)],[],false,3⟩
def K242:SFunc:=⟨(q (R [ox 3 (.box (.x 0)),ox 6 (.mov (.c (.lit []))),oXI 7 0])
 (q (R [ot 8 (.loadn 1 (.x 3)),oTX 9 1,oTX 10 2,oC 11 258 [.t 8,.t 9,.t 10,(.f 261)],ot 12 (.extract (.t 11) 0),ot 13 (.extract (.t 11) 1),oXT 6 12,oXT 7 13])
 .ret)),
 [.mov (.x 6),.mov (.x 7)],[],false,3⟩
def K243:SFunc:=⟨(q (R [ox 3 (.box (.x 0)),ox 6 (.mov (.c (.lit []))),oXI 7 0])
 (q (R [ot 8 (.loadn 1 (.x 3)),oTX 9 1,oTX 10 2,oC 11 258 [.t 8,.t 9,.t 10,(.f 262)],ot 12 (.extract (.t 11) 0),ot 13 (.extract (.t 11) 1),oXT 6 12,oXT 7 13])
 .ret)),
 [.mov (.x 6),.mov (.x 7)],[],false,3⟩
def K245:SFunc:=⟨(q (R [ox 2 (.box (.x 0)),ox 4 (.mov (C bF))])
 (q (R [ot 5 (.loadn 1 (.x 2)),oC 6 267 [.t 5],ot 7 (.mov (.t 6)),og (.t 8) (.mov (.x 1)) (.t 7) true,og (.t 9) (.fadr 0 (.x 2)) (.t 7) true,og (.t 10) (.load1 (.t 9)) (.t 7) true,og (.t 11) (.len (.t 10)) (.t 7) true,og (.t 12) (.call (.f 268) [.t 8,.t 11]) (.t 7) true,ot 13 (.pick (.t 7) (.t 12) (C bF)),oXT 4 13])
 .ret)),
 [.mov (.x 4)],[],false,2⟩
def K246:SFunc:=⟨(q (R [ox 1 (.box (.x 0)),ox 2 (.mov (C (.pointer none)))])
 (q (R [oG 5 0 1,oL 6 5,ot 7 (.build [.lit [],p0,pF,.lit [],pF,.lit [],pF,.lit [],pF,.lit [],.p (.v (.nilFunc)),.p (.v (.nilFunc)),.p (.v (.nilFunc)),.p (.v (.nilFunc))] [(0,1,.t 6)]),ot 8 (.box (.t 7)),ox 3 (.alloc [.p (.v (.pointer none))]),o0 (.store 1 (.x 3) (.t 8))])
 (q (D [⟨ot 10 (.load1 (.x 3)),.read,0,1⟩,⟨oC 11 151 [(i 0),(i 1)],.write,0,1⟩,⟨ot 9 (.mov (.t 11)),.free,1,1⟩,⟨ot 12 (.extract (.t 9) 0),.free,1,1⟩,⟨ot 13 (.extract (.t 9) 1),.free,1,2⟩,⟨ot 14 (.nilck (.t 10)),.free,1,1⟩,⟨oF 15 2 14,.free,1,1⟩,⟨o0 (.store 4 (.t 15) (.t 12)),.write,1,2⟩])
 (q (D [⟨ot 17 (.load1 (.x 3)),.read,0,1⟩,⟨oC 18 151 [(i 1),(i 1)],.write,0,1⟩,⟨ot 16 (.mov (.t 18)),.free,1,1⟩,⟨ot 19 (.extract (.t 16) 0),.free,1,1⟩,⟨ot 20 (.extract (.t 16) 1),.free,1,2⟩,⟨ot 21 (.nilck (.t 17)),.free,1,1⟩,⟨oF 22 6 21,.free,1,1⟩,⟨o0 (.store 4 (.t 22) (.t 19)),.write,1,2⟩])
 (q (R [ot 23 (.mkfn (.func 269) [] [.x 3]),oXT 4 23])
 (q (D [⟨ot 24 (.load1 (.x 3)),.read,0,4⟩,⟨ot 25 (.load1 (.x 3)),.read,0,5⟩,⟨ot 26 (.load1 (.x 3)),.read,0,6⟩,⟨ot 27 (.load1 (.x 3)),.read,0,7⟩,dF (oTX 28 4),⟨ot 29 (.call (.t 28) [(.f 182)]),.write,0,1⟩,⟨oTX 30 4,.free,0,1⟩,⟨ot 31 (.call (.t 30) [(.f 153)]),.write,1,2⟩,⟨oTX 32 4,.free,0,2⟩,⟨ot 33 (.call (.t 32) [(.f 181)]),.write,2,3⟩,⟨oTX 34 4,.free,0,3⟩,⟨ot 35 (.call (.t 34) [(.f 154)]),.write,3,4⟩,⟨ot 36 (.nilck (.t 24)),.free,4,4⟩,⟨oF 37 10 36,.free,4,4⟩,⟨o0 (.store 1 (.t 37) (.t 29)),.write,4,5⟩,⟨ot 38 (.nilck (.t 25)),.free,5,5⟩,⟨oF 39 11 38,.free,5,5⟩,⟨o0 (.store 1 (.t 39) (.t 31)),.write,5,6⟩,⟨ot 40 (.nilck (.t 26)),.free,6,6⟩,⟨oF 41 12 40,.free,6,6⟩,⟨o0 (.store 1 (.t 41) (.t 33)),.write,6,7⟩,⟨ot 42 (.nilck (.t 27)),.free,7,7⟩,⟨oF 43 13 42,.free,7,7⟩,⟨o0 (.store 1 (.t 43) (.t 35)),.write,7,8⟩])
 (q (R [ot 44 (.load1 (.x 3)),oXT 2 44])
 .ret))))))),
 [.mov (.x 2)],[],false,1⟩
def K247:SFunc:=⟨(q (R [oXI 4 0])
 (q (q (R [oTX 9 0,ot 10 (.nilck (.t 9)),oF 11 1 10,oL 12 11,ox 13 (.bin .neq (.t 12) (i 0))])
 (k (.x 13) (q (R [oXI 4 0])
 .ret) .skip))
 (q (q (R [oTX 14 1,ot 15 (.len (.t 14)),ox 16 (.bin .eql (.t 15) (i 1))])
 (k (.x 16) (q (R [oTX 17 1,ot 18 (.idx 4 (.t 17) (i 0)),ot 19 (.loadn 4 (.t 18)),oC 20 58 [.t 19],oXT 4 20])
 .ret) .skip))
 (q (R [oTX 22 1,oC 23 271 [.t 22],ot 21 (.mov (.t 23)),ot 24 (.extract (.t 21) 0),ot 25 (.extract (.t 21) 1),oXT 5 24,oXT 6 25])
 (q (R [oTX 26 0,oTX 27 5,oC 28 247 [.t 26,.t 27],oTX 29 0,oTX 30 6,oC 31 247 [.t 29,.t 30],oXT 7 28,oXT 8 31])
 (q (bl 0 (q (R [oTX 33 8,oB 34 .eql (.t 33) (i 0),ot 35 (.mov (.t 34)),og (.t 36) (.mov (.x 8)) (.t 35) false,og (.t 37) (.mov (.x 7)) (.t 35) false,og (.t 38) (.bin .eql (.t 36) (.t 37)) (.t 35) false,ot 39 (.pick (.t 35) (C bT) (.t 38)),oXT 32 39])
 (k (.x 32) (q (R [oTX 40 7,oXT 4 40])
 .ret) (q (R [oTX 42 7,oB 43 .eql (.t 42) (i 0),oXT 41 43])
 (k (.x 41) (q (R [oTX 44 8,oXT 4 44])
 .ret) .skip)))))
 (q (R [oTX 45 7,oTX 46 0,oTX 47 0,oTX 48 1,oC 49 272 [.t 47,.t 48],oC 50 247 [.t 46,.t 49],oB 51 .mul (.t 45) (.t 50),oXT 4 51])
 .ret))))))),
 [.mov (.x 4)],[],false,2⟩
def K249:SFunc:=⟨(q (R [ox 2 (.mov (C (Y [])))])
 (q (q (R [oTX 3 0,ox 4 (.bin .lss (.t 3) (i 10))])
 (k (.x 4) (q (R [oTX 5 0,oTX 6 0,oB 7 .add (.t 6) (i 1),ot 8 (.sliceS (C (Y [48,49,50,51,52,53,54,55,56,57,97,98,99,100,101,102,103,104,105,106,107,108,109,110,111,112,113,114,115,116,117,118,119,120,121,122])) (some (.t 5)) (some (.t 7))),oXT 2 8])
 .ret) .skip))
 (q (R [oTX 9 0,oB 10 .mul (.t 9) (i 2),oTX 11 0,oB 12 .mul (.t 11) (i 2),oB 13 .add (.t 12) (i 2),ot 14 (.sliceS (C (Y [48,48,48,49,48,50,48,51,48,52,48,53,48,54,48,55,48,56,48,57,49,48,49,49,49,50,49,51,49,52,49,53,49,54,49,55,49,56,49,57,50,48,50,49,50,50,50,51,50,52,50,53,50,54,50,55,50,56,50,57,51,48,51,49,51,50,51,51,51,52,51,53,51,54,51,55,51,56,51,57,52,48,52,49,52,50,52,51,52,52,52,53,52,54,52,55,52,56,52,57,53,48,53,49,53,50,53,51,53,52,53,53,53,54,53,55,53,56,53,57,54,48,54,49,54,50,54,51,54,52,54,53,54,54,54,55,54,56,54,57,55,48,55,49,55,50,55,51,55,52,55,53,55,54,55,55,55,56,55,57,56,48,56,49,56,50,56,51,56,52,56,53,56,54,56,55,56,56,56,57,57,48,57,49,57,50,57,51,57,52,57,53,57,54,57,55,57,56,57,57])) (some (.t 10)) (some (.t 13))),oXT 2 14])
 .ret))),
 [.mov (.x 2)],[],false,1⟩
def K258:SFunc:=⟨(q (R [ox 4 (.box (.x 0)),ox 8 (.mov (.c (.lit []))),oXI 9 0])
 (q (q (R [ot 12 (.loadn 1 (.x 4)),oTX 13 1,oC 14 245 [.t 12,.t 13],ot 15 (.un .not (.t 14)),ot 16 (.mov (.t 15)),og (.t 17) (.mov (.x 2)) (.t 16) false,og (.t 18) (.fadr 0 (.x 4)) (.t 16) false,og (.t 19) (.load1 (.t 18)) (.t 16) false,og (.t 20) (.len (.t 19)) (.t 16) false,og (.t 21) (.call (.f 268) [.t 17,.t 20]) (.t 16) false,og (.t 22) (.un .not (.t 21)) (.t 16) false,ox 23 (.pick (.t 16) (C bT) (.t 22))])
 (k (.x 23) (q (R [ox 8 (.mov (.c (.lit []))),oXI 9 1])
 .ret) .skip))
 (q (R [ot 24 (.loadn 1 (.x 4)),oC 25 246 [.t 24],oTX 26 1,ot 27 (.len (.t 26)),oTX 28 2,ot 29 (.len (.t 28)),ot 30 (.maxmin true (.t 27) (.t 29)),oXT 10 25,oXT 11 30])
 (q (R [oTX 31 10,oTX 32 3,oTX 33 10,oTX 34 10,oTX 35 1,oTX 36 11,oC 37 266 [.t 34,.t 35,.t 36],oTX 38 10,oTX 39 2,oTX 40 11,oC 41 266 [.t 38,.t 39,.t 40],ot 42 (.call (.t 32) [.t 33,.t 37,.t 41]),oC 43 280 [.t 31,.t 42],ot 44 (.extract (.t 43) 0),ot 45 (.extract (.t 43) 1),oXT 8 44,oXT 9 45])
 .ret)))),
 [.mov (.x 8),.mov (.x 9)],[],false,4⟩
def K259:SFunc:=⟨(q (R [ox 6 (.mov (.c (.lit [])))])
 (q (R [oTX 7 1,oTX 8 2,oTX 9 0,ot 10 (.nilck (.t 9)),oF 11 10 10,oL 12 11,oC 13 260 [.t 7,.t 8,.t 12],oXT 6 13])
 .ret)),
 [.mov (.x 6)],[],false,3⟩
def K260:SFunc:=⟨(q (R [ox 6 (.mov (.c (.lit [])))])
 (q (R [oTX 9 0,ot 10 (.len (.t 9)),ot 11 (.mkslice 64 [.v (bF),.sl [],.v (bF),.sl []] (.t 10) (.t 10)),oXT 7 11])
 (q (q (R [oTX 12 0,ox 13 (.len (.t 12)),oXI 14 0])
 (bl 0 (lp (q (R [ox 15 (.bin .lss (.x 14) (.x 13))])
 (q (k (.x 15) .skip (ex 0))
 (q (bl 1 (q (R [oTX 16 14,oXT 8 16])
 (D [⟨oTX 17 7,.free,0,1⟩,⟨oTX 18 8,.free,0,1⟩,dF (oTX 19 2),dF (oTX 20 0),dF (oTX 21 8),dH (ot 22 (.idx 4 (.t 20) (.t 21))),dH (ot 23 (.loadn 4 (.t 22))),dF (oTX 24 1),dF (oTX 25 8),dH (ot 26 (.idx 4 (.t 24) (.t 25))),dH (ot 27 (.loadn 4 (.t 26))),⟨ot 28 (.call (.t 19) [.t 23,.t 27]),.write,0,1⟩,⟨ot 29 (.idx 4 (.t 17) (.t 18)),.here,1,1⟩,⟨o0 (.store 4 (.t 29) (.t 28)),.write,1,2⟩])))
 (R [oB 30 .add (.x 14) (i 1),oXT 14 30])))))))
 (q (R [oTX 31 7,oXT 6 31])
 .ret)))),
 [.mov (.x 6)],[],true,3⟩
def K261:SFunc:=⟨(q (R [ox 6 (.mov (.c (.lit [])))])
 (q (R [oTX 7 1,oTX 8 2,oTX 9 0,ot 10 (.nilck (.t 9)),oF 11 11 10,oL 12 11,oC 13 260 [.t 7,.t 8,.t 12],oXT 6 13])
 .ret)),
 [.mov (.x 6)],[],false,3⟩
def K262:SFunc:=⟨(q (R [ox 6 (.mov (.c (.lit [])))])
 (q (R [oTX 7 0,oTX 8 1,oTX 9 2,oC 10 263 [.t 7,.t 8,.t 9],oXT 6 10])
 .ret)),
 [.mov (.x 6)],[],false,3⟩
def K263:SFunc:=⟨(q (R [ox 6 (.mov (.c (.lit [])))])
 (q (q (R [oTX 16 1,ot 17 (.len (.t 16)),ox 18 (.bin .eql (.t 17) (i 1))])
 (k (.x 18) (q (D [dF (oTX 19 0),dF (ot 20 (.nilck (.t 19))),dF (oF 21 12 20),dH (oL 22 21),dF (oTX 23 1),dH (ot 24 (.idx 4 (.t 23) (i 0))),dH (ot 25 (.loadn 4 (.t 24))),dF (oTX 26 2),dH (ot 27 (.idx 4 (.t 26) (i 0))),dH (ot 28 (.loadn 4 (.t 27))),⟨ot 29 (.call (.t 22) [.t 25,.t 28]),.write,0,1⟩,⟨ot 30 (.slit [.v (bF),.sl [],.v (bF),.sl []] 1 [(0,.t 29)]),.write,1,2⟩,⟨oXT 6 30,.free,2,2⟩])
 .ret) .skip))
 (q (q (R [oTX 31 0,ot 32 (.nilck (.t 31)),oF 33 1 32,oL 34 33,ox 35 (.bin .neq (.t 34) (i 0))])
 (k (.x 35) (q (R [oTX 36 0,oTX 37 1,ot 38 (.len (.t 37)),ot 39 (.call (.f 266) [.t 36,(.c (.lit [])),.t 38]),oXT 6 39])
 .ret) .skip))
 (q (R [oTX 41 1,oC 42 271 [.t 41],ot 40 (.mov (.t 42)),ot 43 (.extract (.t 40) 0),ot 44 (.extract (.t 40) 1),oXT 7 43,oXT 8 44])
 (q (R [oTX 46 2,oC 47 271 [.t 46],ot 45 (.mov (.t 47)),ot 48 (.extract (.t 45) 0),ot 49 (.extract (.t 45) 1),oXT 9 48,oXT 10 49])
 (q (R [oTX 50 0,oTX 51 7,oTX 52 9,oC 53 263 [.t 50,.t 51,.t 52],oTX 54 0,oTX 55 8,oTX 56 10,oC 57 263 [.t 54,.t 55,.t 56],oXT 11 53,oXT 12 57])
 (q (D [⟨oTX 58 11,.free,0,2⟩,⟨oTX 59 0,.free,0,1⟩,⟨oTX 60 12,.free,0,1⟩,dF (oTX 61 0),dF (oTX 62 1),dF (ot 63 (.len (.t 62))),⟨oC 64 281 [.t 61,.t 63],.write,0,1⟩,⟨oC 65 263 [.t 59,.t 60,.t 64],.write,1,2⟩,⟨oTX 66 0,.free,0,2⟩,⟨ot 67 (.nilck (.t 66)),.free,0,2⟩,⟨oF 68 10 67,.free,0,2⟩,⟨oL 69 68,.read,0,2⟩,⟨oC 70 260 [.t 58,.t 65,.t 69],.write,2,3⟩,⟨oXT 13 70,.free,3,3⟩])
 (q (R [oTX 71 0,oTX 72 7,oTX 73 10,oC 74 263 [.t 71,.t 72,.t 73],oTX 75 0,oTX 76 8,oTX 77 9,oC 78 263 [.t 75,.t 76,.t 77],oXT 14 74,oXT 15 78])
 (q (R [oTX 79 13,oTX 80 14,oTX 81 15,oTX 82 0,ot 83 (.nilck (.t 82)),oF 84 10 83,oL 85 84,oC 86 260 [.t 80,.t 81,.t 85],ot 87 (.append 64 4 (.t 79) (.t 86)),oXT 6 87])
 .ret))))))))),
 [.mov (.x 6)],[],true,3⟩
def K264:SFunc:=⟨(q (R [ox 4 (.mov (.c (.lit [])))])
 (q (R [oTX 8 1,ot 9 (.len (.t 8)),ot 10 (.mkslice 64 [.v (bF),.sl [],.v (bF),.sl []] (.t 9) (.t 9)),oXT 5 10])
 (q (q (R [ox 11 (.mov (.x 1)),ox 12 (.len (.x 11)),oXI 13 0])
 (bl 0 (lp (q (R [ox 14 (.bin .lss (.x 13) (.x 12))])
 (q (k (.x 14) .skip (ex 0))
 (q (bl 1 (q (R [oTX 15 13,ot 16 (.idx 4 (.x 11) (.x 13)),ot 17 (.loadn 4 (.t 16)),ox 7 (.alloc [pF,.lit [],pF,.lit []]),oXT 6 15,o0 (.store 4 (.x 7) (.t 17))])
 (D [⟨oTX 18 5,.free,0,2⟩,⟨oTX 19 6,.free,0,2⟩,dF (oG 20 0 7),dH (ot 21 (.loadn 2 (.t 20))),⟨oC 22 282 [.t 21],.write,0,1⟩,⟨oG 23 2 7,.free,0,1⟩,⟨ot 24 (.loadn 2 (.t 23)),.read,0,1⟩,⟨oC 25 282 [.t 24],.write,1,2⟩,⟨ot 26 (.build [pF,.lit [],pF,.lit []] [(0,2,.t 22),(2,2,.t 25)]),.free,2,2⟩,⟨ot 27 (.idx 4 (.t 18) (.t 19)),.here,2,2⟩,⟨o0 (.store 4 (.t 27) (.t 26)),.write,2,3⟩])))
 (R [oB 28 .add (.x 13) (i 1),oXT 13 28])))))))
 (q (R [oTX 29 5,oXT 4 29])
 .ret)))),
 [.mov (.x 4)],[],false,2⟩
def K266:SFunc:=⟨(q (R [ox 6 (.mov (.c (.lit [])))])
 (q (R [oTX 8 2,ot 9 (.mkslice 64 [.v (bF),.sl [],.v (bF),.sl []] (i 0) (.t 8)),oXT 7 9])
 (q (R [oTX 10 7,oTX 11 1,ot 12 (.append 64 4 (.t 10) (.t 11)),oXT 7 12])
 (q (bl 0 (lp (q (q (R [oTX 13 7,ot 14 (.len (.t 13)),oTX 15 2,ox 16 (.bin .lss (.t 14) (.t 15))])
 (k (.x 16) .skip (ex 0)))
 (bl 1 (R [oTX 17 7,oTX 18 0,ot 19 (.nilck (.t 18)),oF 20 2 19,ot 21 (.loadn 4 (.t 20)),ot 22 (.slit [.v (bF),.sl [],.v (bF),.sl []] 1 [(0,.t 21)]),ot 23 (.append 64 4 (.t 17) (.t 22)),oXT 7 23])))))
 (q (R [oTX 24 7,oXT 6 24])
 .ret))))),
 [.mov (.x 6)],[],true,3⟩
def K267:SFunc:=⟨(q (R [ox 1 (.box (.x 0)),ox 2 (.mov (C bF))])
 (q (q (R [oG 5 0 1,oL 6 5,ot 7 (.len (.t 6)),ox 8 (.bin .gtr (.t 7) (i 5))])
 (k (.x 8) (q (R [ox 2 (.mov (C bF))])
 .ret) .skip))
 (q (q (R [oG 9 0 1,ox 10 (.load1 (.t 9)),ox 11 (.len (.x 10)),oXI 12 0])
 (bl 0 (lp (q (R [ox 13 (.bin .lss (.x 12) (.x 11))])
 (q (k (.x 13) .skip (ex 0))
 (q (bl 1 (q (R [oTX 14 12,ot 15 (.idx 1 (.x 10) (.x 12)),oL 16 15,oXT 3 14,oXT 4 16])
 (q (R [oTX 17 4,oTX 18 3,oC 19 268 [.t 17,.t 18],ox 20 (.un .not (.t 19))])
 (k (.x 20) (q (R [ox 2 (.mov (C bF))])
 .ret) .skip))))
 (R [oB 21 .add (.x 12) (i 1),oXT 12 21])))))))
 (q (R [ox 2 (.mov (C bT))])
 .ret)))),
 [.mov (.x 2)],[],false,1⟩
def K268:SFunc:=⟨(q (R [ox 4 (.mov (C bF))])
 (q (q (R [oTX 8 0,oC 9 284 [.t 8],oXT 5 9])
 (q (R [oTX 10 5,oB 11 .lss (.t 10) (i 0),ot 12 (.mov (.t 11)),og (.t 13) (.mov (.x 5)) (.t 12) false,og (.t 14) (.mov (.x 1)) (.t 12) false,og (.t 15) (.bin .gtr (.t 13) (.t 14)) (.t 12) false,ox 16 (.pick (.t 12) (C bT) (.t 15))])
 (k (.x 16) (q (R [ox 4 (.mov (C bF))])
 .ret) .skip)))
 (q (q (R [ox 17 (.mov (.x 0)),ox 18 (.len (.x 17)),oXI 19 0])
 (bl 0 (lp (q (R [ox 20 (.bin .lss (.x 19) (.x 18))])
 (q (k (.x 20) .skip (ex 0))
 (q (bl 1 (q (R [ot 21 (.idx 4 (.x 17) (.x 19)),ot 22 (.loadn 4 (.t 21)),ox 7 (.alloc [pF,.lit [],pF,.lit []]),o0 (.store 4 (.x 7) (.t 22))])
 (q (R [ot 23 (.loadn 4 (.x 7)),oC 24 99 [.t 23],ox 25 (.un .not (.t 24))])
 (k (.x 25) (q (R [ox 4 (.mov (C bF))])
 .ret) .skip))))
 (R [oB 26 .add (.x 19) (i 1),oXT 19 26])))))))
 (q (R [ox 4 (.mov (C bT))])
 .ret)))),
 [.mov (.x 4)],[],false,2⟩
def K269:SFunc:=⟨(q (R [ox 2 (.box (.x 0)),ox 3 (.mov (C (.nilFunc)))])
 (q (R [ot 4 (.mkfn (.func 270) [] [.x 1,.x 2]),oXT 3 4])
 .ret)),
 [.mov (.x 3)],[],false,2⟩
def K270:SFunc:=⟨(q (R [ox 4 (.box (.x 0)),ox 5 (.box (.x 1)),ox 6 (.alloc [pF,.lit [],pF,.lit []])])
 (q (q (R [ot 9 (.load1 (.x 2)),ot 10 (.nilck (.t 9)),oF 11 1 10,oL 12 11,ox 13 (.bin .neq (.t 12) (i 0))])
 (k (.x 13) (q (R [ot 14 (.load1 (.x 2)),ot 15 (.nilck (.t 14)),oF 16 2 15,ot 17 (.loadn 4 (.t 16)),o0 (.store 4 (.x 6) (.t 17))])
 .ret) .skip))
 (q (R [ot 19 (.load1 (.x 3)),ot 20 (.loadn 4 (.x 4)),ot 21 (.loadn 4 (.x 5)),ot 22 (.call (.t 19) [.t 20,.t 21]),ot 18 (.mov (.t 22)),ot 23 (.extract (.t 18) 0),ot 24 (.extract (.t 18) 1),ox 7 (.alloc [pF,.lit [],pF,.lit []]),o0 (.store 4 (.x 7) (.t 23)),oXT 8 24])
 (q (q (R [oTX 25 8,ox 26 (.bin .neq (.t 25) (i 0))])
 (k (.x 26) (q (R [ot 27 (.load1 (.x 2)),oTX 28 8,ot 29 (.nilck (.t 27)),oF 30 1 29,o0 (.store 1 (.t 30) (.t 28))])
 (q (R [ot 31 (.load1 (.x 2)),ot 32 (.nilck (.t 31)),oF 33 2 32,ot 34 (.loadn 4 (.t 33)),o0 (.store 4 (.x 6) (.t 34))])
 .ret)) .skip))
 (q (R [ot 35 (.loadn 4 (.x 7)),o0 (.store 4 (.x 6) (.t 35))])
 .ret))))),
 [.loadn 4 (.x 6)],[],false,4⟩
def K280:SFunc:=⟨(q (R [ox 4 (.mov (.c (.lit []))),oXI 5 0])
 (q (q (R [oTX 6 0,ot 7 (.nilck (.t 6)),oF 8 1 7,oL 9 8,ox 10 (.bin .neq (.t 9) (i 0))])
 (k (.x 10) (q (D [dF (oTX 11 0),dF (ot 12 (.nilck (.t 11))),dF (oF 13 1 12),dH (oL 14 13),dF (ox 4 (.mov (.c (.lit [])))),dF (oXT 5 14)])
 .ret) .skip))
 (q (R [oTX 15 0,oTX 16 1,oC 17 264 [.t 15,.t 16],oXT 4 17,oXI 5 0])
 .ret))),
 [.mov (.x 4),.mov (.x 5)],[],false,2⟩
def K282:SFunc:=⟨(q (R [ox 1 (.box (.x 0)),ox 2 (.alloc [pF,.lit []])])
 (q (D [⟨oG 3 0 1,.free,0,1⟩,⟨oL 4 3,.read,0,1⟩,dF (oG 5 1 1),dH (oL 6 5),⟨ot 7 (.append 4 1 (.c (.lit [])) (.t 6)),.write,0,1⟩,⟨ot 8 (.build [pF,.lit []] [(0,1,.t 4),(1,1,.t 7)]),.free,1,1⟩,⟨o0 (.store 2 (.x 2) (.t 8)),.write,1,2⟩])
 .ret)),
 [.loadn 2 (.x 2)],[],false,1⟩
def K284:SFunc:=⟨(q (R [oXI 2 0])
 (q (q (R [oTX 4 0,ot 5 (.len (.t 4)),ot 6 (.conv .u64 (.t 5)),oXT 3 6])
 (q (R [oTX 7 3,ot 8 (.bin .gtr (.t 7) (C (I .u64 0))),ot 9 (.mov (.t 8)),og (.t 10) (.mov (.x 3)) (.t 9) true,og (.t 11) (.mov (.x 3)) (.t 9) true,og (.t 12) (.bin .sub (.t 11) (C (I .u64 1))) (.t 9) true,og (.t 13) (.bin .and (.t 10) (.t 12)) (.t 9) true,og (.t 14) (.bin .eql (.t 13) (C (I .u64 0))) (.t 9) true,ox 15 (.pick (.t 9) (.t 14) (C bF))])
 (k (.x 15) (q (R [oTX 16 3,oC 17 163 [.t 16],oB 18 .sub (.t 17) (i 1),oXT 2 18])
 .ret) .skip)))
 (q (R [ox 2 (.mov (i (-1)))])
 .ret))),
 [.mov (.x 2)],[],false,1⟩
end Go.Proofs.YtepbfecmageleaaGreatDoor

/- Part of the proof of Rows.FinderAltitudesCardSaid: FaK1. -/
import Derived.Test.YtchgldaddcolhaaGreatDoorP04
set_option linter.all false
namespace Go.Proofs.YtchgldaddcolhaaGreatDoor
open Go
def K3:SFunc:=⟨(rG [oK 14]
 (rG [oC 30 4 [],oXT 15 30]
 (rG [oTX 31 0,ot 32 (.conv .i64 (.t 31)),oTX 33 1,ot 34 (.conv .i64 (.t 33)),oTX 35 2,ot 36 (.conv .i64 (.t 35)),oTX 37 3,ot 38 (.conv .i64 (.t 37)),oTX 39 4,ot 40 (.conv .i64 (.t 39)),oTX 41 5,ot 42 (.conv .i64 (.t 41)),oC 43 5 [.t 32,.t 34,.t 36,.t 38,.t 40,.t 42],oXT 16 43]
 (rG [ot 44 (.slit [.v (I .i64 0)] 3 [(0,(i 6)),(1,(i 7)),(2,(i 8))]),ot 45 (.build [p0,.lit []] [(0,1,(i 7)),(1,1,.t 44)]),ox 17 (.alloc [p0,.lit []]),oS 2 17 45]
 (rG [oTX 47 16,oC 48 6 [.t 47],oM 46 48,oE 49 46 0,oE 50 46 1,oXT 18 49,oXT 19 50]
 (rG [oTX 52 16,oTX 53 6,oC 54 8 [.t 53],oC 55 7 [.t 52,.t 54,(i 2)],oM 51 55,oE 56 51 0,oE 57 51 1,oXT 20 56,oXT 21 57]
 (rG [oTX 59 16,ot 60 (.loadn 2 (.x 17)),oC 61 9 [.t 59,.t 60,(i 0)],oM 58 61,oE 62 58 0,oE 63 58 1,oE 64 58 2,ox 23 (.alloc [p0,p0,.lit [],.lit [],.lit [],.lit [],.lit [],.lit [],.lit [],.lit [],p0]),oXT 22 62,oS 11 23 63,oXT 24 64]
 (rG [oTX 66 16,ot 67 (.loadn 2 (.x 17)),oC 68 10 [.t 66,.t 67],oM 65 68,oE 69 65 0,oE 70 65 1,oXT 25 69,oXT 26 70]
 (rG [oTX 72 16,oTX 73 6,oC 74 8 [.t 73],oC 75 11 [.t 72,.t 74,(i 2)],oM 71 75,oE 76 71 0,oE 77 71 1,oE 78 71 2,oM 27 76,oM 28 77,oXT 29 78]
 (q (q (R [oTX 79 19,oB 80 .neq (.t 79) (i 0),oM 81 80,gF 82 (.mov (.x 21)) 81,gF 83 (.bin .neq (.t 82) (i 0)) 81,ot 84 (.pick (.t 81) (C bT) (.t 83)),oM 85 84,gF 86 (.mov (.x 24)) 85,gF 87 (.bin .neq (.t 86) (i 0)) 85,ot 88 (.pick (.t 85) (C bT) (.t 87)),oM 89 88,gF 90 (.mov (.x 26)) 89,gF 91 (.bin .neq (.t 90) (i 0)) 89,ot 92 (.pick (.t 89) (C bT) (.t 91)),oM 93 92,gF 94 (.mov (.x 22)) 93,gF 95 (.len (.t 94)) 93,gF 96 (.bin .neq (.t 95) (i 1)) 93,ox 97 (.pick (.t 93) (C bT) (.t 96))])
 (k (.x 97) (q (R [oK 14])
 .ret) .skip))
 (rG [oTX 98 15,oM 99 98,gT 100 (.mov (.x 18)) 99,gT 101 (.loadn 2 (.x 17)) 99,gT 102 (.call (.f 12) [.t 100,.t 101]) 99,ot 103 (.pick (.t 99) (.t 102) (C bF)),oM 104 103,gT 105 (.fadr 0 (.x 23)) 104,gT 106 (.load1 (.t 105)) 104,gT 107 (.bin .eql (.t 106) (i 1)) 104,ot 108 (.pick (.t 104) (.t 107) (C bF)),oM 109 108,gT 110 (.mov (.x 22)) 109,gT 111 (.idx 7 (.t 110) (i 0)) 109,gT 112 (.loadn 7 (.t 111)) 109,gT 113 (.call (.f 13) [.t 112]) 109,gT 114 (.bin .eql (.t 113) (i 0)) 109,ot 115 (.pick (.t 109) (.t 114) (C bF)),oM 116 115,gT 117 (.mov (.x 25)) 116,gT 118 (.bin .eql (.t 117) (i 9)) 116,ot 119 (.pick (.t 116) (.t 118) (C bF)),oM 120 119,gT 121 (.mov (.x 29)) 120,gT 122 (.un .not (.t 121)) 120,gT 123 (.mov (.t 122)) 120,gF 124 (.mov (.x 20)) 123,gF 125 (.loadn 2 (.x 17)) 123,gF 126 (.call (.f 12) [.t 124,.t 125]) 123,gT 127 (.pick (.t 123) (C bT) (.t 126)) 120,ot 128 (.pick (.t 120) (.t 127) (C bF)),oXT 14 128]
 .ret))))))))))),
 [.mov (.x 14)],[],false,7⟩
def K4:SFunc:=⟨(rG [oK 0]
 (rG [oC 17 5 [(i 0),(i 0),(i 4),(i 0),(i 1),(i 3)],oXT 1 17]
 (rG [oTX 19 1,oC 20 6 [.t 19],oM 18 20,oE 21 18 0,oE 22 18 1,oXT 2 21,oXT 3 22]
 (rG [ot 23 (.slit [.v (I .i64 0)] 3 [(0,(i 6)),(1,(i 7)),(2,(i 8))]),ot 24 (.build [p0,.lit []] [(0,1,(i 7)),(1,1,.t 23)]),ox 4 (.alloc [p0,.lit []]),oS 2 4 24]
 (rG [ot 25 (.slit [.v (I .i64 0)] 3 [(0,(i 3)),(1,(i 4)),(2,(i 6))]),ot 26 (.build [p0,.lit []] [(0,1,(i 7)),(1,1,.t 25)]),ox 5 (.alloc [p0,.lit []]),oS 2 5 26]
 (rG [ot 27 (.slit [.v (I .i64 0)] 3 [(0,(i 4)),(1,(i 5)),(2,(i 6))]),ot 28 (.build [p0,.lit []] [(0,1,(i 7)),(1,1,.t 27)]),ox 6 (.alloc [p0,.lit []]),oS 2 6 28]
 (rG [ot 29 (.slit [.v (I .i64 0)] 2 [(0,(i 3)),(1,(i 6))]),ot 30 (.build [p0,.lit []] [(0,1,(i 4)),(1,1,.t 29)]),ox 7 (.alloc [p0,.lit []]),oS 2 7 30]
 (rG [oTX 32 1,oC 33 14 [.t 32,(i 10007),(i 3),(i 1)],oM 31 33,oE 34 31 0,oE 35 31 1,oE 36 31 2,oXT 8 34,oXT 9 35,oXT 10 36]
 (rG [oTX 38 1,oC 39 7 [.t 38,(i 4),(i 3)],oM 37 39,oE 40 37 0,oE 41 37 1,oM 11 40,oXT 12 41]
 (rG [oTX 43 1,oC 44 7 [.t 43,(i 10007),(i 0)],oM 42 44,oE 45 42 0,oE 46 42 1,oM 13 45,oXT 14 46]
 (rG [oTX 48 1,ot 49 (.loadn 2 (.x 4)),oC 50 10 [.t 48,.t 49],oM 47 50,oE 51 47 0,oE 52 47 1,oXT 15 51,oXT 16 52]
 (rG [oTX 53 3,oB 54 .eql (.t 53) (i 0),oM 55 54,gT 56 (.mov (.x 2)) 55,gT 57 (.loadn 2 (.x 4)) 55,gT 58 (.call (.f 12) [.t 56,.t 57]) 55,ot 59 (.pick (.t 55) (.t 58) (C bF)),oM 60 59,gT 61 (.mov (.x 2)) 60,gT 62 (.loadn 2 (.x 5)) 60,gT 63 (.call (.f 12) [.t 61,.t 62]) 60,ot 64 (.pick (.t 60) (.t 63) (C bF)),oM 65 64,gT 66 (.mov (.x 2)) 65,gT 67 (.loadn 2 (.x 6)) 65,gT 68 (.call (.f 12) [.t 66,.t 67]) 65,gT 69 (.un .not (.t 68)) 65,ot 70 (.pick (.t 65) (.t 69) (C bF)),oM 71 70,gT 72 (.mov (.x 2)) 71,gT 73 (.loadn 2 (.x 7)) 71,gT 74 (.call (.f 12) [.t 72,.t 73]) 71,gT 75 (.un .not (.t 74)) 71,ot 76 (.pick (.t 71) (.t 75) (C bF)),oM 77 76,gT 78 (.mov (.x 10)) 77,gT 79 (.bin .eql (.t 78) (i 0)) 77,ot 80 (.pick (.t 77) (.t 79) (C bF)),oM 81 80,gT 82 (.mov (.x 8)) 81,gT 83 (.loadn 2 (.x 4)) 81,gT 84 (.call (.f 12) [.t 82,.t 83]) 81,ot 85 (.pick (.t 81) (.t 84) (C bF)),oM 86 85,gT 87 (.mov (.x 9)) 86,gT 88 (.len (.t 87)) 86,gT 89 (.bin .eql (.t 88) (i 0)) 86,ot 90 (.pick (.t 86) (.t 89) (C bF)),oM 91 90,gT 92 (.mov (.x 12)) 91,gT 93 (.bin .eql (.t 92) (i 150)) 91,ot 94 (.pick (.t 91) (.t 93) (C bF)),oM 95 94,gT 96 (.mov (.x 14)) 95,gT 97 (.bin .eql (.t 96) (i 1)) 95,ot 98 (.pick (.t 95) (.t 97) (C bF)),oM 99 98,gT 100 (.mov (.x 15)) 99,gT 101 (.bin .eql (.t 100) (i 9)) 99,ot 102 (.pick (.t 99) (.t 101) (C bF)),oM 103 102,gT 104 (.mov (.x 16)) 103,gT 105 (.bin .eql (.t 104) (i 0)) 103,ot 106 (.pick (.t 103) (.t 105) (C bF)),oXT 0 106]
 .ret)))))))))))),
 [.mov (.x 0)],[],false,0⟩
def K5:SFunc:=⟨(rG [oN 12]
 (rG [oTX 13 0,oC 14 15 [.t 13],oTX 15 1,oC 16 15 [.t 15],ot 17 (.build [.p (.v (Y [])),p0,.lit [],pF,.lit [],pF,.lit [],pF,.lit [],pF,.lit [],p0] [(0,1,(C (Y [65]))),(1,1,(i 1)),(3,4,.t 14),(7,4,.t 16)]),oTX 18 2,oC 19 15 [.t 18],oTX 20 3,oC 21 15 [.t 20],ot 22 (.build [.p (.v (Y [])),p0,.lit [],pF,.lit [],pF,.lit [],pF,.lit [],pF,.lit [],p0] [(0,1,(C (Y [66]))),(1,1,(i 1)),(3,4,.t 19),(7,4,.t 21)]),oTX 23 4,oC 24 15 [.t 23],oTX 25 5,oC 26 15 [.t 25],ot 27 (.build [.p (.v (Y [])),p0,.lit [],pF,.lit [],pF,.lit [],pF,.lit [],pF,.lit [],p0] [(0,1,(C (Y [67]))),(1,1,(i 1)),(3,4,.t 24),(7,4,.t 26)]),ot 28 (.slit [.v (I .i64 0)] 2 [(0,(i 1)),(1,(i 2))]),ot 29 (.build [.p (.v (Y [])),p0,.lit [],pF,.lit [],pF,.lit [],pF,.lit [],pF,.lit [],p0] [(0,1,(C (Y [97]))),(1,1,(i 3)),(2,1,.t 28)]),ot 30 (.slit [.v (I .i64 0)] 2 [(0,(i 2)),(1,(i 0))]),ot 31 (.build [.p (.v (Y [])),p0,.lit [],pF,.lit [],pF,.lit [],pF,.lit [],pF,.lit [],p0] [(0,1,(C (Y [98]))),(1,1,(i 3)),(2,1,.t 30)]),ot 32 (.slit [.v (I .i64 0)] 2 [(0,(i 0)),(1,(i 1))]),ot 33 (.build [.p (.v (Y [])),p0,.lit [],pF,.lit [],pF,.lit [],pF,.lit [],pF,.lit [],p0] [(0,1,(C (Y [99]))),(1,1,(i 3)),(2,1,.t 32)]),ot 34 (.slit [.v (I .i64 0)] 2 [(0,(i 0)),(1,(i 3))]),ot 35 (.build [.p (.v (Y [])),p0,.lit [],pF,.lit [],pF,.lit [],pF,.lit [],pF,.lit [],p0] [(0,1,(C (Y [112]))),(1,1,(i 10)),(2,1,.t 34)]),ot 36 (.slit [.v (I .i64 0)] 2 [(0,(i 1)),(1,(i 4))]),ot 37 (.build [.p (.v (Y [])),p0,.lit [],pF,.lit [],pF,.lit [],pF,.lit [],pF,.lit [],p0] [(0,1,(C (Y [113]))),(1,1,(i 10)),(2,1,.t 36)]),ot 38 (.slit [.v (I .i64 0)] 2 [(0,(i 2)),(1,(i 5))]),ot 39 (.build [.p (.v (Y [])),p0,.lit [],pF,.lit [],pF,.lit [],pF,.lit [],pF,.lit [],p0] [(0,1,(C (Y [114]))),(1,1,(i 10)),(2,1,.t 38)]),ot 40 (.slitA [.v (Y []),.v (I .i64 0),.sl [],.v (bF),.sl [],.v (bF),.sl [],.v (bF),.sl [],.v (bF),.sl [],.v (I .i64 0)] 9 [(0,.t 17),(1,.t 22),(2,.t 27),(3,.t 29),(4,.t 31),(5,.t 33),(6,.t 35),(7,.t 37),(8,.t 39)]),oXT 12 40]
 .ret)),
 [.mov (.x 12)],[],false,6⟩
def K6:SFunc:=⟨(rG [oN 2,oXI 3 0]
 (rG [oTX 7 0,oC 8 16 [.t 7],oM 6 8,oE 9 6 0,oE 10 6 1,oXT 4 9,oXT 5 10]
 (q (q (R [oTX 11 5,ox 12 (.bin .neq (.t 11) (i 0))])
 (k (.x 12) (q (R [oTX 13 5,oN 2,oXT 3 13])
 .ret) .skip))
 (rG [oTX 14 4,oC 15 17 [.t 14],oXT 2 15,oXI 3 0]
 .ret)))),
 [.mov (.x 2),.mov (.x 3)],[],false,1⟩
def K7:SFunc:=⟨(rG [oN 6,oXI 7 0]
 (rG [oTX 20 0,oC 21 16 [.t 20],oM 19 21,oE 22 19 0,oE 23 19 1,oXT 8 22,oXT 9 23]
 (q (bl 0 (q (R [oTX 25 9,oB 26 .neq (.t 25) (i 0),oXT 24 26])
 (k (.x 24) (q (R [oTX 27 9,oN 6,oXT 7 27])
 .ret) (q (R [oTX 29 1,oC 30 18 [.t 29],ot 31 (.un .not (.t 30)),oXT 28 31])
 (k (.x 28) (q (R [oN 6,oXI 7 150])
 .ret) (q (R [oTX 33 2,oB 34 .lss (.t 33) (i 1),oM 35 34,gF 36 (.mov (.x 2)) 35,gF 37 (.bin .gtr (.t 36) (i 64)) 35,ot 38 (.pick (.t 35) (C bT) (.t 37)),oXT 32 38])
 (k (.x 32) (q (R [oN 6,oXI 7 1])
 .ret) .skip)))))))
 (rG [oTX 40 0,oTX 41 1,oTX 42 2,oC 43 19 [.t 40,.t 41,.t 42],oM 39 43,oE 44 39 0,oE 45 39 1,oXT 10 44,oXT 9 45]
 (q (q (R [oTX 46 9,oB 47 .neq (.t 46) (i 0),oM 48 47,gF 49 (.mov (.x 10)) 48,gF 50 (.len (.t 49)) 48,gF 51 (.bin .eql (.t 50) (i 0)) 48,ox 52 (.pick (.t 48) (C bT) (.t 51))])
 (k (.x 52) (q (R [oTX 53 9,oN 6,oXT 7 53])
 .ret) .skip))
 (rG [oN 11]
 (q .skip
 (q (q (R [oTX 54 8,ox 55 (.call (.f 17) [.t 54]),ox 56 (.len (.x 55)),oXI 57 0])
 (bl 1 (lp (q (R [ox 58 (.bin .lss (.x 57) (.x 56))])
 (q (k (.x 58) .skip (ex 1))
 (q (bl 2 (q (R [ot 59 (.idx 2 (.x 55) (.x 57)),ot 60 (.loadn 2 (.t 59)),ox 13 (.alloc [p0,.lit []]),oS 2 13 60])
 (q (q (R [ox 61 (.mov (.x 10)),ox 62 (.len (.x 61)),oXI 63 0])
 (bl 3 (lp (q (R [ox 64 (.bin .lss (.x 63) (.x 62))])
 (q (k (.x 64) .skip (ex 3))
 (q (bl 4 (q (R [ot 65 (.idx 2 (.x 61) (.x 63)),ot 66 (.loadn 2 (.t 65)),ox 15 (.alloc [.lit [],.lit []]),oS 2 15 66])
 (rG [oTX 68 0,oTX 69 1,oG 70 0 15,oL 71 70,oG 72 1 15,oL 73 72,ot 74 (.loadn 2 (.x 13)),oC 75 20 [.t 68,.t 69,.t 71,.t 73,.t 74],oM 67 75,oE 76 67 0,oE 77 67 1,oE 78 67 2,oXT 16 76,oM 17 77,oXT 18 78]
 (q (q (R [oTX 79 18,ox 80 (.bin .neq (.t 79) (i 0))])
 (k (.x 80) (q (R [oTX 81 18,oN 6,oXT 7 81])
 .ret) .skip))
 (rG [oTX 82 16,ox 83 (.un .not (.t 82))]
 (k (.x 83) (ex 2) .skip))))))
 (R [oB 84 .add (.x 63) (i 1),oXT 63 84])))))))
 (R [oTX 85 11,ot 86 (.loadn 2 (.x 13)),ot 87 (.slit [.v (I .i64 0),.sl []] 1 [(0,.t 86)]),ot 88 (.append 32 2 (.t 85) (.t 87)),oXT 11 88]))))
 (R [oB 89 .add (.x 57) (i 1),oXT 57 89])))))))
 (rG [oTX 90 11,oXT 6 90,oXI 7 0]
 .ret))))))))),
 [.mov (.x 6),.mov (.x 7)],[],false,3⟩
def K8:SFunc:=⟨(rG [oXI 2 0]
 (rG [ot 3 (.slit [.v (I .i64 0)] 8 [(0,(i 5)),(1,(i 7)),(2,(i 13)),(3,(i 101)),(4,(i 257)),(5,(i 10007)),(6,(i 1000003)),(7,(i 2147483647))]),oTX 4 0,ot 5 (.conv .i64 (.t 4)),oB 6 .rem (.t 5) (i 8),oI 7 1 3 6,oL 8 7,oXT 2 8]
 .ret)),
 [.mov (.x 2)],[],false,1⟩
def K9:SFunc:=⟨(rG [ox 4 (.box (.x 1)),oN 6,ox 7 (.alloc [p0,p0,.lit [],.lit [],.lit [],.lit [],.lit [],.lit [],.lit [],.lit [],p0]),oXI 8 0]
 (rG [oTX 9 0,ot 10 (.loadn 2 (.x 4)),ot 11 (.build [p0,p0,.lit [],.lit [],.lit [],.lit [],.lit [],.lit [],.lit [],.lit [],p0] [(0,1,(i 3))]),oTX 12 2,oC 13 21 [.t 9,.t 10,.t 11,.t 12],oE 14 13 0,oE 15 13 1,oE 16 13 2,oXT 6 14,oS 11 7 15,oXT 8 16]
 .ret)),
 [.mov (.x 6),.loadn 11 (.x 7),.mov (.x 8)],[],false,3⟩
def K10:SFunc:=⟨(rG [ox 3 (.box (.x 1)),oXI 4 0,oXI 5 0]
 (q (q (R [oTX 15 0,oC 16 22 [.t 15],oXT 6 16])
 (rG [oTX 17 6,ox 18 (.bin .neq (.t 17) (i 0))]
 (k (.x 18) (q (R [oTX 19 6,oXI 4 0,oXT 5 19])
 .ret) .skip)))
 (q (q (R [oTX 20 0,ot 21 (.loadn 2 (.x 3)),oC 22 23 [.t 20,.t 21],oXT 7 22])
 (rG [oTX 23 7,ox 24 (.bin .neq (.t 23) (i 0))]
 (k (.x 24) (q (R [oTX 25 7,oXI 4 0,oXT 5 25])
 .ret) .skip)))
 (rG [ot 26 (.mkmap),oXT 8 26]
 (q (q (R [oG 27 1 3,ox 28 (.load1 (.t 27)),ox 29 (.len (.x 28)),oXI 30 0])
 (bl 0 (lp (q (R [ox 31 (.bin .lss (.x 30) (.x 29))])
 (q (k (.x 31) .skip (ex 0))
 (q (bl 1 (q (R [ot 32 (.idx 1 (.x 28) (.x 30)),oL 33 32,oXT 10 33])
 (rG [oTX 34 8,oTX 35 10,o0 (.mapset false [.int] (.t 34) (.t 35) (C bT))]
 (rG [oTX 37 0,oTX 38 10,oC 39 24 [.t 37,.t 38],oM 36 39,oE 40 36 0,oE 41 36 1,oXT 11 40,oM 12 41]
 (rG [ox 42 (.mov (.x 11)),ox 43 (.len (.x 42)),oXI 44 0]
 (bl 2 (lp (q (R [ox 45 (.bin .lss (.x 44) (.x 43))])
 (q (k (.x 45) .skip (ex 2))
 (q (bl 3 (q (R [ot 46 (.idx 1 (.x 42) (.x 44)),oL 47 46,oXT 14 47])
 (R [oTX 48 8,oTX 49 14,o0 (.mapset false [.int] (.t 48) (.t 49) (C bT))])))
 (R [oB 50 .add (.x 44) (i 1),oXT 44 50])))))))))))
 (R [oB 51 .add (.x 30) (i 1),oXT 30 51])))))))
 (rG [oTX 52 8,ot 53 (.lenM (.t 52)),oXT 4 53,oXI 5 0]
 .ret)))))),
 [.mov (.x 4),.mov (.x 5)],[],false,2⟩
def K11:SFunc:=⟨(rG [oN 6,oN 7,oK 8]
 (rG [oTX 12 0,oTX 13 1,oTX 14 2,oC 15 25 [.t 12,.t 13,.t 14],oM 11 15,oE 16 11 0,oE 17 11 1,oXT 9 16,oXT 10 17]
 (q (q (R [oTX 18 10,oB 19 .neq (.t 18) (i 0),oM 20 19,gF 21 (.mov (.x 9)) 20,gF 22 (.len (.t 21)) 20,gF 23 (.bin .eql (.t 22) (i 0)) 20,ox 24 (.pick (.t 20) (C bT) (.t 23))])
 (k (.x 24) (q (R [oN 6,oN 7,oK 8])
 .ret) .skip))
 (q (D [dF (oTX 25 9),dH (ot 26 (.idx 2 (.t 25) (i 0))),dF (oF 27 0 26),dH (oL 28 27),dF (oTX 29 9),dH (ot 30 (.idx 2 (.t 29) (i 0))),dF (oF 31 1 30),dH (oL 32 31),dF (oXT 6 28),dF (oXT 7 32),dF (ox 8 (.mov (C bT)))])
 .ret)))),
 [.mov (.x 6),.mov (.x 7),.mov (.x 8)],[],false,3⟩
def K12:SFunc:=⟨(rG [ox 3 (.box (.x 1)),oK 4]
 (q (q (R [oXI 5 0])
 (bl 0 (lp (q (q (R [oTX 6 5,oTX 7 0,oJ 8 7,ox 9 (.bin .lss (.t 6) (.t 8))])
 (k (.x 9) .skip (ex 0)))
 (q (bl 1 (q (D [dF (oTX 12 0),dF (oTX 13 5),dH (oI 14 2 12 13),dH (ot 15 (.loadn 2 (.t 14))),dH (ot 16 (.loadn 2 (.x 3))),⟨ox 17 (.call (.f 26) [.t 15,.t 16]),.write,0,1⟩])
 (k (.x 17) (q (R [ox 4 (.mov (C bT))])
 .ret) .skip)))
 (R [oTX 10 5,oB 11 .add (.t 10) (i 1),oXT 5 11]))))))
 (rG [oK 4]
 .ret))),
 [.mov (.x 4)],[],false,2⟩
def K13:SFunc:=⟨(rG [ox 1 (.box (.x 0)),oXI 2 0]
 (rG [ot 9 (.loadn 7 (.x 1)),oC 10 27 [.t 9],oM 8 10,oE 11 8 0,oE 12 8 1,oE 13 8 2,ox 4 (.alloc [pF,.lit []]),oXT 3 11,oS 2 4 12,oXT 5 13]
 (q (q (R [oTX 14 5,ox 15 (.bin .neq (.t 14) (i 0))])
 (k (.x 15) (q (R [oTX 16 5,oXT 2 16])
 .ret) .skip))
 (rG [ox 6 (.alloc [p0])]
 (rG [oG 17 3 1,oL 18 17,oG 19 1 1,oL 20 19,oC 21 28 [.x 6,.t 18,.t 20],oXT 7 21]
 (rG [ot 22 (.loadn 2 (.x 4)),oC 23 29 [.t 22],oTX 24 7,oC 25 28 [.x 6,.t 23,.t 24],oXT 7 25]
 (q (bl 0 (q (R [oG 27 0 6,oL 28 27,oB 29 .neq (.t 28) (i 0),oXT 26 29])
 (k (.x 26) (q (R [oG 30 0 6,oL 31 30,oXT 2 31])
 .ret) (q (R [oTX 33 7,oTX 34 3,oC 35 30 [.t 33,.t 34],ot 36 (.un .not (.t 35)),oXT 32 36])
 (k (.x 32) (q (R [oXI 2 220])
 .ret) .skip)))))
 (rG [oXI 2 0]
 .ret)))))))),
 [.mov (.x 2)],[],false,1⟩
def K14:SFunc:=⟨(rG [oN 8,oN 9,oXI 10 0]
 (rG [oTX 18 0,oTX 19 1,oTX 20 2,oC 21 7 [.t 18,.t 19,.t 20],oM 17 21,oE 22 17 0,oE 23 17 1,oXT 11 22,oXT 10 23]
 (q (bl 0 (q (R [oTX 25 10,oB 26 .neq (.t 25) (i 0),oXT 24 26])
 (k (.x 24) (q (R [oTX 27 10,oN 8,oN 9,oXT 10 27])
 .ret) (q (R [oTX 29 3,oB 30 .lss (.t 29) (i 0),oM 31 30,gF 32 (.mov (.x 3)) 31,gF 33 (.bin .gtr (.t 32) (i 4096)) 31,ot 34 (.pick (.t 31) (C bT) (.t 33)),oXT 28 34])
 (k (.x 28) (q (R [oN 8,oN 9,oXI 10 1])
 .ret) .skip)))))
 (q (q (R [ox 35 (.mov (.x 11)),ox 36 (.len (.x 35)),oXI 37 0])
 (bl 1 (lp (q (R [ox 38 (.bin .lss (.x 37) (.x 36))])
 (q (k (.x 38) .skip (ex 1))
 (q (bl 2 (q (R [ot 39 (.idx 2 (.x 35) (.x 37)),ot 40 (.loadn 2 (.t 39)),ox 13 (.alloc [p0,.lit []]),oS 2 13 40])
 (rG [oTX 42 0,ot 43 (.loadn 2 (.x 13)),oTX 44 3,oC 45 9 [.t 42,.t 43,.t 44],oM 41 45,oE 46 41 0,oE 47 41 1,oE 48 41 2,ox 15 (.alloc [p0,p0,.lit [],.lit [],.lit [],.lit [],.lit [],.lit [],.lit [],.lit [],p0]),oM 14 46,oS 11 15 47,oXT 16 48]
 (q (q (R [oTX 49 16,ox 50 (.bin .neq (.t 49) (i 0))])
 (k (.x 50) (q (R [oTX 51 16,oN 8,oN 9,oXT 10 51])
 .ret) .skip))
 (rG [oG 52 0 15,ox 53 (.load1 (.t 52))]
 (bl 3 (q (R [oB 55 .eql (.x 53) (i 1),oXT 54 55])
 (k (.x 54) (R [oTX 56 8,ot 57 (.loadn 2 (.x 13)),ot 58 (.slit [.v (I .i64 0),.sl []] 1 [(0,.t 57)]),ot 59 (.append 32 2 (.t 56) (.t 58)),oXT 8 59]) (q (R [oB 61 .eql (.x 53) (i 2),oXT 60 61])
 (k (.x 60) (R [oTX 62 9,ot 63 (.loadn 2 (.x 13)),ot 64 (.slit [.v (I .i64 0),.sl []] 1 [(0,.t 63)]),ot 65 (.append 32 2 (.t 62) (.t 64)),oXT 9 65]) .skip))))))))))
 (R [oB 66 .add (.x 37) (i 1),oXT 37 66])))))))
 (rG [oTX 67 8,oTX 68 9,oXT 8 67,oXT 9 68,oXI 10 0]
 .ret))))),
 [.mov (.x 8),.mov (.x 9),.mov (.x 10)],[],false,4⟩
def K15:SFunc:=⟨(rG [ox 2 (.alloc [pF,.lit [],pF,.lit []])]
 (rG [oTX 6 0,oC 7 31 [.t 6,(i 1)],oM 5 7,oE 8 5 0,oE 9 5 1,ox 3 (.alloc [pF,.lit [],pF,.lit []]),oS 4 3 8,oM 4 9]
 (rG [ot 10 (.loadn 4 (.x 3)),oS 4 2 10]
 .ret))),
 [.loadn 4 (.x 2)],[],false,1⟩
def K16:SFunc:=⟨(rG [ox 2 (.mov (C (.pointer none))),oXI 3 0]
 (q (q (R [oTX 9 0,oC 10 22 [.t 9],oXT 4 10])
 (rG [oTX 11 4,ox 12 (.bin .neq (.t 11) (i 0))]
 (k (.x 12) (q (R [oTX 13 4,ox 2 (.mov (C (.pointer none))),oXT 3 13])
 .ret) .skip)))
 (rG [oTX 14 0,ot 15 (.build [.lit [],.lit [],.lit [],.lit []] [(0,1,.t 14)]),ot 16 (.box (.t 15)),oXT 5 16]
 (q (q (R [oTX 17 0,ox 18 (.len (.t 17)),oXI 19 0])
 (bl 0 (lp (q (R [ox 20 (.bin .lss (.x 19) (.x 18))])
 (q (k (.x 20) .skip (ex 0))
 (q (bl 1 (q (R [oTX 21 19,oXT 6 21])
 (rG [oTX 23 0,oTX 24 6,oC 25 32 [.t 23,.t 24],oM 22 25,oE 26 22 0,oE 27 22 1,oXT 7 26,oM 8 27]
 (rG [ox 28 (.mov (.x 7))]
 (bl 2 (q (R [oB 40 .eql (.x 28) (i 1),oXT 39 40])
 (k (.x 39) (R [oTX 41 5,oTX 42 5,ot 43 (.nilck (.t 42)),oF 44 1 43,oL 45 44,oTX 46 6,ot 47 (.slit [.v (I .i64 0)] 1 [(0,.t 46)]),ot 48 (.append 8 1 (.t 45) (.t 47)),ot 49 (.nilck (.t 41)),oF 50 1 49,o0 (.store 1 (.t 50) (.t 48))]) (q (R [oB 52 .eql (.x 28) (i 2),oXT 51 52])
 (k (.x 51) (q (R [oTX 53 5,oTX 54 5,ot 55 (.nilck (.t 54)),oF 56 2 55,oL 57 56,oTX 58 6,ot 59 (.slit [.v (I .i64 0)] 1 [(0,.t 58)]),ot 60 (.append 8 1 (.t 57) (.t 59)),ot 61 (.nilck (.t 53)),oF 62 2 61,o0 (.store 1 (.t 62) (.t 60))])
 (R [oTX 63 5,oTX 64 5,ot 65 (.nilck (.t 64)),oF 66 3 65,oL 67 66,oTX 68 6,ot 69 (.slit [.v (I .i64 0)] 1 [(0,.t 68)]),ot 70 (.append 8 1 (.t 67) (.t 69)),ot 71 (.nilck (.t 63)),oF 72 3 71,o0 (.store 1 (.t 72) (.t 70))])) (R [oTX 29 5,oTX 30 5,ot 31 (.nilck (.t 30)),oF 32 3 31,oL 33 32,oTX 34 6,ot 35 (.slit [.v (I .i64 0)] 1 [(0,.t 34)]),ot 36 (.append 8 1 (.t 33) (.t 35)),ot 37 (.nilck (.t 29)),oF 38 3 37,o0 (.store 1 (.t 38) (.t 36))]))))))))))
 (R [oB 73 .add (.x 19) (i 1),oXT 19 73])))))))
 (rG [oTX 74 5,oXT 2 74,oXI 3 0]
 .ret))))),
 [.mov (.x 2),.mov (.x 3)],[],false,1⟩
def K17:SFunc:=⟨(rG [ox 1 (.box (.x 0)),oN 2]
 (rG [ox 3 (.alloc [.lit []])]
 (q .skip
 (q (q (R [ot 5 (.load1 (.x 1)),ox 6 (.call (.f 33) [.t 5])])
 (bl 0 (.range (.x 6) [7] (R [ox 4 (.alloc [p0,.lit []]),o0 (.store 2 (.x 4) (.x 7))])
 (bl 1 (q (q (R [ot 8 (.load1 (.x 1)),ot 9 (.loadn 2 (.x 4)),ox 10 (.call (.f 34) [.t 8,.t 9])])
 (k (.x 10) (ex 1) .skip))
 (rG [ot 11 (.load1 (.x 3)),ot 12 (.loadn 2 (.x 4)),ot 13 (.slit [.v (I .i64 0),.sl []] 1 [(0,.t 12)]),ot 14 (.append 32 2 (.t 11) (.t 13)),oS 1 3 14]
 (rG [ot 15 (.load1 (.x 3)),oJ 16 15,ox 17 (.bin .eql (.t 16) (i 400))]
 (k (.x 17) (ex 0) .skip))))))))
 (rG [ot 18 (.load1 (.x 3)),oXT 2 18]
 .ret))))),
 [.mov (.x 2)],[],false,1⟩
def K18:SFunc:=⟨(rG [oK 2]
 (q (q (R [oTX 9 0,oB 10 .lss (.t 9) (i 3),oM 11 10,gF 12 (.mov (.x 0)) 11,gF 13 (.bin .gtr (.t 12) (i 2147483647)) 11,ot 14 (.pick (.t 11) (C bT) (.t 13)),oM 15 14,gF 16 (.mov (.x 0)) 15,gF 17 (.bin .rem (.t 16) (i 2)) 15,gF 18 (.bin .eql (.t 17) (i 0)) 15,ox 19 (.pick (.t 15) (C bT) (.t 18))])
 (k (.x 19) (q (R [oK 2])
 .ret) .skip))
 (rG [oTX 20 0,oB 21 .sub (.t 20) (i 1),oXT 3 21,oXI 4 0]
 (q (bl 0 (lp (q (q (R [oTX 22 3,oB 23 .rem (.t 22) (i 2),ox 24 (.bin .eql (.t 23) (i 0))])
 (k (.x 24) .skip (ex 0)))
 (bl 1 (R [oTX 25 3,oB 26 .quo (.t 25) (i 2),oTX 27 4,oB 28 .add (.t 27) (i 1),oXT 3 26,oXT 4 28])))))
 (q (q (R [ox 29 (.loadn 4 (.c (.imm [.v (I .i64 2),.v (I .i64 3),.v (I .i64 5),.v (I .i64 7)] 0))),oXI 30 0])
 (bl 2 (lp (q (R [ox 31 (.bin .lss (.x 30) (i 4))])
 (q (k (.x 31) .skip (ex 2))
 (q (bl 3 (q (R [ot 32 (.idxV 4 false 1 (.x 29) (.x 30)),oXT 6 32])
 (q (q (R [oTX 33 6,oTX 34 0,oB 35 .rem (.t 33) (.t 34),ox 36 (.bin .eql (.t 35) (i 0))])
 (k (.x 36) (ex 3) .skip))
 (rG [oTX 37 6,oTX 38 3,oTX 39 0,oC 40 35 [.t 37,.t 38,.t 39],oXT 7 40]
 (rG [oTX 41 7,oB 42 .eql (.t 41) (i 1),oM 43 42,gF 44 (.mov (.x 7)) 43,gF 45 (.mov (.x 0)) 43,gF 46 (.bin .sub (.t 45) (i 1)) 43,gF 47 (.bin .eql (.t 44) (.t 46)) 43,ot 48 (.pick (.t 43) (C bT) (.t 47)),oXT 8 48]
 (q (q (R [oTX 49 4,ox 50 (.bin .sub (.t 49) (i 1)),oXI 51 0])
 (bl 4 (lp (q (R [ox 52 (.bin .lss (.x 51) (.x 50))])
 (q (k (.x 52) .skip (ex 4))
 (q (bl 5 (q (R [oTX 53 7,oTX 54 7,oTX 55 0,oC 56 36 [.t 53,.t 54,.t 55],oXT 7 56])
 (R [oTX 57 8,oM 58 57,gF 59 (.mov (.x 7)) 58,gF 60 (.mov (.x 0)) 58,gF 61 (.bin .sub (.t 60) (i 1)) 58,gF 62 (.bin .eql (.t 59) (.t 61)) 58,ot 63 (.pick (.t 58) (C bT) (.t 62)),oXT 8 63])))
 (R [oB 64 .add (.x 51) (i 1),oXT 51 64])))))))
 (rG [oTX 65 8,ox 66 (.un .not (.t 65))]
 (k (.x 66) (q (R [oK 2])
 .ret) .skip))))))))
 (R [oB 67 .add (.x 30) (i 1),oXT 30 67])))))))
 (rG [ox 2 (.mov (C bT))]
 .ret)))))),
 [.mov (.x 2)],[],false,1⟩
def K19:SFunc:=⟨(rG [oN 6,oXI 7 0]
 (rG [oTX 21 0,oC 22 37 [.t 21],oM 20 22,oE 23 20 0,oE 24 20 1,oXT 8 23,oM 9 24]
 (rG [oN 10]
 (q (q (R [ox 25 (.mov (.x 2)),oXI 26 0])
 (bl 0 (lp (q (R [ox 27 (.bin .lss (.x 26) (.x 25))])
 (q (k (.x 27) .skip (ex 0))
 (q (bl 1 (q (R [oTX 28 26,oXT 11 28])
 (rG [oTX 30 0,oTX 31 1,oTX 32 11,oC 33 38 [.t 30,.t 31,.t 32],oM 29 33,oE 34 29 0,oE 35 29 1,oXT 12 34,oXT 13 35]
 (q (q (R [oTX 36 13,ox 37 (.bin .neq (.t 36) (i 0))])
 (k (.x 37) (q (R [oTX 38 13,oN 6,oXT 7 38])
 .ret) .skip))
 (rG [oTX 39 8,oJ 40 39,ox 41 (.bin .shl (i 1) (.t 40)),oXI 42 0]
 (bl 2 (lp (q (R [ox 43 (.bin .lss (.x 42) (.x 41))])
 (q (k (.x 43) .skip (ex 2))
 (q (bl 3 (q (R [oTX 44 42,oXT 14 44])
 (rG [oTX 45 8,oJ 46 45,ot 47 (.mkslice 8 [.v (I .i64 0)] (.t 46) (.t 46)),oXT 15 47]
 (q (q (R [oTX 48 15,ox 49 (.len (.t 48)),oXI 50 0])
 (bl 4 (lp (q (R [ox 51 (.bin .lss (.x 50) (.x 49))])
 (q (k (.x 51) .skip (ex 4))
 (q (bl 5 (q (R [oTX 52 50,oXT 16 52])
 (R [oTX 53 15,oTX 54 16,oTX 55 14,oTX 56 16,oB 57 .shr (.t 55) (.t 56),oB 58 .and (.t 57) (i 1),oB 59 .mul (i 2) (.t 58),oB 60 .sub (i 1) (.t 59),oI 61 1 53 54,o0 (.store 1 (.t 61) (.t 60))])))
 (R [oB 62 .add (.x 50) (i 1),oXT 50 62])))))))
 (rG [oTX 64 0,oTX 65 1,oTX 66 12,oTX 67 15,oC 68 39 [.t 64,.t 65,.t 66,.t 67],oM 63 68,oE 69 63 0,oE 70 63 1,oE 71 63 2,oXT 17 69,oXT 18 70,oXT 19 71]
 (q (q (R [oTX 72 19,ox 73 (.bin .neq (.t 72) (i 0))])
 (k (.x 73) (q (R [oTX 74 19,oN 6,oXT 7 74])
 .ret) .skip))
 (rG [oTX 75 18,oM 76 75,gT 77 (.mov (.x 17)) 76,gT 78 (.call (.f 40) [.t 77,(.f 41)]) 76,gT 79 (.un .not (.t 78)) 76,ox 80 (.pick (.t 76) (.t 79) (C bF))]
 (k (.x 80) (R [oTX 81 10,oTX 82 12,oTX 83 15,ot 84 (.build [.lit [],.lit []] [(0,1,.t 82),(1,1,.t 83)]),ot 85 (.slit [.sl [],.sl []] 1 [(0,.t 84)]),ot 86 (.append 48 2 (.t 81) (.t 85)),oXT 10 86]) .skip))))))))
 (R [oB 87 .add (.x 42) (i 1),oXT 42 87])))))))))))
 (R [oB 88 .add (.x 26) (i 1),oXT 26 88])))))))
 (rG [oTX 89 10,oXT 6 89,oXI 7 0]
 .ret))))),
 [.mov (.x 6),.mov (.x 7)],[],false,3⟩
def K20:SFunc:=⟨(rG [ox 9 (.box (.x 4)),oK 10,oK 11,oXI 12 0]
 (q (q (R [oTX 20 0,oTX 21 1,oTX 22 2,oTX 23 3,oC 24 42 [.t 20,.t 21,.t 22,.t 23],oXT 13 24])
 (rG [oTX 25 13,ox 26 (.bin .neq (.t 25) (i 0))]
 (k (.x 26) (q (R [oTX 27 13,oK 10,oK 11,oXT 12 27])
 .ret) .skip)))
 (q (q (R [oTX 28 0,ot 29 (.loadn 2 (.x 9)),oC 30 23 [.t 28,.t 29],oXT 14 30])
 (rG [oTX 31 14,ox 32 (.bin .neq (.t 31) (i 0))]
 (k (.x 32) (q (R [oTX 33 14,oK 10,oK 11,oXT 12 33])
 .ret) .skip)))
 (rG [oTX 35 0,ot 36 (.loadn 2 (.x 9)),oC 37 43 [.t 35,.t 36],oM 34 37,oE 38 34 0,oE 39 34 1,oE 40 34 2,ox 15 (.alloc [p0,.lit [],.lit [],.lit []]),oS 4 15 38,oXT 16 39,oXT 12 40]
 (q (q (R [oTX 41 12,ox 42 (.bin .neq (.t 41) (i 0))])
 (k (.x 42) (q (R [oTX 43 12,oK 10,oK 11,oXT 12 43])
 .ret) .skip))
 (rG [ot 45 (.loadn 4 (.x 15)),oTX 46 1,oTX 47 2,oTX 48 3,oC 49 44 [.t 45,.t 46,.t 47,.t 48],oM 44 49,oE 50 44 0,oE 51 44 1,oXT 17 50,oXT 11 51]
 (q (q (R [oTX 52 11,ox 53 (.un .not (.t 52))])
 (k (.x 53) (q (R [oK 10,oK 11,oXI 12 0])
 .ret) .skip))
 (q (q (R [ox 54 (.mov (.x 16)),ox 55 (.len (.x 54)),oXI 56 0])
 (bl 0 (lp (q (R [ox 57 (.bin .lss (.x 56) (.x 55))])
 (q (k (.x 57) .skip (ex 0))
 (q (bl 1 (q (R [ot 58 (.idx 1 (.x 54) (.x 56)),oL 59 58,oXT 19 59])
 (rG [oTX 60 17,oTX 61 19,oI 62 1 60 61,oL 63 62,ox 64 (.bin .neq (.t 63) (i 0))]
 (k (.x 64) (q (R [oK 10,ox 11 (.mov (C bT)),oXI 12 0])
 .ret) .skip))))
 (R [oB 65 .add (.x 56) (i 1),oXT 56 65])))))))
 (rG [ox 10 (.mov (C bT)),ox 11 (.mov (C bT)),oXI 12 0]
 .ret))))))))),
 [.mov (.x 10),.mov (.x 11),.mov (.x 12)],[],false,5⟩
def K21:SFunc:=⟨(rG [ox 5 (.box (.x 1)),ox 6 (.box (.x 2)),oN 8,ox 9 (.alloc [p0,p0,.lit [],.lit [],.lit [],.lit [],.lit [],.lit [],.lit [],.lit [],p0]),oXI 10 0]
 (q (q (R [oTX 15 0,ot 16 (.loadn 2 (.x 5)),oTX 17 3,oC 18 45 [.t 15,.t 16,.t 17],oXT 11 18])
 (rG [oTX 19 11,ox 20 (.bin .neq (.t 19) (i 0))]
 (k (.x 20) (q (R [ot 21 (.build [p0,p0,.lit [],.lit [],.lit [],.lit [],.lit [],.lit [],.lit [],.lit [],p0] []),oTX 22 11,oN 8,oS 11 9 21,oXT 10 22])
 .ret) .skip)))
 (q (q (R [oG 23 0 6,oL 24 23,oB 25 .neq (.t 24) (i 3),oM 26 25,gF 27 (.fadr 10 (.x 6)) 26,gF 28 (.load1 (.t 27)) 26,gF 29 (.bin .lss (.t 28) (i 0)) 26,ot 30 (.pick (.t 26) (C bT) (.t 29)),oM 31 30,gF 32 (.fadr 10 (.x 6)) 31,gF 33 (.load1 (.t 32)) 31,gF 34 (.bin .gtr (.t 33) (i 1073741824)) 31,ox 35 (.pick (.t 31) (C bT) (.t 34))])
 (k (.x 35) (q (R [ot 36 (.build [p0,p0,.lit [],.lit [],.lit [],.lit [],.lit [],.lit [],.lit [],.lit [],p0] []),oN 8,oS 11 9 36,oXI 10 1])
 .ret) .skip))
 (q (q (R [oTX 38 0,ot 39 (.loadn 2 (.x 5)),oC 40 46 [.t 38,.t 39],oM 37 40,oE 41 37 0,oE 42 37 1,oXT 12 41,oXT 13 42])
 (rG [ox 43 (.mov (.x 13))]
 (k (.x 43) (q (R [oTX 44 12,oC 45 47 [.t 44],oE 46 45 0,oE 47 45 1,oE 48 45 2,oXT 8 46,oS 11 9 47,oXT 10 48])
 .ret) .skip)))
 (rG [oTX 49 0,ot 50 (.loadn 2 (.x 5)),ot 51 (.build [.p (.nsl),p0,.p (.nsl),.p (.v (.pointer none)),.p (.nsl),p0] [(0,1,.t 49),(1,2,.t 50)]),ot 52 (.box (.t 51)),oXT 14 52]
 (rG [oTX 53 14,oG 54 10 6,oL 55 54,oTX 56 3,oC 57 48 [.t 53,.t 55,.t 56],oN 8,oS 11 9 57,oXI 10 0]
 .ret)))))),
 [.mov (.x 8),.loadn 11 (.x 9),.mov (.x 10)],[],false,4⟩
def K22:SFunc:=⟨(rG [oXI 2 0]
 (rG [oXI 3 0]
 (q (q (R [ox 6 (.mov (.x 0)),ox 7 (.len (.x 6)),oXI 8 0])
 (bl 0 (lp (q (R [ox 9 (.bin .lss (.x 8) (.x 7))])
 (q (k (.x 9) .skip (ex 0))
 (q (bl 1 (q (R [oTX 10 8,ot 11 (.idx 12 (.x 6) (.x 8)),ot 12 (.loadn 12 (.t 11)),ox 5 (.alloc [.p (.v (Y [])),p0,.lit [],pF,.lit [],pF,.lit [],pF,.lit [],pF,.lit [],p0]),oXT 4 10,oS 12 5 12])
 (q (q (R [oTX 13 0,oTX 14 4,oB 15 .add (.t 14) (i 1),ot 16 (.slice 12 (.t 13) none (some (.t 15)) none),oC 17 49 [.t 16],ox 18 (.un .not (.t 17))])
 (k (.x 18) (q (R [oXI 2 120])
 .ret) .skip))
 (rG [ot 19 (.loadn 12 (.x 5)),ox 20 (.call (.f 50) [.t 19])]
 (k (.x 20) (R [oTX 21 3,oB 22 .add (.t 21) (i 1),oXT 3 22]) .skip)))))
 (R [oB 23 .add (.x 8) (i 1),oXT 8 23])))))))
 (q (q (R [oTX 24 0,oJ 25 24,oB 26 .gtr (.t 25) (i 40),oM 27 26,gF 28 (.mov (.x 3)) 27,gF 29 (.bin .gtr (.t 28) (i 5)) 27,ot 30 (.pick (.t 27) (C bT) (.t 29)),oM 31 30,gF 32 (.mov (.x 0)) 31,gF 33 (.call (.f 51) [.t 32]) 31,gF 34 (.len (.t 33)) 31,gF 35 (.bin .gtr (.t 34) (i 20)) 31,ox 36 (.pick (.t 31) (C bT) (.t 35))])
 (k (.x 36) (q (R [oXI 2 111])
 .ret) .skip))
 (rG [oXI 2 0]
 .ret))))),
 [.mov (.x 2)],[],false,1⟩
def K23:SFunc:=⟨(rG [ox 3 (.box (.x 1)),oXI 4 0]
 (q (q (R [oTX 9 0,oC 10 22 [.t 9],oXT 5 10])
 (rG [oTX 11 5,ox 12 (.bin .neq (.t 11) (i 0))]
 (k (.x 12) (q (R [oTX 13 5,oXT 4 13])
 .ret) .skip)))
 (rG [oG 14 0 3,oL 15 14,oC 16 52 [.t 15],oXT 6 16]
 (q (q (R [oTX 17 6,oJ 18 17,oB 19 .eql (.t 18) (i 0),oM 20 19,gF 21 (.mov (.x 6)) 20,gF 22 (.len (.t 21)) 20,gF 23 (.fadr 1 (.x 3)) 20,gF 24 (.load1 (.t 23)) 20,gF 25 (.len (.t 24)) 20,gF 26 (.bin .neq (.t 22) (.t 25)) 20,ox 27 (.pick (.t 20) (C bT) (.t 26))])
 (k (.x 27) (q (R [oXI 4 102])
 .ret) .skip))
 (q (q (R [oG 28 1 3,ox 29 (.load1 (.t 28)),ox 30 (.len (.x 29)),oXI 31 0])
 (bl 0 (lp (q (R [ox 32 (.bin .lss (.x 31) (.x 30))])
 (q (k (.x 32) .skip (ex 0))
 (q (bl 1 (q (R [oTX 33 31,ot 34 (.idx 1 (.x 29) (.x 31)),oL 35 34,oXT 7 33,oXT 8 35])
 (q (D [dF (oTX 36 8),dF (oB 37 .lss (.t 36) (i 0)),dF (oM 38 37),dF (gF 39 (.mov (.x 8)) 38),dF (gF 40 (.mov (.x 0)) 38),dF (gF 41 (.len (.t 40)) 38),dF (gF 42 (.bin .geq (.t 39) (.t 41)) 38),dF (ot 43 (.pick (.t 38) (C bT) (.t 42))),dF (oM 44 43),dF (gF 45 (.mov (.x 6)) 44),dF (gF 46 (.mov (.x 7)) 44),dH (gF 47 (.idx 1 (.t 45) (.t 46)) 44),dH (gF 48 (.load1 (.t 47)) 44),dF (gF 49 (.mov (.x 0)) 44),dF (gF 50 (.mov (.x 8)) 44),dH (gF 51 (.idx 12 (.t 49) (.t 50)) 44),dH (gF 52 (.loadn 12 (.t 51)) 44),dL (gF 53 (.call (.f 54) [.t 52]) 44),⟨gF 54 (.call (.f 53) [.t 48,.t 53]) 44,.write,0,1⟩,⟨gF 55 (.un .not (.t 54)) 44,.free,1,1⟩,⟨ox 56 (.pick (.t 44) (C bT) (.t 55)),.free,1,1⟩])
 (k (.x 56) (q (R [oXI 4 102])
 .ret) .skip))))
 (R [oB 57 .add (.x 31) (i 1),oXT 31 57])))))))
 (rG [oXI 4 0]
 .ret)))))),
 [.mov (.x 4)],[],false,2⟩
def K24:SFunc:=⟨(rG [oN 4,oXI 5 0]
 (q (q (R [oTX 7 0,oTX 8 1,oC 9 55 [.t 7,.t 8],oXT 6 9])
 (rG [oTX 10 6,ox 11 (.bin .neq (.t 10) (i 0))]
 (k (.x 11) (q (R [oTX 12 6,oN 4,oXT 5 12])
 .ret) .skip)))
 (rG [oTX 13 0,oTX 14 1,oC 15 57 [.t 13,.t 14],oC 16 56 [.t 15],oXT 4 16,oXI 5 0]
 .ret))),
 [.mov (.x 4),.mov (.x 5)],[],false,2⟩
def K25:SFunc:=⟨(rG [oN 6,oXI 7 0]
 (rG [oTX 21 0,oC 22 58 [.t 21],oM 20 22,oE 23 20 0,oE 24 20 1,oXT 8 23,oM 9 24]
 (rG [oN 10]
 (q (q (R [oXI 11 0])
 (bl 0 (lp (q (q (R [oTX 25 11,oTX 26 2,ox 27 (.bin .lss (.t 25) (.t 26))])
 (k (.x 27) .skip (ex 0)))
 (q (bl 1 (q (R [oTX 31 0,oTX 32 1,oTX 33 11,oC 34 59 [.t 31,.t 32,.t 33],oM 30 34,oE 35 30 0,oE 36 30 1,oXT 12 35,oXT 13 36])
 (q (q (R [oTX 37 13,ox 38 (.bin .neq (.t 37) (i 0))])
 (k (.x 38) (q (R [oTX 39 13,oN 6,oXT 7 39])
 .ret) .skip))
 (rG [oXI 14 0]
 (bl 2 (lp (q (q (R [oTX 40 14,oTX 41 8,oJ 42 41,oB 43 .shl (i 1) (.t 42),ox 44 (.bin .lss (.t 40) (.t 43))])
 (k (.x 44) .skip (ex 2)))
 (q (bl 3 (q (R [oN 15])
 (q (q (R [oXI 16 0])
 (bl 4 (lp (q (q (R [oTX 47 16,oTX 48 8,oJ 49 48,ox 50 (.bin .lss (.t 47) (.t 49))])
 (k (.x 50) .skip (ex 4)))
 (q (bl 5 (R [oTX 53 15,oTX 54 14,oTX 55 16,oB 56 .shr (.t 54) (.t 55),oB 57 .and (.t 56) (i 1),oB 58 .mul (i 2) (.t 57),oB 59 .sub (i 1) (.t 58),ot 60 (.slit [.v (I .i64 0)] 1 [(0,.t 59)]),ot 61 (.append 8 1 (.t 53) (.t 60)),oXT 15 61]))
 (R [oTX 51 16,oB 52 .add (.t 51) (i 1),oXT 16 52]))))))
 (rG [oTX 63 0,oTX 64 1,oTX 65 12,oTX 66 15,oC 67 60 [.t 63,.t 64,.t 65,.t 66],oM 62 67,oE 68 62 0,oE 69 62 1,oE 70 62 2,oXT 17 68,oXT 18 69,oXT 19 70]
 (q (q (R [oTX 71 19,ox 72 (.bin .neq (.t 71) (i 0))])
 (k (.x 72) (q (R [oTX 73 19,oN 6,oXT 7 73])
 .ret) .skip))
 (rG [oTX 74 18,oM 75 74,gT 76 (.mov (.x 17)) 75,gT 77 (.call (.f 61) [.t 76]) 75,gT 78 (.un .not (.t 77)) 75,ox 79 (.pick (.t 75) (.t 78) (C bF))]
 (k (.x 79) (R [oTX 80 10,oTX 81 12,oTX 82 15,ot 83 (.build [.lit [],.lit []] [(0,1,.t 81),(1,1,.t 82)]),ot 84 (.slit [.sl [],.sl []] 1 [(0,.t 83)]),ot 85 (.append 48 2 (.t 80) (.t 84)),oXT 10 85]) .skip)))))))
 (R [oTX 45 14,oB 46 .add (.t 45) (i 1),oXT 14 46])))))))))
 (R [oTX 28 11,oB 29 .add (.t 28) (i 1),oXT 11 29]))))))
 (rG [oTX 86 10,oXT 6 86,oXI 7 0]
 .ret))))),
 [.mov (.x 6),.mov (.x 7)],[],false,3⟩
def K26:SFunc:=⟨(rG [ox 2 (.box (.x 0)),ox 3 (.box (.x 1)),oK 4]
 (q (q (R [oG 6 0 2,oL 7 6,oG 8 0 3,oL 9 8,oB 10 .neq (.t 7) (.t 9),oM 11 10,gF 12 (.fadr 1 (.x 2)) 11,gF 13 (.load1 (.t 12)) 11,gF 14 (.len (.t 13)) 11,gF 15 (.fadr 1 (.x 3)) 11,gF 16 (.load1 (.t 15)) 11,gF 17 (.len (.t 16)) 11,gF 18 (.bin .neq (.t 14) (.t 17)) 11,ox 19 (.pick (.t 11) (C bT) (.t 18))])
 (k (.x 19) (q (R [oK 4])
 .ret) .skip))
 (q (q (R [oXI 5 0])
 (bl 0 (lp (q (q (R [oTX 20 5,oG 21 1 2,oL 22 21,oJ 23 22,ox 24 (.bin .lss (.t 20) (.t 23))])
 (k (.x 24) .skip (ex 0)))
 (q (bl 1 (q (D [dF (oG 27 1 2),dH (oL 28 27),dF (oTX 29 5),dH (oI 30 1 28 29),dH (oL 31 30),dF (oG 32 1 3),dH (oL 33 32),dF (oTX 34 5),dH (oI 35 1 33 34),dH (oL 36 35),dF (ox 37 (.bin .neq (.t 31) (.t 36)))])
 (k (.x 37) (q (R [oK 4])
 .ret) .skip)))
 (R [oTX 25 5,oB 26 .add (.t 25) (i 1),oXT 5 26]))))))
 (rG [ox 4 (.mov (C bT))]
 .ret)))),
 [.mov (.x 4)],[],false,2⟩
def K27:SFunc:=⟨(rG [ox 1 (.box (.x 0)),oN 2,ox 3 (.alloc [pF,.lit []]),oXI 4 0]
 (q (q (R [ot 18 (.loadn 7 (.x 1)),oC 19 62 [.t 18],ox 20 (.un .not (.t 19))])
 (k (.x 20) (q (R [ot 21 (.build [pF,.lit []] []),oN 2,oS 2 3 21,oXI 4 3])
 .ret) .skip))
 (rG [ox 5 (.alloc [p0])]
 (rG [oC 22 63 [(i 1)],ox 6 (.alloc [pF,.lit []]),oS 2 6 22]
 (q (q (R [oG 23 5 1,ox 24 (.load1 (.t 23)),ox 25 (.len (.x 24)),oXI 26 0])
 (bl 0 (lp (q (R [ox 27 (.bin .lss (.x 26) (.x 25))])
 (q (k (.x 27) .skip (ex 0))
 (q (bl 1 (q (R [ot 28 (.idx 4 (.x 24) (.x 26)),ot 29 (.loadn 4 (.t 28)),ox 8 (.alloc [pF,.lit [],pF,.lit []]),oS 4 8 29])
 (rG [ot 31 (.loadn 2 (.x 6)),oG 32 2 8,ot 33 (.loadn 2 (.t 32)),oC 34 64 [.t 31,.t 33],oM 30 34,oE 35 30 0,oE 36 30 1,ox 9 (.alloc [pF,.lit []]),oS 2 9 35,oXT 10 36]
 (rG [oTX 37 10,oC 38 65 [.x 5,.t 37]]
 (D [⟨ot 39 (.loadn 2 (.x 6)),.read,0,1⟩,dF (oG 40 2 8),dH (ot 41 (.loadn 2 (.t 40))),dH (ot 42 (.loadn 2 (.x 9))),⟨oC 43 67 [.x 5,.t 41,.t 42],.write,0,1⟩,⟨oC 44 66 [.x 5,.t 39,.t 43],.write,1,2⟩,⟨oS 2 6 44,.write,2,3⟩])))))
 (R [oB 45 .add (.x 26) (i 1),oXT 26 45])))))))
 (rG [oN 11]
 (q (q (R [oG 46 2 1,ox 47 (.load1 (.t 46)),ox 48 (.len (.x 47)),oXI 49 0])
 (bl 2 (lp (q (R [ox 50 (.bin .lss (.x 49) (.x 48))])
 (q (k (.x 50) .skip (ex 2))
 (q (bl 3 (q (R [oTX 51 49,ot 52 (.idx 1 (.x 47) (.x 49)),oL 53 52,oXT 12 51,oXT 13 53])
 (R [oTX 54 11,oG 55 4 1,oL 56 55,oTX 57 12,oI 58 1 56 57,oL 59 58,oTX 60 13,oC 61 28 [.x 5,.t 59,.t 60],oC 62 68 [.x 5,.t 54,.t 61],oXT 11 62])))
 (R [oB 63 .add (.x 49) (i 1),oXT 49 63])))))))
 (rG [ot 64 (.loadn 2 (.x 6)),oC 65 29 [.t 64],oTX 66 11,oC 67 28 [.x 5,.t 65,.t 66],oXT 11 67]
 (q (q (R [oG 68 5 1,ox 69 (.load1 (.t 68)),ox 70 (.len (.x 69)),oXI 71 0])
 (bl 4 (lp (q (R [ox 72 (.bin .lss (.x 71) (.x 70))])
 (q (k (.x 72) .skip (ex 4))
 (q (bl 5 (q (R [oTX 73 71,ot 74 (.idx 4 (.x 69) (.x 71)),ot 75 (.loadn 4 (.t 74)),ox 15 (.alloc [pF,.lit [],pF,.lit []]),oXT 14 73,oS 4 15 75])
 (q (D [⟨oG 76 0 15,.free,0,2⟩,⟨ot 77 (.loadn 2 (.t 76)),.read,0,2⟩,⟨ot 78 (.loadn 2 (.x 6)),.read,0,1⟩,⟨oG 79 2 15,.free,0,1⟩,⟨ot 80 (.loadn 2 (.t 79)),.read,0,1⟩,⟨oC 81 67 [.x 5,.t 78,.t 80],.write,0,2⟩,⟨oC 82 66 [.x 5,.t 77,.t 81],.write,1,3⟩,⟨ox 16 (.alloc [pF,.lit []]),.fresh,0,3⟩,⟨oS 2 16 82,.write,3,4⟩])
 (q (D [dF (oG 83 6 1),dH (oL 84 83),dF (oTX 85 14),dH (oI 86 1 84 85),dH (oL 87 86),dF (oG 88 6 1),dH (oL 89 88),dF (oTX 90 14),dH (oI 91 1 89 90),dH (oL 92 91),⟨oC 93 28 [.x 5,.t 87,.t 92],.write,0,1⟩,⟨oXT 17 93,.free,1,1⟩])
 (R [oTX 94 11,ot 95 (.loadn 2 (.x 16)),oC 96 29 [.t 95],oTX 97 17,oC 98 28 [.x 5,.t 96,.t 97],oC 99 68 [.x 5,.t 94,.t 98],oXT 11 99])))))
 (R [oB 100 .add (.x 71) (i 1),oXT 71 100])))))))
 (q (q (R [oG 101 0 5,oL 102 101,ox 103 (.bin .neq (.t 102) (i 0))])
 (k (.x 103) (q (D [dF (ot 104 (.build [pF,.lit []] [])),⟨oG 105 0 5,.free,0,1⟩,⟨oL 106 105,.read,0,1⟩,dF (oN 2),⟨oS 2 3 104,.write,0,1⟩,⟨oXT 4 106,.free,1,1⟩])
 .ret) .skip))
 (q (D [dF (oTX 107 11),dH (ot 108 (.loadn 2 (.x 6))),dF (oXT 2 107),⟨oS 2 3 108,.write,0,1⟩,⟨oXI 4 0,.free,1,1⟩])
 .ret))))))))))),
 [.mov (.x 2),.loadn 2 (.x 3),.mov (.x 4)],[],false,1⟩
def K28:SFunc:=⟨(rG [oN 6]
 (q (q (R [oTX 9 0,ot 10 (.nilck (.t 9)),oF 11 0 10,oL 12 11,ox 13 (.bin .neq (.t 12) (i 0))])
 (k (.x 13) (q (R [oN 6])
 .ret) .skip))
 (rG [oTX 15 1,oTX 16 2,oC 17 69 [.t 15,.t 16],oM 14 17,oE 18 14 0,oE 19 14 1,oXT 7 18,oXT 8 19]
 (rG [oTX 20 0,oTX 21 8,oC 22 65 [.t 20,.t 21]]
 (rG [oTX 23 7,oXT 6 23]
 .ret))))),
 [.mov (.x 6)],[],false,3⟩
def K29:SFunc:=⟨(rG [ox 1 (.box (.x 0)),oN 2]
 (rG [ot 3 (.loadn 2 (.x 1)),ot 4 (.build [pF,.lit [],.lit []] [(0,2,.t 3)]),ot 5 (.slit [.v (bF),.sl [],.sl []] 1 [(0,.t 4)]),oXT 2 5]
 .ret)),
 [.mov (.x 2)],[],false,1⟩
def K30:SFunc:=⟨(rG [oK 4]
 (rG [oTX 5 0,oTX 6 1,oC 7 70 [.t 5,.t 6,(.f 71)],oXT 4 7]
 .ret)),
 [.mov (.x 4)],[],false,2⟩
def K31:SFunc:=⟨(rG [ox 4 (.alloc [pF,.lit [],pF,.lit []]),oXI 5 0]
 (rG [oTX 6 0,oC 7 63 [.t 6],oTX 8 1,oC 9 63 [.t 8],oC 10 74 [.t 7,.t 9],oE 11 10 0,oE 12 10 1,oS 4 4 11,oXT 5 12]
 .ret)),
 [.loadn 4 (.x 4),.mov (.x 5)],[],false,2⟩
def K32:SFunc:=⟨(rG [oXI 4 0,oXI 5 0]
 (q (q (R [oTX 7 0,oTX 8 1,oC 9 55 [.t 7,.t 8],oXT 6 9])
 (rG [oTX 10 6,ox 11 (.bin .neq (.t 10) (i 0))]
 (k (.x 11) (q (R [oTX 12 6,oXI 4 0,oXT 5 12])
 .ret) .skip)))
 (rG [oTX 13 0,oTX 14 1,oI 15 12 13 14,ot 16 (.loadn 12 (.t 15)),oC 17 54 [.t 16],oXT 4 17,oXI 5 0]
 .ret))),
 [.mov (.x 4),.mov (.x 5)],[],false,2⟩
def K33:SFunc:=⟨(rG [ox 1 (.box (.x 0)),ox 2 (.mov (C (.nilFunc)))]
 (rG [ot 3 (.mkfn (.func 75) [] [.x 1]),oXT 2 3]
 .ret)),
 [.mov (.x 2)],[],false,1⟩
def K34:SFunc:=⟨(rG [ox 2 (.box (.x 0)),ox 3 (.box (.x 1)),oK 4]
 (rG [oG 8 1 3,oL 9 8,ox 5 (.alloc [.lit []]),oS 1 5 9]
 (q (q (R [oG 10 0 3,ox 11 (.load1 (.t 10))])
 (bl 0 (q (R [oB 13 .eql (.x 11) (i 2),oXT 12 13])
 (k (.x 12) (q (D [dH (ot 14 (.load1 (.x 2))),dH (ot 15 (.load1 (.x 5))),dH (ot 16 (.idx 1 (.t 15) (i 0))),dH (oL 17 16),dH (ot 18 (.load1 (.x 5))),dH (ot 19 (.idx 1 (.t 18) (i 1))),dH (oL 20 19),⟨oC 21 79 [.t 14,.t 17,.t 20],.write,0,1⟩,⟨oXT 4 21,.free,1,1⟩])
 .ret) (q (R [oB 23 .eql (.x 11) (i 3),oXT 22 23])
 (k (.x 22) (q (D [dH (ot 24 (.load1 (.x 2))),dH (ot 25 (.load1 (.x 5))),dH (ot 26 (.idx 1 (.t 25) (i 0))),dH (oL 27 26),dH (ot 28 (.load1 (.x 5))),dH (ot 29 (.idx 1 (.t 28) (i 1))),dH (oL 30 29),⟨oC 31 80 [.t 24,(i 11),.t 27,.t 30],.write,0,1⟩,⟨oXT 4 31,.free,1,1⟩])
 .ret) (q (R [oB 33 .eql (.x 11) (i 4),oXT 32 33])
 (k (.x 32) (q (D [dH (ot 34 (.load1 (.x 2))),dH (ot 35 (.load1 (.x 5))),dH (ot 36 (.idx 1 (.t 35) (i 0))),dH (oL 37 36),dH (ot 38 (.load1 (.x 5))),dH (ot 39 (.idx 1 (.t 38) (i 1))),dH (oL 40 39),⟨oC 41 80 [.t 34,(i 10),.t 37,.t 40],.write,0,1⟩,⟨oXT 4 41,.free,1,1⟩])
 .ret) (q (R [oB 43 .eql (.x 11) (i 6),oXT 42 43])
 (k (.x 42) (q (D [dH (ot 44 (.load1 (.x 2))),dH (ot 45 (.load1 (.x 5))),dH (ot 46 (.load1 (.x 2))),dF (ot 47 (.nilck (.t 46))),dF (oF 48 2 47),dH (oL 49 48),⟨oC 50 81 [.t 44,.t 45,.t 49],.write,0,1⟩,⟨oM 51 50,.free,1,1⟩,⟨gF 52 (.load1 (.x 2)) 51,.here,1,1⟩,⟨gF 53 (.load1 (.x 5)) 51,.here,1,1⟩,⟨gF 54 (.idx 1 (.t 53) (i 0)) 51,.here,1,1⟩,⟨gF 55 (.load1 (.t 54)) 51,.here,1,1⟩,⟨gF 56 (.load1 (.x 5)) 51,.here,1,1⟩,⟨gF 57 (.idx 1 (.t 56) (i 1)) 51,.here,1,1⟩,⟨gF 58 (.load1 (.t 57)) 51,.here,1,1⟩,⟨gF 59 (.load1 (.x 5)) 51,.here,1,1⟩,⟨gF 60 (.idx 1 (.t 59) (i 2)) 51,.here,1,1⟩,⟨gF 61 (.load1 (.t 60)) 51,.here,1,1⟩,⟨gF 62 (.call (.f 82) [.t 52,.t 55,.t 58,.t 61]) 51,.write,1,2⟩,⟨ot 63 (.pick (.t 51) (C bT) (.t 62)),.free,2,2⟩,⟨oM 64 63,.free,2,2⟩,⟨gF 65 (.load1 (.x 2)) 64,.here,2,2⟩,⟨gF 66 (.load1 (.x 5)) 64,.here,2,2⟩,⟨gF 67 (.idx 1 (.t 66) (i 1)) 64,.here,2,2⟩,⟨gF 68 (.load1 (.t 67)) 64,.here,2,2⟩,⟨gF 69 (.load1 (.x 5)) 64,.here,2,2⟩,⟨gF 70 (.idx 1 (.t 69) (i 0)) 64,.here,2,2⟩,⟨gF 71 (.load1 (.t 70)) 64,.here,2,2⟩,⟨gF 72 (.load1 (.x 5)) 64,.here,2,2⟩,⟨gF 73 (.idx 1 (.t 72) (i 2)) 64,.here,2,2⟩,⟨gF 74 (.load1 (.t 73)) 64,.here,2,2⟩,⟨gF 75 (.call (.f 82) [.t 65,.t 68,.t 71,.t 74]) 64,.write,2,3⟩,⟨ot 76 (.pick (.t 64) (C bT) (.t 75)),.free,3,3⟩,⟨oM 77 76,.free,3,3⟩,⟨gF 78 (.load1 (.x 2)) 77,.here,3,3⟩,⟨gF 79 (.load1 (.x 5)) 77,.here,3,3⟩,⟨gF 80 (.idx 1 (.t 79) (i 2)) 77,.here,3,3⟩,⟨gF 81 (.load1 (.t 80)) 77,.here,3,3⟩,⟨gF 82 (.load1 (.x 5)) 77,.here,3,3⟩,⟨gF 83 (.idx 1 (.t 82) (i 0)) 77,.here,3,3⟩,⟨gF 84 (.load1 (.t 83)) 77,.here,3,3⟩,⟨gF 85 (.load1 (.x 5)) 77,.here,3,3⟩,⟨gF 86 (.idx 1 (.t 85) (i 1)) 77,.here,3,3⟩,⟨gF 87 (.load1 (.t 86)) 77,.here,3,3⟩,⟨gF 88 (.call (.f 82) [.t 78,.t 81,.t 84,.t 87]) 77,.write,3,4⟩,⟨ot 89 (.pick (.t 77) (C bT) (.t 88)),.free,4,4⟩,⟨oXT 4 89,.free,4,4⟩])
 .ret) (q (R [oB 91 .eql (.x 11) (i 7),oXT 90 91])
 (k (.x 90) (q (R [ot 92 (.load1 (.x 2)),ot 93 (.nilck (.t 92)),oF 94 1 93,oL 95 94,ot 96 (.mkfn (.func 84) [] [.x 2,.x 5]),oC 97 83 [.t 95,.t 96],oXT 4 97])
 .ret) (q (R [oB 99 .eql (.x 11) (i 8),oXT 98 99])
 (k (.x 98) (q (D [dH (ot 100 (.load1 (.x 2))),dH (ot 101 (.load1 (.x 5))),dH (ot 102 (.load1 (.x 2))),dF (ot 103 (.nilck (.t 102))),dF (oF 104 3 103),dH (oL 105 104),⟨oC 106 81 [.t 100,.t 101,.t 105],.write,0,1⟩,⟨oXT 4 106,.free,1,1⟩])
 .ret) (q (R [oB 108 .eql (.x 11) (i 5),oXT 107 108])
 (k (.x 107) (q (R [ot 109 (.build [p0,p0,p0] [(0,1,(i 0)),(1,1,(i 1)),(2,1,(i 2))]),ot 110 (.build [p0,p0,p0] [(0,1,(i 1)),(1,1,(i 0)),(2,1,(i 2))]),ot 111 (.build [p0,p0,p0] [(0,1,(i 0)),(1,1,(i 1)),(2,1,(i 3))]),ot 112 (.build [p0,p0,p0] [(0,1,(i 1)),(1,1,(i 0)),(2,1,(i 3))]),ox 113 (.slit [.v (I .i64 0),.v (I .i64 0),.v (I .i64 0)] 4 [(0,.t 109),(1,.t 110),(2,.t 111),(3,.t 112)]),ox 114 (.len (.x 113)),oXI 115 0])
 (bl 1 (lp (q (R [ox 116 (.bin .lss (.x 115) (.x 114))])
 (q (k (.x 116) .skip (ex 1))
 (q (bl 2 (q (R [ot 117 (.idx 3 (.x 113) (.x 115)),ot 118 (.loadn 3 (.t 117)),ox 7 (.alloc [p0,p0,p0]),oS 3 7 118])
 (q (D [dH (ot 119 (.load1 (.x 5))),dF (ot 120 (.idxA 3 1 (.x 7) (i 0))),dH (oL 121 120),dH (oI 122 1 119 121),dH (oL 123 122),dH (ot 124 (.load1 (.x 5))),dF (ot 125 (.idxA 3 1 (.x 7) (i 2))),dH (oL 126 125),dH (oI 127 1 124 126),dH (oL 128 127),dF (oB 129 .eql (.t 123) (.t 128)),dF (oM 130 129),dH (gT 131 (.load1 (.x 2)) 130),dH (gT 132 (.load1 (.x 5)) 130),dF (gT 133 (.idxA 3 1 (.x 7) (i 0)) 130),dH (gT 134 (.load1 (.t 133)) 130),dH (gT 135 (.idx 1 (.t 132) (.t 134)) 130),dH (gT 136 (.load1 (.t 135)) 130),dH (gT 137 (.load1 (.x 5)) 130),dF (gT 138 (.idxA 3 1 (.x 7) (i 1)) 130),dH (gT 139 (.load1 (.t 138)) 130),dH (gT 140 (.idx 1 (.t 137) (.t 139)) 130),dH (gT 141 (.load1 (.t 140)) 130),dH (gT 142 (.load1 (.x 5)) 130),dF (gT 143 (.idxA 3 1 (.x 7) (i 2)) 130),dH (gT 144 (.load1 (.t 143)) 130),dF (gT 145 (.bin .sub (i 5) (.t 144)) 130),dH (gT 146 (.idx 1 (.t 142) (.t 145)) 130),dH (gT 147 (.load1 (.t 146)) 130),⟨gT 148 (.call (.f 82) [.t 131,.t 136,.t 141,.t 147]) 130,.write,0,1⟩,⟨ox 149 (.pick (.t 130) (.t 148) (C bF)),.free,1,1⟩])
 (k (.x 149) (q (R [ox 4 (.mov (C bT))])
 .ret) .skip))))
 (R [oB 150 .add (.x 115) (i 1),oXT 115 150]))))))) .skip))))))))))))))))
 (rG [oK 4]
 .ret)))),
 [.mov (.x 4)],[],false,2⟩
def K35:SFunc:=⟨(rG [ox 3 (.box (.x 0)),ox 4 (.box (.x 1)),ox 5 (.box (.x 2)),oXI 6 0]
 (rG [ox 7 (.alloc [p0]),o0 (.store 1 (.x 7) (i 1))]
 (rG [ot 9 (.mkfn (.func 85) [] [.x 4,.x 7,.x 3,.x 5]),oXT 8 9]
 (q (bl 0 (lp (q (q (R [ot 10 (.load1 (.x 4)),ox 11 (.bin .gtr (.t 10) (i 0))])
 (k (.x 11) .skip (ex 0)))
 (q (bl 1 (R [oTX 14 8,ot 15 (.call (.t 14) [])]))
 (R [ot 12 (.load1 (.x 4)),ot 13 (.bin .shr (.t 12) (C (I .u64 1))),oS 1 4 13])))))
 (rG [ot 16 (.load1 (.x 7)),oXT 6 16]
 .ret))))),
 [.mov (.x 6)],[],false,3⟩
def K36:SFunc:=⟨(rG [oXI 6 0]
 (rG [oTX 7 0,oTX 8 1,oB 9 .mul (.t 7) (.t 8),oTX 10 2,oB 11 .rem (.t 9) (.t 10),oXT 6 11]
 .ret)),
 [.mov (.x 6)],[],false,3⟩
def K37:SFunc:=⟨(rG [oN 2,oXI 3 0]
 (q (q (R [oTX 8 0,oC 9 22 [.t 8],oXT 4 9])
 (rG [oTX 10 4,ox 11 (.bin .neq (.t 10) (i 0))]
 (k (.x 11) (q (R [oTX 12 4,oN 2,oXT 3 12])
 .ret) .skip)))
 (rG [oN 5]
 (q (q (R [ox 13 (.mov (.x 0)),ox 14 (.len (.x 13)),oXI 15 0])
 (bl 0 (lp (q (R [ox 16 (.bin .lss (.x 15) (.x 14))])
 (q (k (.x 16) .skip (ex 0))
 (q (bl 1 (q (R [oTX 17 15,ot 18 (.idx 12 (.x 13) (.x 15)),ot 19 (.loadn 12 (.t 18)),ox 7 (.alloc [.p (.v (Y [])),p0,.lit [],pF,.lit [],pF,.lit [],pF,.lit [],pF,.lit [],p0]),oXT 6 17,oS 12 7 19])
 (rG [ot 20 (.loadn 12 (.x 7)),ox 21 (.call (.f 50) [.t 20])]
 (k (.x 21) (R [oTX 22 5,oTX 23 6,ot 24 (.slit [.v (I .i64 0)] 1 [(0,.t 23)]),ot 25 (.append 8 1 (.t 22) (.t 24)),oXT 5 25]) .skip))))
 (R [oB 26 .add (.x 15) (i 1),oXT 15 26])))))))
 (rG [oTX 27 5,oXT 2 27,oXI 3 0]
 .ret))))),
 [.mov (.x 2),.mov (.x 3)],[],false,1⟩
def K38:SFunc:=⟨(rG [oN 6,oXI 7 0]
 (q (q (R [oTX 14 0,oC 15 22 [.t 14],oXT 8 15])
 (rG [oTX 16 8,ox 17 (.bin .neq (.t 16) (i 0))]
 (k (.x 17) (q (R [oTX 18 8,oN 6,oXT 7 18])
 .ret) .skip)))
 (q (bl 0 (q (R [oTX 20 1,oC 21 18 [.t 20],ot 22 (.un .not (.t 21)),oXT 19 22])
 (k (.x 19) (q (R [oN 6,oXI 7 150])
 .ret) (q (R [oTX 24 2,oB 25 .lss (.t 24) (i 0),oM 26 25,gF 27 (.mov (.x 2)) 26,gF 28 (.bin .gtr (.t 27) (i 1000000)) 26,ot 29 (.pick (.t 26) (C bT) (.t 28)),oXT 23 29])
 (k (.x 23) (q (R [oN 6,oXI 7 1])
 .ret) .skip)))))
 (rG [oTX 31 0,oC 32 86 [.t 31],oM 30 32,oE 33 30 0,oE 34 30 1,oXT 9 33,oM 10 34]
 (rG [oN 11]
 (q (q (R [oTX 35 9,ox 36 (.len (.t 35)),oXI 37 0])
 (bl 1 (lp (q (R [ox 38 (.bin .lss (.x 37) (.x 36))])
 (q (k (.x 38) .skip (ex 1))
 (q (bl 2 (q (R [oTX 39 37,oXT 12 39])
 (rG [oTX 40 2,oB 41 .mul (i 7919) (.t 40),oTX 42 12,oB 43 .mul (i 104729) (.t 42),oB 44 .add (.t 41) (.t 43),oB 45 .add (.t 44) (i 1),oTX 46 1,oB 47 .rem (.t 45) (.t 46),oXT 13 47]
 (R [oTX 48 11,oTX 49 13,oTX 50 13,oB 51 .add (.t 50) (i 1),oB 52 .mul (.t 49) (.t 51),oTX 53 12,oB 54 .add (.t 52) (.t 53),oTX 55 1,oB 56 .rem (.t 54) (.t 55),ot 57 (.slit [.v (I .i64 0)] 1 [(0,.t 56)]),ot 58 (.append 8 1 (.t 48) (.t 57)),oXT 11 58]))))
 (R [oB 59 .add (.x 37) (i 1),oXT 37 59])))))))
 (rG [oTX 60 11,oXT 6 60,oXI 7 0]
 .ret))))))),
 [.mov (.x 6),.mov (.x 7)],[],false,3⟩
def K39:SFunc:=⟨(rG [oN 8,oK 9,oXI 10 0]
 (q (q (R [oTX 22 0,oTX 23 1,oTX 24 2,oTX 25 3,oC 26 42 [.t 22,.t 23,.t 24,.t 25],oXT 11 26])
 (rG [oTX 27 11,ox 28 (.bin .neq (.t 27) (i 0))]
 (k (.x 28) (q (R [oTX 29 11,oN 8,oK 9,oXT 10 29])
 .ret) .skip)))
 (rG [oTX 31 0,oC 32 87 [.t 31],oM 30 32,oE 33 30 0,oE 34 30 1,ox 12 (.alloc [p0,.lit [],.lit [],.lit []]),oS 4 12 33,oXT 13 34]
 (q (q (R [oTX 35 13,ox 36 (.bin .neq (.t 35) (i 0))])
 (k (.x 36) (q (R [oTX 37 13,oN 8,oK 9,oXT 10 37])
 .ret) .skip))
 (rG [ot 39 (.loadn 4 (.x 12)),oTX 40 1,oTX 41 2,oTX 42 3,oC 43 44 [.t 39,.t 40,.t 41,.t 42],oM 38 43,oE 44 38 0,oE 45 38 1,oXT 14 44,oXT 15 45]
 (q (q (R [oTX 46 15,ox 47 (.un .not (.t 46))])
 (k (.x 47) (q (R [oN 8,oK 9,oXI 10 0])
 .ret) .skip))
 (rG [oN 16]
 (q (q (R [oG 48 2 12,ox 49 (.load1 (.t 48)),ox 50 (.len (.x 49)),oXI 51 0])
 (bl 0 (lp (q (R [ox 52 (.bin .lss (.x 51) (.x 50))])
 (q (k (.x 52) .skip (ex 0))
 (q (bl 1 (q (R [ot 53 (.idx 1 (.x 49) (.x 51)),oL 54 53,oXT 18 54])
 (rG [oN 19]
 (q (q (R [ox 55 (.mov (.x 18)),ox 56 (.len (.x 55)),oXI 57 0])
 (bl 2 (lp (q (R [ox 58 (.bin .lss (.x 57) (.x 56))])
 (q (k (.x 58) .skip (ex 2))
 (q (bl 3 (q (R [ot 59 (.idx 1 (.x 55) (.x 57)),oL 60 59,oXT 21 60])
 (R [oTX 61 19,oTX 62 14,oTX 63 21,oI 64 1 62 63,oL 65 64,ot 66 (.slit [.v (I .i64 0)] 1 [(0,.t 65)]),ot 67 (.append 8 1 (.t 61) (.t 66)),oXT 19 67])))
 (R [oB 68 .add (.x 57) (i 1),oXT 57 68])))))))
 (R [oTX 69 16,oTX 70 19,ot 71 (.slit [.sl []] 1 [(0,.t 70)]),ot 72 (.append 24 1 (.t 69) (.t 71)),oXT 16 72])))))
 (R [oB 73 .add (.x 51) (i 1),oXT 51 73])))))))
 (rG [oTX 74 16,oXT 8 74,ox 9 (.mov (C bT)),oXI 10 0]
 .ret))))))))),
 [.mov (.x 8),.mov (.x 9),.mov (.x 10)],[],false,4⟩
def K40:SFunc:=⟨(rG [oK 4]
 (rG [oTX 5 0,oTX 6 1,oC 7 88 [.t 5,.t 6],oB 8 .geq (.t 7) (i 0),oXT 4 8]
 .ret)),
 [.mov (.x 4)],[],false,2⟩
def K41:SFunc:=⟨(rG [oK 2]
 (rG [oXI 3 3]
 (q (q (R [oTX 4 0,oJ 5 4,ox 6 (.bin .gtr (.t 5) (i 3))])
 (k (.x 6) (R [oXI 3 4]) .skip))
 (rG [oTX 7 0,oTX 8 3,ot 9 (.slice 1 (.t 7) none (some (.t 8)) none),oC 10 83 [.t 9,(.f 89)],ot 11 (.un .not (.t 10)),oXT 2 11]
 .ret)))),
 [.mov (.x 2)],[],false,1⟩
def K42:SFunc:=⟨(rG [oXI 8 0]
 (q (q (R [oTX 16 0,oC 17 22 [.t 16],oXT 9 17])
 (rG [oTX 18 9,ox 19 (.bin .neq (.t 18) (i 0))]
 (k (.x 19) (q (R [oTX 20 9,oXT 8 20])
 .ret) .skip)))
 (rG [oTX 22 0,oC 23 86 [.t 22],oM 21 23,oE 24 21 0,oE 25 21 1,oXT 10 24,oM 11 25]
 (rG [oTX 27 0,oC 28 37 [.t 27],oM 26 28,oE 29 26 0,oE 30 26 1,oXT 12 29,oM 13 30]
 (q (bl 0 (q (R [oTX 32 1,oC 33 18 [.t 32],ot 34 (.un .not (.t 33)),oXT 31 34])
 (k (.x 31) (q (R [oXI 8 150])
 .ret) (q (R [oTX 36 2,oJ 37 36,oTX 38 10,oJ 39 38,oB 40 .neq (.t 37) (.t 39),oXT 35 40])
 (k (.x 35) (q (R [oXI 8 1])
 .ret) (q (R [oTX 42 3,oJ 43 42,oTX 44 12,oJ 45 44,oB 46 .neq (.t 43) (.t 45),oXT 41 46])
 (k (.x 41) (q (R [oXI 8 140])
 .ret) .skip)))))))
 (q (q (R [ox 47 (.mov (.x 3)),ox 48 (.len (.x 47)),oXI 49 0])
 (bl 1 (lp (q (R [ox 50 (.bin .lss (.x 49) (.x 48))])
 (q (k (.x 50) .skip (ex 1))
 (q (bl 2 (q (R [ot 51 (.idx 1 (.x 47) (.x 49)),oL 52 51,oXT 15 52])
 (rG [oTX 53 15,oB 54 .neq (.t 53) (i 1),oM 55 54,gT 56 (.mov (.x 15)) 55,gT 57 (.bin .neq (.t 56) (i (-1))) 55,ox 58 (.pick (.t 55) (.t 57) (C bF))]
 (k (.x 58) (q (R [oXI 8 140])
 .ret) .skip))))
 (R [oB 59 .add (.x 49) (i 1),oXT 49 59])))))))
 (rG [oXI 8 0]
 .ret))))))),
 [.mov (.x 8)],[],false,4⟩
def K43:SFunc:=⟨(rG [ox 3 (.box (.x 1)),ox 4 (.alloc [p0,.lit [],.lit [],.lit []]),oN 5,oXI 6 0]
 (rG [oTX 20 0,oC 21 87 [.t 20],oM 19 21,oE 22 19 0,oE 23 19 1,ox 7 (.alloc [p0,.lit [],.lit [],.lit []]),oS 4 7 22,oXT 8 23]
 (q (q (R [oTX 24 8,ox 25 (.bin .neq (.t 24) (i 0))])
 (k (.x 25) (q (R [ot 26 (.build [p0,.lit [],.lit [],.lit []] []),oTX 27 8,oS 4 4 26,oN 5,oXT 6 27])
 .ret) .skip))
 (q (q (R [oTX 28 0,ot 29 (.loadn 2 (.x 3)),oC 30 23 [.t 28,.t 29],oXT 9 30])
 (rG [oTX 31 9,ox 32 (.bin .neq (.t 31) (i 0))]
 (k (.x 32) (q (R [ot 33 (.build [p0,.lit [],.lit [],.lit []] []),oTX 34 9,oS 4 4 33,oN 5,oXT 6 34])
 .ret) .skip)))
 (rG [ot 35 (.loadn 4 (.x 7)),ot 36 (.build [p0,.lit [],.lit [],.lit [],.p (.v (.map none)),p0] [(0,4,.t 35)]),ot 37 (.box (.t 36)),oXT 10 37]
 (rG [oN 11]
 (rG [oN 12]
 (q (q (R [oG 38 1 3,ox 39 (.load1 (.t 38)),ox 40 (.len (.x 39)),oXI 41 0])
 (bl 0 (lp (q (R [ox 42 (.bin .lss (.x 41) (.x 40))])
 (q (k (.x 42) .skip (ex 0))
 (q (bl 1 (q (R [ot 43 (.idx 1 (.x 39) (.x 41)),oL 44 43,oXT 14 44])
 (rG [oTX 46 0,oTX 47 14,oC 48 32 [.t 46,.t 47],oM 45 48,oE 49 45 0,oE 50 45 1,oXT 15 49,oM 16 50]
 (rG [oTX 51 11,oG 52 2 7,oL 53 52,oTX 54 14,oI 55 1 53 54,oL 56 55,ot 57 (.slit [.sl []] 1 [(0,.t 56)]),ot 58 (.append 24 1 (.t 51) (.t 57)),oXT 11 58]
 (R [oTX 59 12,oTX 60 15,ot 61 (.slit [.v (I .i64 0)] 1 [(0,.t 60)]),ot 62 (.append 8 1 (.t 59) (.t 61)),oXT 12 62])))))
 (R [oB 63 .add (.x 41) (i 1),oXT 41 63])))))))
 (rG [oTX 64 12,oJ 65 64,oB 66 .eql (.t 65) (i 2),oM 67 66,gT 68 (.mov (.x 12)) 67,gT 69 (.idx 1 (.t 68) (i 1)) 67,gT 70 (.load1 (.t 69)) 67,gT 71 (.bin .eql (.t 70) (i 3)) 67,ot 72 (.pick (.t 67) (.t 71) (C bF)),oXT 17 72]
 (rG [oTX 73 10,oTX 74 11,oTX 75 12,oG 76 0 3,oL 77 76,oB 78 .eql (.t 77) (i 7),oC 79 90 [.t 73,.t 74,.t 75,.t 78]]
 (rG [oTX 80 10,oG 81 0 3,oL 82 81,oTX 83 17,oC 84 92 [.t 82,.t 83],oC 85 91 [.t 80,.t 84],oXT 18 85]
 (rG [oTX 86 10,ot 87 (.nilck (.t 86)),oF 88 0 87,ot 89 (.loadn 4 (.t 88)),oTX 90 18,oS 4 4 89,oXT 5 90,oXI 6 0]
 .ret)))))))))))),
 [.loadn 4 (.x 4),.mov (.x 5),.mov (.x 6)],[],false,2⟩
def K44:SFunc:=⟨(rG [ox 4 (.box (.x 0)),ox 8 (.alloc [.lit []]),ox 9 (.alloc [pF])]
 (q .skip
 (rG [oN 10]
 (q (q (R [ox 14 (.mov (.x 2)),ox 15 (.len (.x 14)),oXI 16 0])
 (bl 0 (lp (q (R [ox 17 (.bin .lss (.x 16) (.x 15))])
 (q (k (.x 17) .skip (ex 0))
 (q (bl 1 (q (R [ot 18 (.idx 1 (.x 14) (.x 16)),oL 19 18,oXT 12 19])
 (rG [oTX 21 12,oTX 22 1,oC 23 94 [.t 21,.t 22],oM 20 23,oE 24 20 0,oE 25 20 1,oXT 12 24]
 (R [oTX 26 10,oTX 27 12,ot 28 (.slit [.v (I .i64 0)] 1 [(0,.t 27)]),ot 29 (.append 8 1 (.t 26) (.t 28)),oXT 10 29]))))
 (R [oB 30 .add (.x 16) (i 1),oXT 16 30])))))))
 (q (D [⟨ot 32 (.loadn 4 (.x 4)),.read,0,1⟩,dF (oTX 33 1),dF (oTX 34 3),⟨oC 35 96 [.t 33,.t 34],.write,0,1⟩,⟨oTX 36 10,.free,0,1⟩,⟨oC 37 95 [.t 32,.t 35,.t 36],.write,1,2⟩,⟨oM 31 37,.free,2,2⟩,⟨oE 38 31 0,.free,2,2⟩,⟨oE 39 31 1,.free,2,3⟩,⟨oS 1 8 38,.write,2,3⟩])
 (rG [ot 40 (.load1 (.x 8)),oS 1 8 40,o0 (.store 1 (.x 9) (C bT))]
 .ret)))))),
 [.load1 (.x 8),.load1 (.x 9)],[],false,4⟩
def K45:SFunc:=⟨(rG [ox 4 (.box (.x 1)),oXI 6 0]
 (q (q (R [oTX 8 0,ot 9 (.loadn 2 (.x 4)),oC 10 23 [.t 8,.t 9],oXT 7 10])
 (rG [oTX 11 7,ox 12 (.bin .neq (.t 11) (i 0))]
 (k (.x 12) (q (R [oTX 13 7,oXT 6 13])
 .ret) .skip)))
 (q (q (R [oTX 14 2,oB 15 .lss (.t 14) (i 0),oM 16 15,gF 17 (.mov (.x 2)) 16,gF 18 (.bin .gtr (.t 17) (i 4096)) 16,ox 19 (.pick (.t 16) (C bT) (.t 18))])
 (k (.x 19) (q (R [oXI 6 1])
 .ret) .skip))
 (rG [oXI 6 0]
 .ret)))),
 [.mov (.x 6)],[],false,3⟩
def K46:SFunc:=⟨(rG [ox 3 (.box (.x 1)),oN 4,oK 5]
 (rG [oTX 18 0,ot 19 (.loadn 2 (.x 3)),oC 20 97 [.t 18,.t 19],oM 17 20,oE 21 17 0,oE 22 17 1,oE 23 17 2,oXT 6 21,oXT 7 22,oXT 8 23]
 (q (q (R [oTX 24 8,ox 25 (.bin .neq (.t 24) (i 0))])
 (k (.x 25) (q (R [oN 4,oK 5])
 .ret) .skip))
 (rG [oTX 27 0,oC 28 86 [.t 27],oM 26 28,oE 29 26 0,oE 30 26 1,oXT 9 29,oM 10 30]
 (rG [oN 11]
 (q (q (R [ox 31 (.mov (.x 6)),ox 32 (.len (.x 31)),oXI 33 0])
 (bl 0 (lp (q (R [ox 34 (.bin .lss (.x 33) (.x 32))])
 (q (k (.x 34) .skip (ex 0))
 (q (bl 1 (q (R [ot 35 (.idx 1 (.x 31) (.x 33)),oL 36 35,oXT 13 36])
 (rG [oTX 38 13,oTX 39 7,oTX 40 9,oJ 41 40,oC 42 98 [.t 38,.t 39,.t 41],oM 37 42,oE 43 37 0,oE 44 37 1,oE 45 37 2,oXT 14 43,oXT 15 44,oXT 16 45]
 (q (q (R [oTX 46 16,oB 47 .neq (.t 46) (i 0),oM 48 47,gF 49 (.mov (.x 14)) 48,gF 50 (.len (.t 49)) 48,gF 51 (.bin .gtr (.t 50) (i 0)) 48,ox 52 (.pick (.t 48) (C bT) (.t 51))])
 (k (.x 52) (q (R [oN 4,oK 5])
 .ret) .skip))
 (R [oTX 53 11,oTX 54 9,oJ 55 54,oTX 56 7,oJ 57 56,oB 58 .add (.t 55) (.t 57),oTX 59 13,oC 60 99 [.t 59],oTX 61 7,oC 62 100 [.t 61],oC 63 101 [(i 1)],oTX 64 15,ot 65 (.build [p0,.lit [],.lit [],.lit [],.lit [],.lit [],.lit []] [(0,1,.t 58),(1,1,.t 60),(2,1,.t 62),(3,1,.t 63),(4,1,.t 64)]),ot 66 (.slit [.v (I .i64 0),.sl [],.sl [],.sl [],.sl [],.sl [],.sl []] 1 [(0,.t 65)]),ot 67 (.append 152 7 (.t 53) (.t 66)),oXT 11 67])))))
 (R [oB 68 .add (.x 33) (i 1),oXT 33 68])))))))
 (rG [oTX 69 11,oXT 4 69,ox 5 (.mov (C bT))]
 .ret))))))),
 [.mov (.x 4),.mov (.x 5)],[],false,2⟩
def K47:SFunc:=⟨(rG [oN 2,ox 3 (.alloc [p0,p0,.lit [],.lit [],.lit [],.lit [],.lit [],.lit [],.lit [],.lit [],p0]),oXI 4 0]
 (rG [ot 6 (.build [p0,p0,.lit [],.lit [],.lit [],.lit [],.lit [],.lit [],.lit [],.lit [],p0] [(0,1,(i 1))]),ox 5 (.alloc [p0,p0,.lit [],.lit [],.lit [],.lit [],.lit [],.lit [],.lit [],.lit [],p0]),oS 11 5 6]
 (q (q (R [oTX 7 0,oJ 8 7,ox 9 (.bin .gtr (.t 8) (i 0))])
 (k (.x 9) (R [oTX 10 0,ot 11 (.idx 7 (.t 10) (i 0)),ot 12 (.loadn 7 (.t 11)),oC 13 102 [.t 12],oG 14 1 5,o0 (.store 7 (.t 14) (.t 13))]) .skip))
 (q (D [dF (oTX 15 0),dH (ot 16 (.loadn 11 (.x 5))),dF (oXT 2 15),⟨oS 11 3 16,.write,0,1⟩,⟨oXI 4 0,.free,1,1⟩])
 .ret)))),
 [.mov (.x 2),.loadn 11 (.x 3),.mov (.x 4)],[],false,1⟩
def K49:SFunc:=⟨(rG [oK 2]
 (rG [oTX 12 0,oJ 13 12,oB 14 .sub (.t 13) (i 1),oXT 3 14]
 (rG [oTX 15 0,oTX 16 3,oI 17 12 15 16,ot 18 (.loadn 12 (.t 17)),ox 4 (.alloc [.p (.v (Y [])),p0,.lit [],pF,.lit [],pF,.lit [],pF,.lit [],pF,.lit [],p0]),oS 12 4 18]
 (rG [oG 20 1 4,oL 21 20,oC 22 106 [.t 21],oM 19 22,oE 23 19 0,oE 24 19 1,oE 25 19 2,oXT 5 23,oXT 6 24,oXT 7 25]
 (q (q (R [oTX 26 6,oB 27 .eql (.t 26) (i 0),oM 28 27,gF 29 (.mov (.x 5)) 28,gF 30 (.len (.t 29)) 28,gF 31 (.fadr 2 (.x 4)) 28,gF 32 (.load1 (.t 31)) 28,gF 33 (.len (.t 32)) 28,gF 34 (.bin .neq (.t 30) (.t 33)) 28,ot 35 (.pick (.t 28) (C bT) (.t 34)),oM 36 35,gF 37 (.fadr 0 (.x 4)) 36,gF 38 (.load1 (.t 37)) 36,gF 39 (.bin .eql (.t 38) (C (Y []))) 36,ox 40 (.pick (.t 36) (C bT) (.t 39))])
 (k (.x 40) (q (R [oK 2])
 .ret) .skip))
 (q (q (R [oG 41 2 4,ox 42 (.load1 (.t 41)),ox 43 (.len (.x 42)),oXI 44 0])
 (bl 0 (lp (q (R [ox 45 (.bin .lss (.x 44) (.x 43))])
 (q (k (.x 45) .skip (ex 0))
 (q (bl 1 (q (R [oTX 46 44,ot 47 (.idx 1 (.x 42) (.x 44)),oL 48 47,oXT 8 46,oXT 9 48])
 (q (D [dF (oTX 49 9),dF (oB 50 .lss (.t 49) (i 0)),dF (oM 51 50),dF (gF 52 (.mov (.x 9)) 51),dF (gF 53 (.mov (.x 3)) 51),dF (gF 54 (.bin .geq (.t 52) (.t 53)) 51),dF (ot 55 (.pick (.t 51) (C bT) (.t 54))),dF (oM 56 55),dF (gF 57 (.mov (.x 5)) 56),dF (gF 58 (.mov (.x 8)) 56),dH (gF 59 (.idx 1 (.t 57) (.t 58)) 56),dH (gF 60 (.load1 (.t 59)) 56),dF (gF 61 (.mov (.x 0)) 56),dF (gF 62 (.mov (.x 9)) 56),dH (gF 63 (.idx 12 (.t 61) (.t 62)) 56),dH (gF 64 (.loadn 12 (.t 63)) 56),dL (gF 65 (.call (.f 54) [.t 64]) 56),⟨gF 66 (.call (.f 53) [.t 60,.t 65]) 56,.write,0,1⟩,⟨gF 67 (.un .not (.t 66)) 56,.free,1,1⟩,⟨ox 68 (.pick (.t 56) (C bT) (.t 67)),.free,1,1⟩])
 (k (.x 68) (q (R [oK 2])
 .ret) .skip))))
 (R [oB 69 .add (.x 44) (i 1),oXT 44 69])))))))
 (q (q (R [oTX 70 7,oG 71 11 4,oL 72 71,oB 73 .eql (.t 72) (i 1),oM 74 73,gF 75 (.fadr 11 (.x 4)) 74,gF 76 (.load1 (.t 75)) 74,gF 77 (.bin .eql (.t 76) (i 2)) 74,ot 78 (.pick (.t 74) (C bT) (.t 77)),ot 79 (.binB .neq (.t 70) (.t 78)),oM 80 79,gF 81 (.mov (.x 7)) 80,gF 82 (.un .not (.t 81)) 80,gF 83 (.mov (.t 82)) 80,gT 84 (.fadr 11 (.x 4)) 83,gT 85 (.load1 (.t 84)) 83,gT 86 (.bin .neq (.t 85) (i 0)) 83,gF 87 (.pick (.t 83) (.t 86) (C bF)) 80,ox 88 (.pick (.t 80) (C bT) (.t 87))])
 (k (.x 88) (q (R [oK 2])
 .ret) .skip))
 (q (D [dF (oG 89 1 4),dH (oL 90 89),dF (oB 91 .eql (.t 90) (i 1)),dF (oM 92 91),dF (gF 93 (.fadr 1 (.x 4)) 92),dH (gF 94 (.load1 (.t 93)) 92),dF (gF 95 (.bin .eql (.t 94) (i 2)) 92),dF (ot 96 (.pick (.t 92) (C bT) (.t 95))),dF (oG 97 1 4),dH (oL 98 97),dF (oB 99 .eql (.t 98) (i 1)),dF (oXT 10 96),dF (oXT 11 99)])
 (q (q (R [oTX 100 10,oM 101 100,gT 102 (.fadr 3 (.x 4)) 101,gT 103 (.loadn 4 (.t 102)) 101,gT 104 (.call (.f 107) [.t 103]) 101,gT 105 (.un .not (.t 104)) 101,ot 106 (.pick (.t 101) (.t 105) (C bF)),oM 107 106,gF 108 (.mov (.x 10)) 107,gF 109 (.un .not (.t 108)) 107,gF 110 (.mov (.t 109)) 107,gT 111 (.fadr 3 (.x 4)) 110,gT 112 (.loadn 4 (.t 111)) 110,gT 113 (.call (.f 108) [.t 112]) 110,gT 114 (.un .not (.t 113)) 110,gF 115 (.pick (.t 110) (.t 114) (C bF)) 107,ot 116 (.pick (.t 107) (C bT) (.t 115)),oM 117 116,gF 118 (.mov (.x 11)) 117,gF 119 (.mov (.t 118)) 117,gT 120 (.fadr 7 (.x 4)) 119,gT 121 (.loadn 4 (.t 120)) 119,gT 122 (.call (.f 107) [.t 121]) 119,gT 123 (.un .not (.t 122)) 119,gF 124 (.pick (.t 119) (.t 123) (C bF)) 117,ot 125 (.pick (.t 117) (C bT) (.t 124)),oM 126 125,gF 127 (.mov (.x 11)) 126,gF 128 (.un .not (.t 127)) 126,gF 129 (.mov (.t 128)) 126,gT 130 (.fadr 7 (.x 4)) 129,gT 131 (.loadn 4 (.t 130)) 129,gT 132 (.call (.f 108) [.t 131]) 129,gT 133 (.un .not (.t 132)) 129,gF 134 (.pick (.t 129) (.t 133) (C bF)) 126,ox 135 (.pick (.t 126) (C bT) (.t 134))])
 (k (.x 135) (q (R [oK 2])
 .ret) .skip))
 (rG [oTX 136 0,oTX 137 3,ot 138 (.slice 12 (.t 136) none (some (.t 137)) none),ot 139 (.mkfn (.func 110) [] [.x 4]),oC 140 109 [.t 138,.t 139],ot 141 (.un .not (.t 140)),oXT 2 141]
 .ret)))))))))),
 [.mov (.x 2)],[],false,1⟩
def K50:SFunc:=⟨(rG [ox 1 (.box (.x 0)),oK 2]
 (rG [oG 7 1 1,oL 8 7,oC 9 106 [.t 8],oM 6 9,oE 10 6 0,oE 11 6 1,oE 12 6 2,oM 3 10,oM 4 11,oXT 5 12]
 (rG [oTX 13 5,oXT 2 13]
 .ret))),
 [.mov (.x 2)],[],false,1⟩
def K51:SFunc:=⟨(rG [oN 2]
 (rG [oN 3]
 (q (q (R [ox 6 (.mov (.x 0)),ox 7 (.len (.x 6)),oXI 8 0])
 (bl 0 (lp (q (R [ox 9 (.bin .lss (.x 8) (.x 7))])
 (q (k (.x 9) .skip (ex 0))
 (q (bl 1 (q (R [oTX 10 8,ot 11 (.idx 12 (.x 6) (.x 8)),ot 12 (.loadn 12 (.t 11)),ox 5 (.alloc [.p (.v (Y [])),p0,.lit [],pF,.lit [],pF,.lit [],pF,.lit [],pF,.lit [],p0]),oXT 4 10,oS 12 5 12])
 (rG [oG 13 1 5,ox 14 (.load1 (.t 13))]
 (bl 2 (q (R [oB 16 .eql (.x 14) (i 1),oXT 15 16])
 (k (.x 15) (R [oTX 17 3,oTX 18 4,ot 19 (.build [p0,p0] [(0,1,.t 18),(1,1,(i 0))]),oTX 20 4,ot 21 (.build [p0,p0] [(0,1,.t 20),(1,1,(i 1))]),ot 22 (.slit [.v (I .i64 0),.v (I .i64 0)] 2 [(0,.t 19),(1,.t 21)]),ot 23 (.append 16 2 (.t 17) (.t 22)),oXT 3 23]) (q (R [oB 25 .eql (.x 14) (i 2),oXT 24 25])
 (k (.x 24) (R [oTX 26 3,oTX 27 4,ot 28 (.build [p0,p0] [(0,1,.t 27),(1,1,(i 0))]),ot 29 (.slit [.v (I .i64 0),.v (I .i64 0)] 1 [(0,.t 28)]),ot 30 (.append 16 2 (.t 26) (.t 29)),oXT 3 30]) .skip))))))))
 (R [oB 31 .add (.x 8) (i 1),oXT 8 31])))))))
 (rG [oTX 32 3,oXT 2 32]
 .ret)))),
 [.mov (.x 2)],[],false,1⟩
def K52:SFunc:=⟨(rG [oN 2]
 (q (q (R [ox 3 (.mov (.x 0))])
 (bl 0 (q (R [oB 5 .eql (.x 3) (i 2),oXT 4 5])
 (k (.x 4) (q (R [ot 6 (.slit [.v (I .i64 0)] 2 [(0,(i 1)),(1,(i 0))]),oXT 2 6])
 .ret) (q (q (R [oB 8 .eql (.x 3) (i 3),oXT 7 8])
 (k (.x 7) .skip (R [oB 9 .eql (.x 3) (i 4),oXT 7 9])))
 (k (.x 7) (q (R [ot 10 (.slit [.v (I .i64 0)] 1 [(0,(i 2))]),oC 11 111 [.t 10,(i 2)],oXT 2 11])
 .ret) (q (R [oB 13 .eql (.x 3) (i 7),oXT 12 13])
 (k (.x 12) (q (R [ot 14 (.slit [.v (I .i64 0)] 1 [(0,(i 2))]),oC 15 111 [.t 14,(i 3)],oXT 2 15])
 .ret) (q (R [oB 17 .eql (.x 3) (i 1),oXT 16 17])
 (k (.x 16) (q (R [ot 18 (.slit [.v (I .i64 0)] 1 [(0,(i 1))]),oC 19 111 [.t 18,(i 2)],oXT 2 19])
 .ret) (q (R [oB 21 .eql (.x 3) (i 6),oXT 20 21])
 (k (.x 20) (q (R [ot 22 (.slit [.v (I .i64 0)] 1 [(0,(i 1))]),oC 23 111 [.t 22,(i 3)],oXT 2 23])
 .ret) (q (q (R [oB 25 .eql (.x 3) (i 5),oXT 24 25])
 (k (.x 24) .skip (R [oB 26 .eql (.x 3) (i 8),oXT 24 26])))
 (k (.x 24) (q (R [ot 27 (.slit [.v (I .i64 0)] 1 [(0,(i 1))]),oC 28 111 [.t 27,(i 4)],oXT 2 28])
 .ret) .skip))))))))))))))
 (rG [oN 2]
 .ret))),
 [.mov (.x 2)],[],false,1⟩
def K53:SFunc:=⟨(rG [oK 4]
 (rG [oTX 5 1,oTX 6 0,oB 7 .eql (.t 5) (.t 6),oM 8 7,gF 9 (.mov (.x 0)) 8,gF 10 (.bin .eql (.t 9) (i 0)) 8,gF 11 (.mov (.t 10)) 8,gT 12 (.mov (.x 1)) 11,gT 13 (.bin .eql (.t 12) (i 2)) 11,gT 14 (.mov (.t 13)) 11,gF 15 (.mov (.x 1)) 14,gF 16 (.bin .eql (.t 15) (i 3)) 14,gT 17 (.pick (.t 14) (C bT) (.t 16)) 11,gF 18 (.pick (.t 11) (.t 17) (C bF)) 8,ot 19 (.pick (.t 8) (C bT) (.t 18)),oXT 4 19]
 .ret)),
 [.mov (.x 4)],[],false,2⟩
def K54:SFunc:=⟨(rG [ox 1 (.box (.x 0)),oXI 2 0]
 (rG [oG 7 1 1,oL 8 7,oC 9 106 [.t 8],oM 6 9,oE 10 6 0,oE 11 6 1,oE 12 6 2,oM 3 10,oXT 4 11,oM 5 12]
 (rG [oTX 13 4,oXT 2 13]
 .ret))),
 [.mov (.x 2)],[],false,1⟩
def K55:SFunc:=⟨(rG [oXI 4 0]
 (q (q (R [oTX 6 0,oC 7 22 [.t 6],oXT 5 7])
 (rG [oTX 8 5,ox 9 (.bin .neq (.t 8) (i 0))]
 (k (.x 9) (q (R [oTX 10 5,oXT 4 10])
 .ret) .skip)))
 (q (q (R [oTX 11 1,oB 12 .lss (.t 11) (i 0),oM 13 12,gF 14 (.mov (.x 1)) 13,gF 15 (.mov (.x 0)) 13,gF 16 (.len (.t 15)) 13,gF 17 (.bin .geq (.t 14) (.t 16)) 13,ox 18 (.pick (.t 13) (C bT) (.t 17))])
 (k (.x 18) (q (R [oXI 4 1])
 .ret) .skip))
 (rG [oXI 4 0]
 .ret)))),
 [.mov (.x 4)],[],false,2⟩
def K56:SFunc:=⟨(rG [oN 2]
 (rG [oTX 4 0,oC 5 112 [.t 4],oXT 3 5]
 (rG [oTX 6 3,oC 7 113 [.t 6]]
 (rG [oTX 8 3,oXT 2 8]
 .ret)))),
 [.mov (.x 2)],[],false,1⟩
def K57:SFunc:=⟨(rG [ox 2 (.box (.x 0)),ox 3 (.box (.x 1)),ox 4 (.mov (C (.nilFunc)))]
 (rG [ot 5 (.mkfn (.func 114) [] [.x 3,.x 2]),oXT 4 5]
 .ret)),
 [.mov (.x 4)],[],false,2⟩
def K58:SFunc:=⟨(rG [oN 2,oXI 3 0]
 (rG [oTX 5 0,oC 6 115 [.t 5],oXT 4 6]
 (q (q (R [oTX 7 4,ox 8 (.bin .neq (.t 7) (i 0))])
 (k (.x 8) (q (R [oTX 9 4,oN 2,oXT 3 9])
 .ret) .skip))
 (rG [oTX 10 0,oC 11 116 [.t 10],oXT 2 11,oXI 3 0]
 .ret)))),
 [.mov (.x 2),.mov (.x 3)],[],false,1⟩
def K59:SFunc:=⟨(rG [oN 6,oXI 7 0]
 (rG [oTX 15 0,oC 16 115 [.t 15],oXT 8 16]
 (q (q (R [oTX 17 8,ox 18 (.bin .neq (.t 17) (i 0))])
 (k (.x 18) (q (R [oTX 19 8,oN 6,oXT 7 19])
 .ret) .skip))
 (rG [oTX 20 1,oC 21 117 [.t 20],oXT 9 21]
 (q (q (R [oTX 22 9,ox 23 (.un .not (.t 22))])
 (k (.x 23) (q (R [oN 6,oXI 7 150])
 .ret) .skip))
 (q (q (R [oTX 24 2,oB 25 .lss (.t 24) (i 0),oM 26 25,gF 27 (.mov (.x 2)) 26,gF 28 (.bin .gtr (.t 27) (i 1000000)) 26,ox 29 (.pick (.t 26) (C bT) (.t 28))])
 (k (.x 29) (q (R [oN 6,oXI 7 1])
 .ret) .skip))
 (rG [oTX 31 0,oC 32 118 [.t 31],oM 30 32,oE 33 30 0,oE 34 30 1,oXT 10 33,oM 11 34]
 (rG [oN 12]
 (q (q (R [oXI 13 0])
 (bl 0 (lp (q (q (R [oTX 35 13,oTX 36 10,oJ 37 36,ox 38 (.bin .lss (.t 35) (.t 37))])
 (k (.x 38) .skip (ex 0)))
 (q (bl 1 (q (R [oTX 41 2,oB 42 .mul (i 7919) (.t 41),oTX 43 13,oB 44 .mul (i 104729) (.t 43),oB 45 .add (.t 42) (.t 44),oB 46 .add (.t 45) (i 1),oTX 47 1,oB 48 .rem (.t 46) (.t 47),oXT 14 48])
 (R [oTX 49 12,oTX 50 14,oTX 51 14,oB 52 .add (.t 51) (i 1),oTX 53 1,oB 54 .rem (.t 52) (.t 53),oB 55 .mul (.t 50) (.t 54),oTX 56 13,oB 57 .add (.t 55) (.t 56),oTX 58 1,oB 59 .rem (.t 57) (.t 58),ot 60 (.slit [.v (I .i64 0)] 1 [(0,.t 59)]),ot 61 (.append 8 1 (.t 49) (.t 60)),oXT 12 61])))
 (R [oTX 39 13,oB 40 .add (.t 39) (i 1),oXT 13 40]))))))
 (rG [oTX 62 12,oXT 6 62,oXI 7 0]
 .ret)))))))))),
 [.mov (.x 6),.mov (.x 7)],[],false,3⟩
def K60:SFunc:=⟨(rG [oN 8,oK 9,oXI 10 0]
 (rG [oTX 20 0,oTX 21 1,oTX 22 2,oTX 23 3,oC 24 119 [.t 20,.t 21,.t 22,.t 23],oXT 11 24]
 (q (q (R [oTX 25 11,ox 26 (.bin .neq (.t 25) (i 0))])
 (k (.x 26) (q (R [oTX 27 11,oN 8,oK 9,oXT 10 27])
 .ret) .skip))
 (rG [oTX 29 0,oC 30 120 [.t 29],oM 28 30,oE 31 28 0,oE 32 28 1,ox 12 (.alloc [p0,.lit [],.lit [],.lit []]),oS 4 12 31,oXT 13 32]
 (q (q (R [oTX 33 13,ox 34 (.bin .neq (.t 33) (i 0))])
 (k (.x 34) (q (R [oTX 35 13,oN 8,oK 9,oXT 10 35])
 .ret) .skip))
 (rG [ot 37 (.loadn 4 (.x 12)),oTX 38 1,oTX 39 2,oTX 40 3,oC 41 121 [.t 37,.t 38,.t 39,.t 40],oM 36 41,oE 42 36 0,oE 43 36 1,oXT 14 42,oXT 15 43]
 (q (q (R [oTX 44 15,ox 45 (.un .not (.t 44))])
 (k (.x 45) (q (R [oN 8,oK 9,oXI 10 0])
 .ret) .skip))
 (rG [oN 16]
 (q (q (R [oXI 17 0])
 (bl 0 (lp (q (q (R [oTX 46 17,oG 47 2 12,oL 48 47,oJ 49 48,ox 50 (.bin .lss (.t 46) (.t 49))])
 (k (.x 50) .skip (ex 0)))
 (q (bl 1 (q (R [oN 18])
 (q (q (R [oXI 19 0])
 (bl 2 (lp (q (q (R [oTX 53 19,oG 54 2 12,oL 55 54,oTX 56 17,oI 57 1 55 56,oL 58 57,oJ 59 58,ox 60 (.bin .lss (.t 53) (.t 59))])
 (k (.x 60) .skip (ex 2)))
 (q (bl 3 (R [oTX 63 18,oTX 64 14,oG 65 2 12,oL 66 65,oTX 67 17,oI 68 1 66 67,oL 69 68,oTX 70 19,oI 71 1 69 70,oL 72 71,oI 73 1 64 72,oL 74 73,ot 75 (.slit [.v (I .i64 0)] 1 [(0,.t 74)]),ot 76 (.append 8 1 (.t 63) (.t 75)),oXT 18 76]))
 (R [oTX 61 19,oB 62 .add (.t 61) (i 1),oXT 19 62]))))))
 (R [oTX 77 16,oTX 78 18,ot 79 (.slit [.sl []] 1 [(0,.t 78)]),ot 80 (.append 24 1 (.t 77) (.t 79)),oXT 16 80]))))
 (R [oTX 51 17,oB 52 .add (.t 51) (i 1),oXT 17 52]))))))
 (rG [oTX 81 16,oXT 8 81,ox 9 (.mov (C bT)),oXI 10 0]
 .ret)))))))))),
 [.mov (.x 8),.mov (.x 9),.mov (.x 10)],[],false,4⟩
def K61:SFunc:=⟨(rG [oK 2]
 (q (q (R [oXI 3 0])
 (bl 0 (lp (q (q (R [oTX 7 3,oTX 8 0,oJ 9 8,ox 10 (.bin .lss (.t 7) (.t 9))])
 (k (.x 10) .skip (ex 0)))
 (q (bl 1 (q (R [oXI 4 3])
 (q (q (R [oTX 13 0,oTX 14 3,oI 15 1 13 14,oL 16 15,oJ 17 16,ox 18 (.bin .gtr (.t 17) (i 3))])
 (k (.x 18) (R [oXI 4 4]) .skip))
 (rG [ox 5 (.mov (C bT))]
 (q (q (R [oXI 6 0])
 (bl 2 (lp (q (q (R [oTX 19 6,oTX 20 4,ox 21 (.bin .lss (.t 19) (.t 20))])
 (k (.x 21) .skip (ex 2)))
 (q (bl 3 (R [oTX 24 5,oM 25 24,gT 26 (.mov (.x 0)) 25,gT 27 (.mov (.x 3)) 25,gT 28 (.idx 1 (.t 26) (.t 27)) 25,gT 29 (.load1 (.t 28)) 25,gT 30 (.mov (.x 6)) 25,gT 31 (.idx 1 (.t 29) (.t 30)) 25,gT 32 (.load1 (.t 31)) 25,gT 33 (.bin .eql (.t 32) (i 0)) 25,ot 34 (.pick (.t 25) (.t 33) (C bF)),oXT 5 34]))
 (R [oTX 22 6,oB 23 .add (.t 22) (i 1),oXT 6 23]))))))
 (rG [ox 35 (.mov (.x 5))]
 (k (.x 35) (q (R [ox 2 (.mov (C bT))])
 .ret) .skip)))))))
 (R [oTX 11 3,oB 12 .add (.t 11) (i 1),oXT 3 12]))))))
 (rG [oK 2]
 .ret))),
 [.mov (.x 2)],[],false,1⟩
def K62:SFunc:=⟨(rG [ox 1 (.box (.x 0)),oK 2]
 (q (q (R [oG 5 2 1,oL 6 5,oJ 7 6,oG 8 4 1,oL 9 8,oJ 10 9,oB 11 .neq (.t 7) (.t 10),oM 12 11,gF 13 (.fadr 5 (.x 1)) 12,gF 14 (.load1 (.t 13)) 12,gF 15 (.len (.t 14)) 12,gF 16 (.fadr 6 (.x 1)) 12,gF 17 (.load1 (.t 16)) 12,gF 18 (.len (.t 17)) 12,gF 19 (.bin .neq (.t 15) (.t 18)) 12,ot 20 (.pick (.t 12) (C bT) (.t 19)),oM 21 20,gF 22 (.fadr 2 (.x 1)) 21,gF 23 (.load1 (.t 22)) 21,gF 24 (.len (.t 23)) 21,gF 25 (.fadr 6 (.x 1)) 21,gF 26 (.load1 (.t 25)) 21,gF 27 (.len (.t 26)) 21,gF 28 (.maxmin true (.t 24) (.t 27)) 21,gF 29 (.bin .gtr (.t 28) (i 64)) 21,ot 30 (.pick (.t 21) (C bT) (.t 29)),oM 31 30,gF 32 (.fadr 3 (.x 1)) 31,gF 33 (.load1 (.t 32)) 31,gF 34 (.len (.t 33)) 31,gF 35 (.bin .eql (.t 34) (i 0)) 31,ox 36 (.pick (.t 31) (C bT) (.t 35))])
 (k (.x 36) (q (R [oK 2])
 .ret) .skip))
 (q (q (R [oG 37 1 1,oL 38 37,oG 39 3 1,oL 40 39,ot 41 (.slit [.sl []] 2 [(0,.t 38),(1,.t 40)]),oG 42 2 1,oL 43 42,oG 44 4 1,oL 45 44,oG 46 6 1,oL 47 46,ot 48 (.slit [.sl []] 4 [(0,.t 41),(1,.t 43),(2,.t 45),(3,.t 47)]),ox 49 (.call (.f 122) [.t 48]),ox 50 (.len (.x 49)),oXI 51 0])
 (bl 0 (lp (q (R [ox 52 (.bin .lss (.x 51) (.x 50))])
 (q (k (.x 52) .skip (ex 0))
 (q (bl 1 (q (R [ot 53 (.idx 1 (.x 49) (.x 51)),oL 54 53,oXT 4 54])
 (rG [oTX 55 4,oG 56 0 1,oL 57 56,oC 58 123 [.t 55,.t 57],ox 59 (.bin .neq (.t 58) (i 0))]
 (k (.x 59) (q (R [oK 2])
 .ret) .skip))))
 (R [oB 60 .add (.x 51) (i 1),oXT 51 60])))))))
 (rG [oG 61 5 1,oL 62 61,oC 63 124 [.t 62,(.f 125)],ot 64 (.un .not (.t 63)),oXT 2 64]
 .ret)))),
 [.mov (.x 2)],[],false,1⟩
def K63:SFunc:=⟨(rG [ox 2 (.alloc [pF,.lit []])]
 (rG [oTX 6 0,ot 7 (.conv .u64 (.t 6)),oXT 3 7]
 (q (q (R [oTX 8 0,ox 9 (.bin .lss (.t 8) (i 0))])
 (k (.x 9) (R [oTX 10 3,ot 11 (.un .neg (.t 10)),oXT 3 11]) .skip))
 (rG [oTX 13 0,oB 14 .lss (.t 13) (i 0),oTX 15 3,ot 16 (.conv .u32 (.t 15)),oTX 17 3,ot 18 (.bin .shr (.t 17) (C (I .u64 32))),ot 19 (.conv .u32 (.t 18)),ot 20 (.slit [.v (I .u32 0)] 2 [(0,.t 16),(1,.t 19)]),oC 21 127 [.t 14,.t 20],oM 12 21,oE 22 12 0,oE 23 12 1,ox 4 (.alloc [pF,.lit []]),oS 2 4 22,oM 5 23]
 (rG [ot 24 (.loadn 2 (.x 4)),oS 2 2 24]
 .ret))))),
 [.loadn 2 (.x 2)],[],false,1⟩
def K64:SFunc:=⟨(rG [ox 2 (.box (.x 0)),ox 3 (.box (.x 1)),ox 4 (.alloc [pF,.lit []]),oXI 5 0]
 (q (q (R [ot 12 (.loadn 2 (.x 2)),ot 13 (.loadn 2 (.x 3)),oC 14 128 [.t 12,.t 13],ox 15 (.un .not (.t 14))])
 (k (.x 15) (q (R [ot 16 (.build [pF,.lit []] []),oS 2 4 16,oXI 5 1])
 .ret) .skip))
 (q (D [dF (oG 17 1 2),dH (oL 18 17),dF (oG 19 1 3),dH (oL 20 19),dF (oXT 6 18),dF (oXT 7 20)])
 (q (bl 0 (lp (q (q (R [oTX 21 7,oJ 22 21,oB 23 .gtr (.t 22) (i 0),oM 24 23,gT 25 (.mov (.x 6)) 24,gT 26 (.len (.t 25)) 24,gT 27 (.bin .gtr (.t 26) (i 2)) 24,gT 28 (.mov (.t 27)) 24,gF 29 (.mov (.x 7)) 28,gF 30 (.len (.t 29)) 28,gF 31 (.bin .gtr (.t 30) (i 2)) 28,gT 32 (.pick (.t 28) (C bT) (.t 31)) 24,ox 33 (.pick (.t 24) (.t 32) (C bF))])
 (k (.x 33) .skip (ex 0)))
 (bl 1 (q (R [oTX 35 6,oTX 36 7,oC 37 129 [.t 35,.t 36],oM 34 37,oE 38 34 0,oE 39 34 1,oM 8 38,oXT 9 39])
 (R [oTX 40 7,oTX 41 9,oXT 6 40,oXT 7 41]))))))
 (q (q (R [oTX 42 6,oJ 43 42,ox 44 (.bin .gtr (.t 43) (i 2))])
 (k (.x 44) (q (R [oTX 45 6,oC 46 127 [(C bF),.t 45],oE 47 46 0,oE 48 46 1,oS 2 4 47,oXT 5 48])
 .ret) .skip))
 (rG [oTX 49 6,oC 50 130 [.t 49],oTX 51 7,oC 52 130 [.t 51],oXT 10 50,oXT 11 52]
 (q (bl 2 (lp (q (q (R [oTX 53 11,ox 54 (.bin .gtr (.t 53) (C (I .u64 0)))])
 (k (.x 54) .skip (ex 2)))
 (bl 3 (D [dF (oTX 55 11),dF (oTX 56 10),dF (oTX 57 11),dF (oB 58 .rem (.t 56) (.t 57)),dF (oXT 10 55),dF (oXT 11 58)])))))
 (rG [oTX 59 10,ot 60 (.conv .u32 (.t 59)),oTX 61 10,ot 62 (.bin .shr (.t 61) (C (I .u64 32))),ot 63 (.conv .u32 (.t 62)),ot 64 (.slit [.v (I .u32 0)] 2 [(0,.t 60),(1,.t 63)]),oC 65 127 [(C bF),.t 64],oE 66 65 0,oE 67 65 1,oS 2 4 66,oXT 5 67]
 .ret)))))))),
 [.loadn 2 (.x 4),.mov (.x 5)],[],false,2⟩
def K65:SFunc:=⟨(rG [oTX 4 0,ot 5 (.nilck (.t 4)),oF 6 0 5,oL 7 6,ox 8 (.bin .eql (.t 7) (i 0))]
 (k (.x 8) (R [oTX 9 0,oTX 10 1,ot 11 (.nilck (.t 9)),oF 12 0 11,o0 (.store 1 (.t 12) (.t 10))]) .skip)),
 [],[],false,2⟩
def K69:SFunc:=⟨(rG [oN 4,oXI 5 0]
 (q (q (R [oTX 17 0,oTX 18 1,ot 19 (.slit [.sl []] 2 [(0,.t 17),(1,.t 18)]),oC 20 134 [.t 19],ox 21 (.un .not (.t 20))])
 (k (.x 21) (q (R [oN 4,oXI 5 1])
 .ret) .skip))
 (rG [ot 22 (.mkmap),oXT 6 22]
 (q (q (R [ox 23 (.mov (.x 0)),ox 24 (.len (.x 23)),oXI 25 0])
 (bl 0 (lp (q (R [ox 26 (.bin .lss (.x 25) (.x 24))])
 (q (k (.x 26) .skip (ex 0))
 (q (bl 1 (q (R [ot 27 (.idx 3 (.x 23) (.x 25)),ot 28 (.loadn 3 (.t 27)),ox 8 (.alloc [pF,.lit [],.lit []]),oS 3 8 28])
 (rG [oG 29 2 8,oL 30 29,oC 31 135 [.t 30],ox 9 (.alloc z8),oS 32 9 31]
 (rG [ox 32 (.mov (.x 1)),ox 33 (.len (.x 32)),oXI 34 0]
 (bl 2 (lp (q (R [ox 35 (.bin .lss (.x 34) (.x 33))])
 (q (k (.x 35) .skip (ex 2))
 (q (bl 3 (q (R [ot 36 (.idx 3 (.x 32) (.x 34)),ot 37 (.loadn 3 (.t 36)),ox 11 (.alloc [pF,.lit [],.lit []]),oS 3 11 37])
 (rG [ot 38 (.loadn 32 (.x 9)),ox 12 (.alloc z8),oS 32 12 38]
 (q (q (R [oG 39 2 11,ox 40 (.load1 (.t 39)),ox 41 (.len (.x 40)),oXI 42 0])
 (bl 4 (lp (q (R [ox 43 (.bin .lss (.x 42) (.x 41))])
 (q (k (.x 43) .skip (ex 4))
 (q (bl 5 (q (R [oTX 44 42,ot 45 (.idx 1 (.x 40) (.x 42)),oL 46 45,oXT 13 44,oXT 14 46])
 (rG [oTX 47 13,ot 48 (.idxA 32 1 (.x 12) (.t 47)),oL 49 48,oTX 50 14,ot 51 (.conv .u8 (.t 50)),oB 52 .add (.t 49) (.t 51),ot 53 (.idxA 32 1 (.x 12) (.t 47)),o0 (.store 1 (.t 53) (.t 52))]
 (rG [oTX 54 13,ot 55 (.idxA 32 1 (.x 12) (.t 54)),oL 56 55,ox 57 (.bin .gtr (.t 56) (C (I .u8 64)))]
 (k (.x 57) (q (R [oN 4,oXI 5 2])
 .ret) .skip)))))
 (R [oB 58 .add (.x 42) (i 1),oXT 42 58])))))))
 (rG [oG 60 0 8,ot 61 (.loadn 2 (.t 60)),oG 62 0 11,ot 63 (.loadn 2 (.t 62)),oC 64 131 [.t 61,.t 63],oM 59 64,oE 65 59 0,oE 66 59 1,ox 15 (.alloc [pF,.lit []]),oS 2 15 65,oXT 16 66]
 (q (q (R [oTX 67 16,ox 68 (.bin .eql (.t 67) (i 0))])
 (k (.x 68) (D [dF (oTX 70 6),dH (ot 71 (.loadn 32 (.x 12))),dH (ot 72 (.mapget true [.int,.int,.int,.int,.int,.int,.int,.int,.int,.int,.int,.int,.int,.int,.int,.int,.int,.int,.int,.int,.int,.int,.int,.int,.int,.int,.int,.int,.int,.int,.int,.int] (.agg [pF,.lit []]) false (.t 70) (.t 71))),dH (ot 73 (.loadn 2 (.x 15))),⟨oC 74 136 [.t 72,.t 73],.write,0,1⟩,⟨oM 69 74,.free,1,1⟩,⟨oE 75 69 0,.free,1,1⟩,⟨oE 76 69 1,.free,1,2⟩,⟨oS 2 15 75,.write,1,2⟩,⟨oXT 16 76,.free,2,2⟩]) .skip))
 (q (q (R [oTX 77 16,ox 78 (.bin .neq (.t 77) (i 0))])
 (k (.x 78) (q (R [oTX 79 16,oN 4,oXT 5 79])
 .ret) .skip))
 (R [oTX 80 6,ot 81 (.loadn 32 (.x 12)),ot 82 (.loadn 2 (.x 15)),o0 (.mapset true [.int,.int,.int,.int,.int,.int,.int,.int,.int,.int,.int,.int,.int,.int,.int,.int,.int,.int,.int,.int,.int,.int,.int,.int,.int,.int,.int,.int,.int,.int,.int,.int] (.t 80) (.t 81) (.t 82))]))))))))
 (R [oB 83 .add (.x 34) (i 1),oXT 34 83]))))))))))
 (R [oB 84 .add (.x 25) (i 1),oXT 25 84])))))))
 (rG [oTX 85 6,oC 86 137 [.t 85],oE 87 86 0,oE 88 86 1,oXT 4 87,oXT 5 88]
 .ret))))),
 [.mov (.x 4),.mov (.x 5)],[],false,2⟩
def K70:SFunc:=⟨(rG [oK 6]
 (q (q (R [oTX 10 0,oJ 11 10,oTX 12 1,oJ 13 12,ox 14 (.bin .neq (.t 11) (.t 13))])
 (k (.x 14) (q (R [oK 6])
 .ret) .skip))
 (q (q (R [ox 15 (.mov (.x 0)),ox 16 (.len (.x 15)),oXI 17 0])
 (bl 0 (lp (q (R [ox 18 (.bin .lss (.x 17) (.x 16))])
 (q (k (.x 18) .skip (ex 0))
 (q (bl 1 (q (R [oTX 19 17,ot 20 (.idx 3 (.x 15) (.x 17)),ot 21 (.loadn 3 (.t 20)),ox 8 (.alloc [pF,.lit [],.lit []]),oXT 7 19,oS 3 8 21])
 (rG [oTX 22 1,oTX 23 7,oI 24 3 22 23,ot 25 (.loadn 3 (.t 24)),ox 9 (.alloc [pF,.lit [],.lit []]),oS 3 9 25]
 (rG [oTX 26 2,ot 27 (.loadn 3 (.x 8)),ot 28 (.loadn 3 (.x 9)),ot 29 (.call (.t 26) [.t 27,.t 28]),ox 30 (.un .not (.t 29))]
 (k (.x 30) (q (R [oK 6])
 .ret) .skip)))))
 (R [oB 31 .add (.x 17) (i 1),oXT 17 31])))))))
 (rG [ox 6 (.mov (C bT))]
 .ret)))),
 [.mov (.x 6)],[],false,3⟩
def K74:SFunc:=⟨(rG [ox 2 (.box (.x 0)),ox 3 (.box (.x 1)),ox 4 (.alloc [pF,.lit [],pF,.lit []]),oXI 5 0]
 (q (bl 0 (q (R [ot 8 (.loadn 2 (.x 2)),oC 9 138 [.t 8],ot 10 (.un .not (.t 9)),oM 11 10,gF 12 (.loadn 2 (.x 3)) 11,gF 13 (.call (.f 138) [.t 12]) 11,gF 14 (.un .not (.t 13)) 11,ot 15 (.pick (.t 11) (C bT) (.t 14)),oXT 7 15])
 (k (.x 7) (q (R [ot 16 (.build [pF,.lit [],pF,.lit []] []),oS 4 4 16,oXI 5 1])
 .ret) (q (R [ot 18 (.loadn 2 (.x 3)),oC 19 139 [.t 18],oXT 17 19])
 (k (.x 17) (q (R [ot 20 (.build [pF,.lit [],pF,.lit []] []),oS 4 4 20,oXI 5 4])
 .ret) .skip)))))
 (rG [ot 21 (.loadn 2 (.x 2)),ot 22 (.loadn 2 (.x 3)),oC 23 140 [.t 21,.t 22],ox 6 (.alloc [pF,.lit [],pF,.lit []]),oS 4 6 23]
 (q (D [dF (oG 24 0 6),dH (ot 25 (.loadn 2 (.t 24))),dL (oC 26 141 [.t 25]),dF (oG 27 2 6),dH (ot 28 (.loadn 2 (.t 27))),⟨oC 29 141 [.t 28],.write,0,1⟩,⟨ot 30 (.build [pF,.lit [],pF,.lit []] [(0,2,.t 26),(2,2,.t 29)]),.free,1,1⟩,⟨oS 4 4 30,.write,1,2⟩,⟨oXI 5 0,.free,2,2⟩])
 .ret)))),
 [.loadn 4 (.x 4),.mov (.x 5)],[],false,2⟩
def K75:SFunc:=⟨(rG [ox 2 (.box (.x 0))]
 (rG [ot 11 (.mkfn (.func 76) [] [.x 2]),oXT 3 11]
 (rG [ot 12 (.mkfn (.func 78) [] [.x 1,.x 2]),oXT 4 12]
 (q (q (R [oTX 13 3,ot 14 (.load1 (.x 1)),ot 15 (.nilck (.t 14)),oF 16 1 15,oL 17 16,ot 18 (.call (.t 13) [(i 1),.t 17,(i 2)]),ot 19 (.un .not (.t 18)),oM 20 19,gF 21 (.mov (.x 4)) 20,gF 22 (.call (.t 21) []) 20,gF 23 (.un .not (.t 22)) 20,ot 24 (.pick (.t 20) (C bT) (.t 23)),oM 25 24,gF 26 (.mov (.x 3)) 25,gF 27 (.load1 (.x 1)) 25,gF 28 (.nilck (.t 27)) 25,gF 29 (.fadr 2 (.t 28)) 25,gF 30 (.load1 (.t 29)) 25,gF 31 (.call (.t 26) [(i 3),.t 30,(i 2)]) 25,gF 32 (.un .not (.t 31)) 25,ot 33 (.pick (.t 25) (C bT) (.t 32)),oM 34 33,gF 35 (.mov (.x 3)) 34,gF 36 (.load1 (.x 1)) 34,gF 37 (.nilck (.t 36)) 34,gF 38 (.fadr 2 (.t 37)) 34,gF 39 (.load1 (.t 38)) 34,gF 40 (.call (.t 35) [(i 4),.t 39,(i 2)]) 34,gF 41 (.un .not (.t 40)) 34,ot 42 (.pick (.t 34) (C bT) (.t 41)),oM 43 42,gF 44 (.mov (.x 3)) 43,gF 45 (.load1 (.x 1)) 43,gF 46 (.nilck (.t 45)) 43,gF 47 (.fadr 1 (.t 46)) 43,gF 48 (.load1 (.t 47)) 43,gF 49 (.call (.t 44) [(i 6),.t 48,(i 3)]) 43,gF 50 (.un .not (.t 49)) 43,ot 51 (.pick (.t 43) (C bT) (.t 50)),oM 52 51,gF 53 (.mov (.x 3)) 52,gF 54 (.load1 (.x 1)) 52,gF 55 (.nilck (.t 54)) 52,gF 56 (.fadr 2 (.t 55)) 52,gF 57 (.load1 (.t 56)) 52,gF 58 (.call (.t 53) [(i 7),.t 57,(i 3)]) 52,gF 59 (.un .not (.t 58)) 52,ot 60 (.pick (.t 52) (C bT) (.t 59)),oM 61 60,gF 62 (.mov (.x 3)) 61,gF 63 (.load1 (.x 1)) 61,gF 64 (.nilck (.t 63)) 61,gF 65 (.fadr 1 (.t 64)) 61,gF 66 (.load1 (.t 65)) 61,gF 67 (.call (.t 62) [(i 8),.t 66,(i 4)]) 61,gF 68 (.un .not (.t 67)) 61,ox 69 (.pick (.t 61) (C bT) (.t 68))])
 (k (.x 69) .ret .skip))
 (rG [ox 5 (.alloc [.lit []])]
 (q (q (R [ot 70 (.load1 (.x 1)),ot 71 (.nilck (.t 70)),oF 72 1 71,oL 73 72,ox 74 (.call (.f 77) [.t 73,(i 2)])])
 (bl 0 (.range (.x 74) [75] (R [ox 6 (.mov (.x 75))])
 (bl 1 (R [ot 76 (.load1 (.x 5)),oTX 77 6,ot 78 (.slit [.sl []] 1 [(0,.t 77)]),ot 79 (.append 24 1 (.t 76) (.t 78)),oS 1 5 79])))))
 (rG [ox 80 (.load1 (.x 5)),ox 81 (.len (.x 80)),oXI 82 0]
 (bl 2 (lp (q (R [ox 83 (.bin .lss (.x 82) (.x 81))])
 (q (k (.x 83) .skip (ex 2))
 (q (bl 3 (q (R [oTX 84 82,ot 85 (.idx 1 (.x 80) (.x 82)),oL 86 85,oXT 7 84,oXT 8 86])
 (rG [ot 87 (.load1 (.x 5)),oTX 88 7,oB 89 .add (.t 88) (i 1),ox 90 (.slice 1 (.t 87) (some (.t 89)) none none),ox 91 (.len (.x 90)),oXI 92 0]
 (bl 4 (lp (q (R [ox 93 (.bin .lss (.x 92) (.x 91))])
 (q (k (.x 93) .skip (ex 4))
 (q (bl 5 (q (R [ot 94 (.idx 1 (.x 90) (.x 92)),oL 95 94,oXT 10 95])
 (q (D [dH (ot 96 (.load1 (.x 2))),dF (oTX 97 8),dH (ot 98 (.idx 1 (.t 97) (i 0))),dH (oL 99 98),dF (oTX 100 8),dH (ot 101 (.idx 1 (.t 100) (i 1))),dH (oL 102 101),dF (oTX 103 10),dH (ot 104 (.idx 1 (.t 103) (i 0))),dH (oL 105 104),dF (oTX 106 10),dH (ot 107 (.idx 1 (.t 106) (i 1))),dH (oL 108 107),dL (ot 109 (.slit [.v (I .i64 0)] 4 [(0,.t 99),(1,.t 102),(2,.t 105),(3,.t 108)])),dF (ot 110 (.build [p0,.lit []] [(0,1,(i 5)),(1,1,.t 109)])),⟨ot 111 (.call (.t 96) [.t 110]),.write,0,1⟩,⟨ox 112 (.un .not (.t 111)),.free,1,1⟩])
 (k (.x 112) .ret .skip))))
 (R [oB 113 .add (.x 92) (i 1),oXT 92 113])))))))))
 (R [oB 114 .add (.x 82) (i 1),oXT 82 114]))))))))))))),
 [],[],false,2⟩
def K76:SFunc:=⟨(rG [ox 4 (.box (.x 0)),ox 7 (.alloc [pF])]
 (q (q (R [oTX 9 1,oTX 10 2,ox 11 (.call (.f 77) [.t 9,.t 10])])
 (bl 0 (.range (.x 11) [12] (R [ox 8 (.mov (.x 12))])
 (bl 1 (q (R [ot 13 (.load1 (.x 3)),ot 14 (.load1 (.x 4)),oTX 15 8,ot 16 (.build [p0,.lit []] [(0,1,.t 14),(1,1,.t 15)]),ot 17 (.call (.t 13) [.t 16]),ox 18 (.un .not (.t 17))])
 (k (.x 18) (q (R [o0 (.store 1 (.x 7) (C bF))])
 .ret) .skip))))))
 (rG [o0 (.store 1 (.x 7) (C bT))]
 .ret))),
 [.load1 (.x 7)],[],false,4⟩
def K77:SFunc:=⟨(rG [ox 2 (.box (.x 0)),ox 3 (.box (.x 1)),ox 4 (.mov (C (.nilFunc)))]
 (rG [ot 5 (.mkfn (.func 142) [] [.x 3,.x 2]),oXT 4 5]
 .ret)),
 [.mov (.x 4)],[],false,2⟩
def K78:SFunc:=⟨(rG [oK 2]
 (q (q (R [ot 7 (.load1 (.x 0)),ot 8 (.nilck (.t 7)),oF 9 1 8,ox 10 (.load1 (.t 9)),ox 11 (.len (.x 10)),oXI 12 0])
 (bl 0 (lp (q (R [ox 13 (.bin .lss (.x 12) (.x 11))])
 (q (k (.x 13) .skip (ex 0))
 (q (bl 1 (q (R [ot 14 (.idx 1 (.x 10) (.x 12)),oL 15 14,oXT 4 15])
 (rG [ot 16 (.load1 (.x 0)),ot 17 (.nilck (.t 16)),oF 18 3 17,ox 19 (.load1 (.t 18)),ox 20 (.len (.x 19)),oXI 21 0]
 (bl 2 (lp (q (R [ox 22 (.bin .lss (.x 21) (.x 20))])
 (q (k (.x 22) .skip (ex 2))
 (q (bl 3 (q (R [ot 23 (.idx 1 (.x 19) (.x 21)),oL 24 23,oXT 6 24])
 (rG [ot 25 (.load1 (.x 1)),oTX 26 4,oTX 27 6,ot 28 (.slit [.v (I .i64 0)] 2 [(0,.t 26),(1,.t 27)]),ot 29 (.build [p0,.lit []] [(0,1,(i 2)),(1,1,.t 28)]),ot 30 (.call (.t 25) [.t 29]),ox 31 (.un .not (.t 30))]
 (k (.x 31) (q (R [oK 2])
 .ret) .skip))))
 (R [oB 32 .add (.x 21) (i 1),oXT 21 32])))))))))
 (R [oB 33 .add (.x 12) (i 1),oXT 12 33])))))))
 (rG [ox 2 (.mov (C bT))]
 .ret))),
 [.mov (.x 2)],[],false,2⟩
def K79:SFunc:=⟨(rG [oK 6]
 (q (q (R [oTX 8 0,ot 9 (.nilck (.t 8)),oF 10 0 9,oL 11 10,oTX 12 1,oI 13 12 11 12,oF 14 1 13,ox 15 (.load1 (.t 14))])
 (bl 0 (q (q (R [oB 17 .eql (.x 15) (i 2),oXT 16 17])
 (k (.x 16) .skip (q (R [oB 18 .eql (.x 15) (i 4),oXT 16 18])
 (k (.x 16) .skip (q (R [oB 19 .eql (.x 15) (i 8),oXT 16 19])
 (k (.x 16) .skip (R [oB 20 .eql (.x 15) (i 9),oXT 16 20])))))))
 (k (.x 16) (q (R [oTX 21 0,ot 22 (.nilck (.t 21)),oF 23 0 22,oL 24 23,oTX 25 1,oI 26 12 24 25,oF 27 2 26,oL 28 27,oTX 29 2,ox 30 (.call (.f 145) [.t 28,.t 29])])
 (k (.x 30) (q (R [ox 6 (.mov (C bT))])
 .ret) .skip)) .skip))))
 (rG [oTX 31 0,ot 32 (.nilck (.t 31)),oF 33 0 32,oL 34 33,oTX 35 2,oI 36 12 34 35,oF 37 2 36,oL 38 37,oXT 7 38]
 (q (q (R [oTX 39 0,ot 40 (.nilck (.t 39)),oF 41 0 40,oL 42 41,oTX 43 2,oI 44 12 42 43,oF 45 1 44,ox 46 (.load1 (.t 45))])
 (bl 1 (q (q (R [oB 48 .eql (.x 46) (i 3),oXT 47 48])
 (k (.x 47) .skip (R [oB 49 .eql (.x 46) (i 7),oXT 47 49])))
 (k (.x 47) (q (R [oTX 50 7,oTX 51 1,oC 52 145 [.t 50,.t 51],oXT 6 52])
 .ret) (q (q (R [oB 54 .eql (.x 46) (i 10),oXT 53 54])
 (k (.x 53) .skip (q (R [oB 55 .eql (.x 46) (i 11),oXT 53 55])
 (k (.x 53) .skip (R [oB 56 .eql (.x 46) (i 15),oXT 53 56])))))
 (k (.x 53) (q (R [oTX 57 7,ot 58 (.idx 1 (.t 57) (i 0)),oL 59 58,oTX 60 1,oB 61 .eql (.t 59) (.t 60),oXT 6 61])
 .ret) (q (q (R [oB 63 .eql (.x 46) (i 5),oXT 62 63])
 (k (.x 62) .skip (R [oB 64 .eql (.x 46) (i 14),oXT 62 64])))
 (k (.x 62) (q (R [oTX 65 7,ot 66 (.idx 1 (.t 65) (i 1)),oL 67 66,oTX 68 1,oB 69 .eql (.t 67) (.t 68),oXT 6 69])
 .ret) .skip))))))))
 (rG [oK 6]
 .ret))))),
 [.mov (.x 6)],[],false,3⟩
def K80:SFunc:=⟨(rG [oK 8]
 (q (D [⟨oTX 11 0,.free,0,2⟩,⟨ot 12 (.nilck (.t 11)),.free,0,2⟩,⟨oF 13 0 12,.free,0,2⟩,⟨oL 14 13,.read,0,2⟩,⟨oTX 15 2,.free,0,2⟩,⟨oI 16 12 14 15,.read,0,2⟩,⟨ot 17 (.loadn 12 (.t 16)),.read,0,2⟩,⟨oTX 18 0,.free,0,3⟩,⟨ot 19 (.nilck (.t 18)),.free,0,3⟩,⟨oF 20 0 19,.free,0,3⟩,⟨oL 21 20,.read,0,3⟩,⟨oTX 22 3,.free,0,3⟩,⟨oI 23 12 21 22,.read,0,3⟩,⟨ot 24 (.loadn 12 (.t 23)),.read,0,3⟩,⟨ox 9 (.alloc [.p (.v (Y [])),p0,.lit [],pF,.lit [],pF,.lit [],pF,.lit [],pF,.lit [],p0]),.fresh,0,2⟩,⟨ox 10 (.alloc [.p (.v (Y [])),p0,.lit [],pF,.lit [],pF,.lit [],pF,.lit [],pF,.lit [],p0]),.fresh,0,2⟩,⟨oS 12 9 17,.write,2,3⟩,⟨oS 12 10 24,.write,3,4⟩])
 (rG [oG 25 1 9,oL 26 25,oTX 27 1,oB 28 .eql (.t 26) (.t 27),oM 29 28,gT 30 (.fadr 2 (.x 9)) 29,gT 31 (.load1 (.t 30)) 29,gT 32 (.idx 1 (.t 31) (i 1)) 29,gT 33 (.load1 (.t 32)) 29,gT 34 (.mov (.x 3)) 29,gT 35 (.bin .eql (.t 33) (.t 34)) 29,ot 36 (.pick (.t 29) (.t 35) (C bF)),oM 37 36,gF 38 (.fadr 1 (.x 10)) 37,gF 39 (.load1 (.t 38)) 37,gF 40 (.mov (.x 1)) 37,gF 41 (.bin .eql (.t 39) (.t 40)) 37,gF 42 (.mov (.t 41)) 37,gT 43 (.fadr 2 (.x 10)) 42,gT 44 (.load1 (.t 43)) 42,gT 45 (.idx 1 (.t 44) (i 1)) 42,gT 46 (.load1 (.t 45)) 42,gT 47 (.mov (.x 2)) 42,gT 48 (.bin .eql (.t 46) (.t 47)) 42,gF 49 (.pick (.t 42) (.t 48) (C bF)) 37,ot 50 (.pick (.t 37) (C bT) (.t 49)),oXT 8 50]
 .ret))),
 [.mov (.x 8)],[],false,4⟩
def K81:SFunc:=⟨(rG [ox 3 (.box (.x 0)),ox 4 (.box (.x 1)),oK 6]
 (rG [oTX 7 2,ot 8 (.mkfn (.func 146) [] [.x 4,.x 3]),oC 9 83 [.t 7,.t 8],oXT 6 9]
 .ret)),
 [.mov (.x 6)],[],false,3⟩
def K82:SFunc:=⟨(rG [oK 8]
 (rG [oTX 10 0,ot 11 (.nilck (.t 10)),oF 12 0 11,oL 13 12,oTX 14 1,oI 15 12 13 14,ot 16 (.loadn 12 (.t 15)),ox 9 (.alloc [.p (.v (Y [])),p0,.lit [],pF,.lit [],pF,.lit [],pF,.lit [],pF,.lit [],p0]),oS 12 9 16]
 (rG [oG 17 1 9,oL 18 17,oB 19 .eql (.t 18) (i 12),oM 20 19,gT 21 (.fadr 2 (.x 9)) 20,gT 22 (.load1 (.t 21)) 20,gT 23 (.idx 1 (.t 22) (i 0)) 20,gT 24 (.load1 (.t 23)) 20,gT 25 (.mov (.x 2)) 20,gT 26 (.bin .eql (.t 24) (.t 25)) 20,gT 27 (.mov (.t 26)) 20,gT 28 (.fadr 2 (.x 9)) 27,gT 29 (.load1 (.t 28)) 27,gT 30 (.idx 1 (.t 29) (i 1)) 27,gT 31 (.load1 (.t 30)) 27,gT 32 (.mov (.x 3)) 27,gT 33 (.bin .eql (.t 31) (.t 32)) 27,gT 34 (.pick (.t 27) (.t 33) (C bF)) 20,gT 35 (.mov (.t 34)) 20,gF 36 (.fadr 2 (.x 9)) 35,gF 37 (.load1 (.t 36)) 35,gF 38 (.idx 1 (.t 37) (i 0)) 35,gF 39 (.load1 (.t 38)) 35,gF 40 (.mov (.x 3)) 35,gF 41 (.bin .eql (.t 39) (.t 40)) 35,gF 42 (.mov (.t 41)) 35,gT 43 (.fadr 2 (.x 9)) 42,gT 44 (.load1 (.t 43)) 42,gT 45 (.idx 1 (.t 44) (i 1)) 42,gT 46 (.load1 (.t 45)) 42,gT 47 (.mov (.x 2)) 42,gT 48 (.bin .eql (.t 46) (.t 47)) 42,gF 49 (.pick (.t 42) (.t 48) (C bF)) 35,gT 50 (.pick (.t 35) (C bT) (.t 49)) 20,ot 51 (.pick (.t 20) (.t 50) (C bF)),oXT 8 51]
 .ret))),
 [.mov (.x 8)],[],false,4⟩
def K83:SFunc:=⟨(rG [oK 4]
 (rG [oTX 5 0,oTX 6 1,oC 7 148 [.t 5,.t 6],oB 8 .geq (.t 7) (i 0),oXT 4 8]
 .ret)),
 [.mov (.x 4)],[],false,2⟩
def K84:SFunc:=⟨(rG [oK 4]
 (q (D [dH (ot 5 (.load1 (.x 1))),dF (oTX 6 0),dH (ot 7 (.load1 (.x 2))),dH (ot 8 (.idx 1 (.t 7) (i 0))),dH (oL 9 8),⟨oC 10 79 [.t 5,.t 6,.t 9],.write,0,1⟩,⟨oM 11 10,.free,1,1⟩,⟨gT 12 (.load1 (.x 1)) 11,.here,1,1⟩,⟨gT 13 (.mov (.x 0)) 11,.free,1,1⟩,⟨gT 14 (.load1 (.x 2)) 11,.here,1,1⟩,⟨gT 15 (.idx 1 (.t 14) (i 1)) 11,.here,1,1⟩,⟨gT 16 (.load1 (.t 15)) 11,.here,1,1⟩,⟨gT 17 (.call (.f 79) [.t 12,.t 13,.t 16]) 11,.write,1,2⟩,⟨ot 18 (.pick (.t 11) (.t 17) (C bF)),.free,2,2⟩,⟨oM 19 18,.free,2,2⟩,⟨gT 20 (.load1 (.x 1)) 19,.here,2,2⟩,⟨gT 21 (.mov (.x 0)) 19,.free,2,2⟩,⟨gT 22 (.load1 (.x 2)) 19,.here,2,2⟩,⟨gT 23 (.idx 1 (.t 22) (i 2)) 19,.here,2,2⟩,⟨gT 24 (.load1 (.t 23)) 19,.here,2,2⟩,⟨gT 25 (.call (.f 79) [.t 20,.t 21,.t 24]) 19,.write,2,3⟩,⟨ot 26 (.pick (.t 19) (.t 25) (C bF)),.free,3,3⟩,⟨oXT 4 26,.free,3,3⟩])
 .ret)),
 [.mov (.x 4)],[],false,3⟩
def K85:SFunc:=⟨(q (q (R [ot 4 (.load1 (.x 0)),oB 5 .and (.t 4) (i 1),ox 6 (.bin .eql (.t 5) (i 1))])
 (k (.x 6) (R [ot 7 (.load1 (.x 1)),ot 8 (.load1 (.x 2)),ot 9 (.load1 (.x 3)),oC 10 36 [.t 7,.t 8,.t 9],oS 1 1 10]) .skip))
 (R [ot 11 (.load1 (.x 2)),ot 12 (.load1 (.x 2)),ot 13 (.load1 (.x 3)),oC 14 36 [.t 11,.t 12,.t 13],oS 1 2 14])),
 [],[],false,4⟩
def K86:SFunc:=⟨(rG [oN 2,oXI 3 0]
 (q (q (R [oTX 5 0,oC 6 22 [.t 5],oXT 4 6])
 (rG [oTX 7 4,ox 8 (.bin .neq (.t 7) (i 0))]
 (k (.x 8) (q (R [oTX 9 4,oN 2,oXT 3 9])
 .ret) .skip)))
 (rG [oTX 10 0,oC 11 51 [.t 10],oXT 2 11,oXI 3 0]
 .ret))),
 [.mov (.x 2),.mov (.x 3)],[],false,1⟩
def K87:SFunc:=⟨(rG [ox 2 (.alloc [p0,.lit [],.lit [],.lit []]),oXI 3 0]
 (q (q (R [oTX 15 0,oC 16 22 [.t 15],oXT 4 16])
 (rG [oTX 17 4,ox 18 (.bin .neq (.t 17) (i 0))]
 (k (.x 18) (q (R [ot 19 (.build [p0,.lit [],.lit [],.lit []] []),oTX 20 4,oS 4 2 19,oXT 3 20])
 .ret) .skip)))
 (rG [ot 21 (.build [p0,.lit [],.lit [],.lit [],.p (.v (.map none)),p0] []),ot 22 (.box (.t 21)),oXT 5 22]
 (q (q (R [ox 23 (.mov (.x 0)),ox 24 (.len (.x 23)),oXI 25 0])
 (bl 0 (lp (q (R [ox 26 (.bin .lss (.x 25) (.x 24))])
 (q (k (.x 26) .skip (ex 0))
 (q (bl 1 (q (R [ot 27 (.idx 12 (.x 23) (.x 25)),ot 28 (.loadn 12 (.t 27)),ox 7 (.alloc [.p (.v (Y [])),p0,.lit [],pF,.lit [],pF,.lit [],pF,.lit [],pF,.lit [],p0]),oS 12 7 28])
 (rG [oN 8]
 (rG [oN 9]
 (q (q (R [oG 29 2 7,ox 30 (.load1 (.t 29)),ox 31 (.len (.x 30)),oXI 32 0])
 (bl 2 (lp (q (R [ox 33 (.bin .lss (.x 32) (.x 31))])
 (q (k (.x 33) .skip (ex 2))
 (q (bl 3 (q (R [ot 34 (.idx 1 (.x 30) (.x 32)),oL 35 34,oXT 11 35])
 (rG [oTX 37 0,oTX 38 11,oC 39 32 [.t 37,.t 38],oM 36 39,oE 40 36 0,oE 41 36 1,oXT 12 40,oM 13 41]
 (rG [oTX 42 8,oTX 43 5,ot 44 (.nilck (.t 43)),oF 45 0 44,oF 46 2 45,oL 47 46,oTX 48 11,oI 49 1 47 48,oL 50 49,ot 51 (.slit [.sl []] 1 [(0,.t 50)]),ot 52 (.append 24 1 (.t 42) (.t 51)),oXT 8 52]
 (R [oTX 53 9,oTX 54 12,ot 55 (.slit [.v (I .i64 0)] 1 [(0,.t 54)]),ot 56 (.append 8 1 (.t 53) (.t 55)),oXT 9 56])))))
 (R [oB 57 .add (.x 32) (i 1),oXT 32 57])))))))
 (q (q (R [oG 58 1 7,oL 59 58,ox 60 (.bin .eql (.t 59) (i 5))])
 (k (.x 60) (q (.still [8,8,8] (D [dF (oTX 61 8),⟨ot 62 (.slice 1 (.t 61) none (some (i 1)) (some (i 1))),.write,0,1⟩,⟨oTX 63 8,.free,0,1⟩,⟨ot 64 (.idx 1 (.t 63) (i 0)),.read,0,1⟩,⟨oL 65 64,.read,0,1⟩,⟨oTX 66 8,.free,0,1⟩,⟨ot 67 (.idx 1 (.t 66) (i 1)),.read,0,1⟩,⟨oL 68 67,.read,0,1⟩,⟨ot 69 (.slit [.sl []] 2 [(0,.t 65),(1,.t 68)]),.lone,0,1⟩,⟨ot 70 (.append 24 1 (.t 62) (.t 69)),.write,1,2⟩,⟨oXT 8 70,.free,2,2⟩]))
 (R [oTX 71 9,ot 72 (.slit [.v (I .i64 0)] 1 [(0,(i 1))]),ot 73 (.append 8 1 (.t 71) (.t 72)),oXT 9 73])) .skip))
 (rG [oTX 74 9,oJ 75 74,oB 76 .gtr (.t 75) (i 0),oM 77 76,gT 78 (.mov (.x 9)) 77,gT 79 (.idx 1 (.t 78) (i 0)) 77,gT 80 (.load1 (.t 79)) 77,gT 81 (.bin .eql (.t 80) (i 3)) 77,ot 82 (.pick (.t 77) (.t 81) (C bF)),oXT 14 82]
 (rG [oTX 83 5,oTX 84 8,oTX 85 9,oG 86 1 7,oL 87 86,oB 88 .eql (.t 87) (i 4),oC 89 90 [.t 83,.t 84,.t 85,.t 88]]
 (.still [5,5,5,7,14] (D [⟨oTX 90 5,.free,0,2⟩,⟨oTX 91 5,.free,0,1⟩,⟨ot 92 (.nilck (.t 91)),.free,0,1⟩,⟨oF 93 0 92,.free,0,1⟩,⟨oF 94 2 93,.free,0,1⟩,⟨oL 95 94,.read,0,1⟩,dF (oTX 96 5),dF (oG 97 1 7),dH (oL 98 97),dF (oTX 99 14),dL (oC 100 149 [.t 98,.t 99]),⟨oC 101 91 [.t 96,.t 100],.write,0,1⟩,⟨ot 102 (.slit [.sl []] 1 [(0,.t 101)]),.lone,1,1⟩,⟨ot 103 (.append 24 1 (.t 95) (.t 102)),.write,1,2⟩,⟨ot 104 (.nilck (.t 90)),.free,2,2⟩,⟨oF 105 0 104,.free,2,2⟩,⟨oF 106 2 105,.free,2,2⟩,⟨o0 (.store 1 (.t 106) (.t 103)),.write,2,3⟩]))))))))))
 (R [oB 107 .add (.x 25) (i 1),oXT 25 107])))))))
 (rG [oTX 108 5,oTX 109 5,ot 110 (.nilck (.t 109)),oF 111 5 110,oL 112 111,ot 113 (.nilck (.t 108)),oF 114 0 113,oF 115 0 114,o0 (.store 1 (.t 115) (.t 112))]
 (rG [oTX 116 5,ot 117 (.nilck (.t 116)),oF 118 0 117,ot 119 (.loadn 4 (.t 118)),oS 4 2 119,oXI 3 0]
 .ret)))))),
 [.loadn 4 (.x 2),.mov (.x 3)],[],true,1⟩
def K88:SFunc:=⟨(rG [oXI 4 0]
 (q (q (R [oTX 6 0,ox 7 (.len (.t 6)),oXI 8 0])
 (bl 0 (lp (q (R [ox 9 (.bin .lss (.x 8) (.x 7))])
 (q (k (.x 9) .skip (ex 0))
 (q (bl 1 (q (R [oTX 10 8,oXT 5 10])
 (rG [oTX 11 1,oTX 12 0,oTX 13 5,oI 14 1 12 13,oL 15 14,ox 16 (.call (.t 11) [.t 15])]
 (k (.x 16) (q (R [oTX 17 5,oXT 4 17])
 .ret) .skip))))
 (R [oB 18 .add (.x 8) (i 1),oXT 8 18])))))))
 (rG [ox 4 (.mov (i (-1)))]
 .ret))),
 [.mov (.x 4)],[],false,2⟩
def K89:SFunc:=⟨(rG [oK 2]
 (rG [oTX 3 0,oB 4 .neq (.t 3) (i 0),oXT 2 4]
 .ret)),
 [.mov (.x 2)],[],false,1⟩
def K90:SFunc:=⟨(rG [oTX 19 0,ot 20 (.mkmap),ot 21 (.nilck (.t 19)),oF 22 4 21,o0 (.store 1 (.t 22) (.t 20))]
 (rG [ox 8 (.alloc [p0,p0,p0,p0]),ox 9 (.alloc [p0,p0,p0,p0])]
 (q (q (R [ox 23 (.mov (.x 2)),ox 24 (.len (.x 23)),oXI 25 0])
 (bl 0 (lp (q (R [ox 26 (.bin .lss (.x 25) (.x 24))])
 (q (k (.x 26) .skip (ex 0))
 (q (bl 1 (q (R [oTX 27 25,ot 28 (.idx 1 (.x 23) (.x 25)),oL 29 28,oXT 10 27,oXT 11 29])
 (q (q (R [ox 30 (.mov (.x 3))])
 (k (.x 30) (q (R [oXI 11 1])
 (R [oTX 31 2,oTX 32 10,oTX 33 11,oI 34 1 31 32,o0 (.store 1 (.t 34) (.t 33))])) .skip))
 (R [oTX 35 11,ot 36 (.idxA 4 1 (.x 8) (.t 35)),oL 37 36,oB 38 .add (.t 37) (i 1),ot 39 (.idxA 4 1 (.x 8) (.t 35)),o0 (.store 1 (.t 39) (.t 38))]))))
 (R [oB 40 .add (.x 25) (i 1),oXT 25 40])))))))
 (rG [ot 41 (.slit [.v (Y [])] 3 [(0,(C (Y [120]))),(1,(C (Y [121]))),(2,(C (Y [122])))]),ot 42 (.slit [.v (Y [])] 3 [(0,(C (Y [97]))),(1,(C (Y [98]))),(2,(C (Y [99])))]),ot 43 (.slit [.v (Y [])] 7 [(0,(C (Y [117]))),(1,(C (Y [112]))),(2,(C (Y [113]))),(3,(C (Y [114]))),(4,(C (Y [97,120]))),(5,(C (Y [97,121]))),(6,(C (Y [97,122])))]),ot 44 (.build [.lit [],.lit [],.lit [],.lit []] [(0,1,(.c (.lit []))),(1,1,.t 41),(2,1,.t 42),(3,1,.t 43)]),ox 12 (.alloc [.lit [],.lit [],.lit [],.lit []]),oS 4 12 44]
 (rG [ox 45 (.mov (.x 1)),ox 46 (.len (.x 45)),oXI 47 0]
 (bl 2 (lp (q (R [ox 48 (.bin .lss (.x 47) (.x 46))])
 (q (k (.x 48) .skip (ex 2))
 (q (bl 3 (q (R [oTX 49 47,ot 50 (.idx 1 (.x 45) (.x 47)),oL 51 50,oXT 13 49,oXT 14 51])
 (rG [oTX 52 2,oTX 53 13,oI 54 1 52 53,oL 55 54,oXT 15 55]
 (rG [oTX 56 15,ot 57 (.idxA 4 1 (.x 9) (.t 56)),oL 58 57,oB 59 .add (.t 58) (i 1),ot 60 (.idxA 4 1 (.x 9) (.t 56)),o0 (.store 1 (.t 60) (.t 59))]
 (rG [ox 16 (.mov (C (Y [])))]
 (q (q (R [oTX 61 15,ot 62 (.idxA 4 1 (.x 8) (.t 61)),oL 63 62,ox 64 (.bin .gtr (.t 63) (i 1))])
 (k (.x 64) (R [oTX 65 15,ot 66 (.idxA 4 1 (.x 9) (.t 65)),oL 67 66,oC 68 150 [.t 67],oXT 16 68]) .skip))
 (rG [ox 69 (.mov (.x 14)),ox 70 (.len (.x 69)),oXI 71 0]
 (bl 4 (lp (q (R [ox 72 (.bin .lss (.x 71) (.x 70))])
 (q (k (.x 72) .skip (ex 4))
 (q (bl 5 (q (R [oTX 73 71,ot 74 (.idx 1 (.x 69) (.x 71)),oL 75 74,oXT 17 73,oXT 18 75])
 (D [dF (oTX 76 0),dF (ot 77 (.nilck (.t 76))),dF (oF 78 4 77),dH (oL 79 78),dF (oTX 80 15),dF (ot 81 (.idxA 4 1 (.x 12) (.t 80))),dH (oL 82 81),dF (oTX 83 17),dH (oI 84 1 82 83),dH (oL 85 84),dF (oTX 86 16),dF (oB 87 .add (.t 85) (.t 86)),dF (oTX 88 18),⟨o0 (.mapset false [.str] (.t 79) (.t 87) (.t 88)),.write,0,1⟩])))
 (R [oB 89 .add (.x 71) (i 1),oXT 71 89])))))))))))))
 (R [oB 90 .add (.x 47) (i 1),oXT 47 90]))))))))))),
 [],[2],false,4⟩
def K91:SFunc:=⟨(rG [ox 3 (.box (.x 1)),oN 4]
 (q (q (R [oXI 5 0])
 (bl 0 (lp (q (q (R [oTX 11 5,oB 12 .add (.t 11) (i 1),oG 13 0 3,oL 14 13,oJ 15 14,ox 16 (.bin .lss (.t 12) (.t 15))])
 (k (.x 16) .skip (ex 0)))
 (q (bl 1 (q (D [dF (oG 19 0 3),dH (oL 20 19),dF (oTX 21 5),dH (oI 22 1 20 21),dH (oL 23 22),dF (oG 24 0 3),dH (oL 25 24),dF (oTX 26 5),dF (oB 27 .add (.t 26) (i 1)),dH (oI 28 1 25 27),dH (oL 29 28),dF (oXT 6 23),dF (oXT 7 29)])
 (bl 2 (q (R [oTX 39 7,ot 40 (.bin .eql (.t 39) (C (Y [105,110]))),oXT 38 40])
 (k (.x 38) (q (D [⟨oTX 41 0,.free,0,1⟩,⟨ot 42 (.nilck (.t 41)),.free,0,1⟩,⟨oF 43 4 42,.free,0,1⟩,⟨oL 44 43,.read,0,1⟩,⟨oTX 45 6,.free,0,1⟩,dF (oTX 46 0),dF (oTX 47 0),dF (ot 48 (.nilck (.t 47))),dF (oF 49 5 48),dH (oL 50 49),⟨oC 51 151 [.t 46,(i 1),.t 50,(i 0)],.write,0,1⟩,⟨o0 (.mapset false [.str] (.t 44) (.t 45) (.t 51)),.write,1,2⟩])
 (R [oTX 52 0,ot 53 (.nilck (.t 52)),oF 54 5 53,oL 55 54,oB 56 .add (.t 55) (i 1),ot 57 (.nilck (.t 52)),oF 58 5 57,o0 (.store 1 (.t 58) (.t 56))])) (q (R [oTX 60 7,ot 61 (.idxS (.t 60) (i 0)),ot 62 (.bin .eql (.t 61) (C (I .u8 33))),oXT 59 62])
 (k (.x 59) (q (D [⟨oTX 63 0,.free,0,2⟩,⟨ot 64 (.nilck (.t 63)),.free,0,2⟩,⟨oF 65 4 64,.free,0,2⟩,⟨oL 66 65,.read,0,2⟩,⟨oTX 67 6,.free,0,2⟩,⟨oTX 68 0,.free,0,1⟩,dF (oTX 69 0),dF (oTX 70 7),dF (ot 71 (.sliceS (.t 70) (some (i 1)) none)),⟨oC 72 152 [.t 69,.t 71],.write,0,1⟩,⟨oC 73 151 [.t 68,(i 6),.t 72,(i 0)],.write,1,2⟩,⟨o0 (.mapset false [.str] (.t 66) (.t 67) (.t 73)),.write,2,3⟩])
 (D [⟨oTX 74 0,.free,0,1⟩,dF (oTX 75 0),dF (ot 76 (.nilck (.t 75))),dF (oF 77 0 76),dF (oF 78 3 77),dH (oL 79 78),dF (oTX 80 0),dF (ot 81 (.nilck (.t 80))),dF (oF 82 4 81),dH (oL 83 82),dF (oTX 84 6),dH (ot 85 (.mapget false [.str] (p0) false (.t 83) (.t 84))),dL (ot 86 (.slit [.v (I .i64 0)] 1 [(0,.t 85)])),⟨ot 87 (.append 8 1 (.t 79) (.t 86)),.write,0,1⟩,⟨ot 88 (.nilck (.t 74)),.free,1,1⟩,⟨oF 89 0 88,.free,1,1⟩,⟨oF 90 3 89,.free,1,1⟩,⟨o0 (.store 1 (.t 90) (.t 87)),.write,1,2⟩])) (D [⟨oTX 30 0,.free,0,1⟩,⟨ot 31 (.nilck (.t 30)),.free,0,1⟩,⟨oF 32 4 31,.free,0,1⟩,⟨oL 33 32,.read,0,1⟩,⟨oTX 34 6,.free,0,1⟩,dF (oTX 35 0),dF (oTX 36 7),⟨oC 37 152 [.t 35,.t 36],.write,0,1⟩,⟨o0 (.mapset false [.str] (.t 33) (.t 34) (.t 37)),.write,1,2⟩]))))))))
 (R [oTX 17 5,oB 18 .add (.t 17) (i 2),oXT 5 18]))))))
 (rG [oN 8]
 (q (q (R [oG 91 1 3,ox 92 (.load1 (.t 91)),ox 93 (.len (.x 92)),oXI 94 0])
 (bl 3 (lp (q (R [ox 95 (.bin .lss (.x 94) (.x 93))])
 (q (k (.x 95) .skip (ex 3))
 (q (bl 4 (q (R [ot 96 (.idx 1 (.x 92) (.x 94)),oL 97 96,oXT 10 97])
 (R [oTX 98 8,oTX 99 0,oTX 100 10,oC 101 152 [.t 99,.t 100],ot 102 (.slit [.v (I .i64 0)] 1 [(0,.t 101)]),ot 103 (.append 8 1 (.t 98) (.t 102)),oXT 8 103])))
 (R [oB 104 .add (.x 94) (i 1),oXT 94 104])))))))
 (rG [oTX 105 8,oXT 4 105]
 .ret))))),
 [.mov (.x 4)],[],false,2⟩
def K92:SFunc:=⟨(rG [ox 4 (.alloc [.lit [],.lit []])]
 (q (q (R [ox 6 (.mov (.x 0))])
 (bl 0 (q (R [oB 8 .eql (.x 6) (i 1),oXT 7 8])
 (k (.x 7) (q (R [oC 9 153 [],ot 10 (.build [.lit [],.lit []] [(0,1,(.c (.lit []))),(1,1,.t 9)]),oS 2 4 10])
 .ret) (q (R [oB 12 .eql (.x 6) (i 2),oXT 11 12])
 (k (.x 11) (q (q (R [ox 13 (.mov (.x 1))])
 (k (.x 13) (q (R [ot 14 (.slit [.v (Y [])] 1 [(0,(C (Y [117,32,40,120,94,50,32,43,32,121,94,50,41,32,43,32,112,32,120,32,122,32,43,32,113,32,121,32,122,32,43,32,114,32,122,94,50])))]),ot 15 (.build [.lit [],.lit []] [(0,1,(.c (.lit []))),(1,1,.t 14)]),oS 2 4 15])
 .ret) .skip))
 (rG [ot 16 (.slit [.v (Y [])] 1 [(0,(C (Y [97,32,120,32,43,32,98,32,121,32,43,32,99,32,122])))]),ot 17 (.build [.lit [],.lit []] [(0,1,(.c (.lit []))),(1,1,.t 16)]),oS 2 4 17]
 .ret)) (q (R [oB 19 .eql (.x 6) (i 3),oXT 18 19])
 (k (.x 18) (q (R [ot 20 (.slit [.v (Y [])] 1 [(0,(C (Y [97,49,32,98,50,32,45,32,97,50,32,98,49])))]),ot 21 (.build [.lit [],.lit []] [(0,1,(.c (.lit []))),(1,1,.t 20)]),oS 2 4 21])
 .ret) (q (R [oB 23 .eql (.x 6) (i 4),oXT 22 23])
 (k (.x 22) (q (R [ot 24 (.slit [.v (Y [])] 1 [(0,(C (Y [97,49,32,97,50,32,43,32,98,49,32,98,50])))]),ot 25 (.build [.lit [],.lit []] [(0,1,(.c (.lit []))),(1,1,.t 24)]),oS 2 4 25])
 .ret) (q (R [oB 27 .eql (.x 6) (i 5),oXT 26 27])
 (k (.x 26) (q (R [ot 28 (.slit [.v (Y [])] 12 [(0,(C (Y [101,120]))),(1,(C (Y [120,49,32,122,50,32,45,32,120,50,32,122,49]))),(2,(C (Y [101,121]))),(3,(C (Y [121,49,32,122,50,32,45,32,121,50,32,122,49]))),(4,(C (Y [102,120]))),(5,(C (Y [120,51,32,122,52,32,45,32,120,52,32,122,51]))),(6,(C (Y [102,121]))),(7,(C (Y [121,51,32,122,52,32,45,32,121,52,32,122,51]))),(8,(C (Y [118]))),(9,(C (Y [122,51,32,122,52]))),(10,(C (Y [119]))),(11,(C (Y [122,49,32,122,50])))]),ot 29 (.slit [.v (Y [])] 1 [(0,(C (Y [40,101,120,94,50,32,43,32,101,121,94,50,41,32,118,94,50,32,45,32,40,102,120,94,50,32,43,32,102,121,94,50,41,32,119,94,50])))]),ot 30 (.build [.lit [],.lit []] [(0,1,.t 28),(1,1,.t 29)]),oS 2 4 30])
 .ret) (q (q (R [oB 32 .eql (.x 6) (i 6),oXT 31 32])
 (k (.x 31) .skip (R [oB 33 .eql (.x 6) (i 7),oXT 31 33])))
 (k (.x 31) (q (R [ot 34 (.slit [.v (Y [])] 1 [(0,(C (Y [120,49,32,40,121,50,32,122,51,32,45,32,122,50,32,121,51,41,32,45,32,121,49,32,40,120,50,32,122,51,32,45,32,122,50,32,120,51,41,32,43,32,122,49,32,40,120,50,32,121,51,32,45,32,121,50,32,120,51,41])))]),ot 35 (.build [.lit [],.lit []] [(0,1,(.c (.lit []))),(1,1,.t 34)]),oS 2 4 35])
 .ret) .skip))))))))))))))
 (rG [ox 5 (.mov (.f 154))]
 (rG [oC 36 155 [(i 4)],oTX 37 5,ot 38 (.call (.t 37) [(C (Y [102])),(C (Y [103])),(C (Y [104]))]),ot 39 (.bin .add (C (Y [115,49,32])) (.t 38)),ot 40 (.bin .add (.t 39) (C (Y [32,45,32,102,49,32]))),oTX 41 5,ot 42 (.call (.t 41) [(C (Y [115])),(C (Y [103])),(C (Y [104]))]),oB 43 .add (.t 40) (.t 42),ot 44 (.bin .add (.t 43) (C (Y [32,43,32,103,49,32]))),oTX 45 5,ot 46 (.call (.t 45) [(C (Y [115])),(C (Y [102])),(C (Y [104]))]),oB 47 .add (.t 44) (.t 46),ot 48 (.bin .add (.t 47) (C (Y [32,45,32,104,49,32]))),oTX 49 5,ot 50 (.call (.t 49) [(C (Y [115])),(C (Y [102])),(C (Y [103]))]),oB 51 .add (.t 48) (.t 50),ot 52 (.slit [.v (Y [])] 1 [(0,.t 51)]),ot 53 (.build [.lit [],.lit []] [(0,1,.t 36),(1,1,.t 52)]),oS 2 4 53]
 .ret)))),
 [.loadn 2 (.x 4)],[],false,2⟩
def K94:SFunc:=⟨(rG [oXI 4 0,oXI 5 0]
 (q (q (R [oTX 6 1,oC 7 18 [.t 6],ox 8 (.un .not (.t 7))])
 (k (.x 8) (q (R [oXI 4 0,oXI 5 150])
 .ret) .skip))
 (rG [oTX 9 0,oTX 10 1,oC 11 156 [.t 9,.t 10],oXT 4 11,oXI 5 0]
 .ret))),
 [.mov (.x 4),.mov (.x 5)],[],false,2⟩
def K95:SFunc:=⟨(rG [ox 3 (.box (.x 0)),ox 4 (.box (.x 1)),oN 6,oXI 7 0]
 (q (q (R [ot 14 (.loadn 4 (.x 3)),oC 15 157 [.t 14],oXT 8 15])
 (rG [oTX 16 8,ox 17 (.bin .neq (.t 16) (i 0))]
 (k (.x 17) (q (R [oTX 18 8,oN 6,oXT 7 18])
 .ret) .skip)))
 (q (q (R [oTX 19 2,oJ 20 19,oG 21 0 3,oL 22 21,ox 23 (.bin .neq (.t 20) (.t 22))])
 (k (.x 23) (q (R [oN 6,oXI 7 1])
 .ret) .skip))
 (rG [oG 24 1 3,oL 25 24,oJ 26 25,ot 27 (.mkslice 8 [.v (I .i64 0)] (i 0) (.t 26)),oXT 9 27]
 (rG [oXI 10 0]
 (q (q (R [oG 28 1 3,ox 29 (.load1 (.t 28)),ox 30 (.len (.x 29)),oXI 31 0])
 (bl 0 (lp (q (R [ox 32 (.bin .lss (.x 31) (.x 30))])
 (q (k (.x 32) .skip (ex 0))
 (q (bl 1 (q (R [ot 33 (.idx 3 (.x 29) (.x 31)),ot 34 (.loadn 3 (.t 33)),ox 12 (.alloc [p0,p0,p0]),oS 3 12 34])
 (rG [oXI 13 0]
 (q (q (R [oG 35 0 12,ox 36 (.load1 (.t 35))])
 (bl 2 (q (R [oB 38 .eql (.x 36) (i 1),oXT 37 38])
 (k (.x 37) (R [oTX 39 2,oG 40 1 12,oL 41 40,oI 42 1 39 41,oL 43 42,oXT 13 43]) (q (R [oB 45 .eql (.x 36) (i 2),oXT 44 45])
 (k (.x 44) (R [oG 46 0 4,oL 47 46,oG 48 1 12,oL 49 48,ot 50 (.call (.t 47) [.t 49]),oXT 13 50]) (q (R [oB 52 .eql (.x 36) (i 3),oXT 51 52])
 (k (.x 51) (D [dF (oG 53 1 4),dH (oL 54 53),dF (oTX 55 9),dF (oG 56 1 12),dH (oL 57 56),dH (oI 58 1 55 57),dH (oL 59 58),dF (oTX 60 9),dF (oG 61 2 12),dH (oL 62 61),dH (oI 63 1 60 62),dH (oL 64 63),⟨ot 65 (.call (.t 54) [.t 59,.t 64]),.write,0,1⟩,⟨oXT 13 65,.free,1,1⟩]) (q (R [oB 67 .eql (.x 36) (i 4),oXT 66 67])
 (k (.x 66) (D [dF (oG 68 2 4),dH (oL 69 68),dF (oTX 70 9),dF (oG 71 1 12),dH (oL 72 71),dH (oI 73 1 70 72),dH (oL 74 73),dF (oTX 75 9),dF (oG 76 2 12),dH (oL 77 76),dH (oI 78 1 75 77),dH (oL 79 78),⟨ot 80 (.call (.t 69) [.t 74,.t 79]),.write,0,1⟩,⟨oXT 13 80,.free,1,1⟩]) (q (R [oB 82 .eql (.x 36) (i 5),oXT 81 82])
 (k (.x 81) (D [dF (oG 83 3 4),dH (oL 84 83),dF (oTX 85 9),dF (oG 86 1 12),dH (oL 87 86),dH (oI 88 1 85 87),dH (oL 89 88),dF (oTX 90 9),dF (oG 91 2 12),dH (oL 92 91),dH (oI 93 1 90 92),dH (oL 94 93),⟨ot 95 (.call (.t 84) [.t 89,.t 94]),.write,0,1⟩,⟨oXT 13 95,.free,1,1⟩]) (q (R [oB 97 .eql (.x 36) (i 6),oXT 96 97])
 (k (.x 96) (q (D [dF (oG 98 4 4),dH (oL 99 98),dF (oTX 100 10),dF (oTX 101 9),dF (oG 102 1 12),dH (oL 103 102),dH (oI 104 1 101 103),dH (oL 105 104),⟨ot 106 (.call (.t 99) [.t 100,.t 105]),.write,0,1⟩,⟨oXT 13 106,.free,1,1⟩])
 (R [oTX 107 10,oB 108 .add (.t 107) (i 1),oXT 10 108])) .skip))))))))))))))
 (R [oTX 109 9,oTX 110 13,ot 111 (.slit [.v (I .i64 0)] 1 [(0,.t 110)]),ot 112 (.append 8 1 (.t 109) (.t 111)),oXT 9 112])))))
 (R [oB 113 .add (.x 31) (i 1),oXT 31 113])))))))
 (rG [oTX 114 9,oXT 6 114,oXI 7 0]
 .ret))))))),
 [.mov (.x 6),.mov (.x 7)],[],false,3⟩
def K96:SFunc:=⟨(rG [ox 2 (.box (.x 0)),ox 3 (.box (.x 1)),ox 4 (.alloc [.p (.v (.nilFunc)),.p (.v (.nilFunc)),.p (.v (.nilFunc)),.p (.v (.nilFunc)),.p (.v (.nilFunc))])]
 (rG [ot 5 (.mkfn (.func 158) [] [.x 2]),ot 6 (.mkfn (.func 159) [] [.x 2]),ot 7 (.mkfn (.func 160) [] [.x 2]),ot 8 (.mkfn (.func 161) [] [.x 2]),ot 9 (.mkfn (.func 162) [] [.x 2,.x 3]),ot 10 (.build [.p (.v (.nilFunc)),.p (.v (.nilFunc)),.p (.v (.nilFunc)),.p (.v (.nilFunc)),.p (.v (.nilFunc))] [(0,1,.t 5),(1,1,.t 6),(2,1,.t 7),(3,1,.t 8),(4,1,.t 9)]),oS 5 4 10]
 .ret)),
 [.loadn 5 (.x 4)],[],false,2⟩
def K97:SFunc:=⟨(rG [ox 3 (.box (.x 1)),oN 4,oN 5,oXI 6 0]
 (rG [oTX 11 0,ot 12 (.loadn 2 (.x 3)),oC 13 43 [.t 11,.t 12],oM 10 13,oE 14 10 0,oE 15 10 1,oE 16 10 2,ox 7 (.alloc [p0,.lit [],.lit [],.lit []]),oS 4 7 14,oXT 8 15,oXT 6 16]
 (q (q (R [oTX 17 6,ox 18 (.bin .neq (.t 17) (i 0))])
 (k (.x 18) (q (R [oTX 19 6,oN 4,oN 5,oXT 6 19])
 .ret) .skip))
 (rG [ot 21 (.loadn 4 (.x 7)),oC 22 164 [.t 21],oM 20 22,oE 23 20 0,oE 24 20 1,oE 25 20 2,oXT 9 23,oXT 5 24,oXT 6 25]
 (q (q (R [oTX 26 6,ox 27 (.bin .neq (.t 26) (i 0))])
 (k (.x 27) (q (R [oTX 28 6,oN 4,oN 5,oXT 6 28])
 .ret) .skip))
 (rG [oTX 29 9,oTX 30 8,oC 31 165 [.t 29,.t 30],oTX 32 5,oC 33 100 [.t 32],oXT 4 31,oXT 5 33,oXI 6 0]
 .ret)))))),
 [.mov (.x 4),.mov (.x 5),.mov (.x 6)],[],false,2⟩
def K98:SFunc:=⟨(rG [oN 6,oN 7,oXI 8 0]
 (q (q (R [oTX 19 2,oB 20 .lss (.t 19) (i 0),oM 21 20,gF 22 (.mov (.x 2)) 21,gF 23 (.bin .gtr (.t 22) (i 32)) 21,ot 24 (.pick (.t 21) (C bT) (.t 23)),oM 25 24,gF 26 (.mov (.x 1)) 25,gF 27 (.len (.t 26)) 25,gF 28 (.mov (.x 2)) 25,gF 29 (.bin .sub (i 32) (.t 28)) 25,gF 30 (.bin .gtr (.t 27) (.t 29)) 25,ox 31 (.pick (.t 25) (C bT) (.t 30))])
 (k (.x 31) (q (R [oN 6,oN 7,oXI 8 1])
 .ret) .skip))
 (rG [oTX 32 2,oTX 33 1,oJ 34 33,oB 35 .add (.t 32) (.t 34),oXT 9 35]
 (q (q (R [oTX 36 0,oTX 37 9,oC 38 123 [.t 36,.t 37],ox 39 (.bin .neq (.t 38) (i 0))])
 (k (.x 39) (q (R [oN 6,oN 7,oXI 8 1])
 .ret) .skip))
 (q (q (R [ox 40 (.mov (.x 1)),ox 41 (.len (.x 40)),oXI 42 0])
 (bl 0 (lp (q (R [ox 43 (.bin .lss (.x 42) (.x 41))])
 (q (k (.x 43) .skip (ex 0))
 (q (bl 1 (q (R [oTX 44 42,ot 45 (.idx 1 (.x 40) (.x 42)),oL 46 45,oXT 10 44,oXT 11 46])
 (rG [oTX 47 11,oTX 48 9,oC 49 123 [.t 47,.t 48],oB 50 .neq (.t 49) (i 0),oM 51 50,gF 52 (.mov (.x 11)) 51,gF 53 (.mov (.x 2)) 51,gF 54 (.mov (.x 10)) 51,gF 55 (.bin .add (.t 53) (.t 54)) 51,gF 56 (.mov (.x 9)) 51,gF 57 (.call (.f 166) [.t 52,.t 55,.t 56]) 51,gF 58 (.un .not (.t 57)) 51,ox 59 (.pick (.t 51) (C bT) (.t 58))]
 (k (.x 59) (q (R [oN 6,oN 7,oXI 8 1])
 .ret) .skip))))
 (R [oB 60 .add (.x 42) (i 1),oXT 42 60])))))))
 (rG [oTX 61 0,oC 62 99 [.t 61],oXT 12 62]
 (rG [oTX 63 1,oJ 64 63,ot 65 (.mkslice 24 [.sl []] (.t 64) (.t 64)),oXT 7 65]
 (q (q (R [oTX 66 1,ox 67 (.len (.t 66)),oXI 68 0])
 (bl 2 (lp (q (R [ox 69 (.bin .lss (.x 68) (.x 67))])
 (q (k (.x 69) .skip (ex 2))
 (q (bl 3 (q (R [oTX 70 68,oXT 13 70])
 (rG [oTX 71 1,oJ 72 71,oB 73 .sub (.t 72) (i 1),oTX 74 13,oB 75 .sub (.t 73) (.t 74),oXT 14 75]
 (rG [oTX 77 12,oTX 78 1,oTX 79 14,oI 80 1 78 79,oL 81 80,oTX 82 2,oTX 83 14,oB 84 .add (.t 82) (.t 83),oC 85 167 [.t 77,.t 81,.t 84],oM 76 85,oE 86 76 0,oE 87 76 1,oE 88 76 2,oE 89 76 3,oXT 15 86,oXT 16 87,oM 17 88,oXT 18 89]
 (q (q (R [oTX 90 18,ox 91 (.bin .neq (.t 90) (i 0))])
 (k (.x 91) (q (R [oTX 92 18,oN 6,oN 7,oXT 8 92])
 .ret) .skip))
 (R [oTX 93 7,oTX 94 14,oTX 95 15,oTX 96 16,oI 97 1 93 94,o0 (.store 1 (.t 97) (.t 95)),oXT 12 96]))))))
 (R [oB 98 .add (.x 68) (i 1),oXT 68 98])))))))
 (rG [oTX 99 12,oTX 100 7,oXT 6 99,oXT 7 100,oXI 8 0]
 .ret))))))))),
 [.mov (.x 6),.mov (.x 7),.mov (.x 8)],[],false,3⟩
def K99:SFunc:=⟨(rG [ox 2 (.mov (.c (.p (.nsl))))]
 (rG [ox 3 (.mov (.c (.p (.nsl))))]
 (q (q (R [ox 7 (.mov (.x 0)),ox 8 (.len (.x 7)),oXI 9 0])
 (bl 0 (lp (q (R [ox 10 (.bin .lss (.x 9) (.x 8))])
 (q (k (.x 10) .skip (ex 0))
 (q (bl 1 (q (R [ot 11 (.idx 3 (.x 7) (.x 9)),ot 12 (.loadn 3 (.t 11)),ox 5 (.alloc [pF,.lit [],.lit []]),oS 3 5 12])
 (rG [oG 13 2 5,oL 14 13,oJ 15 14,ot 16 (.mkslice 8 [.v (I .i64 0)] (.t 15) (.t 15)),oXT 6 16]
 (rG [oTX 17 6,oG 18 2 5,oL 19 18,ot 20 (.copy 1 (.t 17) (.t 19))]
 (R [oTX 21 3,oG 22 0 5,ot 23 (.loadn 2 (.t 22)),oC 24 168 [.t 23],oTX 25 6,ot 26 (.build [pF,.lit [],.lit []] [(0,2,.t 24),(2,1,.t 25)]),ot 27 (.slit [.v (bF),.sl [],.sl []] 1 [(0,.t 26)]),ot 28 (.append 56 3 (.t 21) (.t 27)),oXT 3 28])))))
 (R [oB 29 .add (.x 9) (i 1),oXT 9 29])))))))
 (rG [oTX 30 3,oXT 2 30]
 .ret)))),
 [.mov (.x 2)],[],false,1⟩
def K100:SFunc:=⟨(rG [oN 2]
 (rG [oN 3]
 (q (q (R [ox 6 (.mov (.x 0)),ox 7 (.len (.x 6)),oXI 8 0])
 (bl 0 (lp (q (R [ox 9 (.bin .lss (.x 8) (.x 7))])
 (q (k (.x 9) .skip (ex 0))
 (q (bl 1 (q (R [ot 10 (.idx 1 (.x 6) (.x 8)),oL 11 10,oXT 5 11])
 (R [oTX 12 3,oTX 13 5,oC 14 99 [.t 13],ot 15 (.slit [.sl []] 1 [(0,.t 14)]),ot 16 (.append 24 1 (.t 12) (.t 15)),oXT 3 16])))
 (R [oB 17 .add (.x 8) (i 1),oXT 8 17])))))))
 (rG [oTX 18 3,oXT 2 18]
 .ret)))),
 [.mov (.x 2)],[],false,1⟩
def K101:SFunc:=⟨(rG [oN 2]
 (q (q (R [oTX 3 0,ox 4 (.bin .eql (.t 3) (i 0))])
 (k (.x 4) (q (R [oN 2])
 .ret) .skip))
 (rG [oTX 5 0,oC 6 63 [.t 5],ot 7 (.build [pF,.lit [],.lit []] [(0,2,.t 6)]),ot 8 (.slit [.v (bF),.sl [],.sl []] 1 [(0,.t 7)]),oXT 2 8]
 .ret))),
 [.mov (.x 2)],[],false,1⟩
def K102:SFunc:=⟨(rG [ox 1 (.box (.x 0)),ox 2 (.alloc [p0,.lit [],.lit [],.lit [],.lit [],.lit [],.lit []])]
 (q (D [⟨oG 3 0 1,.free,0,6⟩,⟨oL 4 3,.read,0,6⟩,dF (oG 5 1 1),dH (oL 6 5),⟨oC 7 99 [.t 6],.write,0,1⟩,⟨oG 8 2 1,.free,0,1⟩,⟨oL 9 8,.read,0,1⟩,⟨oC 10 100 [.t 9],.write,1,2⟩,⟨oG 11 3 1,.free,0,2⟩,⟨oL 12 11,.read,0,2⟩,⟨oC 13 99 [.t 12],.write,2,3⟩,⟨oG 14 4 1,.free,0,3⟩,⟨oL 15 14,.read,0,3⟩,⟨oC 16 100 [.t 15],.write,3,4⟩,⟨oG 17 5 1,.free,0,4⟩,⟨oL 18 17,.read,0,4⟩,⟨oC 19 105 [.t 18],.write,4,5⟩,⟨oG 20 6 1,.free,0,5⟩,⟨oL 21 20,.read,0,5⟩,⟨oC 22 100 [.t 21],.write,5,6⟩,⟨ot 23 (.build [p0,.lit [],.lit [],.lit [],.lit [],.lit [],.lit []] [(0,1,.t 4),(1,1,.t 7),(2,1,.t 10),(3,1,.t 13),(4,1,.t 16),(5,1,.t 19),(6,1,.t 22)]),.free,6,6⟩,⟨oS 7 2 23,.write,6,7⟩])
 .ret)),
 [.loadn 7 (.x 2)],[],false,1⟩
def K105:SFunc:=⟨(rG [oN 2]
 (rG [oTX 5 0,oJ 6 5,ot 7 (.mkslice 64 [.v (bF),.sl [],.v (bF),.sl []] (.t 6) (.t 6)),oXT 3 7]
 (q (q (R [oTX 8 0,ox 9 (.len (.t 8)),oXI 10 0])
 (bl 0 (lp (q (R [ox 11 (.bin .lss (.x 10) (.x 9))])
 (q (k (.x 11) .skip (ex 0))
 (q (bl 1 (q (R [oTX 12 10,oXT 4 12])
 (R [oTX 13 3,oTX 14 4,oTX 15 0,oTX 16 4,oI 17 4 15 16,ot 18 (.loadn 4 (.t 17)),oC 19 174 [.t 18],oI 20 4 13 14,o0 (.store 4 (.t 20) (.t 19))])))
 (R [oB 21 .add (.x 10) (i 1),oXT 10 21])))))))
 (rG [oTX 22 3,oXT 2 22]
 .ret)))),
 [.mov (.x 2)],[],false,1⟩
def K106:SFunc:=⟨(rG [oN 2,oXI 3 0,oK 4]
 (q (q (R [ox 5 (.mov (.x 0))])
 (bl 0 (q (R [oB 7 .eql (.x 5) (i 1),oXT 6 7])
 (k (.x 6) (q (R [oN 2,oXI 3 1,oK 4])
 .ret) (q (R [oB 9 .eql (.x 5) (i 2),oXT 8 9])
 (k (.x 8) (q (R [ot 10 (.slit [.v (I .i64 0)] 1 [(0,(i 0))]),oXT 2 10,oXI 3 1,oK 4])
 .ret) (q (R [oB 12 .eql (.x 5) (i 3),oXT 11 12])
 (k (.x 11) (q (R [ot 13 (.slit [.v (I .i64 0)] 2 [(0,(i 1)),(1,(i 1))]),oXT 2 13,oXI 3 2,oK 4])
 .ret) (q (R [oB 15 .eql (.x 5) (i 4),oXT 14 15])
 (k (.x 14) (q (R [ot 16 (.slit [.v (I .i64 0)] 2 [(0,(i 2)),(1,(i 2))]),oXT 2 16,oXI 3 1,oK 4])
 .ret) (q (R [oB 18 .eql (.x 5) (i 5),oXT 17 18])
 (k (.x 17) (q (R [ot 19 (.slit [.v (I .i64 0)] 2 [(0,(i 1)),(1,(i 1))]),oXT 2 19,oXI 3 3,oK 4])
 .ret) (q (q (R [oB 21 .eql (.x 5) (i 6),oXT 20 21])
 (k (.x 20) .skip (R [oB 22 .eql (.x 5) (i 7),oXT 20 22])))
 (k (.x 20) (q (R [ot 23 (.slit [.v (I .i64 0)] 3 [(0,(i 1)),(1,(i 1)),(2,(i 1))]),oXT 2 23,oXI 3 3,oK 4])
 .ret) (q (R [oB 25 .eql (.x 5) (i 8),oXT 24 25])
 (k (.x 24) (q (R [ot 26 (.slit [.v (I .i64 0)] 2 [(0,(i 2)),(1,(i 3))]),oXT 2 26,oXI 3 1,ox 4 (.mov (C bT))])
 .ret) (q (R [oB 28 .eql (.x 5) (i 9),oXT 27 28])
 (k (.x 27) (q (R [ot 29 (.slit [.v (I .i64 0)] 2 [(0,(i 3)),(1,(i 3))]),oXT 2 29,oXI 3 1,ox 4 (.mov (C bT))])
 .ret) (q (q (R [oB 31 .eql (.x 5) (i 10),oXT 30 31])
 (k (.x 30) .skip (R [oB 32 .eql (.x 5) (i 11),oXT 30 32])))
 (k (.x 30) (q (R [ot 33 (.slit [.v (I .i64 0)] 2 [(0,(i 1)),(1,(i 2))]),oXT 2 33,oXI 3 2,oK 4])
 .ret) (q (R [oB 35 .eql (.x 5) (i 12),oXT 34 35])
 (k (.x 34) (q (R [ot 36 (.slit [.v (I .i64 0)] 2 [(0,(i 1)),(1,(i 1))]),oXT 2 36,oXI 3 1,oK 4])
 .ret) (q (R [oB 38 .eql (.x 5) (i 13),oXT 37 38])
 (k (.x 37) (q (R [ot 39 (.slit [.v (I .i64 0)] 2 [(0,(i 1)),(1,(i 2))]),oXT 2 39,oXI 3 1,oK 4])
 .ret) (q (R [oB 41 .eql (.x 5) (i 14),oXT 40 41])
 (k (.x 40) (q (R [ot 42 (.slit [.v (I .i64 0)] 3 [(0,(i 1)),(1,(i 1)),(2,(i 1))]),oXT 2 42,oXI 3 2,ox 4 (.mov (C bT))])
 .ret) (q (R [oB 44 .eql (.x 5) (i 15),oXT 43 44])
 (k (.x 43) (q (R [ot 45 (.slit [.v (I .i64 0)] 2 [(0,(i 1)),(1,(i 3))]),oXT 2 45,oXI 3 2,ox 4 (.mov (C bT))])
 .ret) (q (R [oB 47 .eql (.x 5) (i 16),oXT 46 47])
 (k (.x 46) (q (R [ot 48 (.slit [.v (I .i64 0)] 1 [(0,(i 3))]),oXT 2 48,oXI 3 1,oK 4])
 .ret) .skip))))))))))))))))))))))))))))))
 (rG [oN 2,oXI 3 0,oK 4]
 .ret))),
 [.mov (.x 2),.mov (.x 3),.mov (.x 4)],[],false,1⟩
def K107:SFunc:=⟨(rG [ox 1 (.box (.x 0)),oK 2]
 (q (q (R [oG 5 0 1,ot 6 (.loadn 2 (.t 5)),oC 7 138 [.t 6],ot 8 (.un .not (.t 7)),oM 9 8,gF 10 (.fadr 2 (.x 1)) 9,gF 11 (.loadn 2 (.t 10)) 9,gF 12 (.call (.f 138) [.t 11]) 9,gF 13 (.un .not (.t 12)) 9,ot 14 (.pick (.t 9) (C bT) (.t 13)),oM 15 14,gF 16 (.fadr 2 (.x 1)) 15,gF 17 (.fadr 0 (.t 16)) 15,gF 18 (.load1 (.t 17)) 15,ot 19 (.pick (.t 15) (C bT) (.t 18)),oM 20 19,gF 21 (.fadr 2 (.x 1)) 20,gF 22 (.loadn 2 (.t 21)) 20,gF 23 (.call (.f 139) [.t 22]) 20,ox 24 (.pick (.t 20) (C bT) (.t 23))])
 (k (.x 24) (q (R [oK 2])
 .ret) .skip))
 (q (q (R [oG 25 2 1,ot 26 (.loadn 2 (.t 25)),ox 27 (.call (.f 175) [.t 26])])
 (k (.x 27) (q (R [ox 2 (.mov (C bT))])
 .ret) .skip))
 (rG [oG 29 0 1,ot 30 (.loadn 2 (.t 29)),oG 31 2 1,ot 32 (.loadn 2 (.t 31)),oC 33 64 [.t 30,.t 32],oM 28 33,oE 34 28 0,oE 35 28 1,ox 3 (.alloc [pF,.lit []]),oS 2 3 34,oM 4 35]
 (rG [ot 36 (.loadn 2 (.x 3)),oC 37 175 [.t 36],oXT 2 37]
 .ret))))),
 [.mov (.x 2)],[],false,1⟩
def K108:SFunc:=⟨(rG [ox 1 (.box (.x 0)),oK 2]
 (rG [oG 3 0 1,oF 4 0 3,oL 5 4,ot 6 (.un .not (.t 5)),oM 7 6,gT 8 (.fadr 2 (.x 1)) 7,gT 9 (.fadr 0 (.t 8)) 7,gT 10 (.load1 (.t 9)) 7,gT 11 (.un .not (.t 10)) 7,ot 12 (.pick (.t 7) (.t 11) (C bF)),oM 13 12,gT 14 (.fadr 0 (.x 1)) 13,gT 15 (.fadr 1 (.t 14)) 13,gT 16 (.load1 (.t 15)) 13,gT 17 (.len (.t 16)) 13,gT 18 (.bin .eql (.t 17) (i 0)) 13,ot 19 (.pick (.t 13) (.t 18) (C bF)),oM 20 19,gT 21 (.fadr 2 (.x 1)) 20,gT 22 (.fadr 1 (.t 21)) 20,gT 23 (.load1 (.t 22)) 20,gT 24 (.len (.t 23)) 20,gT 25 (.bin .eql (.t 24) (i 0)) 20,ot 26 (.pick (.t 20) (.t 25) (C bF)),oXT 2 26]
 .ret)),
 [.mov (.x 2)],[],false,1⟩
def K109:SFunc:=⟨(rG [oK 4]
 (rG [oTX 5 0,oTX 6 1,oC 7 176 [.t 5,.t 6],oB 8 .geq (.t 7) (i 0),oXT 4 8]
 .ret)),
 [.mov (.x 4)],[],false,2⟩
def K110:SFunc:=⟨(rG [ox 2 (.box (.x 0)),oK 3]
 (rG [oG 4 0 2,oL 5 4,oG 6 0 1,oL 7 6,oB 8 .eql (.t 5) (.t 7),oXT 3 8]
 .ret)),
 [.mov (.x 3)],[],false,2⟩
def K111:SFunc:=⟨(rG [oN 4]
 (q (q (R [oTX 9 1,ox 10 (.bin .lss (.t 9) (i 0))])
 (k (.x 10) .refuse .skip))
 (rG [oTX 13 0,oJ 14 13,ot 15 (.conv .u64 (.t 14)),oTX 16 1,ot 17 (.conv .u64 (.t 16)),oC 18 177 [.t 15,.t 17],oM 12 18,oE 19 12 0,oE 20 12 1,oXT 5 19,oXT 6 20]
 (q (q (R [oTX 21 5,ot 22 (.bin .gtr (.t 21) (C (I .u64 0))),oM 23 22,gF 24 (.mov (.x 6)) 23,gF 25 (.bin .gtr (.t 24) (C (I .u64 9223372036854775807))) 23,ox 26 (.pick (.t 23) (C bT) (.t 25))])
 (k (.x 26) .refuse .skip))
 (rG [oTX 28 6,ot 29 (.conv .i64 (.t 28)),ot 30 (.mkslice 8 [.v (I .i64 0)] (.t 29) (.t 29)),oXT 7 30]
 (rG [oTX 31 7,oTX 32 0,ot 33 (.copy 1 (.t 31) (.t 32)),oXT 8 33]
 (q (bl 0 (lp (q (q (R [oTX 34 8,oTX 35 7,oJ 36 35,ox 37 (.bin .lss (.t 34) (.t 36))])
 (k (.x 37) .skip (ex 0)))
 (bl 1 (D [⟨oTX 38 8,.free,0,1⟩,dF (oTX 39 7),dF (oTX 40 8),dH (ot 41 (.slice 1 (.t 39) (some (.t 40)) none none)),dF (oTX 42 7),dF (oTX 43 8),dH (ot 44 (.slice 1 (.t 42) none (some (.t 43)) none)),⟨ot 45 (.copy 1 (.t 41) (.t 44)),.write,0,1⟩,⟨oB 46 .add (.t 38) (.t 45),.free,1,1⟩,⟨oXT 8 46,.free,1,1⟩])))))
 (rG [oTX 47 7,oXT 4 47]
 .ret)))))))),
 [.mov (.x 4)],[],false,2⟩
def K112:SFunc:=⟨(rG [oN 2]
 (rG [oTX 3 0,ot 4 (.call (.f 178) [(.c (.lit [])),.t 3]),oXT 2 4]
 .ret)),
 [.mov (.x 2)],[],true,1⟩
def K113:SFunc:=⟨(rG [oTX 3 0,oJ 4 3,oXT 2 4]
 (R [oTX 5 0,oTX 6 2,oTX 7 2,ot 8 (.conv .u64 (.t 7)),oC 9 180 [.t 8],oC 10 179 [.t 5,(i 0),.t 6,.t 9]])),
 [],[0],false,1⟩
def K114:SFunc:=⟨(rG [ox 4 (.alloc [pF,pF,pF,pF,pF,pF,pF,pF,pF,pF,pF,pF,pF,pF,pF,pF,pF,pF,pF,pF,pF,pF,pF,pF,pF,pF,pF,pF,pF,pF,pF,pF,pF,pF,pF,pF,pF,pF,pF,pF])]
 (rG [ot 8 (.load1 (.x 1)),ot 9 (.idxA 40 1 (.x 4) (.t 8)),o0 (.store 1 (.t 9) (C bT))]
 (rG [ot 10 (.load1 (.x 1)),oXT 5 10]
 (bl 0 (lp (q (q (R [oTX 11 5,ox 12 (.bin .geq (.t 11) (i 0))])
 (k (.x 12) .skip (ex 0)))
 (q (bl 1 (q (q (R [oTX 15 5,ot 16 (.idxA 40 1 (.x 4) (.t 15)),oL 17 16,ox 18 (.un .not (.t 17))])
 (k (.x 18) (ex 1) .skip))
 (q (q (R [oTX 19 5,ot 20 (.load1 (.x 1)),oB 21 .neq (.t 19) (.t 20),oM 22 21,gT 23 (.mov (.x 0)) 22,gT 24 (.mov (.x 5)) 22,gT 25 (.call (.t 23) [.t 24]) 22,gT 26 (.un .not (.t 25)) 22,ox 27 (.pick (.t 22) (.t 26) (C bF))])
 (k (.x 27) .ret .skip))
 (rG [ot 28 (.load1 (.x 2)),oTX 29 5,oI 30 12 28 29,oF 31 2 30,ox 32 (.load1 (.t 31)),ox 33 (.len (.x 32)),oXI 34 0]
 (bl 2 (lp (q (R [ox 35 (.bin .lss (.x 34) (.x 33))])
 (q (k (.x 35) .skip (ex 2))
 (q (bl 3 (q (R [ot 36 (.idx 1 (.x 32) (.x 34)),oL 37 36,oXT 7 37])
 (R [oTX 38 7,ot 39 (.idxA 40 1 (.x 4) (.t 38)),o0 (.store 1 (.t 39) (C bT))])))
 (R [oB 40 .add (.x 34) (i 1),oXT 34 40]))))))))))
 (R [oTX 13 5,oB 14 .sub (.t 13) (i 1),oXT 5 14])))))))),
 [],[],false,3⟩
def K115:SFunc:=⟨(rG [oXI 2 0]
 (q (q (R [oXI 3 0])
 (bl 0 (lp (q (q (R [oTX 4 3,oTX 5 0,oJ 6 5,ox 7 (.bin .lss (.t 4) (.t 6))])
 (k (.x 7) .skip (ex 0)))
 (q (bl 1 (q (R [oTX 10 0,oTX 11 3,oC 12 181 [.t 10,.t 11],ox 13 (.un .not (.t 12))])
 (k (.x 13) (q (R [oXI 2 120])
 .ret) .skip)))
 (R [oTX 8 3,oB 9 .add (.t 8) (i 1),oXT 3 9]))))))
 (q (q (R [oTX 14 0,oJ 15 14,oB 16 .gtr (.t 15) (i 40),oM 17 16,gF 18 (.mov (.x 0)) 17,gF 19 (.call (.f 182) [.t 18]) 17,gF 20 (.len (.t 19)) 17,gF 21 (.bin .gtr (.t 20) (i 20)) 17,ot 22 (.pick (.t 17) (C bT) (.t 21)),oM 23 22,gF 24 (.mov (.x 0)) 23,gF 25 (.call (.f 116) [.t 24]) 23,gF 26 (.len (.t 25)) 23,gF 27 (.bin .gtr (.t 26) (i 5)) 23,ox 28 (.pick (.t 23) (C bT) (.t 27))])
 (k (.x 28) (q (R [oXI 2 111])
 .ret) .skip))
 (rG [oXI 2 0]
 .ret)))),
 [.mov (.x 2)],[],false,1⟩
def K116:SFunc:=⟨(rG [oN 2]
 (rG [oN 3]
 (q (q (R [oXI 4 0])
 (bl 0 (lp (q (q (R [oTX 8 4,oTX 9 0,oJ 10 9,ox 11 (.bin .lss (.t 8) (.t 10))])
 (k (.x 11) .skip (ex 0)))
 (q (bl 1 (q (R [oTX 15 0,oTX 16 4,oI 17 12 15 16,oF 18 1 17,oL 19 18,oC 20 183 [.t 19],oM 14 20,oE 21 14 0,oE 22 14 1,oE 23 14 2,oM 5 21,oM 6 22,oXT 7 23])
 (rG [ox 24 (.mov (.x 7))]
 (k (.x 24) (R [oTX 25 3,oTX 26 4,ot 27 (.slit [.v (I .i64 0)] 1 [(0,.t 26)]),ot 28 (.append 8 1 (.t 25) (.t 27)),oXT 3 28]) .skip))))
 (R [oTX 12 4,oB 13 .add (.t 12) (i 1),oXT 4 13]))))))
 (rG [oTX 29 3,oXT 2 29]
 .ret)))),
 [.mov (.x 2)],[],false,1⟩
def K117:SFunc:=⟨(rG [oK 2]
 (q (q (R [oTX 4 0,oB 5 .lss (.t 4) (i 3),oM 6 5,gF 7 (.mov (.x 0)) 6,gF 8 (.bin .gtr (.t 7) (i 2147483647)) 6,ox 9 (.pick (.t 6) (C bT) (.t 8))])
 (k (.x 9) (q (R [oK 2])
 .ret) .skip))
 (q (q (R [oXI 3 2])
 (bl 0 (lp (q (q (R [oTX 10 3,oTX 11 3,oB 12 .mul (.t 10) (.t 11),oTX 13 0,ox 14 (.bin .leq (.t 12) (.t 13))])
 (k (.x 14) .skip (ex 0)))
 (q (bl 1 (q (R [oTX 17 0,oTX 18 3,oB 19 .rem (.t 17) (.t 18),ox 20 (.bin .eql (.t 19) (i 0))])
 (k (.x 20) (q (R [oK 2])
 .ret) .skip)))
 (R [oTX 15 3,oB 16 .add (.t 15) (i 1),oXT 3 16]))))))
 (rG [ox 2 (.mov (C bT))]
 .ret)))),
 [.mov (.x 2)],[],false,1⟩
def K118:SFunc:=⟨(rG [oN 2,oXI 3 0]
 (rG [oTX 5 0,oC 6 115 [.t 5],oXT 4 6]
 (q (q (R [oTX 7 4,ox 8 (.bin .neq (.t 7) (i 0))])
 (k (.x 8) (q (R [oTX 9 4,oN 2,oXT 3 9])
 .ret) .skip))
 (rG [oTX 10 0,oC 11 182 [.t 10],oXT 2 11,oXI 3 0]
 .ret)))),
 [.mov (.x 2),.mov (.x 3)],[],false,1⟩
def K119:SFunc:=⟨(rG [oXI 8 0]
 (rG [oTX 15 0,oC 16 115 [.t 15],oXT 9 16]
 (q (q (R [oTX 17 9,ox 18 (.bin .neq (.t 17) (i 0))])
 (k (.x 18) (q (R [oTX 19 9,oXT 8 19])
 .ret) .skip))
 (rG [oTX 20 1,oC 21 117 [.t 20],oXT 10 21]
 (q (q (R [oTX 22 10,ox 23 (.un .not (.t 22))])
 (k (.x 23) (q (R [oXI 8 150])
 .ret) .skip))
 (rG [oTX 25 0,oC 26 118 [.t 25],oM 24 26,oE 27 24 0,oE 28 24 1,oXT 11 27,oM 12 28]
 (q (q (R [oTX 29 2,oJ 30 29,oTX 31 11,oJ 32 31,ox 33 (.bin .neq (.t 30) (.t 32))])
 (k (.x 33) (q (R [oXI 8 1])
 .ret) .skip))
 (rG [oTX 35 0,oC 36 58 [.t 35],oM 34 36,oE 37 34 0,oE 38 34 1,oXT 13 37,oM 14 38]
 (q (q (R [oTX 39 3,oTX 40 13,oJ 41 40,oC 42 184 [.t 39,.t 41],ox 43 (.un .not (.t 42))])
 (k (.x 43) (q (R [oXI 8 140])
 .ret) .skip))
 (rG [oXI 8 0]
 .ret)))))))))),
 [.mov (.x 8)],[],false,4⟩
def K120:SFunc:=⟨(rG [ox 2 (.alloc [p0,.lit [],.lit [],.lit []]),oXI 3 0]
 (rG [oTX 7 0,oC 8 115 [.t 7],oXT 4 8]
 (q (q (R [oTX 9 4,ox 10 (.bin .neq (.t 9) (i 0))])
 (k (.x 10) (q (R [ot 11 (.build [p0,.lit [],.lit [],.lit []] []),oTX 12 4,oS 4 2 11,oXT 3 12])
 .ret) .skip))
 (rG [ot 13 (.build [p0,.lit [],.lit [],.lit [],.lit [],.lit [],.p (.v (Y [])),p0,p0] []),ot 14 (.box (.t 13)),oXT 5 14]
 (q (q (R [oXI 6 0])
 (bl 0 (lp (q (q (R [oTX 15 6,oTX 16 0,oJ 17 16,ox 18 (.bin .lss (.t 15) (.t 17))])
 (k (.x 18) .skip (ex 0)))
 (q (bl 1 (R [oTX 21 5,oTX 22 0,oTX 23 6,oC 24 185 [.t 21,.t 22,.t 23]]))
 (R [oTX 19 6,oB 20 .add (.t 19) (i 1),oXT 6 20]))))))
 (rG [oTX 25 5,oTX 26 5,ot 27 (.nilck (.t 26)),oF 28 8 27,oL 29 28,ot 30 (.nilck (.t 25)),oF 31 0 30,oF 32 0 31,o0 (.store 1 (.t 32) (.t 29))]
 (rG [oTX 33 5,ot 34 (.nilck (.t 33)),oF 35 0 34,ot 36 (.loadn 4 (.t 35)),oS 4 2 36,oXI 3 0]
 .ret))))))),
 [.loadn 4 (.x 2),.mov (.x 3)],[],false,1⟩
def K121:SFunc:=⟨(rG [ox 4 (.box (.x 0)),oN 8,oK 9]
 (rG [oN 10]
 (rG [oXI 11 0]
 (q (q (R [oXI 12 0])
 (bl 0 (lp (q (q (R [oTX 18 12,oG 19 1 4,oL 20 19,oJ 21 20,ox 22 (.bin .lss (.t 18) (.t 21))])
 (k (.x 22) .skip (ex 0)))
 (q (bl 1 (q (R [oG 25 1 4,oL 26 25,oTX 27 12,oI 28 3 26 27,ot 29 (.loadn 3 (.t 28)),ox 13 (.alloc [p0,p0,p0]),oS 3 13 29])
 (rG [oXI 14 0]
 (q (q (R [oG 30 0 13,ox 31 (.load1 (.t 30))])
 (bl 2 (q (R [oB 59 .eql (.x 31) (i 1),oXT 58 59])
 (k (.x 58) (R [oTX 61 2,oG 62 1 13,oL 63 62,oI 64 1 61 63,oL 65 64,oTX 66 1,oC 67 186 [.t 65,.t 66],oM 60 67,oE 68 60 0,oE 69 60 1,oXT 14 68]) (q (R [oB 71 .eql (.x 31) (i 2),oXT 70 71])
 (k (.x 70) (R [oG 73 1 13,oL 74 73,oTX 75 1,oC 76 186 [.t 74,.t 75],oM 72 76,oE 77 72 0,oE 78 72 1,oXT 14 77]) (q (R [oB 80 .eql (.x 31) (i 3),oXT 79 80])
 (k (.x 79) (D [dF (oTX 81 10),dF (oG 82 1 13),dH (oL 83 82),dH (oI 84 1 81 83),dH (oL 85 84),dF (oTX 86 10),dF (oG 87 2 13),dH (oL 88 87),dH (oI 89 1 86 88),dH (oL 90 89),dF (oB 91 .add (.t 85) (.t 90)),dF (oTX 92 1),dF (oB 93 .rem (.t 91) (.t 92)),dF (oXT 14 93)]) (q (R [oB 95 .eql (.x 31) (i 4),oXT 94 95])
 (k (.x 94) (D [dF (oTX 96 10),dF (oG 97 1 13),dH (oL 98 97),dH (oI 99 1 96 98),dH (oL 100 99),dF (oTX 101 1),dF (oB 102 .add (.t 100) (.t 101)),dF (oTX 103 10),dF (oG 104 2 13),dH (oL 105 104),dH (oI 106 1 103 105),dH (oL 107 106),dF (oB 108 .sub (.t 102) (.t 107)),dF (oTX 109 1),dF (oB 110 .rem (.t 108) (.t 109)),dF (oXT 14 110)]) (q (R [oB 112 .eql (.x 31) (i 5),oXT 111 112])
 (k (.x 111) (D [dF (oTX 113 10),dF (oG 114 1 13),dH (oL 115 114),dH (oI 116 1 113 115),dH (oL 117 116),dF (oTX 118 10),dF (oG 119 2 13),dH (oL 120 119),dH (oI 121 1 118 120),dH (oL 122 121),dF (oB 123 .mul (.t 117) (.t 122)),dF (oTX 124 1),dF (oB 125 .rem (.t 123) (.t 124)),dF (oXT 14 125)]) (q (R [oTX 33 10,oG 34 1 13,oL 35 34,oI 36 1 33 35,oL 37 36,oTX 38 1,oC 39 187 [.t 37,.t 38],oM 32 39,oE 40 32 0,oE 41 32 1,oE 42 32 2,oXT 15 40,oXT 16 41,oM 17 42])
 (q (q (R [oTX 43 16,ox 44 (.un .not (.t 43))])
 (k (.x 44) (q (R [oN 8,oK 9])
 .ret) .skip))
 (rG [oTX 45 15,oXT 14 45]
 (q (q (R [oTX 46 3,oTX 47 11,oI 48 1 46 47,oL 49 48,ox 50 (.bin .lss (.t 49) (i 0))])
 (k (.x 50) (R [oTX 51 1,oTX 52 15,oB 53 .sub (.t 51) (.t 52),oTX 54 1,oB 55 .rem (.t 53) (.t 54),oXT 14 55]) .skip))
 (R [oTX 56 11,oB 57 .add (.t 56) (i 1),oXT 11 57])))))))))))))))))
 (R [oTX 126 10,oTX 127 14,ot 128 (.slit [.v (I .i64 0)] 1 [(0,.t 127)]),ot 129 (.append 8 1 (.t 126) (.t 128)),oXT 10 129])))))
 (R [oTX 23 12,oB 24 .add (.t 23) (i 1),oXT 12 24]))))))
 (rG [oTX 130 10,oXT 8 130,ox 9 (.mov (C bT))]
 .ret))))),
 [.mov (.x 8),.mov (.x 9)],[],false,4⟩
def K122:SFunc:=⟨(rG [oN 2]
 (rG [oXI 3 0]
 (q (q (R [ox 9 (.mov (.x 0)),ox 10 (.len (.x 9)),oXI 11 0])
 (bl 0 (lp (q (R [ox 12 (.bin .lss (.x 11) (.x 10))])
 (q (k (.x 12) .skip (ex 0))
 (q (bl 1 (q (R [ot 13 (.idx 1 (.x 9) (.x 11)),oL 14 13,oXT 5 14])
 (rG [oTX 15 3,oTX 16 5,oJ 17 16,oB 18 .add (.t 15) (.t 17),oXT 3 18]
 (rG [oTX 19 3,ox 20 (.bin .lss (.t 19) (i 0))]
 (k (.x 20) .refuse .skip)))))
 (R [oB 22 .add (.x 11) (i 1),oXT 11 22])))))))
 (rG [oTX 23 3,ot 24 (.call (.f 188) [(.c (.lit [])),.t 23]),oXT 6 24]
 (q (q (R [ox 25 (.mov (.x 0)),ox 26 (.len (.x 25)),oXI 27 0])
 (bl 2 (lp (q (R [ox 28 (.bin .lss (.x 27) (.x 26))])
 (q (k (.x 28) .skip (ex 2))
 (q (bl 3 (q (R [ot 29 (.idx 1 (.x 25) (.x 27)),oL 30 29,oXT 8 30])
 (R [oTX 31 6,oTX 32 8,ot 33 (.append 24 1 (.t 31) (.t 32)),oXT 6 33])))
 (R [oB 34 .add (.x 27) (i 1),oXT 27 34])))))))
 (rG [oTX 35 6,oXT 2 35]
 .ret)))))),
 [.mov (.x 2)],[],true,1⟩
def K123:SFunc:=⟨(rG [oXI 4 0]
 (q (q (R [oTX 5 1,oB 6 .lss (.t 5) (i 0),oM 7 6,gF 8 (.mov (.x 1)) 7,gF 9 (.bin .gtr (.t 8) (i 32)) 7,ot 10 (.pick (.t 7) (C bT) (.t 9)),oM 11 10,gF 12 (.mov (.x 0)) 11,gF 13 (.mov (.x 1)) 11,gF 14 (.call (.f 189) [.t 12,.t 13]) 11,gF 15 (.un .not (.t 14)) 11,ox 16 (.pick (.t 11) (C bT) (.t 15))])
 (k (.x 16) (q (R [oXI 4 1])
 .ret) .skip))
 (rG [oXI 4 0]
 .ret))),
 [.mov (.x 4)],[],false,2⟩
def K124:SFunc:=⟨(rG [oK 4]
 (rG [oTX 5 0,oTX 6 1,oC 7 190 [.t 5,.t 6],oB 8 .geq (.t 7) (i 0),oXT 4 8]
 .ret)),
 [.mov (.x 4)],[],false,2⟩
def K127:SFunc:=⟨(rG [ox 4 (.alloc [pF,.lit []]),oXI 5 0]
 (rG [oTX 7 1,oC 8 191 [.t 7],oXT 1 8]
 (q (q (R [oTX 9 1,oJ 10 9,ox 11 (.bin .gtr (.t 10) (i 128))])
 (k (.x 11) (q (R [ot 12 (.build [pF,.lit []] []),oS 2 4 12,oXI 5 2])
 .ret) .skip))
 (rG [oTX 13 1,oJ 14 13,ot 15 (.mkslice 4 [.v (I .u32 0)] (.t 14) (.t 14)),oXT 6 15]
 (rG [oTX 16 6,oTX 17 1,ot 18 (.copy 1 (.t 16) (.t 17))]
 (rG [oTX 19 0,oM 20 19,gT 21 (.mov (.x 1)) 20,gT 22 (.len (.t 21)) 20,gT 23 (.bin .gtr (.t 22) (i 0)) 20,ot 24 (.pick (.t 20) (.t 23) (C bF)),oTX 25 6,ot 26 (.build [pF,.lit []] [(0,1,.t 24),(1,1,.t 25)]),oS 2 4 26,oXI 5 0]
 .ret)))))),
 [.loadn 2 (.x 4),.mov (.x 5)],[],false,2⟩
def K128:SFunc:=⟨(rG [ox 2 (.box (.x 0)),ox 3 (.box (.x 1)),oK 4]
 (rG [ot 5 (.loadn 2 (.x 2)),oC 6 138 [.t 5],oM 7 6,gT 8 (.loadn 2 (.x 3)) 7,gT 9 (.call (.f 138) [.t 8]) 7,ot 10 (.pick (.t 7) (.t 9) (C bF)),oXT 4 10]
 .ret)),
 [.mov (.x 4)],[],false,2⟩
def K130:SFunc:=⟨(rG [ox 2 (.mov (C (I .u64 0)))]
 (rG [ox 3 (.mov (C (I .u64 0)))]
 (q (q (R [oTX 5 0,ox 6 (.len (.t 5)),oXI 7 0])
 (bl 0 (lp (q (R [ox 8 (.bin .lss (.x 7) (.x 6))])
 (q (k (.x 8) .skip (ex 0))
 (q (bl 1 (q (R [oTX 9 7,oXT 4 9])
 (R [oTX 10 3,oTX 11 0,oTX 12 4,oI 13 1 11 12,oL 14 13,ot 15 (.conv .u64 (.t 14)),oTX 16 4,oB 17 .mul (i 32) (.t 16),oB 18 .shl (.t 15) (.t 17),oB 19 .or (.t 10) (.t 18),oXT 3 19])))
 (R [oB 20 .add (.x 7) (i 1),oXT 7 20])))))))
 (rG [oTX 21 3,oXT 2 21]
 .ret)))),
 [.mov (.x 2)],[],false,1⟩
def K131:SFunc:=⟨(rG [ox 2 (.box (.x 0)),ox 3 (.box (.x 1)),ox 4 (.alloc [pF,.lit []]),oXI 5 0]
 (q (q (R [ot 6 (.loadn 2 (.x 2)),ot 7 (.loadn 2 (.x 3)),oC 8 128 [.t 6,.t 7],ox 9 (.un .not (.t 8))])
 (k (.x 9) (q (R [ot 10 (.build [pF,.lit []] []),oS 2 4 10,oXI 5 1])
 .ret) .skip))
 (q (D [dF (oG 11 0 2),dH (oL 12 11),dF (oG 13 0 3),dH (oL 14 13),dF (ot 15 (.binB .neq (.t 12) (.t 14))),dF (oG 16 1 2),dH (oL 17 16),dF (oG 18 1 3),dH (oL 19 18),dL (oC 20 199 [.t 17,.t 19]),⟨oC 21 127 [.t 15,.t 20],.write,0,1⟩,⟨oE 22 21 0,.free,1,1⟩,⟨oE 23 21 1,.free,1,1⟩,⟨oS 2 4 22,.write,1,2⟩,⟨oXT 5 23,.free,2,2⟩])
 .ret))),
 [.loadn 2 (.x 4),.mov (.x 5)],[],false,2⟩
def K133:SFunc:=⟨(rG [oN 4,oXI 5 0]
 (rG [oTX 6 0,oTX 7 1,oC 8 202 [.t 6,.t 7,(.f 136)],oE 9 8 0,oE 10 8 1,oXT 4 9,oXT 5 10]
 .ret)),
 [.mov (.x 4),.mov (.x 5)],[],false,2⟩
def K134:SFunc:=⟨(rG [oK 2]
 (q (q (R [ox 5 (.mov (.x 0)),ox 6 (.len (.x 5)),oXI 7 0])
 (bl 0 (lp (q (R [ox 8 (.bin .lss (.x 7) (.x 6))])
 (q (k (.x 8) .skip (ex 0))
 (q (bl 1 (q (R [ot 9 (.idx 1 (.x 5) (.x 7)),oL 10 9,oXT 4 10])
 (rG [oTX 11 4,oC 12 189 [.t 11,(i 32)],ox 13 (.un .not (.t 12))]
 (k (.x 13) (q (R [oK 2])
 .ret) .skip))))
 (R [oB 14 .add (.x 7) (i 1),oXT 7 14])))))))
 (rG [ox 2 (.mov (C bT))]
 .ret))),
 [.mov (.x 2)],[],false,1⟩
def K135:SFunc:=⟨(rG [ox 2 (.alloc z8)]
 (rG [ox 3 (.alloc z8)]
 (q (q (R [ox 6 (.mov (.x 0)),ox 7 (.len (.x 6)),oXI 8 0])
 (bl 0 (lp (q (R [ox 9 (.bin .lss (.x 8) (.x 7))])
 (q (k (.x 9) .skip (ex 0))
 (q (bl 1 (q (R [oTX 10 8,ot 11 (.idx 1 (.x 6) (.x 8)),oL 12 11,oXT 4 10,oXT 5 12])
 (R [oTX 13 4,oTX 14 5,ot 15 (.conv .u8 (.t 14)),ot 16 (.idxA 32 1 (.x 3) (.t 13)),o0 (.store 1 (.t 16) (.t 15))])))
 (R [oB 17 .add (.x 8) (i 1),oXT 8 17])))))))
 (rG [ot 18 (.loadn 32 (.x 3)),oS 32 2 18]
 .ret)))),
 [.loadn 32 (.x 2)],[],false,1⟩
def K136:SFunc:=⟨(rG [ox 2 (.box (.x 0)),ox 3 (.box (.x 1)),ox 4 (.alloc [pF,.lit []]),oXI 5 0]
 (q (q (R [ot 6 (.loadn 2 (.x 2)),ot 7 (.loadn 2 (.x 3)),oC 8 128 [.t 6,.t 7],ox 9 (.un .not (.t 8))])
 (k (.x 9) (q (R [ot 10 (.build [pF,.lit []] []),oS 2 4 10,oXI 5 1])
 .ret) .skip))
 (rG [oG 11 0 2,oL 12 11,oG 13 1 2,oL 14 13,oG 15 0 3,oL 16 15,oG 17 1 3,oL 18 17,oC 19 203 [.t 12,.t 14,.t 16,.t 18],oE 20 19 0,oE 21 19 1,oS 2 4 20,oXT 5 21]
 .ret))),
 [.loadn 2 (.x 4),.mov (.x 5)],[],false,2⟩
def K137:SFunc:=⟨(rG [oN 2,oXI 3 0]
 (q (q .refuse
 (bl 0 (lp (q .refuse
 (q (k (.x 12) .skip (ex 0))
 (bl 1 (q .refuse
 (rG [oG 16 1 5,oL 17 16,oJ 18 17,ox 19 (.bin .eql (.t 18) (i 0))]
 (k (.x 19) .refuse .skip)))))))))
 (q (q (R [oTX 22 0,ot 23 (.lenM (.t 22)),ox 24 (.bin .gtr (.t 23) (i 2048))])
 (k (.x 24) (q (R [oN 2,oXI 3 2])
 .ret) .skip))
 (rG [oN 6]
 (q (q .refuse
 (bl 2 (lp (q .refuse
 (q (k (.x 28) .skip (ex 2))
 (bl 3 (q .refuse
 (D [⟨oTX 32 6,.free,0,3⟩,dH (ot 33 (.loadn 2 (.x 8))),⟨oC 34 204 [.t 33],.write,0,1⟩,⟨ot 35 (.loadn 32 (.x 7)),.read,0,1⟩,⟨oC 36 205 [.t 35],.write,1,2⟩,⟨ot 37 (.build [pF,.lit [],.lit []] [(0,2,.t 34),(2,1,.t 36)]),.free,2,2⟩,⟨ot 38 (.slit [.v (bF),.sl [],.sl []] 1 [(0,.t 37)]),.write,2,3⟩,⟨ot 39 (.append 56 3 (.t 32) (.t 38)),.write,3,4⟩,⟨oXT 6 39,.free,4,4⟩]))))))))
 (rG [oTX 40 6,oC 41 206 [.t 40,(.f 207)]]
 (rG [oTX 42 6,oXT 2 42,oXI 3 0]
 .ret))))))),
 [.mov (.x 2),.mov (.x 3)],[],false,1⟩
def K138:SFunc:=⟨(rG [ox 1 (.box (.x 0)),oK 2]
 (rG [oG 4 1 1,oL 5 4,oJ 6 5,oXT 3 6]
 (q (q (R [oTX 7 3,ox 8 (.bin .eql (.t 7) (i 0))])
 (k (.x 8) (q (R [oG 9 0 1,oL 10 9,ot 11 (.un .not (.t 10)),oXT 2 11])
 .ret) .skip))
 (rG [oTX 12 3,oB 13 .leq (.t 12) (i 128),oM 14 13,gT 15 (.fadr 1 (.x 1)) 14,gT 16 (.load1 (.t 15)) 14,gT 17 (.mov (.x 3)) 14,gT 18 (.bin .sub (.t 17) (i 1)) 14,gT 19 (.idx 1 (.t 16) (.t 18)) 14,gT 20 (.load1 (.t 19)) 14,gT 21 (.bin .neq (.t 20) (C (I .u32 0))) 14,ot 22 (.pick (.t 14) (.t 21) (C bF)),oXT 2 22]
 .ret)))),
 [.mov (.x 2)],[],false,1⟩
def K139:SFunc:=⟨(rG [ox 1 (.box (.x 0)),oK 2]
 (rG [oG 3 1 1,oL 4 3,oJ 5 4,oB 6 .eql (.t 5) (i 0),oXT 2 6]
 .ret)),
 [.mov (.x 2)],[],false,1⟩
def K140:SFunc:=⟨(rG [ox 2 (.box (.x 0)),ox 3 (.box (.x 1)),ox 4 (.alloc [pF,.lit [],pF,.lit []])]
 (q (q (R [oG 7 0 3,ox 8 (.load1 (.t 7))])
 (k (.x 8) (D [dH (ot 9 (.loadn 2 (.x 2))),dL (oC 10 209 [.t 9]),dH (ot 11 (.loadn 2 (.x 3))),⟨oC 12 209 [.t 11],.write,0,1⟩,⟨oS 2 2 10,.write,1,2⟩,⟨oS 2 3 12,.write,2,3⟩]) .skip))
 (rG [ot 14 (.loadn 2 (.x 2)),ot 15 (.loadn 2 (.x 3)),oC 16 64 [.t 14,.t 15],oM 13 16,oE 17 13 0,oE 18 13 1,ox 5 (.alloc [pF,.lit []]),oS 2 5 17,oM 6 18]
 (q (q (R [ot 19 (.loadn 2 (.x 5)),oC 20 175 [.t 19],ox 21 (.un .not (.t 20))])
 (k (.x 21) (q (R [ot 23 (.loadn 2 (.x 2)),ot 24 (.loadn 2 (.x 5)),oC 25 132 [.t 23,.t 24],oM 22 25,oE 26 22 0,oE 27 22 1,oE 28 22 2,oS 2 2 26])
 (R [ot 30 (.loadn 2 (.x 3)),ot 31 (.loadn 2 (.x 5)),oC 32 132 [.t 30,.t 31],oM 29 32,oE 33 29 0,oE 34 29 1,oE 35 29 2,oS 2 3 33])) .skip))
 (rG [ot 36 (.loadn 2 (.x 2)),ot 37 (.loadn 2 (.x 3)),ot 38 (.build [pF,.lit [],pF,.lit []] [(0,2,.t 36),(2,2,.t 37)]),oS 4 4 38]
 .ret))))),
 [.loadn 4 (.x 4)],[],false,2⟩
def K141:SFunc:=⟨(rG [ox 1 (.box (.x 0)),ox 2 (.alloc [pF,.lit []])]
 (q (D [⟨oG 3 0 1,.free,0,1⟩,⟨oL 4 3,.read,0,1⟩,dF (oG 5 1 1),dH (oL 6 5),⟨ot 7 (.append 4 1 (.c (.lit [])) (.t 6)),.write,0,1⟩,⟨ot 8 (.build [pF,.lit []] [(0,1,.t 4),(1,1,.t 7)]),.free,1,1⟩,⟨oS 2 2 8,.write,1,2⟩])
 .ret)),
 [.loadn 2 (.x 2)],[],false,1⟩
def K142:SFunc:=⟨(rG [ox 3 (.box (.x 0))]
 (rG [ox 4 (.alloc [.p (.v (.nilFunc))])]
 (rG [ot 5 (.mkfn (.func 143) [] [.x 1,.x 3,.x 2,.x 4]),oS 1 4 5]
 (R [ot 6 (.load1 (.x 4)),ot 7 (.call (.t 6) [(.c (.lit [])),(i 0)])])))),
 [],[],false,3⟩
def K143:SFunc:=⟨(rG [oK 8]
 (q (q (R [oTX 10 0,oJ 11 10,ot 12 (.load1 (.x 2)),ox 13 (.bin .eql (.t 11) (.t 12))])
 (k (.x 13) (q (D [⟨ot 14 (.load1 (.x 3)),.read,0,1⟩,dF (oTX 15 0),⟨oC 16 144 [.t 15],.write,0,1⟩,⟨ot 17 (.call (.t 14) [.t 16]),.write,1,2⟩,⟨oXT 8 17,.free,2,2⟩])
 .ret) .skip))
 (q (q (R [oTX 18 1,oXT 9 18])
 (bl 0 (lp (q (q (R [oTX 19 9,ot 20 (.load1 (.x 4)),oJ 21 20,ox 22 (.bin .lss (.t 19) (.t 21))])
 (k (.x 22) .skip (ex 0)))
 (q (bl 1 (q (D [⟨ot 25 (.load1 (.x 5)),.read,0,1⟩,dF (oTX 26 0),dH (ot 27 (.load1 (.x 4))),dF (oTX 28 9),dH (oI 29 1 27 28),dH (oL 30 29),dL (ot 31 (.slit [.v (I .i64 0)] 1 [(0,.t 30)])),⟨ot 32 (.append 8 1 (.t 26) (.t 31)),.write,0,1⟩,⟨oTX 33 9,.free,0,1⟩,⟨oB 34 .add (.t 33) (i 1),.free,0,1⟩,⟨ot 35 (.call (.t 25) [.t 32,.t 34]),.write,1,2⟩,⟨ox 36 (.un .not (.t 35)),.free,2,2⟩])
 (k (.x 36) (q (R [oK 8])
 .ret) .skip)))
 (R [oTX 23 9,oB 24 .add (.t 23) (i 1),oXT 9 24]))))))
 (rG [ox 8 (.mov (C bT))]
 .ret)))),
 [.mov (.x 8)],[2000],false,6⟩
def K144:SFunc:=⟨(rG [oN 2]
 (q (q (R [oTX 3 0,ox 4 (.isnil false (.t 3))])
 (k (.x 4) (q (R [oN 2])
 .ret) .skip))
 (rG [ot 5 (.slit [.v (I .i64 0)] 0 []),oTX 6 0,ot 7 (.append 8 1 (.t 5) (.t 6)),oXT 2 7]
 .ret))),
 [.mov (.x 2)],[1000],true,1⟩
def K145:SFunc:=⟨(rG [oK 4]
 (rG [oTX 5 0,oTX 6 1,oC 7 210 [.t 5,.t 6],oB 8 .geq (.t 7) (i 0),oXT 4 8]
 .ret)),
 [.mov (.x 4)],[],false,2⟩
def K146:SFunc:=⟨(rG [ox 3 (.box (.x 0)),oK 4]
 (rG [ot 5 (.load1 (.x 1)),ot 6 (.mkfn (.func 147) [] [.x 2,.x 3]),oC 7 83 [.t 5,.t 6],ot 8 (.un .not (.t 7)),oXT 4 8]
 .ret)),
 [.mov (.x 4)],[],false,3⟩
def K147:SFunc:=⟨(rG [oK 4]
 (rG [ot 5 (.load1 (.x 1)),oTX 6 0,ot 7 (.load1 (.x 2)),oC 8 79 [.t 5,.t 6,.t 7],ot 9 (.un .not (.t 8)),oXT 4 9]
 .ret)),
 [.mov (.x 4)],[],false,3⟩
def K148:SFunc:=⟨(rG [oXI 4 0]
 (q (q (R [oTX 6 0,ox 7 (.len (.t 6)),oXI 8 0])
 (bl 0 (lp (q (R [ox 9 (.bin .lss (.x 8) (.x 7))])
 (q (k (.x 9) .skip (ex 0))
 (q (bl 1 (q (R [oTX 10 8,oXT 5 10])
 (rG [oTX 11 1,oTX 12 0,oTX 13 5,oI 14 1 12 13,oL 15 14,ox 16 (.call (.t 11) [.t 15])]
 (k (.x 16) (q (R [oTX 17 5,oXT 4 17])
 .ret) .skip))))
 (R [oB 18 .add (.x 8) (i 1),oXT 8 18])))))))
 (rG [ox 4 (.mov (i (-1)))]
 .ret))),
 [.mov (.x 4)],[],false,2⟩
end Go.Proofs.YtchgldaddcolhaaGreatDoor

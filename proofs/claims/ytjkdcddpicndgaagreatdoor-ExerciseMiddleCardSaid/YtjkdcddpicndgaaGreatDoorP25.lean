/- Part of the proof of Rows.ExerciseMiddleCardSaid: EvU, EvU1, EvU2, EvU3, EvU4, EvU5, EvU6, EvP1. -/
import Derived.Test.YtjkdcddpicndgaaGreatDoorP24
set_option linter.all false
namespace Go.Proofs.YtjkdcddpicndgaaGreatDoor
set_option maxRecDepth 100000
open Go
abbrev j (n:Int):PV:=.v (.int .i64 n)
abbrev u (n:Int):PV:=.v (.int .u32 n)
abbrev bt:PV:=.v bT
abbrev bf:PV:=.v bF
def ins:List (List PV):=[(1,0,0),(1,1,0),(2,1,0),(1,2,0),(1,3,0),(2,1,0),(1,4,0),(1,5,0),(2,1,0),(5,0,5),(5,3,2),(3,9,10),(5,1,5),(5,4,2),(3,12,13),(2,2,0),(5,15,2),(5,16,5),(5,2,5),(5,3,2),(5,0,5),(4,19,20),(5,4,2),(5,1,5),(4,22,23),(5,21,21),(5,24,24),(3,25,26),(5,18,18),(5,2,2),(5,29,28),(2,0,0),(2,2,0),(5,32,0),(5,33,2),(5,34,28),(4,31,35),(2,0,0),(2,2,0),(5,38,1),(5,39,2),(5,40,28),(4,37,41),(5,0,0),(5,1,1),(3,43,44),(5,45,28),(5,29,27),(4,46,47),(5,0,18),(5,2,21),(3,49,50),(5,1,18),(5,2,24),(3,52,53),(5,2,18),(5,5,2),(5,0,5),(5,3,2),(4,57,58),(5,1,5),(5,4,2),(4,60,61),(5,59,59),(5,62,62),(3,63,64),(5,56,56),(5,5,5),(5,67,66),(2,0,0),(2,2,0),(5,70,3),(5,71,5),(5,72,66),(4,69,73),(2,0,0),(2,2,0),(5,76,4),(5,77,5),(5,78,66),(4,75,79),(5,3,3),(5,4,4),(3,81,82),(5,83,66),(5,67,65),(4,84,85),(5,3,56),(5,5,59),(3,87,88),(5,4,56),(5,5,62),(3,90,91),(5,5,56),(5,68,36),(5,30,74),(4,94,95),(5,68,42),(5,30,80),(4,97,98),(5,68,48),(5,30,86),(4,100,101),(5,96,96),(5,99,99),(3,103,104),(2,2,0),(5,106,30),(5,107,102),(5,96,36),(4,108,109),(5,99,42),(4,110,111),(5,36,36),(5,42,42),(3,113,114),(2,4,0),(5,116,30),(5,117,48),(4,115,118),(5,105,119),(5,112,112),(4,120,121),(6,122,0),(2,0,0),(5,105,36),(4,124,125),(5,112,96),(4,126,127),(5,123,99),(4,128,129),(2,0,0),(5,105,42),(4,131,132),(5,112,99),(4,133,134),(5,123,96),(3,135,136),(2,2,0),(5,138,105),(5,139,30),(5,68,36),(5,30,74),(4,141,142),(5,68,42),(5,30,80),(4,144,145),(5,68,48),(5,30,86),(4,147,148),(5,143,143),(5,146,146),(3,150,151),(2,2,0),(5,153,30),(5,154,149),(5,143,36),(4,155,156),(5,146,42),(4,157,158),(5,36,36),(5,42,42),(3,160,161),(2,4,0),(5,163,30),(5,164,48),(4,162,165),(5,152,166),(5,159,159),(4,167,168),(6,169,0),(2,0,0),(5,152,36),(4,171,172),(5,159,143),(4,173,174),(5,170,146),(4,175,176),(2,0,0),(5,152,42),(4,178,179),(5,159,146),(4,180,181),(5,170,143),(3,182,183),(2,2,0),(5,185,152),(5,186,30),(5,137,187),(5,140,184),(4,188,189),(5,140,177),(5,130,187),(4,191,192),(5,130,184),(5,137,177),(4,194,195),(5,1,5),(5,2,4),(4,197,198),(5,2,3),(5,0,5),(4,200,201),(5,0,4),(5,1,3),(4,203,204),(5,193,205),(5,196,202),(4,206,207),(5,196,199),(5,190,205),(4,209,210),(5,190,202),(5,193,199),(4,212,213)].map fun (a:Int×Int×Int)=>[j a.1,j a.2.1,j a.2.2]
def vals:List (List PV):=[[0,1,2],[3,4,5],[6,7,8],[11,14,17],[30,36,42,48,51,54,55],[68,74,80,86,89,92,93],[130,137,140],[177,184,187],[190,193,196],[199,202,205],[208,211,214]].map fun (l:List Int)=>[.sl (l.map fun n=>[j n])]
def cs:List (List PV):=[[.v (Y [48]),j 1,.sl [],bf,.sl [],bf,.sl [[u 1]],bf,.sl [],bf,.sl [[u 1]],j 0],
 [.v (Y [49]),j 1,.sl [],bf,.sl [[u 4]],bf,.sl [[u 1]],bf,.sl [[u 2]],bf,.sl [[u 1]],j 0],
 [.v (Y [50]),j 1,.sl [],bf,.sl [[u 1]],bf,.sl [[u 1]],bf,.sl [[u 3]],bf,.sl [[u 1]],j 0],
 [.v (Y [51]),j 12,.sl [[j 0],[j 1]],bf,.sl [],bf,.sl [],bf,.sl [],bf,.sl [],j 0],
 [.v (Y [52]),j 5,.sl [[j 0],[j 1]],bf,.sl [],bf,.sl [],bf,.sl [],bf,.sl [],j 0],
 [.v (Y [53]),j 5,.sl [[j 1],[j 0]],bf,.sl [],bf,.sl [],bf,.sl [],bf,.sl [],j 0],
 [.v (Y [54]),j 9,.sl [[j 4],[j 5]],bf,.sl [],bf,.sl [],bf,.sl [],bf,.sl [],j 1],
 [.v (Y [55]),j 9,.sl [[j 4],[j 5]],bf,.sl [],bf,.sl [],bf,.sl [],bf,.sl [],j 2],
 [.v (Y [56]),j 3,.sl [[j 6],[j 7]],bf,.sl [],bf,.sl [],bf,.sl [],bf,.sl [],j 0],
 [.v (Y [57]),j 3,.sl [[j 0],[j 1]],bf,.sl [],bf,.sl [],bf,.sl [],bf,.sl [],j 0],
 [.v (Y [49,48]),j 4,.sl [[j 8],[j 9]],bf,.sl [],bf,.sl [],bf,.sl [],bf,.sl [],j 0]]
def giv:List (List PV):=[[.v (Y [65]),j 1,.sl [],bf,.sl [],bf,.sl [[u 1]],bf,.sl [],bf,.sl [[u 1]],j 0],
 [.v (Y [66]),j 1,.sl [],bf,.sl [[u 4]],bf,.sl [[u 1]],bf,.sl [[u 2]],bf,.sl [[u 1]],j 0],
 [.v (Y [67]),j 1,.sl [],bf,.sl [[u 1]],bf,.sl [[u 1]],bf,.sl [[u 3]],bf,.sl [[u 1]],j 0]]
def goal:List (List PV):=[[.v (Y [77]),j 12,.sl [[j 0],[j 1]],bf,.sl [],bf,.sl [],bf,.sl [],bf,.sl [],j 0]]
def ans:List (List PV):=[[.v (Y [99]),j 5,.sl [[j 0],[j 1]],bf,.sl [],bf,.sl [],bf,.sl [],bf,.sl [],j 0],
 [.v (Y [100]),j 5,.sl [[j 1],[j 0]],bf,.sl [],bf,.sl [],bf,.sl [],bf,.sl [],j 0],
 [.v (Y [88]),j 9,.sl [[j 3],[j 4]],bf,.sl [],bf,.sl [],bf,.sl [],bf,.sl [],j 1],
 [.v (Y [89]),j 9,.sl [[j 3],[j 4]],bf,.sl [],bf,.sl [],bf,.sl [],bf,.sl [],j 2],
 [.v (Y [108]),j 3,.sl [[j 5],[j 6]],bf,.sl [],bf,.sl [],bf,.sl [],bf,.sl [],j 0],
 [.v (Y [109]),j 3,.sl [[j 0],[j 1]],bf,.sl [],bf,.sl [],bf,.sl [],bf,.sl [],j 0],
 [.v (Y [78]),j 4,.sl [[j 7],[j 8]],bf,.sl [],bf,.sl [],bf,.sl [],bf,.sl [],j 0]]
def s191_0:SFact:=⟨191,[.ptr 0 0,.agg [.p (.sl [[.v (Y [120,120])],[.v (Y [105,110])],[.v (Y [121,121])],[.v (Y [105,110])]]),.p (.sl [[.v (Y [120,120])],[.v (Y [121,121])],[.v (Y [49])]])]],[.cells [.p (j 0),.lit [],.lit [],.lit [],.map 1,.p (j 0)],.map []],.ar 4 2 0 3,[.cells [.p (j 0),.ar 3 2 0 3,.lit [],.lit [],.map 1,.p (j 2)],.map [((Y [120,120]),.int .i64 0),((Y [121,121]),.int .i64 1)],.cells [.p (.sl [[.v (Y [120,120])],[.v (Y [105,110])],[.v (Y [121,121])],[.v (Y [105,110])]]),.p (.sl [[.v (Y [120,120])],[.v (Y [121,121])],[.v (Y [49])]])],.arr 3 none 2 (ins.take 3),.arr 1 none 2 [[j 0],[j 1],[j 2]]]⟩
def s191_1:SFact:=⟨191,[.ptr 0 0,.agg [.p (.sl [[.v (Y [120,120])],[.v (Y [105,110])],[.v (Y [121,121])],[.v (Y [105,110])]]),.p (.sl [[.v (Y [120,120])],[.v (Y [121,121])],[.v (Y [49])]])]],[.cells [.p (j 0),.ar 1 2 0 3,.ar 2 0 0 1,.lit [],.map 3,.p (j 2)],.arr 3 none 2 (ins.take 3),.arr 1 none 0 (vals.take 1),.map []],.ar 5 2 0 3,[.cells [.p (j 0),.ar 1 5 0 6,.ar 2 0 0 1,.lit [],.map 3,.p (j 4)],.arr 3 none 5 (ins.take 6),.arr 1 none 0 (vals.take 1),.map [((Y [120,120]),.int .i64 3),((Y [121,121]),.int .i64 4)],.cells [.p (.sl [[.v (Y [120,120])],[.v (Y [105,110])],[.v (Y [121,121])],[.v (Y [105,110])]]),.p (.sl [[.v (Y [120,120])],[.v (Y [121,121])],[.v (Y [49])]])],.arr 1 none 2 [[j 3],[j 4],[j 5]]]⟩
def s191_2:SFact:=⟨191,[.ptr 0 0,.agg [.p (.sl [[.v (Y [120,120])],[.v (Y [105,110])],[.v (Y [121,121])],[.v (Y [105,110])]]),.p (.sl [[.v (Y [120,120])],[.v (Y [121,121])],[.v (Y [49])]])]],[.cells [.p (j 0),.ar 1 5 0 6,.ar 2 1 0 2,.lit [],.map 3,.p (j 4)],.arr 3 none 5 (ins.take 6),.arr 1 none 1 (vals.take 2),.map []],.ar 5 2 0 3,[.cells [.p (j 0),.ar 1 8 0 9,.ar 2 1 0 2,.lit [],.map 3,.p (j 6)],.arr 3 none 8 (ins.take 9),.arr 1 none 1 (vals.take 2),.map [((Y [120,120]),.int .i64 6),((Y [121,121]),.int .i64 7)],.cells [.p (.sl [[.v (Y [120,120])],[.v (Y [105,110])],[.v (Y [121,121])],[.v (Y [105,110])]]),.p (.sl [[.v (Y [120,120])],[.v (Y [121,121])],[.v (Y [49])]])],.arr 1 none 2 [[j 6],[j 7],[j 8]]]⟩
def s191_3:SFact:=⟨191,[.ptr 0 0,.agg [.p (.sl []),.p (.sl [[.v (Y [120,49,32,122,50,32,43,32,120,50,32,122,49])],[.v (Y [121,49,32,122,50,32,43,32,121,50,32,122,49])],[.v (Y [50,32,122,49,32,122,50])]])]],[.cells [.p (j 0),.ar 1 8 0 9,.ar 2 2 0 3,.lit [],.map 3,.p (j 6)],.arr 3 none 8 (ins.take 9),.arr 1 none 2 (vals.take 3),.map [((Y [120,49]),.int .i64 0),((Y [121,49]),.int .i64 1),((Y [122,49]),.int .i64 2),((Y [120,50]),.int .i64 3),((Y [121,50]),.int .i64 4),((Y [122,50]),.int .i64 5)]],.ar 5 2 0 3,[.cells [.p (j 0),.ar 1 17 0 18,.ar 2 2 0 3,.lit [],.map 3,.p (j 6)],.arr 3 none 17 (ins.take 18),.arr 1 none 2 (vals.take 3),.map [((Y [120,49]),.int .i64 0),((Y [121,49]),.int .i64 1),((Y [122,49]),.int .i64 2),((Y [120,50]),.int .i64 3),((Y [121,50]),.int .i64 4),((Y [122,50]),.int .i64 5)],.cells [.p (.sl []),.p (.sl [[.v (Y [120,49,32,122,50,32,43,32,120,50,32,122,49])],[.v (Y [121,49,32,122,50,32,43,32,121,50,32,122,49])],[.v (Y [50,32,122,49,32,122,50])]])],.arr 1 none 2 [[j 11],[j 14],[j 17]]]⟩
def s191_4:SFact:=⟨191,[.ptr 0 0,.agg [.p (.sl [[.v (Y [119])],[.v (Y [122,50,32,122,51])],[.v (Y [101,120])],[.v (Y [120,51,32,122,50,32,45,32,120,50,32,122,51])],[.v (Y [101,121])],[.v (Y [121,51,32,122,50,32,45,32,121,50,32,122,51])],[.v (Y [100])],[.v (Y [101,120,94,50,32,43,32,101,121,94,50])],[.v (Y [118])],[.v (Y [119,94,50])],[.v (Y [103])],[.v (Y [122,49,94,50])]]),.p (.sl [[.v (Y [103,32,118])],[.v (Y [45,50,32,120,49,32,122,49,32,118])],[.v (Y [45,50,32,121,49,32,122,49,32,118])],[.v (Y [40,120,49,94,50,32,43,32,121,49,94,50,41,32,118,32,45,32,103,32,100])],[.v (Y [120,49,32,119,32,43,32,122,49,32,101,120])],[.v (Y [121,49,32,119,32,43,32,122,49,32,101,121])],[.v (Y [122,49,32,119])]])]],[.cells [.p (j 0),.ar 1 17 0 18,.ar 2 3 0 4,.lit [],.map 3,.p (j 6)],.arr 3 none 17 (ins.take 18),.arr 1 none 3 (vals.take 4),.map [((Y [120,49]),.int .i64 0),((Y [121,49]),.int .i64 1),((Y [122,49]),.int .i64 2),((Y [120,50]),.int .i64 0),((Y [121,50]),.int .i64 1),((Y [122,50]),.int .i64 2),((Y [120,51]),.int .i64 3),((Y [121,51]),.int .i64 4),((Y [122,51]),.int .i64 5)]],.ar 5 6 0 7,[.cells [.p (j 0),.ar 1 55 0 56,.ar 2 3 0 4,.lit [],.map 3,.p (j 6)],.arr 3 none 55 (ins.take 56),.arr 1 none 3 (vals.take 4),.map [((Y [120,49]),.int .i64 0),((Y [121,49]),.int .i64 1),((Y [122,49]),.int .i64 2),((Y [120,50]),.int .i64 0),((Y [121,50]),.int .i64 1),((Y [122,50]),.int .i64 2),((Y [120,51]),.int .i64 3),((Y [121,51]),.int .i64 4),((Y [122,51]),.int .i64 5),((Y [119]),.int .i64 18),((Y [101,120]),.int .i64 21),((Y [101,121]),.int .i64 24),((Y [100]),.int .i64 27),((Y [118]),.int .i64 28),((Y [103]),.int .i64 29)],.cells [.p (.sl [[.v (Y [119])],[.v (Y [122,50,32,122,51])],[.v (Y [101,120])],[.v (Y [120,51,32,122,50,32,45,32,120,50,32,122,51])],[.v (Y [101,121])],[.v (Y [121,51,32,122,50,32,45,32,121,50,32,122,51])],[.v (Y [100])],[.v (Y [101,120,94,50,32,43,32,101,121,94,50])],[.v (Y [118])],[.v (Y [119,94,50])],[.v (Y [103])],[.v (Y [122,49,94,50])]]),.p (.sl [[.v (Y [103,32,118])],[.v (Y [45,50,32,120,49,32,122,49,32,118])],[.v (Y [45,50,32,121,49,32,122,49,32,118])],[.v (Y [40,120,49,94,50,32,43,32,121,49,94,50,41,32,118,32,45,32,103,32,100])],[.v (Y [120,49,32,119,32,43,32,122,49,32,101,120])],[.v (Y [121,49,32,119,32,43,32,122,49,32,101,121])],[.v (Y [122,49,32,119])]])],.arr 1 none 6 [[j 30],[j 36],[j 42],[j 48],[j 51],[j 54],[j 55]]]⟩
def s191_5:SFact:=⟨191,[.ptr 0 0,.agg [.p (.sl [[.v (Y [119])],[.v (Y [122,50,32,122,51])],[.v (Y [101,120])],[.v (Y [120,51,32,122,50,32,45,32,120,50,32,122,51])],[.v (Y [101,121])],[.v (Y [121,51,32,122,50,32,45,32,121,50,32,122,51])],[.v (Y [100])],[.v (Y [101,120,94,50,32,43,32,101,121,94,50])],[.v (Y [118])],[.v (Y [119,94,50])],[.v (Y [103])],[.v (Y [122,49,94,50])]]),.p (.sl [[.v (Y [103,32,118])],[.v (Y [45,50,32,120,49,32,122,49,32,118])],[.v (Y [45,50,32,121,49,32,122,49,32,118])],[.v (Y [40,120,49,94,50,32,43,32,121,49,94,50,41,32,118,32,45,32,103,32,100])],[.v (Y [120,49,32,119,32,43,32,122,49,32,101,120])],[.v (Y [121,49,32,119,32,43,32,122,49,32,101,121])],[.v (Y [122,49,32,119])]])]],[.cells [.p (j 0),.ar 1 55 0 56,.ar 2 4 0 5,.lit [],.map 3,.p (j 6)],.arr 3 none 55 (ins.take 56),.arr 1 none 4 (vals.take 5),.map [((Y [120,49]),.int .i64 3),((Y [121,49]),.int .i64 4),((Y [122,49]),.int .i64 5),((Y [120,50]),.int .i64 3),((Y [121,50]),.int .i64 4),((Y [122,50]),.int .i64 5),((Y [120,51]),.int .i64 0),((Y [121,51]),.int .i64 1),((Y [122,51]),.int .i64 2)]],.ar 5 6 0 7,[.cells [.p (j 0),.ar 1 93 0 94,.ar 2 4 0 5,.lit [],.map 3,.p (j 6)],.arr 3 none 93 (ins.take 94),.arr 1 none 4 (vals.take 5),.map [((Y [120,49]),.int .i64 3),((Y [121,49]),.int .i64 4),((Y [122,49]),.int .i64 5),((Y [120,50]),.int .i64 3),((Y [121,50]),.int .i64 4),((Y [122,50]),.int .i64 5),((Y [120,51]),.int .i64 0),((Y [121,51]),.int .i64 1),((Y [122,51]),.int .i64 2),((Y [119]),.int .i64 56),((Y [101,120]),.int .i64 59),((Y [101,121]),.int .i64 62),((Y [100]),.int .i64 65),((Y [118]),.int .i64 66),((Y [103]),.int .i64 67)],.cells [.p (.sl [[.v (Y [119])],[.v (Y [122,50,32,122,51])],[.v (Y [101,120])],[.v (Y [120,51,32,122,50,32,45,32,120,50,32,122,51])],[.v (Y [101,121])],[.v (Y [121,51,32,122,50,32,45,32,121,50,32,122,51])],[.v (Y [100])],[.v (Y [101,120,94,50,32,43,32,101,121,94,50])],[.v (Y [118])],[.v (Y [119,94,50])],[.v (Y [103])],[.v (Y [122,49,94,50])]]),.p (.sl [[.v (Y [103,32,118])],[.v (Y [45,50,32,120,49,32,122,49,32,118])],[.v (Y [45,50,32,121,49,32,122,49,32,118])],[.v (Y [40,120,49,94,50,32,43,32,121,49,94,50,41,32,118,32,45,32,103,32,100])],[.v (Y [120,49,32,119,32,43,32,122,49,32,101,120])],[.v (Y [121,49,32,119,32,43,32,122,49,32,101,121])],[.v (Y [122,49,32,119])]])],.arr 1 none 6 [[j 68],[j 74],[j 80],[j 86],[j 89],[j 92],[j 93]]]⟩
def s191_6:SFact:=⟨191,[.ptr 0 0,.agg [.p (.sl [[.v (Y [97])],[.v (Y [117,50,32,112,49,32,45,32,117,49,32,112,50])],[.v (Y [98])],[.v (Y [117,50,32,113,49,32,45,32,117,49,32,113,50])],[.v (Y [99])],[.v (Y [117,50,32,114,49,32,45,32,117,49,32,114,50])],[.v (Y [117])],[.v (Y [117,49])],[.v (Y [112])],[.v (Y [112,49])],[.v (Y [113])],[.v (Y [113,49])],[.v (Y [114])],[.v (Y [114,49])],[.v (Y [110])],[.v (Y [97,94,50,32,43,32,98,94,50])],[.v (Y [107])],[.v (Y [50,32,117,32,99,32,45,32,97,32,112,32,45,32,98,32,113])],[.v (Y [100])],[.v (Y [112,94,50,32,43,32,113,94,50,32,45,32,52,32,117,32,114])],[.v (Y [115])],[.v (Y [33,110,32,100,32,45,32,107,94,50])]]),.p (.sl [[.v (Y [45,110,32,112,32,45,32,107,32,97,32,45,32,115,32,98])],[.v (Y [45,110,32,113,32,45,32,107,32,98,32,43,32,115,32,97])],[.v (Y [50,32,110,32,117])]])]],[.cells [.p (j 0),.ar 1 93 0 94,.ar 2 5 0 6,.lit [],.map 3,.p (j 6)],.arr 3 none 93 (ins.take 94),.arr 1 none 5 (vals.take 6),.map [((Y [117,49]),.int .i64 30),((Y [112,49]),.int .i64 36),((Y [113,49]),.int .i64 42),((Y [114,49]),.int .i64 48),((Y [97,120,49]),.int .i64 51),((Y [97,121,49]),.int .i64 54),((Y [97,122,49]),.int .i64 55),((Y [117,50]),.int .i64 68),((Y [112,50]),.int .i64 74),((Y [113,50]),.int .i64 80),((Y [114,50]),.int .i64 86),((Y [97,120,50]),.int .i64 89),((Y [97,121,50]),.int .i64 92),((Y [97,122,50]),.int .i64 93)]],.ar 6 2 0 3,[.cells [.p (j 0),.ar 1 140 0 141,.ar 2 5 0 6,.ar 5 0 0 1,.map 3,.p (j 6)],.arr 3 none 140 (ins.take 141),.arr 1 none 5 (vals.take 6),.map [((Y [117,49]),.int .i64 30),((Y [112,49]),.int .i64 36),((Y [113,49]),.int .i64 42),((Y [114,49]),.int .i64 48),((Y [97,120,49]),.int .i64 51),((Y [97,121,49]),.int .i64 54),((Y [97,122,49]),.int .i64 55),((Y [117,50]),.int .i64 68),((Y [112,50]),.int .i64 74),((Y [113,50]),.int .i64 80),((Y [114,50]),.int .i64 86),((Y [97,120,50]),.int .i64 89),((Y [97,121,50]),.int .i64 92),((Y [97,122,50]),.int .i64 93),((Y [97]),.int .i64 96),((Y [98]),.int .i64 99),((Y [99]),.int .i64 102),((Y [117]),.int .i64 30),((Y [112]),.int .i64 36),((Y [113]),.int .i64 42),((Y [114]),.int .i64 48),((Y [110]),.int .i64 105),((Y [107]),.int .i64 112),((Y [100]),.int .i64 119),((Y [115]),.int .i64 123)],.cells [.p (.sl [[.v (Y [97])],[.v (Y [117,50,32,112,49,32,45,32,117,49,32,112,50])],[.v (Y [98])],[.v (Y [117,50,32,113,49,32,45,32,117,49,32,113,50])],[.v (Y [99])],[.v (Y [117,50,32,114,49,32,45,32,117,49,32,114,50])],[.v (Y [117])],[.v (Y [117,49])],[.v (Y [112])],[.v (Y [112,49])],[.v (Y [113])],[.v (Y [113,49])],[.v (Y [114])],[.v (Y [114,49])],[.v (Y [110])],[.v (Y [97,94,50,32,43,32,98,94,50])],[.v (Y [107])],[.v (Y [50,32,117,32,99,32,45,32,97,32,112,32,45,32,98,32,113])],[.v (Y [100])],[.v (Y [112,94,50,32,43,32,113,94,50,32,45,32,52,32,117,32,114])],[.v (Y [115])],[.v (Y [33,110,32,100,32,45,32,107,94,50])]]),.p (.sl [[.v (Y [45,110,32,112,32,45,32,107,32,97,32,45,32,115,32,98])],[.v (Y [45,110,32,113,32,45,32,107,32,98,32,43,32,115,32,97])],[.v (Y [50,32,110,32,117])]])],.arr 1 none 0 [[j 123]],.arr 1 none 2 [[j 130],[j 137],[j 140]]]⟩
def s191_7:SFact:=⟨191,[.ptr 0 0,.agg [.p (.sl [[.v (Y [97])],[.v (Y [117,50,32,112,49,32,45,32,117,49,32,112,50])],[.v (Y [98])],[.v (Y [117,50,32,113,49,32,45,32,117,49,32,113,50])],[.v (Y [99])],[.v (Y [117,50,32,114,49,32,45,32,117,49,32,114,50])],[.v (Y [117])],[.v (Y [117,49])],[.v (Y [112])],[.v (Y [112,49])],[.v (Y [113])],[.v (Y [113,49])],[.v (Y [114])],[.v (Y [114,49])],[.v (Y [110])],[.v (Y [97,94,50,32,43,32,98,94,50])],[.v (Y [107])],[.v (Y [50,32,117,32,99,32,45,32,97,32,112,32,45,32,98,32,113])],[.v (Y [100])],[.v (Y [112,94,50,32,43,32,113,94,50,32,45,32,52,32,117,32,114])],[.v (Y [115])],[.v (Y [33,110,32,100,32,45,32,107,94,50])]]),.p (.sl [[.v (Y [45,110,32,112,32,45,32,107,32,97,32,45,32,115,32,98])],[.v (Y [45,110,32,113,32,45,32,107,32,98,32,43,32,115,32,97])],[.v (Y [50,32,110,32,117])]])]],[.cells [.p (j 0),.ar 1 140 0 141,.ar 2 6 0 7,.ar 3 0 0 1,.map 4,.p (j 6)],.arr 3 none 140 (ins.take 141),.arr 1 none 6 (vals.take 7),.arr 1 none 0 [[j 123]],.map [((Y [117,49]),.int .i64 30),((Y [112,49]),.int .i64 36),((Y [113,49]),.int .i64 42),((Y [114,49]),.int .i64 48),((Y [97,120,49]),.int .i64 51),((Y [97,121,49]),.int .i64 54),((Y [97,122,49]),.int .i64 55),((Y [117,50]),.int .i64 68),((Y [112,50]),.int .i64 74),((Y [113,50]),.int .i64 80),((Y [114,50]),.int .i64 86),((Y [97,120,50]),.int .i64 89),((Y [97,121,50]),.int .i64 92),((Y [97,122,50]),.int .i64 93)]],.ar 6 2 0 3,[.cells [.p (j 0),.ar 1 187 0 188,.ar 2 6 0 7,.ar 3 1 0 2,.map 4,.p (j 6)],.arr 3 none 187 (ins.take 188),.arr 1 none 6 (vals.take 7),.arr 1 none 1 [[j 123],[j 170]],.map [((Y [117,49]),.int .i64 30),((Y [112,49]),.int .i64 36),((Y [113,49]),.int .i64 42),((Y [114,49]),.int .i64 48),((Y [97,120,49]),.int .i64 51),((Y [97,121,49]),.int .i64 54),((Y [97,122,49]),.int .i64 55),((Y [117,50]),.int .i64 68),((Y [112,50]),.int .i64 74),((Y [113,50]),.int .i64 80),((Y [114,50]),.int .i64 86),((Y [97,120,50]),.int .i64 89),((Y [97,121,50]),.int .i64 92),((Y [97,122,50]),.int .i64 93),((Y [97]),.int .i64 143),((Y [98]),.int .i64 146),((Y [99]),.int .i64 149),((Y [117]),.int .i64 30),((Y [112]),.int .i64 36),((Y [113]),.int .i64 42),((Y [114]),.int .i64 48),((Y [110]),.int .i64 152),((Y [107]),.int .i64 159),((Y [100]),.int .i64 166),((Y [115]),.int .i64 170)],.cells [.p (.sl [[.v (Y [97])],[.v (Y [117,50,32,112,49,32,45,32,117,49,32,112,50])],[.v (Y [98])],[.v (Y [117,50,32,113,49,32,45,32,117,49,32,113,50])],[.v (Y [99])],[.v (Y [117,50,32,114,49,32,45,32,117,49,32,114,50])],[.v (Y [117])],[.v (Y [117,49])],[.v (Y [112])],[.v (Y [112,49])],[.v (Y [113])],[.v (Y [113,49])],[.v (Y [114])],[.v (Y [114,49])],[.v (Y [110])],[.v (Y [97,94,50,32,43,32,98,94,50])],[.v (Y [107])],[.v (Y [50,32,117,32,99,32,45,32,97,32,112,32,45,32,98,32,113])],[.v (Y [100])],[.v (Y [112,94,50,32,43,32,113,94,50,32,45,32,52,32,117,32,114])],[.v (Y [115])],[.v (Y [33,110,32,100,32,45,32,107,94,50])]]),.p (.sl [[.v (Y [45,110,32,112,32,45,32,107,32,97,32,45,32,115,32,98])],[.v (Y [45,110,32,113,32,45,32,107,32,98,32,43,32,115,32,97])],[.v (Y [50,32,110,32,117])]])],.arr 1 none 2 [[j 177],[j 184],[j 187]]]⟩
def s191_8:SFact:=⟨191,[.ptr 0 0,.agg [.p (.sl []),.p (.sl [[.v (Y [121,49,32,122,50,32,45,32,122,49,32,121,50])],[.v (Y [122,49,32,120,50,32,45,32,120,49,32,122,50])],[.v (Y [120,49,32,121,50,32,45,32,121,49,32,120,50])]])]],[.cells [.p (j 0),.ar 1 187 0 188,.ar 2 7 0 8,.ar 3 1 0 2,.map 4,.p (j 6)],.arr 3 none 187 (ins.take 188),.arr 1 none 7 (vals.take 8),.arr 1 none 1 [[j 123],[j 170]],.map [((Y [120,49]),.int .i64 130),((Y [121,49]),.int .i64 137),((Y [122,49]),.int .i64 140),((Y [120,50]),.int .i64 177),((Y [121,50]),.int .i64 184),((Y [122,50]),.int .i64 187)]],.ar 6 2 0 3,[.cells [.p (j 0),.ar 1 196 0 197,.ar 2 7 0 8,.ar 3 1 0 2,.map 4,.p (j 6)],.arr 3 none 196 (ins.take 197),.arr 1 none 7 (vals.take 8),.arr 1 none 1 [[j 123],[j 170]],.map [((Y [120,49]),.int .i64 130),((Y [121,49]),.int .i64 137),((Y [122,49]),.int .i64 140),((Y [120,50]),.int .i64 177),((Y [121,50]),.int .i64 184),((Y [122,50]),.int .i64 187)],.cells [.p (.sl []),.p (.sl [[.v (Y [121,49,32,122,50,32,45,32,122,49,32,121,50])],[.v (Y [122,49,32,120,50,32,45,32,120,49,32,122,50])],[.v (Y [120,49,32,121,50,32,45,32,121,49,32,120,50])]])],.arr 1 none 2 [[j 190],[j 193],[j 196]]]⟩
def s191_9:SFact:=⟨191,[.ptr 0 0,.agg [.p (.sl []),.p (.sl [[.v (Y [121,49,32,122,50,32,45,32,122,49,32,121,50])],[.v (Y [122,49,32,120,50,32,45,32,120,49,32,122,50])],[.v (Y [120,49,32,121,50,32,45,32,121,49,32,120,50])]])]],[.cells [.p (j 0),.ar 1 196 0 197,.ar 2 8 0 9,.ar 3 1 0 2,.map 4,.p (j 6)],.arr 3 none 196 (ins.take 197),.arr 1 none 8 (vals.take 9),.arr 1 none 1 [[j 123],[j 170]],.map [((Y [120,49]),.int .i64 0),((Y [121,49]),.int .i64 1),((Y [122,49]),.int .i64 2),((Y [120,50]),.int .i64 3),((Y [121,50]),.int .i64 4),((Y [122,50]),.int .i64 5)]],.ar 6 2 0 3,[.cells [.p (j 0),.ar 1 205 0 206,.ar 2 8 0 9,.ar 3 1 0 2,.map 4,.p (j 6)],.arr 3 none 205 (ins.take 206),.arr 1 none 8 (vals.take 9),.arr 1 none 1 [[j 123],[j 170]],.map [((Y [120,49]),.int .i64 0),((Y [121,49]),.int .i64 1),((Y [122,49]),.int .i64 2),((Y [120,50]),.int .i64 3),((Y [121,50]),.int .i64 4),((Y [122,50]),.int .i64 5)],.cells [.p (.sl []),.p (.sl [[.v (Y [121,49,32,122,50,32,45,32,122,49,32,121,50])],[.v (Y [122,49,32,120,50,32,45,32,120,49,32,122,50])],[.v (Y [120,49,32,121,50,32,45,32,121,49,32,120,50])]])],.arr 1 none 2 [[j 199],[j 202],[j 205]]]⟩
def s191_10:SFact:=⟨191,[.ptr 0 0,.agg [.p (.sl []),.p (.sl [[.v (Y [121,49,32,122,50,32,45,32,122,49,32,121,50])],[.v (Y [122,49,32,120,50,32,45,32,120,49,32,122,50])],[.v (Y [120,49,32,121,50,32,45,32,121,49,32,120,50])]])]],[.cells [.p (j 0),.ar 1 205 0 206,.ar 2 9 0 10,.ar 3 1 0 2,.map 4,.p (j 6)],.arr 3 none 205 (ins.take 206),.arr 1 none 9 (vals.take 10),.arr 1 none 1 [[j 123],[j 170]],.map [((Y [120,49]),.int .i64 190),((Y [121,49]),.int .i64 193),((Y [122,49]),.int .i64 196),((Y [120,50]),.int .i64 199),((Y [121,50]),.int .i64 202),((Y [122,50]),.int .i64 205)]],.ar 6 2 0 3,[.cells [.p (j 0),.ar 1 214 0 215,.ar 2 9 0 10,.ar 3 1 0 2,.map 4,.p (j 6)],.arr 3 none 214 ins,.arr 1 none 9 (vals.take 10),.arr 1 none 1 [[j 123],[j 170]],.map [((Y [120,49]),.int .i64 190),((Y [121,49]),.int .i64 193),((Y [122,49]),.int .i64 196),((Y [120,50]),.int .i64 199),((Y [121,50]),.int .i64 202),((Y [122,50]),.int .i64 205)],.cells [.p (.sl []),.p (.sl [[.v (Y [121,49,32,122,50,32,45,32,122,49,32,121,50])],[.v (Y [122,49,32,120,50,32,45,32,120,49,32,122,50])],[.v (Y [120,49,32,121,50,32,45,32,121,49,32,120,50])]])],.arr 1 none 2 [[j 208],[j 211],[j 214]]]⟩
def s191_11:SFact:=⟨191,[.ptr 0 0,.agg [.p (.sl []),.p (.sl [[.v (Y [120,49,32,122,50,32,43,32,120,50,32,122,49])],[.v (Y [121,49,32,122,50,32,43,32,121,50,32,122,49])],[.v (Y [50,32,122,49,32,122,50])]])]],[.cells [.p (j 0),.ar 1 17 0 18,.ar 2 3 0 4,.lit [],.map 3,.p (j 6)],.arr 3 none 17 (ins.take 18),.arr 1 none 3 (vals.take 4),.map [((Y [120,49]),.int .i64 0),((Y [121,49]),.int .i64 1),((Y [122,49]),.int .i64 2),((Y [120,50]),.int .i64 0),((Y [121,50]),.int .i64 1),((Y [122,50]),.int .i64 2)]],.ar 5 2 0 3,[.cells [.p (j 0),.ar 1 26 0 27,.ar 2 3 0 4,.lit [],.map 3,.p (j 6)],.arr 3 none 26 (ins.take 18 ++ [[j 5,j 0,j 2],[j 5,j 0,j 2],[j 3,j 18,j 19],[j 5,j 1,j 2],[j 5,j 1,j 2],[j 3,j 21,j 22],[j 2,j 2,j 0],[j 5,j 24,j 2],[j 5,j 25,j 2]]),.arr 1 none 3 (vals.take 4),.map [((Y [120,49]),.int .i64 0),((Y [121,49]),.int .i64 1),((Y [122,49]),.int .i64 2),((Y [120,50]),.int .i64 0),((Y [121,50]),.int .i64 1),((Y [122,50]),.int .i64 2)],.cells [.p (.sl []),.p (.sl [[.v (Y [120,49,32,122,50,32,43,32,120,50,32,122,49])],[.v (Y [121,49,32,122,50,32,43,32,121,50,32,122,49])],[.v (Y [50,32,122,49,32,122,50])]])],.arr 1 none 2 [[j 20],[j 23],[j 26]]]⟩
def s191_12:SFact:=⟨191,[.ptr 0 0,.agg [.p (.sl []),.p (.sl [[.v (Y [120,49,32,122,50,32,43,32,120,50,32,122,49])],[.v (Y [121,49,32,122,50,32,43,32,121,50,32,122,49])],[.v (Y [50,32,122,49,32,122,50])]])]],[.cells [.p (j 0),.ar 1 17 0 18,.ar 2 3 0 4,.lit [],.map 3,.p (j 6)],.arr 3 none 17 (ins.take 18),.arr 1 none 3 (vals.take 4),.map [((Y [120,49]),.int .i64 0),((Y [121,49]),.int .i64 1),((Y [122,49]),.int .i64 2),((Y [120,50]),.int .i64 3),((Y [121,50]),.int .i64 4),((Y [122,50]),.int .i64 5)]],.ar 5 2 0 3,[.cells [.p (j 0),.ar 1 26 0 27,.ar 2 3 0 4,.lit [],.map 3,.p (j 6)],.arr 3 none 26 (ins.take 18 ++ [[j 5,j 0,j 5],[j 5,j 3,j 2],[j 3,j 18,j 19],[j 5,j 1,j 5],[j 5,j 4,j 2],[j 3,j 21,j 22],[j 2,j 2,j 0],[j 5,j 24,j 2],[j 5,j 25,j 5]]),.arr 1 none 3 (vals.take 4),.map [((Y [120,49]),.int .i64 0),((Y [121,49]),.int .i64 1),((Y [122,49]),.int .i64 2),((Y [120,50]),.int .i64 3),((Y [121,50]),.int .i64 4),((Y [122,50]),.int .i64 5)],.cells [.p (.sl []),.p (.sl [[.v (Y [120,49,32,122,50,32,43,32,120,50,32,122,49])],[.v (Y [121,49,32,122,50,32,43,32,121,50,32,122,49])],[.v (Y [50,32,122,49,32,122,50])]])],.arr 1 none 2 [[j 20],[j 23],[j 26]]]⟩
def S191:List SFact:=[s191_0,s191_1,s191_2,s191_3,s191_4,s191_5,s191_6,s191_7,s191_8,s191_9,s191_10,s191_11,s191_12]
def f24_0:Fact:=⟨24,[],.agg [.p (.sl giv),.p (.sl goal),.p (.sl [[j 5],[j 3],[j 4],[j 9],[j 12]]),.p (.sl ans)]⟩
def f13_0:Fact:=⟨13,[.agg [.p (.sl giv),.p (.sl goal),.p (.sl [[j 5],[j 3],[j 4],[j 9],[j 12]]),.p (.sl ans)]],.agg [.p (.sl giv),.p (.sl goal),.p (.sl [[j 5],[j 3],[j 4],[j 9],[j 12]])]⟩
def f25_0:Fact:=⟨25,[.p (.sl [[j 0],[j 0],[j 4],[j 2],[j 1],[j 3]])],.p (.sl [[bf,.sl [],bf,.sl [[u 1]]],[bf,.sl [],bf,.sl [[u 1]]],[bf,.sl [[u 4]],bf,.sl [[u 1]]],[bf,.sl [[u 2]],bf,.sl [[u 1]]],[bf,.sl [[u 1]],bf,.sl [[u 1]]],[bf,.sl [[u 3]],bf,.sl [[u 1]]]])⟩
def f40_0:Fact:=⟨40,[.p (.sl giv)],.p (j 0)⟩
def f40_1:Fact:=⟨40,[.p (.sl (giv ++ [[.v (Y [77]),j 12,.sl [[j 0],[j 1]],bf,.sl [],bf,.sl [],bf,.sl [],bf,.sl [],j 0]]))],.p (j 0)⟩
def f40_2:Fact:=⟨40,[.p (.sl (giv ++ [[.v (Y [99]),j 5,.sl [[j 0],[j 1]],bf,.sl [],bf,.sl [],bf,.sl [],bf,.sl [],j 0],[.v (Y [100]),j 5,.sl [[j 1],[j 0]],bf,.sl [],bf,.sl [],bf,.sl [],bf,.sl [],j 0],[.v (Y [88]),j 9,.sl [[j 3],[j 4]],bf,.sl [],bf,.sl [],bf,.sl [],bf,.sl [],j 1],[.v (Y [89]),j 9,.sl [[j 3],[j 4]],bf,.sl [],bf,.sl [],bf,.sl [],bf,.sl [],j 2],[.v (Y [108]),j 3,.sl [[j 5],[j 6]],bf,.sl [],bf,.sl [],bf,.sl [],bf,.sl [],j 0],[.v (Y [109]),j 3,.sl [[j 0],[j 1]],bf,.sl [],bf,.sl [],bf,.sl [],bf,.sl [],j 0],[.v (Y [78]),j 4,.sl [[j 7],[j 8]],bf,.sl [],bf,.sl [],bf,.sl [],bf,.sl [],j 0]]))],.p (j 0)⟩
def f40_3:Fact:=⟨40,[.p (.sl cs)],.p (j 0)⟩
def f144_0:Fact:=⟨144,[.p (.sl cs)],.tup [.agg [.p (j 6),.p (.sl ins),.p (.sl vals),.p (.sl [[j 123],[j 170]])],.p (j 0)]⟩
def f40_4:Fact:=⟨40,[.p (.sl (cs.take 1))],.p (j 0)⟩
def f144_1:Fact:=⟨144,[.p (.sl (cs.take 1))],.tup [.agg [.p (j 2),.p (.sl (ins.take 3)),.p (.sl (vals.take 1)),.p (.sl [])],.p (j 0)]⟩
def f40_5:Fact:=⟨40,[.p (.sl (cs.take 2))],.p (j 0)⟩
def f144_2:Fact:=⟨144,[.p (.sl (cs.take 2))],.tup [.agg [.p (j 4),.p (.sl (ins.take 6)),.p (.sl (vals.take 2)),.p (.sl [])],.p (j 0)]⟩
def f40_6:Fact:=⟨40,[.p (.sl (cs.take 3))],.p (j 0)⟩
def f144_3:Fact:=⟨144,[.p (.sl (cs.take 3))],.tup [.agg [.p (j 6),.p (.sl (ins.take 9)),.p (.sl (vals.take 3)),.p (.sl [])],.p (j 0)]⟩
def f40_7:Fact:=⟨40,[.p (.sl (cs.take 4))],.p (j 0)⟩
def f144_4:Fact:=⟨144,[.p (.sl (cs.take 4))],.tup [.agg [.p (j 6),.p (.sl (ins.take 18)),.p (.sl (vals.take 4)),.p (.sl [])],.p (j 0)]⟩
def f40_8:Fact:=⟨40,[.p (.sl (cs.take 5))],.p (j 0)⟩
def f144_5:Fact:=⟨144,[.p (.sl (cs.take 5))],.tup [.agg [.p (j 6),.p (.sl (ins.take 56)),.p (.sl (vals.take 5)),.p (.sl [])],.p (j 0)]⟩
def f40_9:Fact:=⟨40,[.p (.sl (cs.take 6))],.p (j 0)⟩
def f144_6:Fact:=⟨144,[.p (.sl (cs.take 6))],.tup [.agg [.p (j 6),.p (.sl (ins.take 94)),.p (.sl (vals.take 6)),.p (.sl [])],.p (j 0)]⟩
def f40_10:Fact:=⟨40,[.p (.sl (cs.take 7))],.p (j 0)⟩
def f144_7:Fact:=⟨144,[.p (.sl (cs.take 7))],.tup [.agg [.p (j 6),.p (.sl (ins.take 141)),.p (.sl (vals.take 7)),.p (.sl [[j 123]])],.p (j 0)]⟩
def f40_11:Fact:=⟨40,[.p (.sl (cs.take 8))],.p (j 0)⟩
def f144_8:Fact:=⟨144,[.p (.sl (cs.take 8))],.tup [.agg [.p (j 6),.p (.sl (ins.take 188)),.p (.sl (vals.take 8)),.p (.sl [[j 123],[j 170]])],.p (j 0)]⟩
def f40_12:Fact:=⟨40,[.p (.sl (cs.take 9))],.p (j 0)⟩
def f144_9:Fact:=⟨144,[.p (.sl (cs.take 9))],.tup [.agg [.p (j 6),.p (.sl (ins.take 197)),.p (.sl (vals.take 9)),.p (.sl [[j 123],[j 170]])],.p (j 0)]⟩
def f40_13:Fact:=⟨40,[.p (.sl (cs.take 10))],.p (j 0)⟩
def f144_10:Fact:=⟨144,[.p (.sl (cs.take 10))],.tup [.agg [.p (j 6),.p (.sl (ins.take 206)),.p (.sl (vals.take 10)),.p (.sl [[j 123],[j 170]])],.p (j 0)]⟩
def f25_1:Fact:=⟨25,[.p (.sl [[j 0],[j 0],[j 0],[j 0],[j 1],[j 3]])],.p (.sl [[bf,.sl [],bf,.sl [[u 1]]],[bf,.sl [],bf,.sl [[u 1]]],[bf,.sl [],bf,.sl [[u 1]]],[bf,.sl [],bf,.sl [[u 1]]],[bf,.sl [[u 1]],bf,.sl [[u 1]]],[bf,.sl [[u 3]],bf,.sl [[u 1]]]])⟩
def f13_1:Fact:=⟨13,[.agg [.p (.sl giv),.p (.sl goal),.p (.sl [[j 12]]),.p (.sl ans)]],.agg [.p (.sl giv),.p (.sl goal),.p (.sl [[j 12]])]⟩
def f40_14:Fact:=⟨40,[.p (.sl (giv ++ [[.v (Y [97,49]),j 12,.sl [[j 0],[j 0]],bf,.sl [],bf,.sl [],bf,.sl [],bf,.sl [],j 0]]))],.p (j 0)⟩
def f40_15:Fact:=⟨40,[.p (.sl (cs.take 4 ++ [[.v (Y [52]),j 12,.sl [[j 0],[j 0]],bf,.sl [],bf,.sl [],bf,.sl [],bf,.sl [],j 0]]))],.p (j 0)⟩
def f144_11:Fact:=⟨144,[.p (.sl (cs.take 4 ++ [[.v (Y [52]),j 12,.sl [[j 0],[j 0]],bf,.sl [],bf,.sl [],bf,.sl [],bf,.sl [],j 0]]))],.tup [.agg [.p (j 6),.p (.sl (ins.take 18 ++ [[j 5,j 0,j 2],[j 5,j 0,j 2],[j 3,j 18,j 19],[j 5,j 1,j 2],[j 5,j 1,j 2],[j 3,j 21,j 22],[j 2,j 2,j 0],[j 5,j 24,j 2],[j 5,j 25,j 2]])),.p (.sl (vals.take 4 ++ [[.sl [[j 20],[j 23],[j 26]]]])),.p (.sl [])],.p (j 0)]⟩
def f12_2:Fact:=⟨12,[.agg [.p (.sl giv),.p (.sl goal),.p (.sl [[j 12]])],.p (.sl [[.v (Y [97,49]),j 12,.sl [[j 0],[j 0]],bf,.sl [],bf,.sl [],bf,.sl [],bf,.sl [],j 0]]),.p (.sl [[bf,.sl [],bf,.sl [[u 1]]],[bf,.sl [],bf,.sl [[u 1]]],[bf,.sl [[u 4]],bf,.sl [[u 1]]],[bf,.sl [[u 2]],bf,.sl [[u 1]]],[bf,.sl [[u 1]],bf,.sl [[u 1]]],[bf,.sl [[u 3]],bf,.sl [[u 1]]]])],.tup [.p (bf),.p (j 0)]⟩
def f40_16:Fact:=⟨40,[.p (.sl (giv ++ [[.v (Y [97,49]),j 12,.sl [[j 0],[j 1]],bf,.sl [],bf,.sl [],bf,.sl [],bf,.sl [],j 0]]))],.p (j 0)⟩
def f40_17:Fact:=⟨40,[.p (.sl (cs.take 4 ++ [[.v (Y [52]),j 12,.sl [[j 0],[j 1]],bf,.sl [],bf,.sl [],bf,.sl [],bf,.sl [],j 0]]))],.p (j 0)⟩
def f144_12:Fact:=⟨144,[.p (.sl (cs.take 4 ++ [[.v (Y [52]),j 12,.sl [[j 0],[j 1]],bf,.sl [],bf,.sl [],bf,.sl [],bf,.sl [],j 0]]))],.tup [.agg [.p (j 6),.p (.sl (ins.take 18 ++ [[j 5,j 0,j 5],[j 5,j 3,j 2],[j 3,j 18,j 19],[j 5,j 1,j 5],[j 5,j 4,j 2],[j 3,j 21,j 22],[j 2,j 2,j 0],[j 5,j 24,j 2],[j 5,j 25,j 5]])),.p (.sl (vals.take 4 ++ [[.sl [[j 20],[j 23],[j 26]]]])),.p (.sl [])],.p (j 0)]⟩
def f12_3:Fact:=⟨12,[.agg [.p (.sl giv),.p (.sl goal),.p (.sl [[j 12]])],.p (.sl [[.v (Y [97,49]),j 12,.sl [[j 0],[j 1]],bf,.sl [],bf,.sl [],bf,.sl [],bf,.sl [],j 0]]),.p (.sl [[bf,.sl [],bf,.sl [[u 1]]],[bf,.sl [],bf,.sl [[u 1]]],[bf,.sl [[u 4]],bf,.sl [[u 1]]],[bf,.sl [[u 2]],bf,.sl [[u 1]]],[bf,.sl [[u 1]],bf,.sl [[u 1]]],[bf,.sl [[u 3]],bf,.sl [[u 1]]]])],.tup [.p (bt),.p (j 0)]⟩
def f12_4:Fact:=⟨12,[.agg [.p (.sl giv),.p (.sl goal),.p (.sl [[j 12]])],.p (.sl [[.v (Y [97,49]),j 12,.sl [[j 0],[j 1]],bf,.sl [],bf,.sl [],bf,.sl [],bf,.sl [],j 0]]),.p (.sl [[bt,.sl [[u 3]],bf,.sl [[u 1]]],[bf,.sl [[u 1]],bf,.sl [[u 1]]],[bt,.sl [[u 1]],bf,.sl [[u 1]]],[bf,.sl [[u 2]],bf,.sl [[u 1]]],[bf,.sl [[u 2]],bf,.sl [[u 1]]],[bf,.sl [],bf,.sl [[u 1]]]])],.tup [.p (bt),.p (j 0)]⟩
def f12_5:Fact:=⟨12,[.agg [.p (.sl giv),.p (.sl goal),.p (.sl [[j 12]])],.p (.sl [[.v (Y [97,49]),j 12,.sl [[j 0],[j 1]],bf,.sl [],bf,.sl [],bf,.sl [],bf,.sl [],j 0]]),.p (.sl [[bt,.sl [[u 3]],bf,.sl [[u 1]]],[bt,.sl [[u 2]],bf,.sl [[u 1]]],[bf,.sl [[u 2]],bf,.sl [[u 1]]],[bf,.sl [[u 2]],bf,.sl [[u 1]]],[bf,.sl [[u 2]],bf,.sl [[u 1]]],[bt,.sl [[u 1]],bf,.sl [[u 1]]]])],.tup [.p (bt),.p (j 0)]⟩
def f19_0:Fact:=⟨19,[.agg [.p (.sl giv),.p (.sl goal),.p (.sl [[j 12]])],.p (j 10)],.tup [.p (.sl [[.v (Y [97,49]),j 12,.sl [[j 0],[j 1]],bf,.sl [],bf,.sl [],bf,.sl [],bf,.sl [],j 0]]),.p (j 0)]⟩
def F24:List Fact:=[f24_0]
def F13:List Fact:=[f13_0,f13_1]
def F25:List Fact:=[f25_0,f25_1]
def F40:List Fact:=[f40_0,f40_1,f40_2,f40_3,f40_4,f40_5,f40_6,f40_7,f40_8,f40_9,f40_10,f40_11,f40_12,f40_13,f40_14,f40_15,f40_16,f40_17]
def F144:List Fact:=[f144_0,f144_1,f144_2,f144_3,f144_4,f144_5,f144_6,f144_7,f144_8,f144_9,f144_10,f144_11,f144_12]
def F12:List Fact:=[f12_2,f12_3,f12_4,f12_5]
def F19:List Fact:=[f19_0]
end Go.Proofs.YtjkdcddpicndgaaGreatDoor
namespace Go.Proofs.YtjkdcddpicndgaaGreatDoor
set_option maxRecDepth 100000
open Go
theorem s191_0_run:s191_0.run rdX 1000 = true:=by decide +kernel
theorem s191_1_run:s191_1.run rdX 1000 = true:=by decide +kernel
theorem s191_2_run:s191_2.run rdX 1000 = true:=by decide +kernel
theorem s191_3_run:s191_3.run rdX 1000 = true:=by decide +kernel
theorem s191_4_run:s191_4.run rdX 1000 = true:=by decide +kernel
theorem s191_5_run:s191_5.run rdX 1000 = true:=by decide +kernel
theorem s191_6_run:s191_6.run rdX 1000 = true:=by decide +kernel
theorem s191_7_run:s191_7.run rdX 1000 = true:=by decide +kernel
theorem s191_8_run:s191_8.run rdX 1000 = true:=by decide +kernel
theorem s191_9_run:s191_9.run rdX 1000 = true:=by decide +kernel
theorem s191_10_run:s191_10.run rdX 1000 = true:=by decide +kernel
theorem s191_11_run:s191_11.run rdX 1000 = true:=by decide +kernel
theorem s191_12_run:s191_12.run rdX 1000 = true:=by decide +kernel
end Go.Proofs.YtjkdcddpicndgaaGreatDoor
namespace Go.Proofs.YtjkdcddpicndgaaGreatDoor
set_option maxRecDepth 100000
open Go
theorem f40_0_run:f40_0.run X0 1000 = true:=by decide +kernel
theorem f40_1_run:f40_1.run X0 1000 = true:=by decide +kernel
theorem f40_2_run:f40_2.run X0 1000 = true:=by decide +kernel
theorem f40_3_run:f40_3.run X0 1000 = true:=by decide +kernel
theorem f40_4_run:f40_4.run X0 1000 = true:=by decide +kernel
theorem f40_5_run:f40_5.run X0 1000 = true:=by decide +kernel
theorem f40_6_run:f40_6.run X0 1000 = true:=by decide +kernel
theorem f40_7_run:f40_7.run X0 1000 = true:=by decide +kernel
theorem f40_8_run:f40_8.run X0 1000 = true:=by decide +kernel
theorem f40_9_run:f40_9.run X0 1000 = true:=by decide +kernel
theorem f40_10_run:f40_10.run X0 1000 = true:=by decide +kernel
theorem f40_11_run:f40_11.run X0 1000 = true:=by decide +kernel
theorem f40_12_run:f40_12.run X0 1000 = true:=by decide +kernel
theorem f40_13_run:f40_13.run X0 1000 = true:=by decide +kernel
theorem f40_14_run:f40_14.run X0 1000 = true:=by decide +kernel
theorem f40_15_run:f40_15.run X0 1000 = true:=by decide +kernel
theorem f40_16_run:f40_16.run X0 1000 = true:=by decide +kernel
theorem f40_17_run:f40_17.run X0 1000 = true:=by decide +kernel
end Go.Proofs.YtjkdcddpicndgaaGreatDoor
namespace Go.Proofs.YtjkdcddpicndgaaGreatDoor
set_option maxRecDepth 100000
open Go
theorem f144_0_run:f144_0.run (orX (stX S191) (factX F40)) 1000 = true:=by decide +kernel
theorem f144_1_run:f144_1.run (orX (stX S191) (factX F40)) 1000 = true:=by decide +kernel
theorem f144_2_run:f144_2.run (orX (stX S191) (factX F40)) 1000 = true:=by decide +kernel
theorem f144_3_run:f144_3.run (orX (stX S191) (factX F40)) 1000 = true:=by decide +kernel
theorem f144_4_run:f144_4.run (orX (stX S191) (factX F40)) 1000 = true:=by decide +kernel
theorem f144_5_run:f144_5.run (orX (stX S191) (factX F40)) 1000 = true:=by decide +kernel
theorem f144_6_run:f144_6.run (orX (stX S191) (factX F40)) 1000 = true:=by decide +kernel
theorem f144_7_run:f144_7.run (orX (stX S191) (factX F40)) 1000 = true:=by decide +kernel
theorem f144_8_run:f144_8.run (orX (stX S191) (factX F40)) 1000 = true:=by decide +kernel
theorem f144_9_run:f144_9.run (orX (stX S191) (factX F40)) 1000 = true:=by decide +kernel
theorem f144_10_run:f144_10.run (orX (stX S191) (factX F40)) 1000 = true:=by decide +kernel
theorem f144_11_run:f144_11.run (orX (stX S191) (factX F40)) 1000 = true:=by decide +kernel
theorem f144_12_run:f144_12.run (orX (stX S191) (factX F40)) 1000 = true:=by decide +kernel
end Go.Proofs.YtjkdcddpicndgaaGreatDoor
namespace Go.Proofs.YtjkdcddpicndgaaGreatDoor
set_option maxRecDepth 100000
open Go
def TF:List En:=[⟨0,101,[],.C [0],.C [1],.C [0]⟩,⟨0,101,[],.C [4],.C [1],.C [4]⟩,⟨0,308,[],.C [0],.C [4],.C [4]⟩,⟨0,101,[],.C [2],.C [1],.C [2]⟩,⟨0,308,[],.C [0],.C [2],.C [2]⟩,⟨0,308,[],.C [0],.C [0],.C [0]⟩,⟨0,101,[],.C [4],.C [0],.C [0]⟩,⟨0,101,[],.C [2],.C [0],.C [0]⟩,⟨0,102,[],.C [0],.C [0],.C [0]⟩,⟨0,101,[],.C [4],.C [2],.C [8]⟩,⟨0,102,[],.C [8],.C [0],.C [8]⟩,⟨0,101,[],.C [2],.C [4],.C [8]⟩,⟨0,102,[],.C [8],.C [8],.C [0]⟩,⟨0,101,[],.C [2],.C [2],.C [4]⟩,⟨0,102,[],.C [4],.C [4],.C [0]⟩,⟨0,101,[],.C [(-3)],.C [1],.C [(-3)]⟩,⟨0,101,[],.C [(-1)],.C [1],.C [(-1)]⟩,⟨0,308,[],.C [(-3)],.C [(-1)],.C [(-4)]⟩,⟨0,101,[],.C [1],.C [1],.C [1]⟩,⟨0,308,[],.C [1],.C [2],.C [3]⟩,⟨0,101,[],.C [(-4)],.C [3],.C [(-12)]⟩,⟨0,101,[],.C [3],.C [(-4)],.C [(-12)]⟩,⟨0,102,[],.C [(-12)],.C [(-12)],.C [0]⟩,⟨0,101,[],.C [(-4)],.C [2],.C [(-8)]⟩,⟨0,101,[],.C [2],.C [(-4)],.C [(-8)]⟩,⟨0,102,[],.C [(-8)],.C [(-8)],.C [0]⟩,⟨0,101,[],.C [3],.C [2],.C [6]⟩,⟨0,101,[],.C [2],.C [3],.C [6]⟩,⟨0,102,[],.C [6],.C [6],.C [0]⟩,⟨0,308,[],.C [(-3)],.C [2],.C [(-1)]⟩,⟨0,101,[],.C [(-2)],.C [1],.C [(-2)]⟩,⟨0,308,[],.C [(-2)],.C [2],.C [0]⟩,⟨0,101,[],.C [(-1)],.C [0],.C [0]⟩,⟨0,101,[],.C [0],.C [(-1)],.C [0]⟩,⟨0,101,[],.C [(-1)],.C [2],.C [(-2)]⟩,⟨0,101,[],.C [2],.C [(-1)],.C [(-2)]⟩,⟨0,102,[],.C [(-2)],.C [(-2)],.C [0]⟩,⟨0,101,[],.C [0],.C [2],.C [0]⟩]
def SF:List Sg:=[⟨[],.C [0],0⟩,⟨[],.C [1],1⟩,⟨[],.C [4],1⟩,⟨[],.C [2],1⟩,⟨[],.C [8],1⟩,⟨[],.C [(-3)],-1⟩,⟨[],.C [(-1)],-1⟩,⟨[],.C [(-4)],-1⟩]
noncomputable def X12:XR:=orX (onX 144 (factX F144)) (orX (onX 40 (factX F40)) (orX (enX TF) (sgX SF)))
noncomputable def X19:XR:=orX (onX 12 (factX F12)) (onX 40 (factX F40))
end Go.Proofs.YtjkdcddpicndgaaGreatDoor
namespace Go.Proofs.YtjkdcddpicndgaaGreatDoor
set_option maxRecDepth 100000
open Go
theorem f12_2_run:f12_2.run X12 1000 = true:=by decide +kernel
theorem f12_3_run:f12_3.run X12 1000 = true:=by decide +kernel
theorem f12_4_run:f12_4.run X12 1000 = true:=by decide +kernel
theorem f12_5_run:f12_5.run X12 1000 = true:=by decide +kernel
theorem f19_0_run:f19_0.run X19 1000 = true:=by decide +kernel
theorem f24_0_run:f24_0.run X0 1000 = true:=by decide +kernel
theorem f13_0_run:f13_0.run X0 1000 = true:=by decide +kernel
theorem f13_1_run:f13_1.run X0 1000 = true:=by decide +kernel
theorem f25_0_run:f25_0.run X0 1000 = true:=by decide +kernel
theorem f25_1_run:f25_1.run X0 1000 = true:=by decide +kernel
end Go.Proofs.YtjkdcddpicndgaaGreatDoor
namespace Go.Proofs.YtjkdcddpicndgaaGreatDoor
open Go
def vb0 (k:Nat):Nat:=[9,9,9,9,9,5038848].getD k 0
theorem TF_chk:chkT vb0 [] [] TF = true:=by decide +kernel
section
variable {P:Program} {kn:TypeId→Bool} (hA:SoundAll P kn)
include hA
theorem S191_ok {S:Sub}:@RuleOk S P kn (stX S191):=st_ok hA (rdX_ok hA) (all_cons s191_0_run (all_cons s191_1_run (all_cons s191_2_run (all_cons s191_3_run (all_cons s191_4_run (all_cons s191_5_run (all_cons s191_6_run (all_cons s191_7_run (all_cons s191_8_run (all_cons s191_9_run (all_cons s191_10_run (all_cons s191_11_run (all_cons s191_12_run all_nil)))))))))))))
theorem F40_ok {S:Sub}:@RuleOk S P kn (factX F40):=facts_ok hA noX_ok (all_cons f40_0_run (all_cons f40_1_run (all_cons f40_2_run (all_cons f40_3_run (all_cons f40_4_run (all_cons f40_5_run (all_cons f40_6_run (all_cons f40_7_run (all_cons f40_8_run (all_cons f40_9_run (all_cons f40_10_run (all_cons f40_11_run (all_cons f40_12_run (all_cons f40_13_run (all_cons f40_14_run (all_cons f40_15_run (all_cons f40_16_run (all_cons f40_17_run all_nil))))))))))))))))))
theorem F144_ok {S:Sub}:@RuleOk S P kn (factX F144):=facts_ok hA (or_ok (S191_ok hA) (F40_ok hA)) (all_cons f144_0_run (all_cons f144_1_run (all_cons f144_2_run (all_cons f144_3_run (all_cons f144_4_run (all_cons f144_5_run (all_cons f144_6_run (all_cons f144_7_run (all_cons f144_8_run (all_cons f144_9_run (all_cons f144_10_run (all_cons f144_11_run (all_cons f144_12_run all_nil)))))))))))))
theorem F12_ok:@RuleOk noSub P kn (factX F12):=fact_ok fun e he=>by
  have h0:=hA.zero
  let s:Vals:=⟨fun _=>[0],fun _=>0⟩
  have hv:∀ k,(s.v k).natAbs ≤ vb0 k:=fun k=>Nat.zero_le _
  have hk:Known3 s [] []:=⟨rfl,fun m hm=>by simp at hm⟩
  have hT:=table_known h0 (s:=s) (vb:=vb0) (by decide) (by decide) hv (T:=TF) TF_chk (con_eqs s (by decide +kernel))
  have hS:=sg_ok h0 (s:=s) (vb:=vb0) (by decide) (by decide) hv hk (T:=SF) (by decide +kernel) (fun e he=>con_sg s ((by decide +kernel:∀ e ∈ SF,e.con = true) e he))
  have hX:=or_ok (on_ok (f0:=144) (F144_ok hA (S:=s.sub))) (or_ok (on_ok (f0:=40) (F40_ok hA (S:=s.sub))) (or_ok hT hS))
  have hc:∀ e ∈ F12,e.run X12 1000 = true∧noHAs e.args = true∧noHA e.r = true:=(all_cons ⟨f12_2_run,by decide +kernel,by decide +kernel⟩ (all_cons ⟨f12_3_run,by decide +kernel,by decide +kernel⟩ (all_cons ⟨f12_4_run,by decide +kernel,by decide +kernel⟩ (all_cons ⟨f12_5_run,by decide +kernel,by decide +kernel⟩ all_nil))))
  obtain ⟨c1,c2,c3⟩:=hc e he
  exact callSim_any c2 c3 (Fact.sim hA (X:=X12) hX c1)
theorem F19_ok:@RuleOk noSub P kn (factX F19):=facts_ok hA (or_ok (on_ok (F12_ok hA)) (on_ok (F40_ok hA))) (all_cons f19_0_run all_nil)
theorem F24_ok {S:Sub}:@RuleOk S P kn (factX F24):=facts_ok hA noX_ok (all_cons f24_0_run all_nil)
theorem F13_ok {S:Sub}:@RuleOk S P kn (factX F13):=facts_ok hA noX_ok (all_cons f13_0_run (all_cons f13_1_run all_nil))
theorem F25_ok {S:Sub}:@RuleOk S P kn (factX F25):=facts_ok hA noX_ok (all_cons f25_0_run (all_cons f25_1_run all_nil))
end
end Go.Proofs.YtjkdcddpicndgaaGreatDoor
namespace Go.Proofs.YtjkdcddpicndgaaGreatDoor
set_option maxRecDepth 100000
open Go
def vb (k:Nat):Nat:=[9,9,9,9,9,5038848].getD k 0
def T1:List En:=[⟨0,101,[],.V 0,.C [1],.H 0⟩,
 ⟨0,101,[],.V 2,.C [1],.H 1⟩,
 ⟨2001000,308,[],.H 0,.H 1,.H 2⟩,
 ⟨0,101,[],.V 1,.C [1],.H 3⟩,
 ⟨0,101,[],.V 3,.C [1],.H 4⟩,
 ⟨5004000,308,[],.H 3,.H 4,.H 5⟩,
 ⟨0,101,[],.C [2],.C [1],.H 6⟩,
 ⟨7000,101,[],.H 6,.C [1],.H 7⟩,
 ⟨0,101,[],.C [1],.C [1],.H 8⟩,
 ⟨1002000,102,[],.H 1,.H 0,.H 9⟩,
 ⟨4005000,102,[],.H 4,.H 3,.H 10⟩,
 ⟨10010000,101,[],.H 9,.H 9,.H 11⟩,
 ⟨11011000,101,[],.H 10,.H 10,.H 12⟩,
 ⟨13012000,308,[],.H 11,.H 12,.H 13⟩,
 ⟨9009000,101,[],.H 8,.H 8,.H 14⟩,
 ⟨15009000,101,[],.H 8,.H 14,.H 15⟩,
 ⟨0,101,[],.C [2],.V 0,.H 16⟩,
 ⟨17000,101,[],.H 16,.C [1],.H 17⟩,
 ⟨15018000,101,[],.H 17,.H 14,.H 18⟩,
 ⟨19000000,102,[],.C [0],.H 18,.H 19⟩,
 ⟨0,101,[],.C [2],.V 1,.H 20⟩,
 ⟨21000,101,[],.H 20,.C [1],.H 21⟩,
 ⟨15022000,101,[],.H 21,.H 14,.H 22⟩,
 ⟨23000000,102,[],.C [0],.H 22,.H 23⟩,
 ⟨0,101,[],.V 0,.V 0,.H 24⟩,
 ⟨0,101,[],.V 1,.V 1,.H 25⟩,
 ⟨26025000,308,[],.H 24,.H 25,.H 26⟩,
 ⟨15027000,101,[],.H 26,.H 14,.H 27⟩,
 ⟨14009000,101,[],.H 8,.H 13,.H 28⟩,
 ⟨29028000,102,[],.H 27,.H 28,.H 29⟩,
 ⟨9000000,101,[],.V 0,.H 8,.H 30⟩,
 ⟨10000000,101,[],.C [1],.H 9,.H 31⟩,
 ⟨32031000,308,[],.H 30,.H 31,.H 32⟩,
 ⟨9000000,101,[],.V 1,.H 8,.H 33⟩,
 ⟨11000000,101,[],.C [1],.H 10,.H 34⟩,
 ⟨35034000,308,[],.H 33,.H 34,.H 35⟩,
 ⟨9000000,101,[],.C [1],.H 8,.H 36⟩,
 ⟨2001000,102,[],.H 0,.H 1,.H 37⟩,
 ⟨5004000,102,[],.H 3,.H 4,.H 38⟩,
 ⟨38038000,101,[],.H 37,.H 37,.H 39⟩,
 ⟨39039000,101,[],.H 38,.H 38,.H 40⟩,
 ⟨41040000,308,[],.H 39,.H 40,.H 41⟩,
 ⟨0,101,[],.C [2],.V 2,.H 42⟩,
 ⟨43000,101,[],.H 42,.C [1],.H 43⟩,
 ⟨15044000,101,[],.H 43,.H 14,.H 44⟩,
 ⟨45000000,102,[],.C [0],.H 44,.H 45⟩,
 ⟨0,101,[],.C [2],.V 3,.H 46⟩,
 ⟨47000,101,[],.H 46,.C [1],.H 47⟩,
 ⟨15048000,101,[],.H 47,.H 14,.H 48⟩,
 ⟨49000000,102,[],.C [0],.H 48,.H 49⟩,
 ⟨0,101,[],.V 2,.V 2,.H 50⟩,
 ⟨0,101,[],.V 3,.V 3,.H 51⟩,
 ⟨52051000,308,[],.H 50,.H 51,.H 52⟩,
 ⟨15053000,101,[],.H 52,.H 14,.H 53⟩,
 ⟨42009000,101,[],.H 8,.H 41,.H 54⟩,
 ⟨55054000,102,[],.H 53,.H 54,.H 55⟩,
 ⟨9000000,101,[],.V 2,.H 8,.H 56⟩,
 ⟨38000000,101,[],.C [1],.H 37,.H 57⟩,
 ⟨58057000,308,[],.H 56,.H 57,.H 58⟩,
 ⟨9000000,101,[],.V 3,.H 8,.H 59⟩,
 ⟨39000000,101,[],.C [1],.H 38,.H 60⟩,
 ⟨61060000,308,[],.H 59,.H 60,.H 61⟩,
 ⟨20016000,101,[],.H 15,.H 19,.H 62⟩,
 ⟨46016000,101,[],.H 15,.H 45,.H 63⟩,
 ⟨64063000,102,[],.H 62,.H 63,.H 64⟩,
 ⟨24016000,101,[],.H 15,.H 23,.H 65⟩,
 ⟨50016000,101,[],.H 15,.H 49,.H 66⟩,
 ⟨67066000,102,[],.H 65,.H 66,.H 67⟩,
 ⟨30016000,101,[],.H 15,.H 29,.H 68⟩,
 ⟨56016000,101,[],.H 15,.H 55,.H 69⟩,
 ⟨70069000,102,[],.H 68,.H 69,.H 70⟩,
 ⟨65065000,101,[],.H 64,.H 64,.H 71⟩,
 ⟨68068000,101,[],.H 67,.H 67,.H 72⟩,
 ⟨73072000,308,[],.H 71,.H 72,.H 73⟩,
 ⟨16000000,101,[],.C [2],.H 15,.H 74⟩,
 ⟨71075000,101,[],.H 74,.H 70,.H 75⟩,
 ⟨20065000,101,[],.H 64,.H 19,.H 76⟩,
 ⟨77076000,102,[],.H 75,.H 76,.H 77⟩,
 ⟨24068000,101,[],.H 67,.H 23,.H 78⟩,
 ⟨79078000,102,[],.H 77,.H 78,.H 79⟩,
 ⟨20020000,101,[],.H 19,.H 19,.H 80⟩,
 ⟨24024000,101,[],.H 23,.H 23,.H 81⟩,
 ⟨82081000,308,[],.H 80,.H 81,.H 82⟩,
 ⟨16000000,101,[],.C [4],.H 15,.H 83⟩,
 ⟨30084000,101,[],.H 83,.H 29,.H 84⟩,
 ⟨85083000,102,[],.H 82,.H 84,.H 85⟩,
 ⟨86074000,101,[],.H 73,.H 85,.H 86⟩,
 ⟨80080000,101,[],.H 79,.H 79,.H 87⟩,
 ⟨88087000,102,[],.H 86,.H 87,.V 5⟩,
 ⟨20074000,101,[.V 5],.H 73,.H 19,.H 88⟩,
 ⟨89000000,102,[.V 5],.C [0],.H 88,.H 89⟩,
 ⟨65080000,101,[.V 5],.H 79,.H 64,.H 90⟩,
 ⟨91090000,102,[.V 5],.H 89,.H 90,.H 91⟩,
 ⟨68000000,101,[.V 5],.C [0,1],.H 67,.H 92⟩,
 ⟨93092000,102,[.V 5],.H 91,.H 92,.H 93⟩,
 ⟨24074000,101,[.V 5],.H 73,.H 23,.H 94⟩,
 ⟨95000000,102,[.V 5],.C [0],.H 94,.H 95⟩,
 ⟨68080000,101,[.V 5],.H 79,.H 67,.H 96⟩,
 ⟨97096000,102,[.V 5],.H 95,.H 96,.H 97⟩,
 ⟨65000000,101,[.V 5],.C [0,1],.H 64,.H 98⟩,
 ⟨99098000,308,[.V 5],.H 97,.H 98,.H 99⟩,
 ⟨74000000,101,[.V 5],.C [2],.H 73,.H 100⟩,
 ⟨16101000,101,[.V 5],.H 100,.H 15,.H 101⟩,
 ⟨20016000,101,[.V 5],.H 15,.H 19,.H 102⟩,
 ⟨46016000,101,[.V 5],.H 15,.H 45,.H 103⟩,
 ⟨104103000,102,[.V 5],.H 102,.H 103,.H 104⟩,
 ⟨24016000,101,[.V 5],.H 15,.H 23,.H 105⟩,
 ⟨50016000,101,[.V 5],.H 15,.H 49,.H 106⟩,
 ⟨107106000,102,[.V 5],.H 105,.H 106,.H 107⟩,
 ⟨30016000,101,[.V 5],.H 15,.H 29,.H 108⟩,
 ⟨56016000,101,[.V 5],.H 15,.H 55,.H 109⟩,
 ⟨110109000,102,[.V 5],.H 108,.H 109,.H 110⟩,
 ⟨105105000,101,[.V 5],.H 104,.H 104,.H 111⟩,
 ⟨108108000,101,[.V 5],.H 107,.H 107,.H 112⟩,
 ⟨113112000,308,[.V 5],.H 111,.H 112,.H 113⟩,
 ⟨16000000,101,[.V 5],.C [2],.H 15,.H 114⟩,
 ⟨111115000,101,[.V 5],.H 114,.H 110,.H 115⟩,
 ⟨20105000,101,[.V 5],.H 104,.H 19,.H 116⟩,
 ⟨117116000,102,[.V 5],.H 115,.H 116,.H 117⟩,
 ⟨24108000,101,[.V 5],.H 107,.H 23,.H 118⟩,
 ⟨119118000,102,[.V 5],.H 117,.H 118,.H 119⟩,
 ⟨20020000,101,[.V 5],.H 19,.H 19,.H 120⟩,
 ⟨24024000,101,[.V 5],.H 23,.H 23,.H 121⟩,
 ⟨122121000,308,[.V 5],.H 120,.H 121,.H 122⟩,
 ⟨16000000,101,[.V 5],.C [4],.H 15,.H 123⟩,
 ⟨30124000,101,[.V 5],.H 123,.H 29,.H 124⟩,
 ⟨125123000,102,[.V 5],.H 122,.H 124,.H 125⟩,
 ⟨126114000,101,[.V 5],.H 113,.H 125,.H 126⟩,
 ⟨120120000,101,[.V 5],.H 119,.H 119,.H 127⟩,
 ⟨128127000,102,[.V 5],.H 126,.H 127,.V 5⟩,
 ⟨0,102,[.V 5,.V 5],.C [0],.C [0,0,1,0],.H 128⟩,
 ⟨20114000,101,[.V 5,.V 5],.H 113,.H 19,.H 129⟩,
 ⟨130000000,102,[.V 5,.V 5],.C [0],.H 129,.H 130⟩,
 ⟨105120000,101,[.V 5,.V 5],.H 119,.H 104,.H 131⟩,
 ⟨132131000,102,[.V 5,.V 5],.H 130,.H 131,.H 132⟩,
 ⟨108129000,101,[.V 5,.V 5],.H 128,.H 107,.H 133⟩,
 ⟨134133000,102,[.V 5,.V 5],.H 132,.H 133,.H 134⟩,
 ⟨24114000,101,[.V 5,.V 5],.H 113,.H 23,.H 135⟩,
 ⟨136000000,102,[.V 5,.V 5],.C [0],.H 135,.H 136⟩,
 ⟨108120000,101,[.V 5,.V 5],.H 119,.H 107,.H 137⟩,
 ⟨138137000,102,[.V 5,.V 5],.H 136,.H 137,.H 138⟩,
 ⟨105129000,101,[.V 5,.V 5],.H 128,.H 104,.H 139⟩,
 ⟨140139000,308,[.V 5,.V 5],.H 138,.H 139,.H 140⟩,
 ⟨114000000,101,[.V 5,.V 5],.C [2],.H 113,.H 141⟩,
 ⟨16142000,101,[.V 5,.V 5],.H 141,.H 15,.H 142⟩,
 ⟨143100000,101,[.V 5,.V 5],.H 99,.H 142,.H 143⟩,
 ⟨141102000,101,[.V 5,.V 5],.H 101,.H 140,.H 144⟩,
 ⟨145144000,102,[.V 5,.V 5],.H 143,.H 144,.H 145⟩,
 ⟨135102000,101,[.V 5,.V 5],.H 101,.H 134,.H 146⟩,
 ⟨143094000,101,[.V 5,.V 5],.H 93,.H 142,.H 147⟩,
 ⟨148147000,102,[.V 5,.V 5],.H 146,.H 147,.H 148⟩,
 ⟨141094000,101,[.V 5,.V 5],.H 93,.H 140,.H 149⟩,
 ⟨135100000,101,[.V 5,.V 5],.H 99,.H 134,.H 150⟩,
 ⟨151150000,102,[.V 5,.V 5],.H 149,.H 150,.H 151⟩,
 ⟨0,101,[.V 5,.V 5],.V 1,.C [1],.H 152⟩,
 ⟨0,101,[.V 5,.V 5],.C [1],.V 3,.H 153⟩,
 ⟨154153000,102,[.V 5,.V 5],.H 152,.H 153,.H 154⟩,
 ⟨0,101,[.V 5,.V 5],.C [1],.V 2,.H 155⟩,
 ⟨0,101,[.V 5,.V 5],.V 0,.C [1],.H 156⟩,
 ⟨157156000,102,[.V 5,.V 5],.H 155,.H 156,.H 157⟩,
 ⟨0,101,[.V 5,.V 5],.V 0,.V 3,.H 158⟩,
 ⟨0,101,[.V 5,.V 5],.V 1,.V 2,.H 159⟩,
 ⟨160159000,102,[.V 5,.V 5],.H 158,.H 159,.H 160⟩,
 ⟨161149000,101,[.V 5,.V 5],.H 148,.H 160,.H 161⟩,
 ⟨158152000,101,[.V 5,.V 5],.H 151,.H 157,.H 162⟩,
 ⟨163162000,102,[.V 5,.V 5],.H 161,.H 162,.H 163⟩,
 ⟨155152000,101,[.V 5,.V 5],.H 151,.H 154,.H 164⟩,
 ⟨161146000,101,[.V 5,.V 5],.H 145,.H 160,.H 165⟩,
 ⟨166165000,102,[.V 5,.V 5],.H 164,.H 165,.H 166⟩,
 ⟨158146000,101,[.V 5,.V 5],.H 145,.H 157,.H 167⟩,
 ⟨155149000,101,[.V 5,.V 5],.H 148,.H 154,.H 168⟩,
 ⟨169168000,102,[.V 5,.V 5],.H 167,.H 168,.H 169⟩,
 ⟨167003000,101,[.V 5,.V 5],.H 2,.H 166,.H 170⟩,
 ⟨164006000,101,[.V 5,.V 5],.H 5,.H 163,.H 171⟩,
 ⟨172171000,102,[.V 5,.V 5],.H 170,.H 171,.H 172⟩,
 ⟨170003000,101,[.V 5,.V 5],.H 2,.H 169,.H 173⟩,
 ⟨164008000,101,[.V 5,.V 5],.H 7,.H 163,.H 174⟩,
 ⟨175174000,102,[.V 5,.V 5],.H 173,.H 174,.H 175⟩,
 ⟨170006000,101,[.V 5,.V 5],.H 5,.H 169,.H 176⟩,
 ⟨167008000,101,[.V 5,.V 5],.H 7,.H 166,.H 177⟩,
 ⟨178177000,102,[.V 5,.V 5],.H 176,.H 177,.H 178⟩]
def S1:List Sg:=[⟨[],.V 5,1⟩,⟨[.V 5],.V 5,1⟩,⟨[.V 5,.V 5],.H 172,0⟩,⟨[.V 5,.V 5],.H 175,0⟩,⟨[.V 5,.V 5],.H 178,0⟩]
noncomputable def W1:List Sp:=[⟨[[j 0],[j 1],[j 2]],pats [] [] [.V 0,.V 1,.C [1]]⟩,
 ⟨[[j 3],[j 4],[j 5]],pats [] [] [.V 2,.V 3,.C [1]]⟩,
 ⟨[[j 6],[j 7],[j 8]],pats [] [] [.C [1]]⟩,
 ⟨[[j 11],[j 14],[j 17]],pats [] [] [.H 2,.H 5,.H 7]⟩,
 ⟨[[j 30],[j 36],[j 42],[j 48]],pats [] [] [.H 15]⟩,
 ⟨[[j 68],[j 74],[j 80],[j 86]],pats [] [] [.H 15]⟩,
 ⟨[[j 130],[j 137],[j 140]],pats [.V 5] [] [.H 93,.H 99,.H 101]⟩,
 ⟨[[j 177],[j 184],[j 187]],pats [.V 5,.V 5] [] [.H 134,.H 140,.H 142]⟩,
 ⟨[[j 190],[j 193],[j 196]],pats [.V 5,.V 5] [] [.H 145,.H 148]⟩,
 ⟨[[j 199],[j 202],[j 205]],pats [.V 5,.V 5] [] [.H 154,.H 157]⟩,
 ⟨[[j 208],[j 211],[j 214]],pats [.V 5,.V 5] [] [.H 163,.H 166,.H 169]⟩]
def T2:List En:=[⟨0,101,[],.V 0,.C [1],.H 0⟩,
 ⟨0,101,[],.V 2,.C [1],.H 1⟩,
 ⟨2001000,308,[],.H 0,.H 1,.H 2⟩,
 ⟨0,101,[],.V 1,.C [1],.H 3⟩,
 ⟨0,101,[],.V 3,.C [1],.H 4⟩,
 ⟨5004000,308,[],.H 3,.H 4,.H 5⟩,
 ⟨0,101,[],.C [2],.C [1],.H 6⟩,
 ⟨7000,101,[],.H 6,.C [1],.H 7⟩,
 ⟨0,101,[],.C [1],.C [1],.H 8⟩,
 ⟨1002000,102,[],.H 1,.H 0,.H 9⟩,
 ⟨4005000,102,[],.H 4,.H 3,.H 10⟩,
 ⟨10010000,101,[],.H 9,.H 9,.H 11⟩,
 ⟨11011000,101,[],.H 10,.H 10,.H 12⟩,
 ⟨13012000,308,[],.H 11,.H 12,.H 13⟩,
 ⟨9009000,101,[],.H 8,.H 8,.H 14⟩,
 ⟨15009000,101,[],.H 8,.H 14,.H 15⟩,
 ⟨0,101,[],.C [2],.V 0,.H 16⟩,
 ⟨17000,101,[],.H 16,.C [1],.H 17⟩,
 ⟨15018000,101,[],.H 17,.H 14,.H 18⟩,
 ⟨19000000,102,[],.C [0],.H 18,.H 19⟩,
 ⟨0,101,[],.C [2],.V 1,.H 20⟩,
 ⟨21000,101,[],.H 20,.C [1],.H 21⟩,
 ⟨15022000,101,[],.H 21,.H 14,.H 22⟩,
 ⟨23000000,102,[],.C [0],.H 22,.H 23⟩,
 ⟨0,101,[],.V 0,.V 0,.H 24⟩,
 ⟨0,101,[],.V 1,.V 1,.H 25⟩,
 ⟨26025000,308,[],.H 24,.H 25,.H 26⟩,
 ⟨15027000,101,[],.H 26,.H 14,.H 27⟩,
 ⟨14009000,101,[],.H 8,.H 13,.H 28⟩,
 ⟨29028000,102,[],.H 27,.H 28,.H 29⟩,
 ⟨9000000,101,[],.V 0,.H 8,.H 30⟩,
 ⟨10000000,101,[],.C [1],.H 9,.H 31⟩,
 ⟨32031000,308,[],.H 30,.H 31,.H 32⟩,
 ⟨9000000,101,[],.V 1,.H 8,.H 33⟩,
 ⟨11000000,101,[],.C [1],.H 10,.H 34⟩,
 ⟨35034000,308,[],.H 33,.H 34,.H 35⟩,
 ⟨9000000,101,[],.C [1],.H 8,.H 36⟩,
 ⟨2001000,102,[],.H 0,.H 1,.H 37⟩,
 ⟨5004000,102,[],.H 3,.H 4,.H 38⟩,
 ⟨38038000,101,[],.H 37,.H 37,.H 39⟩,
 ⟨39039000,101,[],.H 38,.H 38,.H 40⟩,
 ⟨41040000,308,[],.H 39,.H 40,.H 41⟩,
 ⟨0,101,[],.C [2],.V 2,.H 42⟩,
 ⟨43000,101,[],.H 42,.C [1],.H 43⟩,
 ⟨15044000,101,[],.H 43,.H 14,.H 44⟩,
 ⟨45000000,102,[],.C [0],.H 44,.H 45⟩,
 ⟨0,101,[],.C [2],.V 3,.H 46⟩,
 ⟨47000,101,[],.H 46,.C [1],.H 47⟩,
 ⟨15048000,101,[],.H 47,.H 14,.H 48⟩,
 ⟨49000000,102,[],.C [0],.H 48,.H 49⟩,
 ⟨0,101,[],.V 2,.V 2,.H 50⟩,
 ⟨0,101,[],.V 3,.V 3,.H 51⟩,
 ⟨52051000,308,[],.H 50,.H 51,.H 52⟩,
 ⟨15053000,101,[],.H 52,.H 14,.H 53⟩,
 ⟨42009000,101,[],.H 8,.H 41,.H 54⟩,
 ⟨55054000,102,[],.H 53,.H 54,.H 55⟩,
 ⟨9000000,101,[],.V 2,.H 8,.H 56⟩,
 ⟨38000000,101,[],.C [1],.H 37,.H 57⟩,
 ⟨58057000,308,[],.H 56,.H 57,.H 58⟩,
 ⟨9000000,101,[],.V 3,.H 8,.H 59⟩,
 ⟨39000000,101,[],.C [1],.H 38,.H 60⟩,
 ⟨61060000,308,[],.H 59,.H 60,.H 61⟩,
 ⟨20016000,101,[],.H 15,.H 19,.H 62⟩,
 ⟨46016000,101,[],.H 15,.H 45,.H 63⟩,
 ⟨64063000,102,[],.H 62,.H 63,.H 64⟩,
 ⟨24016000,101,[],.H 15,.H 23,.H 65⟩,
 ⟨50016000,101,[],.H 15,.H 49,.H 66⟩,
 ⟨67066000,102,[],.H 65,.H 66,.H 67⟩,
 ⟨30016000,101,[],.H 15,.H 29,.H 68⟩,
 ⟨56016000,101,[],.H 15,.H 55,.H 69⟩,
 ⟨70069000,102,[],.H 68,.H 69,.H 70⟩,
 ⟨65065000,101,[],.H 64,.H 64,.H 71⟩,
 ⟨68068000,101,[],.H 67,.H 67,.H 72⟩,
 ⟨73072000,308,[],.H 71,.H 72,.H 73⟩,
 ⟨16000000,101,[],.C [2],.H 15,.H 74⟩,
 ⟨71075000,101,[],.H 74,.H 70,.H 75⟩,
 ⟨20065000,101,[],.H 64,.H 19,.H 76⟩,
 ⟨77076000,102,[],.H 75,.H 76,.H 77⟩,
 ⟨24068000,101,[],.H 67,.H 23,.H 78⟩,
 ⟨79078000,102,[],.H 77,.H 78,.H 79⟩,
 ⟨20020000,101,[],.H 19,.H 19,.H 80⟩,
 ⟨24024000,101,[],.H 23,.H 23,.H 81⟩,
 ⟨82081000,308,[],.H 80,.H 81,.H 82⟩,
 ⟨16000000,101,[],.C [4],.H 15,.H 83⟩,
 ⟨30084000,101,[],.H 83,.H 29,.H 84⟩,
 ⟨85083000,102,[],.H 82,.H 84,.H 85⟩,
 ⟨86074000,101,[],.H 73,.H 85,.H 86⟩,
 ⟨80080000,101,[],.H 79,.H 79,.H 87⟩,
 ⟨88087000,102,[],.H 86,.H 87,.V 5⟩,
 ⟨20074000,101,[],.H 73,.H 19,.H 88⟩,
 ⟨89000000,102,[],.C [0],.H 88,.H 89⟩,
 ⟨65080000,101,[],.H 79,.H 64,.H 90⟩,
 ⟨91090000,102,[],.H 89,.H 90,.H 91⟩,
 ⟨68000000,101,[],.C [0],.H 67,.H 92⟩,
 ⟨93092000,102,[],.H 91,.H 92,.H 93⟩,
 ⟨24074000,101,[],.H 73,.H 23,.H 94⟩,
 ⟨95000000,102,[],.C [0],.H 94,.H 95⟩,
 ⟨68080000,101,[],.H 79,.H 67,.H 96⟩,
 ⟨97096000,102,[],.H 95,.H 96,.H 97⟩,
 ⟨65000000,101,[],.C [0],.H 64,.H 98⟩,
 ⟨99098000,308,[],.H 97,.H 98,.H 99⟩,
 ⟨74000000,101,[],.C [2],.H 73,.H 100⟩,
 ⟨16101000,101,[],.H 100,.H 15,.H 101⟩,
 ⟨0,102,[],.C [0],.C [0],.H 102⟩,
 ⟨68103000,101,[],.H 102,.H 67,.H 103⟩,
 ⟨104092000,102,[],.H 91,.H 103,.H 104⟩,
 ⟨65103000,101,[],.H 102,.H 64,.H 105⟩,
 ⟨106098000,308,[],.H 97,.H 105,.H 106⟩,
 ⟨0,101,[],.C [1],.V 3,.H 107⟩,
 ⟨108004000,102,[],.H 3,.H 107,.H 108⟩,
 ⟨0,101,[],.C [1],.V 2,.H 109⟩,
 ⟨1110000,102,[],.H 109,.H 0,.H 110⟩,
 ⟨0,101,[],.V 0,.V 3,.H 111⟩,
 ⟨0,101,[],.V 1,.V 2,.H 112⟩,
 ⟨113112000,102,[],.H 111,.H 112,.H 113⟩]
def S2:List Sg:=[⟨[],.V 5,0⟩]
noncomputable def W2:List Sp:=[⟨[[j 0],[j 1],[j 2]],pats [] [] [.V 0,.V 1,.C [1]]⟩,
 ⟨[[j 3],[j 4],[j 5]],pats [] [] [.V 2,.V 3,.C [1]]⟩,
 ⟨[[j 6],[j 7],[j 8]],pats [] [] [.C [1]]⟩,
 ⟨[[j 11],[j 14],[j 17]],pats [] [] [.H 2,.H 5,.H 7]⟩,
 ⟨[[j 30],[j 36],[j 42],[j 48]],pats [] [] [.H 15]⟩,
 ⟨[[j 68],[j 74],[j 80],[j 86]],pats [] [] [.H 15]⟩,
 ⟨[[j 130],[j 137],[j 140]],[sgX [⟨[],.H 93,0⟩,⟨[],.H 99,0⟩,⟨[],.H 101,0⟩]]⟩,
 ⟨[[j 177],[j 184],[j 187]],[sgX [⟨[],.H 104,0⟩,⟨[],.H 106,0⟩,⟨[],.H 101,0⟩]]⟩,
 ⟨[[j 199],[j 202],[j 205]],[sgX [⟨[],.H 108,0⟩,⟨[],.H 110,0⟩,⟨[],.H 113,0⟩]]⟩]
end Go.Proofs.YtjkdcddpicndgaaGreatDoor

/- Part of the proof of Rows.ExerciseMiddleCardSaid: EvM7, EvM8, EvM9, EvI, EvV1. -/
import Derived.Test.YtjkdcddpicndgaaGreatDoorP19
set_option linter.all false
namespace Go.Proofs.YtjkdcddpicndgaaGreatDoor
open Go
theorem take_map_len {α β:Type} {l:List α} {f:α→β}:(l.map f).take l.length = l.map f:=List.take_of_length_le (by simp)
def radS (t:List (List Rat)) (j:Nat):List Rat:=liftS (t.getD j []) (2 ^ j)
theorem radS_len {t:List (List Rat)} (ht:Tw t) {j:Nat} (hj:j < t.length):(t.getD j []).length ≤ 2 ^ j∧(radS t j).length = 2 ^ j∧∀ r ∈ radS t j,SmQ r:=by
  obtain ⟨i,hi,hl,hs⟩:=ht.el j _ (List.getElem?_eq_getElem hj)
  have e:t.getD j [] = t[j]:=by rw [List.getD_eq_getElem?_getD,List.getElem?_eq_getElem hj]; rfl
  have hle:(t.getD j []).length ≤ 2 ^ j:=by rw [e,hl]; exact Nat.pow_le_pow_right (by omega) hi
  exact ⟨hle,liftS_len hle,liftS_sm (by rw [e]; exact hs)⟩
theorem radicand_wf {t:List (List Rat)} (ht:Tw t) {e:Int} {j:Nat} (hj:j < t.length) :
    WF X0 Gam 201 [.ptr 0 0,int (2 ^ (j + 1):Nat)] (cHat 0 t e) (plPost (cHat 0 t e) (.p (el (radS t j)))):=by
  have h5:=ht.len
  have hm:=pow_mem (j:=j + 1) (by omega)
  obtain ⟨n,hn⟩:∃ n,2 ^ (j + 1) = n:=⟨_,rfl⟩
  rw [hn] at hm ⊢
  have hb:n ≤ 32:=by
    simp only [List.mem_cons,Prod.mk.injEq,List.not_mem_nil,or_false] at hm
    omega
  obtain ⟨h1,h2,h3⟩:=radS_len ht hj
  obtain ⟨x,hx⟩:∃ x,t[j] = x:=⟨_,rfl⟩
  have ex:t.getD j [] = x:=by rw [List.getD_eq_getElem?_getD,List.getElem?_eq_getElem hj,hx]; rfl
  have w1:IntKind.u64.wrap (n:Int) = n:=wrap_u64 (by omega)
  have w2:IntKind.i64.wrap ((j:Int) + 1 + 1 - 2) = j:=by rw [wrap_i64 (by omega)]; omega
  have w3:(n:Int).tdiv 2 = (2 ^ j:Nat):=by
    rw [← hn,show ((2 ^ (j + 1):Nat):Int) = (2 ^ j:Nat) * 2 by rw [Nat.pow_succ]; simp,Int.mul_tdiv_cancel _ (by decide)]
  have hp:2 ^ j ≤ 32:=by have:=Nat.pow_succ 2 j; omega
  have w4:IntKind.i64.wrap ((2 ^ j:Nat):Int) = (2 ^ j:Nat):=wrap_i64 (by omega)
  refine WF_intro rfl rfl ?_
  simp [EV,EVR,evOp,w1,C246]
  rw [P246 hm]
  simp [EV,EVR,evOp,w1,w2,hj,hx,R199]
  have w5:IntKind.i64.wrap ((n:Int) / 2) = (2 ^ j:Nat):=by
    rw [← w4,← w3,Int.tdiv_eq_ediv_of_nonneg (by omega)]
  rw [w5]
  refine calc_own0 (B:=[]) (args:=[.p (el x),int (2 ^ j:Nat)]) (by simp [EV]) (lift_wf (by rw [← ex]; exact h1) (by omega)) fun v=>?_
  have ex':t[j]?.getD [] = x:=by rw [← ex,List.getD_eq_getElem?_getD]
  simp [EV,EVR,evOp,plPost,radS,ex',take_map_len,-List.map_append]
theorem P201 {t:List (List Rat)} (ht:Tw t) {e:Int} {j:Nat} (hj:j < t.length) {B H:List Obj} {K:AV→List Obj→Prop} (hK:K (.p (el (radS t j))) (cHat 0 t e ++ B)) :
    WR X0 Gam 201 false [.ptr 0 0,int (2 ^ (j + 1):Nat)] H (cHat 0 t e ++ B) K:=calc_pl0 (args:=[int (2 ^ (j + 1):Nat)]) (by simp [EV]) (radicand_wf ht hj) hK
def timesS (t:List (List Rat)):Nat→Int→List Rat→List Rat→List Rat×Int
  | 0,e,x,y=>([(mulR e (x.getD 0 0) (y.getD 0 0)).1],(mulR e (x.getD 0 0) (y.getD 0 0)).2)
  | j + 1,e,x,y=>if e ≠ 0 then (List.replicate (2 ^ (j + 1)) 0,e) else
    let a:=x.take (2 ^ j)
    let b:=x.drop (2 ^ j)
    let d:=y.take (2 ^ j)
    let f:=y.drop (2 ^ j)
    let p:=timesS t j e a d
    let q:=timesS t j p.2 b f
    let w:=timesS t j q.2 q.1 (radS t j)
    let lo:=eachS addR w.2 p.1 w.1
    let u:=timesS t j lo.2 a f
    let v:=timesS t j u.2 b d
    let hi:=eachS addR v.2 u.1 v.1
    (lo.1 ++ hi.1,hi.2)
theorem timesS_ok (t:List (List Rat)):∀ (j:Nat) (e:Int) (x y:List Rat),El j (timesS t j e x y).1
  | 0,e,x,y=>⟨rfl,fun r hr=>by simp [timesS] at hr; rw [hr]; exact mulR_sm⟩
  | j + 1,e,x,y=>by
    unfold timesS
    split
    · exact ⟨by simp,fun r hr=>by rw [List.mem_replicate] at hr; rw [hr.2]; exact SmQ_zero⟩
    · have h:=timesS_ok t j
      constructor
      · simp only [List.length_append]
        rw [eachS_len (by rw [(h _ _ _).1,(h _ _ _).1]),eachS_len (by rw [(h _ _ _).1,(h _ _ _).1]),(h _ _ _).1,(h _ _ _).1,Nat.pow_succ]; omega
      · intro r hr
        rcases List.mem_append.1 hr with hr | hr
        · exact eachS_sm .add r hr
        · exact eachS_sm .add r hr
theorem El.take {j:Nat} {x:List Rat} (h:El (j + 1) x):El j (x.take (2 ^ j)):=⟨by rw [List.length_take,h.1,Nat.pow_succ]; omega,fun r hr=>h.2 r (List.mem_of_mem_take hr)⟩
theorem El.drop {j:Nat} {x:List Rat} (h:El (j + 1) x):El j (x.drop (2 ^ j)):=⟨by rw [List.length_drop,h.1,Nat.pow_succ]; omega,fun r hr=>h.2 r (List.mem_of_mem_drop hr)⟩
theorem times0_wf {t:List (List Rat)} {e:Int} {x y:List Rat} (hx:El 0 x) (hy:El 0 y) :
    WF X0 Gam 149 [.ptr 0 0,.p (el x),.p (el y)] (cHat 0 t e) (litPost (cHat 0 t (timesS t 0 e x y).2) ((timesS t 0 e x y).1.map qrow)):=by
  obtain ⟨lx,sx⟩:=hx
  obtain ⟨ly,sy⟩:=hy
  match x,lx,y,ly with
  | [a],_,[b],_ =>
    have ha:SmQ a:=sx a (by simp)
    have hb:SmQ b:=sy b (by simp)
    refine WF_intro rfl rfl ?_
    simp [EV,EVR,evOp,R204]
    refine P204c .mul ha hb (B:=[]) ?_
    simp [EV,EVR,evOp,R204,fillRows,partArs,splice,toPVs,toPV,freeze,litPost,timesS]
theorem El.split {j:Nat} {x:List Rat} (h:El (j + 1) x):∃ a b,x = a ++ b∧El j a∧El j b:=⟨x.take (2 ^ j),x.drop (2 ^ j),(List.take_append_drop _ _).symm,h.take,h.drop⟩
theorem El.ne {j:Nat} {x:List Rat} (h:El j x):x ≠ []:=fun e=>by
  have:=h.1; rw [e] at this
  have hp:0 < 2 ^ j:=Nat.pow_pos (by decide)
  rw [← this] at hp
  exact absurd hp (by simp)
theorem El.le {j:Nat} {x:List Rat} (h:El j x) (hj:j ≤ 5):x.length ≤ 32:=by rw [h.1]; exact Nat.pow_le_pow_right (by omega) hj
theorem timesS_succ {t:List (List Rat)} {j:Nat} {a b d f:List Rat} (ha:El j a) (hd:El j d):timesS t (j + 1) 0 (a ++ b) (d ++ f) =
    ((eachS addR (timesS t j (timesS t j (timesS t j 0 a d).2 b f).2 (timesS t j (timesS t j 0 a d).2 b f).1 (radS t j)).2 (timesS t j 0 a d).1 (timesS t j (timesS t j (timesS t j 0 a d).2 b f).2 (timesS t j (timesS t j 0 a d).2 b f).1 (radS t j)).1).1 ++
      (eachS addR (timesS t j (timesS t j (eachS addR (timesS t j (timesS t j (timesS t j 0 a d).2 b f).2 (timesS t j (timesS t j 0 a d).2 b f).1 (radS t j)).2 (timesS t j 0 a d).1 (timesS t j (timesS t j (timesS t j 0 a d).2 b f).2 (timesS t j (timesS t j 0 a d).2 b f).1 (radS t j)).1).2 a f).2 b d).2
        (timesS t j (eachS addR (timesS t j (timesS t j (timesS t j 0 a d).2 b f).2 (timesS t j (timesS t j 0 a d).2 b f).1 (radS t j)).2 (timesS t j 0 a d).1 (timesS t j (timesS t j (timesS t j 0 a d).2 b f).2 (timesS t j (timesS t j 0 a d).2 b f).1 (radS t j)).1).2 a f).1
        (timesS t j (timesS t j (eachS addR (timesS t j (timesS t j (timesS t j 0 a d).2 b f).2 (timesS t j (timesS t j 0 a d).2 b f).1 (radS t j)).2 (timesS t j 0 a d).1 (timesS t j (timesS t j (timesS t j 0 a d).2 b f).2 (timesS t j (timesS t j 0 a d).2 b f).1 (radS t j)).1).2 a f).2 b d).1).1,
      (eachS addR (timesS t j (timesS t j (eachS addR (timesS t j (timesS t j (timesS t j 0 a d).2 b f).2 (timesS t j (timesS t j 0 a d).2 b f).1 (radS t j)).2 (timesS t j 0 a d).1 (timesS t j (timesS t j (timesS t j 0 a d).2 b f).2 (timesS t j (timesS t j 0 a d).2 b f).1 (radS t j)).1).2 a f).2 b d).2
        (timesS t j (eachS addR (timesS t j (timesS t j (timesS t j 0 a d).2 b f).2 (timesS t j (timesS t j 0 a d).2 b f).1 (radS t j)).2 (timesS t j 0 a d).1 (timesS t j (timesS t j (timesS t j 0 a d).2 b f).2 (timesS t j (timesS t j 0 a d).2 b f).1 (radS t j)).1).2 a f).1
        (timesS t j (timesS t j (eachS addR (timesS t j (timesS t j (timesS t j 0 a d).2 b f).2 (timesS t j (timesS t j 0 a d).2 b f).1 (radS t j)).2 (timesS t j 0 a d).1 (timesS t j (timesS t j (timesS t j 0 a d).2 b f).2 (timesS t j (timesS t j 0 a d).2 b f).1 (radS t j)).1).2 a f).2 b d).1).2):=by
  rw [timesS]
  simp only [ne_eq,not_true_eq_false,if_false]
  rw [List.take_left' ha.1,List.take_left' hd.1,List.drop_left' ha.1,List.drop_left' hd.1]
theorem P149_0 {t:List (List Rat)} {e:Int} {x y:List Rat} (hx:El 0 x) (hy:El 0 y) {B H:List Obj} {K:AV→List Obj→Prop}
    (hK:K (.lit ((timesS t 0 e x y).1.map qrow)) (cHat 0 t (timesS t 0 e x y).2 ++ B)):WR X0 Gam 149 true [.ptr 0 0,.p (el x),.p (el y)] H (cHat 0 t e ++ B) K :=
  calc_lit0 (args:=[.p (el x),.p (el y)]) (by simp [EV]) (times0_wf hx hy) hK
theorem P151c {k:Nat} {f:Int→Rat→Rat→Rat×Int} (hf:KOp k f) {t:List (List Rat)} {e:Int} {x y:List Rat} {j:Nat} (hj:j ≤ 5) (hx:El j x) (hy:El j y) {B H:List Obj} {K:AV→List Obj→Prop}
    (hK:∀ v,K (.ar (6 + B.length) v 0 (2 ^ j)) (cHat 0 t (eachS f e x y).2 ++ (B ++ [.arr 4 none v ((eachS f e x y).1.map qrow)]))) :
    WR X0 Gam 151 true [.p (el x),.p (el y),.fn (.func 204) [] [.ptr 1 0,.ptr k 0]] H (cHat 0 t e ++ B) K:=by
  refine calc_each0 hf (each_wf hf hx.2 hy.2 (by rw [hx.1,hy.1]) (by have:=hx.le hj; omega)) fun v=>?_
  rw [List.length_map,eachS_len (by rw [hx.1,hy.1]),hx.1]
  exact hK v
theorem times1_wf {t:List (List Rat)} (ht:Tw t) (h1:0 < t.length) {e:Int} {x y:List Rat} (hx:El 1 x) (hy:El 1 y) :
    WF X0 Gam 149 [.ptr 0 0,.p (el x),.p (el y)] (cHat 0 t e) (arPost (cHat 0 t (timesS t 1 e x y).2) ((timesS t 1 e x y).1.map qrow)):=by
  have lx:x.length = 2:=hx.1
  obtain ⟨a,b,rfl,ha,hb⟩:=hx.split
  obtain ⟨d,f,rfl,hd,hf⟩:=hy.split
  have l2:a.length + b.length = 2:=by simpa using lx
  have l2':(a.length:Int) + b.length = (2 ^ (0 + 1):Nat):=by omega
  have n1:¬ ((a.length:Int) + b.length = 1):=by omega
  have hrad:El 0 (radS t 0):=⟨(radS_len ht h1).2.1,(radS_len ht h1).2.2⟩
  refine WF_intro rfl rfl ?_
  by_cases he:e = 0
  · subst he
    have hres:=timesS_succ (t:=t) (b:=b) (f:=f) ha hd
    simp [EV,EVR,evOp,n1,C200,-List.map_append]
    rw [P200 (by rw [ha.1,hb.1]) ha.ne (by have:=hb.le (by omega); omega)]
    simp [EV,EVR,evOp,n1,C200,-List.map_append]
    rw [P200 (by rw [hd.1,hf.1]) hd.ne (by have:=hf.le (by omega); omega)]
    simp [EV,EVR,evOp,n1,R149,-List.map_append]
    refine P149_0 ha hd (B:=[]) ?_
    have okp:=timesS_ok t 0 0 a d
    generalize timesS t 0 0 a d = p at *
    simp [EV,EVR,evOp,n1,R149,-List.map_append]
    refine P149_0 hb hf (B:=[]) ?_
    have okq:=timesS_ok t 0 p.2 b f
    generalize timesS t 0 p.2 b f = q at *
    simp [EV,EVR,evOp,n1,R201,-List.map_append]
    rw [l2']
    refine P201 ht h1 (B:=[]) ?_
    simp [EV,EVR,evOp,n1,R149,-List.map_append]
    refine P149_0 okq hrad (B:=[]) ?_
    have okw:=timesS_ok t 0 q.2 q.1 (radS t 0)
    generalize timesS t 0 q.2 q.1 (radS t 0) = w at *
    simp [EV,EVR,evOp,n1,R151,-List.map_append]
    refine P151c .add (by omega) okp okw (B:=[]) fun v1=>?_
    have oklo:El 0 (eachS addR w.2 p.1 w.1).1:=⟨by rw [eachS_len (by rw [okp.1,okw.1]),okp.1],eachS_sm .add⟩
    generalize eachS addR w.2 p.1 w.1 = lo at *
    simp [EV,EVR,evOp,n1,R149,-List.map_append]
    refine P149_0 ha hf (B:=[_]) ?_
    have oku:=timesS_ok t 0 lo.2 a f
    generalize timesS t 0 lo.2 a f = u at *
    simp [EV,EVR,evOp,n1,R149,-List.map_append]
    refine P149_0 hb hd (B:=[_]) ?_
    have okv:=timesS_ok t 0 u.2 b d
    generalize timesS t 0 u.2 b d = v at *
    simp [EV,EVR,evOp,n1,R151,-List.map_append]
    refine P151c .add (by omega) oku okv (B:=[_]) fun v2=>?_
    have okhi:El 0 (eachS addR v.2 u.1 v.1).1:=⟨by rw [eachS_len (by rw [oku.1,okv.1]),oku.1],eachS_sm .add⟩
    generalize eachS addR v.2 u.1 v.1 = hi at *
    simp [EV,EVR,evOp,n1,-List.map_append]
    rw [append_row (rows:=lo.1.map qrow) (ys:=hi.1.map qrow) (fz:=none) (n:=1) rfl (by simp; exact oklo.1.symm) (by simp [EV,okhi.1]; exact List.take_of_length_le (by simp [okhi.1])) all_qrow (by simp; have:=okhi.1; omega)]
    simp [EV,EVR,evOp,n1,-List.map_append]
    rw [hres]
    exact ⟨v1 + 1,[],[.arr 4 none v2 (hi.1.map qrow)],.zero,by simp [oklo.1,okhi.1],by simp⟩
  · have hz:timesS t 1 e (a ++ b) (d ++ f) = (liftS [] 2,e):=by rw [timesS,if_pos he]; rfl
    simp [EV,EVR,evOp,n1,he,R199,-List.map_append]
    rw [l2']
    refine calc_own0 (B:=[]) (args:=[.p (el []),int (2 ^ (0 + 1):Nat)]) (by simp [EV]) (lift_wf (by simp) (by simp)) fun v=>?_
    simp [EV,EVR,evOp,n1,-List.map_append]
    rw [hz]
    exact ⟨v,[],[],.zero,by simp,by simp⟩
theorem take_el {j:Nat} {l:List Rat} (h:El j l):(l.map qrow).take (2 ^ j) = l.map qrow:=List.take_of_length_le (by simp [h.1])
theorem times2_wf {t:List (List Rat)} (ht:Tw t) {j:Nat} (hj:j + 1 < t.length)
    (ih:∀ {e:Int} {x y:List Rat},El (j + 1) x→El (j + 1) y→WF X0 Gam 149 [.ptr 0 0,.p (el x),.p (el y)] (cHat 0 t e) (arPost (cHat 0 t (timesS t (j + 1) e x y).2) ((timesS t (j + 1) e x y).1.map qrow)))
    {e:Int} {x y:List Rat} (hx:El (j + 2) x) (hy:El (j + 2) y) :
    WF X0 Gam 149 [.ptr 0 0,.p (el x),.p (el y)] (cHat 0 t e) (arPost (cHat 0 t (timesS t (j + 2) e x y).2) ((timesS t (j + 2) e x y).1.map qrow)):=by
  have h5:=ht.len
  have P149:∀ {e:Int} {x y:List Rat} {B H:List Obj} {K:AV→List Obj→Prop},El (j + 1) x→El (j + 1) y →
      (∀ v,K (.ar (6 + B.length) v 0 (2 ^ (j + 1))) (cHat 0 t (timesS t (j + 1) e x y).2 ++ (B ++ [.arr 4 none v ((timesS t (j + 1) e x y).1.map qrow)]))) →
      WR X0 Gam 149 true [.ptr 0 0,.p (el x),.p (el y)] H (cHat 0 t e ++ B) K:=fun {e x y B H K} hx hy hK=>by
    refine calc_own0 (args:=[.p (el x),.p (el y)]) (by simp [EV]) (ih hx hy) fun v=>?_
    rw [List.length_map,(timesS_ok t (j + 1) e x y).1]
    exact hK v
  have lx:x.length = 2 ^ (j + 2):=hx.1
  obtain ⟨a,b,rfl,ha,hb⟩:=hx.split
  obtain ⟨d,f,rfl,hd,hf⟩:=hy.split
  have l2:a.length + b.length = 2 ^ (j + 2):=by simpa using lx
  have l2':(a.length:Int) + b.length = (2 ^ ((j + 1) + 1):Nat):=by rw [← l2]; simp
  have hp4:4 ≤ 2 ^ (j + 2):=by have:=Nat.pow_le_pow_right (n:=2) (by omega) (show 2 ≤ j + 2 by omega); omega
  have hp32:2 ^ (j + 2) ≤ 32:=Nat.pow_le_pow_right (n:=2) (by omega) (show j + 2 ≤ 5 by omega)
  have hp1:2 ^ (j + 1) ≤ 32:=Nat.le_trans (Nat.pow_le_pow_right (by omega) (by omega)) hp32
  have n1:¬ ((a.length:Int) + b.length = 1):=by omega
  have hrad:El (j + 1) (radS t (j + 1)):=⟨(radS_len ht hj).2.1,(radS_len ht hj).2.2⟩
  refine WF_intro rfl rfl ?_
  by_cases he:e = 0
  · subst he
    have hres:=timesS_succ (t:=t) (b:=b) (f:=f) ha hd
    simp [EV,EVR,evOp,n1,C200,-List.map_append]
    rw [P200 (by rw [ha.1,hb.1]) ha.ne (by have:=hb.le (by omega); omega)]
    simp [EV,EVR,evOp,n1,C200,-List.map_append]
    rw [P200 (by rw [hd.1,hf.1]) hd.ne (by have:=hf.le (by omega); omega)]
    simp [EV,EVR,evOp,n1,R149,-List.map_append]
    refine P149 ha hd (B:=[]) fun v1=>?_
    have okp:=timesS_ok t (j + 1) 0 a d
    have tkp:=take_el okp
    generalize timesS t (j + 1) 0 a d = p at *
    simp [EV,EVR,evOp,n1,R149,-List.map_append]
    refine P149 hb hf (B:=[_]) fun v2=>?_
    have okq:=timesS_ok t (j + 1) p.2 b f
    have tkq:=take_el okq
    generalize timesS t (j + 1) p.2 b f = q at *
    simp [EV,EVR,evOp,n1,R201,-List.map_append]
    rw [l2']
    refine P201 ht hj (B:=[_,_]) ?_
    simp [EV,EVR,evOp,n1,R149,okq.1,tkq,-List.map_append]
    refine P149 okq hrad (B:=[_,_]) fun v3=>?_
    have okw:=timesS_ok t (j + 1) q.2 q.1 (radS t (j + 1))
    have tkw:=take_el okw
    generalize timesS t (j + 1) q.2 q.1 (radS t (j + 1)) = w at *
    simp [EV,EVR,evOp,n1,R151,okp.1,tkp,okw.1,tkw,-List.map_append]
    refine P151c .add (by omega) okp okw (B:=[_,_,_]) fun v4=>?_
    have oklo:El (j + 1) (eachS addR w.2 p.1 w.1).1:=⟨by rw [eachS_len (by rw [okp.1,okw.1]),okp.1],eachS_sm .add⟩
    have tklo:=take_el oklo
    generalize eachS addR w.2 p.1 w.1 = lo at *
    simp [EV,EVR,evOp,n1,R149,-List.map_append]
    refine P149 ha hf (B:=[_,_,_,_]) fun v5=>?_
    have oku:=timesS_ok t (j + 1) lo.2 a f
    have tku:=take_el oku
    generalize timesS t (j + 1) lo.2 a f = u at *
    simp [EV,EVR,evOp,n1,R149,-List.map_append]
    refine P149 hb hd (B:=[_,_,_,_,_]) fun v6=>?_
    have okv:=timesS_ok t (j + 1) u.2 b d
    have tkv:=take_el okv
    generalize timesS t (j + 1) u.2 b d = v at *
    simp [EV,EVR,evOp,n1,R151,oku.1,tku,okv.1,tkv,-List.map_append]
    refine P151c .add (by omega) oku okv (B:=[_,_,_,_,_,_]) fun v7=>?_
    have okhi:El (j + 1) (eachS addR v.2 u.1 v.1).1:=⟨by rw [eachS_len (by rw [oku.1,okv.1]),oku.1],eachS_sm .add⟩
    have tkhi:=take_el okhi
    generalize eachS addR v.2 u.1 v.1 = hi at *
    simp [EV,EVR,evOp,n1,-List.map_append]
    rw [append_row (rows:=lo.1.map qrow) (ys:=hi.1.map qrow) (fz:=none) (n:=2 ^ (j + 1)) rfl (by simp; exact oklo.1.symm) (by simp [EV,okhi.1,tkhi]) all_qrow (by simp; have:=okhi.1; omega)]
    simp [EV,EVR,evOp,n1,-List.map_append]
    rw [hres]
    exact ⟨v4 + 1,[.arr 4 (some v1) v1 (p.1.map qrow),.arr 4 (some v2) v2 (q.1.map qrow),.arr 4 (some v3) v3 (w.1.map qrow)],
      [.arr 4 (some v5) v5 (u.1.map qrow),.arr 4 (some v6) v6 (v.1.map qrow),.arr 4 none v7 (hi.1.map qrow)],.three _ _ _,by simp [oklo.1,okhi.1],by simp⟩
  · have hz:timesS t (j + 2) e (a ++ b) (d ++ f) = (liftS [] (2 ^ (j + 2)),e):=by rw [timesS,if_pos he]; simp [liftS]
    simp [EV,EVR,evOp,n1,he,R199,-List.map_append]
    rw [l2']
    refine calc_own0 (B:=[]) (args:=[.p (el []),int (2 ^ ((j + 1) + 1):Nat)]) (by simp [EV]) (lift_wf (by simp) (by omega)) fun v=>?_
    simp [EV,EVR,evOp,n1,-List.map_append]
    rw [hz]
    exact ⟨v,[],[],.zero,by simp,by simp⟩
theorem times_wf {t:List (List Rat)} (ht:Tw t):∀ {j:Nat},j < t.length→∀ {e:Int} {x y:List Rat},El (j + 1) x→El (j + 1) y →
    WF X0 Gam 149 [.ptr 0 0,.p (el x),.p (el y)] (cHat 0 t e) (arPost (cHat 0 t (timesS t (j + 1) e x y).2) ((timesS t (j + 1) e x y).1.map qrow))
  | 0,hj,e,x,y,hx,hy=>times1_wf ht hj hx hy
  | j + 1,hj,e,x,y,hx,hy=>times2_wf ht hj (fun hx hy=>times_wf ht (j:=j) (by omega) hx hy) hx hy
end Go.Proofs.YtjkdcddpicndgaaGreatDoor
namespace Go.Proofs.YtjkdcddpicndgaaGreatDoor
open Go
theorem P149s {t:List (List Rat)} (ht:Tw t) {j:Nat} (hj:j < t.length) {e:Int} {x y:List Rat} (hx:El (j + 1) x) (hy:El (j + 1) y) {B H:List Obj} {K:AV→List Obj→Prop}
    (hK:∀ v,K (.ar (6 + B.length) v 0 (2 ^ (j + 1))) (cHat 0 t (timesS t (j + 1) e x y).2 ++ (B ++ [.arr 4 none v ((timesS t (j + 1) e x y).1.map qrow)]))) :
    WR X0 Gam 149 true [.ptr 0 0,.p (el x),.p (el y)] H (cHat 0 t e ++ B) K:=by
  refine calc_own0 (args:=[.p (el x),.p (el y)]) (by simp [EV]) (times_wf ht hj hx hy) fun v=>?_
  rw [List.length_map,(timesS_ok t (j + 1) e x y).1]
  exact hK v
def normS (t:List (List Rat)) (j:Nat) (e:Int) (x:List Rat):List Rat×Int :=
  let a:=x.take (2 ^ j)
  let b:=x.drop (2 ^ j)
  let p:=timesS t j e a a
  let q:=timesS t j p.2 b b
  let w:=timesS t j q.2 q.1 (radS t j)
  eachS subR w.2 p.1 w.1
theorem normS_ok (t:List (List Rat)) (j:Nat) (e:Int) (x:List Rat):El j (normS t j e x).1 :=
  ⟨by unfold normS; rw [eachS_len (by rw [(timesS_ok ..).1,(timesS_ok ..).1]),(timesS_ok ..).1],by unfold normS; exact eachS_sm .sub⟩
theorem normS_app {t:List (List Rat)} {j:Nat} {e:Int} {a b:List Rat} (ha:El j a):normS t j e (a ++ b) =
    eachS subR (timesS t j (timesS t j (timesS t j e a a).2 b b).2 (timesS t j (timesS t j e a a).2 b b).1 (radS t j)).2 (timesS t j e a a).1 (timesS t j (timesS t j (timesS t j e a a).2 b b).2 (timesS t j (timesS t j e a a).2 b b).1 (radS t j)).1:=by
  unfold normS
  simp only
  rw [List.take_left' ha.1,List.drop_left' ha.1]
theorem norm0_wf {t:List (List Rat)} (ht:Tw t) (hj:0 < t.length) {e:Int} {x:List Rat} (hx:El 1 x) :
    WF X0 Gam 210 [.ptr 0 0,.p (el x)] (cHat 0 t e) (plPost (cHat 0 t (normS t 0 e x).2) (.p (el (normS t 0 e x).1))):=by
  have lx:x.length = 2:=hx.1
  obtain ⟨a,b,rfl,ha,hb⟩:=hx.split
  have l2:a.length + b.length = 2:=by simpa using lx
  have l2':(a.length:Int) + b.length = (2 ^ (0 + 1):Nat):=by omega
  have hrad:El 0 (radS t 0):=⟨(radS_len ht hj).2.1,(radS_len ht hj).2.2⟩
  have hres:=normS_app (t:=t) (e:=e) (b:=b) ha
  refine WF_intro rfl rfl ?_
  simp [EV,EVR,evOp,C200,-List.map_append]
  rw [P200 (by rw [ha.1,hb.1]) ha.ne (by have:=hb.le (by omega); omega)]
  simp [EV,EVR,evOp,R149,-List.map_append]
  refine P149_0 ha ha (B:=[]) ?_
  have okp:=timesS_ok t 0 e a a
  have tkp:=take_el okp
  generalize timesS t 0 e a a = p at *
  simp [EV,EVR,evOp,R149,-List.map_append]
  refine P149_0 hb hb (B:=[]) ?_
  have okq:=timesS_ok t 0 p.2 b b
  have tkq:=take_el okq
  generalize timesS t 0 p.2 b b = q at *
  simp [EV,EVR,evOp,R201,-List.map_append]
  rw [l2']
  refine P201 ht hj (B:=[]) ?_
  simp [EV,EVR,evOp,R149,okq.1,tkq,-List.map_append]
  refine P149_0 okq hrad (B:=[]) ?_
  have okw:=timesS_ok t 0 q.2 q.1 (radS t 0)
  have tkw:=take_el okw
  generalize timesS t 0 q.2 q.1 (radS t 0) = w at *
  simp [EV,EVR,evOp,R151,okp.1,tkp,okw.1,tkw,-List.map_append]
  refine P151c .sub (by omega) okp okw (B:=[]) fun v4=>?_
  have oklo:El 0 (eachS subR w.2 p.1 w.1).1:=⟨by rw [eachS_len (by rw [okp.1,okw.1]),okp.1],eachS_sm .sub⟩
  have tklo:=take_el oklo
  generalize eachS subR w.2 p.1 w.1 = lo at *
  rw [hres]
  have tk1:List.take 1 (List.map qrow lo.1) = List.map qrow lo.1:=tklo
  simp [EV,EVR,evOp,oklo.1,tk1,plPost,-List.map_append]
theorem norm1_wf {t:List (List Rat)} (ht:Tw t) {j:Nat} (hj:j + 1 < t.length) {e:Int} {x:List Rat} (hx:El (j + 2) x) :
    WF X0 Gam 210 [.ptr 0 0,.p (el x)] (cHat 0 t e) (plPost (cHat 0 t (normS t (j + 1) e x).2) (.p (el (normS t (j + 1) e x).1))):=by
  have h5:=ht.len
  have lx:x.length = 2 ^ (j + 2):=hx.1
  obtain ⟨a,b,rfl,ha,hb⟩:=hx.split
  have l2:a.length + b.length = 2 ^ (j + 2):=by simpa using lx
  have l2':(a.length:Int) + b.length = (2 ^ ((j + 1) + 1):Nat):=by rw [← l2]; simp
  have hrad:El (j + 1) (radS t (j + 1)):=⟨(radS_len ht hj).2.1,(radS_len ht hj).2.2⟩
  have hres:=normS_app (t:=t) (e:=e) (b:=b) ha
  refine WF_intro rfl rfl ?_
  simp [EV,EVR,evOp,C200,-List.map_append]
  rw [P200 (by rw [ha.1,hb.1]) ha.ne (by have:=hb.le (by omega); omega)]
  simp [EV,EVR,evOp,R149,-List.map_append]
  refine P149s ht (by omega) ha ha (B:=[]) fun v1=>?_
  have okp:=timesS_ok t (j + 1) e a a
  have tkp:=take_el okp
  generalize timesS t (j + 1) e a a = p at *
  simp [EV,EVR,evOp,R149,-List.map_append]
  refine P149s ht (by omega) hb hb (B:=[_]) fun v2=>?_
  have okq:=timesS_ok t (j + 1) p.2 b b
  have tkq:=take_el okq
  generalize timesS t (j + 1) p.2 b b = q at *
  simp [EV,EVR,evOp,R201,-List.map_append]
  rw [l2']
  refine P201 ht hj (B:=[_,_]) ?_
  simp [EV,EVR,evOp,R149,okq.1,tkq,-List.map_append]
  refine P149s ht (by omega) okq hrad (B:=[_,_]) fun v3=>?_
  have okw:=timesS_ok t (j + 1) q.2 q.1 (radS t (j + 1))
  have tkw:=take_el okw
  generalize timesS t (j + 1) q.2 q.1 (radS t (j + 1)) = w at *
  simp [EV,EVR,evOp,R151,okp.1,tkp,okw.1,tkw,-List.map_append]
  refine P151c .sub (by omega) okp okw (B:=[_,_,_]) fun v4=>?_
  have oklo:El (j + 1) (eachS subR w.2 p.1 w.1).1:=⟨by rw [eachS_len (by rw [okp.1,okw.1]),okp.1],eachS_sm .sub⟩
  have tklo:=take_el oklo
  generalize eachS subR w.2 p.1 w.1 = lo at *
  rw [hres]
  simp [EV,EVR,evOp,oklo.1,tklo,plPost,-List.map_append]
theorem norm_wf {t:List (List Rat)} (ht:Tw t):∀ {j:Nat},j < t.length→∀ {e:Int} {x:List Rat},El (j + 1) x →
    WF X0 Gam 210 [.ptr 0 0,.p (el x)] (cHat 0 t e) (plPost (cHat 0 t (normS t j e x).2) (.p (el (normS t j e x).1)))
  | 0,hj,e,x,hx=>norm0_wf ht hj hx
  | j + 1,hj,e,x,hx=>norm1_wf ht hj hx
def signS (t:List (List Rat)):Nat→Int→List Rat→Int×Int
  | 0,e,x=>if e ≠ 0 then (0,e) else (sgnQ (x.getD 0 0),e)
  | j + 1,e,x=>if e ≠ 0 then (0,e) else
    let m:=signS t j e (x.take (2 ^ j))
    let n:=signS t j m.2 (x.drop (2 ^ j))
    if n.1 = 0∨n.1 = m.1 then (m.1,n.2) else if m.1 = 0 then n else
    let w:=normS t j n.2 x
    let s:=signS t j w.2 w.1
    (m.1 * s.1,s.2)
theorem signS_unit (t:List (List Rat)):∀ (j:Nat) (e:Int) (x:List Rat),(signS t j e x).1 = -1∨(signS t j e x).1 = 0∨(signS t j e x).1 = 1
  | 0,e,x=>by
    unfold signS
    split
    · simp
    · unfold sgnQ; split
      · simp
      · split <;> simp
  | j + 1,e,x=>by
    unfold signS
    split
    · simp
    · simp only
      have h1:=signS_unit t j e (x.take (2 ^ j))
      have h2:=signS_unit t j (signS t j e (x.take (2 ^ j))).2 (x.drop (2 ^ j))
      split
      · exact h1
      · split
        · exact h2
        · have h3:=signS_unit t j (normS t j (signS t j (signS t j e (x.take (2 ^ j))).2 (x.drop (2 ^ j))).2 x).2 (normS t j (signS t j (signS t j e (x.take (2 ^ j))).2 (x.drop (2 ^ j))).2 x).1
          rcases h1 with h | h | h <;> rcases h3 with h' | h' | h' <;> simp [h,h']
theorem sign_wf {t:List (List Rat)} (ht:Tw t):∀ {j:Nat},j ≤ t.length→∀ {e:Int} {x:List Rat},El j x →
    WF X0 Gam 154 [.ptr 0 0,.p (el x)] (cHat 0 t e) (plPost (cHat 0 t (signS t j e x).2) (int (signS t j e x).1))
  | 0,hj,e,x,⟨lx,sx⟩=>by
    match x,lx with
    | [a],_ =>
      have ha:SmQ a:=sx a (by simp)
      refine WF_intro rfl rfl ?_
      by_cases he:e = 0
      · subst he
        simp [EV,EVR,evOp,C209,-List.map_append]
        rw [P209q ha]
        simp [EV,EVR,evOp,plPost,signS]
      · simp [EV,EVR,evOp,he,plPost,signS]
  | j + 1,hj,e,x,hx=>by
    have h5:=ht.len
    have lx:x.length = 2 ^ (j + 1):=hx.1
    have hx':=hx
    obtain ⟨a,b,rfl,ha,hb⟩:=hx.split
    have l2:a.length + b.length = 2 ^ (j + 1):=by simpa using lx
    have hp2:2 ≤ 2 ^ (j + 1):=by have:=Nat.pow_le_pow_right (n:=2) (by omega) (show 1 ≤ j + 1 by omega); omega
    have n1:¬ ((a.length:Int) + b.length = 1):=by omega
    have P154:∀ {e:Int} {x:List Rat} {B H:List Obj} {K:AV→List Obj→Prop},El j x→K (int (signS t j e x).1) (cHat 0 t (signS t j e x).2 ++ B) →
        WR X0 Gam 154 false [.ptr 0 0,.p (el x)] H (cHat 0 t e ++ B) K:=fun {e x B H K} hx hK =>
      calc_pl0 (args:=[.p (el x)]) (by simp [EV]) (sign_wf ht (j:=j) (by omega) hx) hK
    refine WF_intro rfl rfl ?_
    by_cases he:e = 0
    · subst he
      have hres:signS t (j + 1) 0 (a ++ b) = (let m:=signS t j 0 a; let n:=signS t j m.2 b; if n.1 = 0∨n.1 = m.1 then (m.1,n.2) else if m.1 = 0 then n else
          let w:=normS t j n.2 (a ++ b); let s:=signS t j w.2 w.1; (m.1 * s.1,s.2)):=by
        rw [signS]
        simp only [ne_eq,not_true_eq_false,if_false]
        rw [List.take_left' ha.1,List.drop_left' ha.1]
      simp only at hres
      simp [EV,EVR,evOp,n1,C200,-List.map_append]
      rw [P200 (by rw [ha.1,hb.1]) ha.ne (by have:=hb.le (by omega); omega)]
      simp [EV,EVR,evOp,n1,R154,-List.map_append]
      refine P154 ha (B:=[]) ?_
      have um:=signS_unit t j 0 a
      generalize signS t j 0 a = m at *
      simp [EV,EVR,evOp,n1,R154,-List.map_append]
      refine P154 hb (B:=[]) ?_
      generalize signS t j m.2 b = n at *
      by_cases h0:n.1 = 0
      · rw [hres,if_pos (Or.inl h0)]
        simp [EV,EVR,evOp,h0,plPost]
      · by_cases h1:n.1 = m.1
        · rw [hres,if_pos (Or.inr h1)]
          have:¬ m.1 = 0:=fun h=>h0 (h1.trans h)
          simp [EV,EVR,evOp,h0,h1,this,plPost]
        · rw [if_neg (by simp [h0,h1])] at hres
          by_cases h2:m.1 = 0
          · rw [hres,if_pos h2]
            have:¬ n.1 = 0:=h0
            simp [EV,EVR,evOp,h0,h1,h2,plPost]
          · rw [if_neg h2] at hres
            simp [EV,EVR,evOp,h0,h1,h2,R210,-List.map_append]
            refine calc_pl0 (B:=[]) (args:=[.p (el (a ++ b))]) (by simp [EV]) (norm_wf ht (by omega) hx') ?_
            have okw:=normS_ok t j n.2 (a ++ b)
            generalize normS t j n.2 (a ++ b) = w at *
            simp [EV,EVR,evOp,h0,h1,h2,R154,-List.map_append]
            refine P154 okw (B:=[]) ?_
            have us:=signS_unit t j w.2 w.1
            generalize signS t j w.2 w.1 = s at *
            have w5:IntKind.i64.wrap (m.1 * s.1) = m.1 * s.1:=wrap_i64 (by
              rcases um with h | h | h <;> rcases us with h' | h' | h' <;> simp [h,h'])
            rw [hres]
            simp [EV,EVR,evOp,w5,plPost]
    · simp [EV,EVR,evOp,he,plPost,signS]
end Go.Proofs.YtjkdcddpicndgaaGreatDoor
namespace Go.Proofs.YtjkdcddpicndgaaGreatDoor
open Go
theorem fresh_wf {t:List (List Rat)} {e:Int} {x:List Rat} (hs:∀ r ∈ x,SmQ r) (hl:x.length ≤ 1000000) :
    WF X0 Gam 245 [.ptr 0 0,.p (el x)] (cHat 0 t e) (plPost (cHat 0 t e) (.p (el x))):=by
  have h64:64 * (x.length:Int) ≤ 281474976710656:=by omega
  have h63:(x.length:Int) ≤ 9223372036854775807:=by omega
  refine WF_intro rfl rfl ?_
  simp [EV,mkSlice,h64,h63]
  refine W_loop (fun m s=>∃ (j:Nat) (G:List Obj),m = x.length - j∧j ≤ x.length∧lk s.env 5 = some (.ar 6 0 0 x.length)∧lk s.env 11 = some (.p (el x))∧lk s.env 12 = some (int x.length)∧lk s.env 13 = some (int j) ∧
    s.H = cHat 0 t e ++ .arr 4 none 0 ((x.map qrow).take j ++ List.replicate (x.length - j) zrow) :: G) ?_ x.length _ ?_
  · rintro m ⟨env,H⟩ ⟨j,G,rfl,hj,h5,h11,h12,h13,rfl⟩
    simp only at h5 h11 h12 h13
    by_cases hjl:j < x.length
    · have hok:=hs x[j] (List.getElem_mem hjl)
      have hg:=List.getElem?_eq_getElem hjl
      obtain ⟨r,er⟩:∃ r,x[j] = r:=⟨_,rfl⟩
      rw [er] at hok hg
      have w5:IntKind.i64.wrap ((j:Int) + 1) = j + 1:=wrap_i64 (by omega)
      have lt:(x.take j).length = j:=by simp; omega
      simp [EV,EVR,evOp,h5,h11,h12,h13,hjl,er,splice,C281]
      rw [P281 (digits_len hok.1)]
      simp [EV,EVR,evOp,h5,h11,h12,h13,hjl,er,splice,C281]
      rw [P281 (digits_len (show r.den < _ from hok.2))]
      simp [EV,EVR,evOp,h5,h11,h12,h13,hjl,er,splice,fill,lt]
      rw [storeC_row (rows:=(x.map qrow).take j ++ List.replicate (x.length - j) zrow) (row:=zrow) (ps:=qrow r) rfl (rep_get (by simp; omega) hjl) qcells_ars qcells rfl,
        rep_set (by simp; omega) hjl]
      have hst:(x.map qrow).take (j + 1) = (x.map qrow).take j ++ [qrow r]:=by rw [List.take_add_one,List.getElem?_map,hg]; rfl
      simp [EV,EVR,evOp,h5,h11,h12,h13,w5]
      exact ⟨x.length - (j + 1),by omega,j + 1,rfl,by omega,rfl,by rw [hst]; simp⟩
    · have ek:j = x.length:=by omega
      subst ek
      simp [EV,EVR,evOp,h5,h11,h12,h13,plPost,take_map_len]
  · exact ⟨0,[],by simp,by omega,by simp [EV],by simp [EV],by simp [EV],by simp [EV],by simp [EV]⟩
def resS (x:List Rat) (e:Int):AV:=if e ≠ 0 then .tup [.p (.sl []),int e] else .tup [.p (el x),int 0]
theorem result_wf {t:List (List Rat)} {e:Int} {x:List Rat} (hs:∀ r ∈ x,SmQ r) (hl:x.length ≤ 1000000) :
    WF X0 Gam 198 [.ptr 0 0,.p (el x)] (cHat 0 t e) (plPost (cHat 0 t e) (resS x e)):=by
  refine WF_intro rfl rfl ?_
  by_cases he:e = 0
  · subst he
    simp [EV,EVR,evOp,R245]
    refine calc_pl0 (B:=[]) (args:=[.p (el x)]) (by simp [EV]) (fresh_wf hs hl) ?_
    simp [EV,EVR,evOp,plPost,resS]
  · simp [EV,EVR,evOp,he,plPost,resS]
inductive BOp:FuncId→(List (List Rat)→Nat→Int→List Rat→List Rat→List Rat×Int)→Prop
  | mul:BOp 148 timesS
  | sub:BOp 150 fun _ _ e x y=>eachS subR e x y
  | add:BOp 322 fun _ _ e x y=>eachS addR e x y
theorem BOp.ok {g:FuncId} {f:List (List Rat)→Nat→Int→List Rat→List Rat→List Rat×Int} (h:BOp g f) {t:List (List Rat)} {j:Nat} {e:Int} {x y:List Rat} (hx:El j x) (hy:El j y):El j (f t j e x y).1:=by
  cases h
  · exact timesS_ok ..
  · exact ⟨by rw [eachS_len (by rw [hx.1,hy.1]),hx.1],eachS_sm .sub⟩
  · exact ⟨by rw [eachS_len (by rw [hx.1,hy.1]),hx.1],eachS_sm .add⟩
theorem Mul1T_wf {t:List (List Rat)} (ht:Tw t) {j:Nat} (hj:j ≤ t.length) {e:Int} {x y:List Rat} (hx:El j x) (hy:El j y) :
    WF X0 Gam 148 [.ptr 0 0,.p (el x),.p (el y)] (cHat 0 t e) (plPost (cHat 0 t (timesS t j e x y).2) (.p (el (timesS t j e x y).1))):=by
  refine WF_intro rfl rfl ?_
  match j,hj,hx,hy with
  | 0,hj,hx,hy =>
    simp [EV,EVR,evOp,R149]
    refine P149_0 hx hy (B:=[]) ?_
    simp [EV,EVR,evOp,plPost]
  | j + 1,hj,hx,hy =>
    simp [EV,EVR,evOp,R149]
    refine P149s ht (by omega) hx hy (B:=[]) fun v=>?_
    have ok:=timesS_ok t (j + 1) e x y
    have tk:=take_el ok
    simp [EV,EVR,evOp,plPost,ok.1,tk]
theorem Sub1T_wf {t:List (List Rat)} (ht:Tw t) {j:Nat} (hj:j ≤ 5) {e:Int} {x y:List Rat} (hx:El j x) (hy:El j y) :
    WF X0 Gam 150 [.ptr 0 0,.p (el x),.p (el y)] (cHat 0 t e) (plPost (cHat 0 t (eachS subR e x y).2) (.p (el (eachS subR e x y).1))):=by
  refine WF_intro rfl rfl ?_
  simp [EV,EVR,evOp,R151]
  refine P151c .sub hj hx hy (B:=[]) fun v=>?_
  have ok:El j (eachS subR e x y).1:=⟨by rw [eachS_len (by rw [hx.1,hy.1]),hx.1],eachS_sm .sub⟩
  have tk:=take_el ok
  simp [EV,EVR,evOp,plPost,ok.1,tk]
theorem Add1T_wf {t:List (List Rat)} (ht:Tw t) {j:Nat} (hj:j ≤ 5) {e:Int} {x y:List Rat} (hx:El j x) (hy:El j y) :
    WF X0 Gam 322 [.ptr 0 0,.p (el x),.p (el y)] (cHat 0 t e) (plPost (cHat 0 t (eachS addR e x y).2) (.p (el (eachS addR e x y).1))):=by
  refine WF_intro rfl rfl ?_
  simp [EV,EVR,evOp,R151]
  refine P151c .add hj hx hy (B:=[]) fun v=>?_
  have ok:El j (eachS addR e x y).1:=⟨by rw [eachS_len (by rw [hx.1,hy.1]),hx.1],eachS_sm .add⟩
  have tk:=take_el ok
  simp [EV,EVR,evOp,plPost,ok.1,tk]
theorem BOp.wf {g:FuncId} {f:List (List Rat)→Nat→Int→List Rat→List Rat→List Rat×Int} (h:BOp g f) {t:List (List Rat)} (ht:Tw t) {j:Nat} (hj:j ≤ t.length) {e:Int} {x y:List Rat} (hx:El j x) (hy:El j y) :
    WF X0 Gam g [.ptr 0 0,.p (el x),.p (el y)] (cHat 0 t e) (plPost (cHat 0 t (f t j e x y).2) (.p (el (f t j e x y).1))):=by
  have:=ht.len
  cases h
  · exact Mul1T_wf ht hj hx hy
  · exact Sub1T_wf ht (by omega) hx hy
  · exact Add1T_wf ht (by omega) hx hy
theorem BOp.R {g:FuncId} {f:List (List Rat)→Nat→Int→List Rat→List Rat→List Rat×Int} (h:BOp g f) {a:List AV} {H:List Obj} {K:AV→List Obj→Prop} :
    WC X0 Gam g a H K↔bindP (canons H a) fun as=>WR X0 Gam g false as H (freeze H (arsOf a)) K:=by
  cases h
  · exact R148
  · exact R150
  · exact R322
def binS (f:List (List Rat)→Nat→Int→List Rat→List Rat→List Rat×Int) (t:List (List Rat)) (j:Nat) (x y:List Rat):AV :=
  resS (f t j 0 (liftS x (2 ^ j)) (liftS y (2 ^ j))).1 (f t j 0 (liftS x (2 ^ j)) (liftS y (2 ^ j))).2
theorem binary_wf {g:FuncId} {f:List (List Rat)→Nat→Int→List Rat→List Rat→List Rat×Int} (h:BOp g f) {t:List (List Rat)} (ht:Tw t) {i j:Nat} (hi:i ≤ t.length) (hj:j ≤ t.length) {x y:List Rat} (hx:El i x) (hy:El j y) :
    PF X0 Gam 147 [twA t,.p (el x),.p (el y),.fn (.func g) [] []] (binS f t (max i j) x y):=by
  have h5:=ht.len
  have lx:=hx.le (by omega)
  have ly:=hy.le (by omega)
  refine WF_intro rfl rfl ?_
  simp [EV,EVR,evOp,C152]
  rw [P152 ht hx hi]
  simp [EV,EVR,evOp,C197]
  rw [P197 (by omega) hy hj (by omega)]
  simp [EV,EVR,evOp,C153]
  refine P153 ?_
  simp [EV,EVR,evOp,R199,maxmin]
  obtain ⟨m,hm⟩:∃ m,max i j = m:=⟨_,rfl⟩
  have him:i ≤ m:=by omega
  have hjm:j ≤ m:=by omega
  have hm5:m ≤ 5:=by omega
  have pim:2 ^ i ≤ 2 ^ m:=Nat.pow_le_pow_right (by omega) him
  have pjm:2 ^ j ≤ 2 ^ m:=Nat.pow_le_pow_right (by omega) hjm
  have p32:2 ^ m ≤ 32:=Nat.pow_le_pow_right (n:=2) (by omega) hm5
  have hmax:(if x.length < y.length then (y.length:Int) else (x.length:Int)) = ((2 ^ m:Nat):Int):=by
    rw [hx.1,hy.1]
    rcases Nat.le_total i j with hij | hij
    · have e:m = j:=by omega
      have:=Nat.pow_le_pow_right (n:=2) (by omega) hij
      rw [e]; split <;> omega
    · have e:m = i:=by omega
      have:=Nat.pow_le_pow_right (n:=2) (by omega) hij
      rw [e]; split <;> omega
  have lxm:x.length ≤ 2 ^ m:=by rw [hx.1]; exact pim
  have lym:y.length ≤ 2 ^ m:=by rw [hy.1]; exact pjm
  have okx:El m (liftS x (2 ^ m)):=⟨liftS_len lxm,liftS_sm hx.2⟩
  have oky:El m (liftS y (2 ^ m)):=⟨liftS_len lym,liftS_sm hy.2⟩
  have tkx:=take_el okx
  have tky:=take_el oky
  have okz:=h.ok (t:=t) (e:=0) okx oky
  rw [hmax,hm]
  refine calc_own1 (B:=[]) (args:=[.p (el x),int (2 ^ m:Nat)]) (by simp [EV]) (lift_wf lxm (by omega)) fun v1=>?_
  rw [List.length_map,okx.1]
  simp [EV,EVR,evOp,R199,maxmin,-List.map_append]
  rw [show ((2:Int) ^ m) = ((2 ^ m:Nat):Int) by simp]
  refine calc_own1 (B:=[_]) (args:=[.p (el y),int (2 ^ m:Nat)]) (by simp [EV]) (lift_wf lym (by omega)) fun v2=>?_
  rw [List.length_map,oky.1]
  simp [EV,EVR,evOp,h.R,okx.1,oky.1,tkx,tky,-List.map_append]
  refine calc_pl1 (B:=[_,_]) (args:=[.p (el (liftS x (2 ^ m))),.p (el (liftS y (2 ^ m)))]) (by simp [EV]) (h.wf ht (by omega) okx oky) ?_
  unfold binS
  generalize f t m 0 (liftS x (2 ^ m)) (liftS y (2 ^ m)) = z at *
  simp [EV,EVR,evOp,R198,-List.map_append]
  refine calc_pl1 (B:=[_,_]) (args:=[.p (el z.1)]) (by simp [EV]) (result_wf okz.2 (by have:=okz.le hm5; omega)) ?_
  unfold resS
  split <;> simp [EV,EVR,evOp]
theorem BOp.P {g:FuncId} {f:List (List Rat)→Nat→Int→List Rat→List Rat→List Rat×Int} (h:BOp g f) {t:List (List Rat)} (ht:Tw t) {i j:Nat} (hi:i ≤ t.length) (hj:j ≤ t.length) {x y:List Rat} (hx:El i x) (hy:El j y)
    {H H1:List Obj} {K:AV→List Obj→Prop}:WP X0 Gam 147 false [twA t,.p (el x),.p (el y),.fn (.func g) [] []] H H1 K↔K (binS f t (max i j) x y) H1 :=
  WP_slice (binary_wf h ht hi hj hx hy) (by unfold binS resS; split <;> simp [flat])
section
variable {t:List (List Rat)} {i j:Nat} {x y:List Rat} {H H1:List Obj} {K:AV→List Obj→Prop}
theorem MulT_pf (ht:Tw t) (hi:i ≤ t.length) (hj:j ≤ t.length) (hx:El i x) (hy:El j y):PF X0 Gam 101 [twA t,.p (el x),.p (el y)] (binS timesS t (max i j) x y):=by
  refine WF_intro rfl rfl ?_
  simp [EV,EVR,evOp,C147]
  rw [BOp.mul.P ht hi hj hx hy]
  unfold binS resS
  split <;> simp [EV,EVR,evOp]
theorem SubT_pf (ht:Tw t) (hi:i ≤ t.length) (hj:j ≤ t.length) (hx:El i x) (hy:El j y):PF X0 Gam 102 [twA t,.p (el x),.p (el y)] (binS (fun _ _ e x y=>eachS subR e x y) t (max i j) x y):=by
  refine WF_intro rfl rfl ?_
  simp [EV,EVR,evOp,C147]
  rw [BOp.sub.P ht hi hj hx hy]
  unfold binS resS
  split <;> simp [EV,EVR,evOp]
theorem AddT_pf (ht:Tw t) (hi:i ≤ t.length) (hj:j ≤ t.length) (hx:El i x) (hy:El j y):PF X0 Gam 308 [twA t,.p (el x),.p (el y)] (binS (fun _ _ e x y=>eachS addR e x y) t (max i j) x y):=by
  refine WF_intro rfl rfl ?_
  simp [EV,EVR,evOp,C147]
  rw [BOp.add.P ht hi hj hx hy]
  unfold binS resS
  split <;> simp [EV,EVR,evOp]
def sgnT (t:List (List Rat)) (j:Nat) (x:List Rat):AV:=if (signS t j 0 x).2 ≠ 0 then .tup [int 0,int (signS t j 0 x).2] else .tup [int (signS t j 0 x).1,int 0]
theorem SignT_pf (ht:Tw t) (hi:i ≤ t.length) (hx:El i x):PF X0 Gam 103 [twA t,.p (el x)] (sgnT t i x):=by
  refine WF_intro rfl rfl ?_
  simp [EV,EVR,evOp,C152]
  rw [P152 ht hx hi]
  simp [EV,EVR,evOp,C153]
  refine P153 ?_
  simp [EV,EVR,evOp,R154]
  refine calc_pl1 (B:=[]) (args:=[.p (el x)]) (by simp [EV]) (sign_wf ht hi hx) ?_
  unfold sgnT
  generalize signS t i 0 x = s
  by_cases he:s.2 = 0
  · simp [EV,EVR,evOp,he]
  · simp [EV,EVR,evOp,he]
end
end Go.Proofs.YtjkdcddpicndgaaGreatDoor
namespace Go.Proofs.YtjkdcddpicndgaaGreatDoor
open Go
abbrev mostZ:Nat:=4294967296 ^ 128
def castL (l:List Int):List Rat:=l.map fun (z:Int)=>(z:Rat)
def BdZ (B:Nat) (l:List Int):Prop:=∀ z ∈ l,z.natAbs ≤ B
def addZ (x y:List Int):List Int:=List.zipWith (· + ·) x y
def subZ (x y:List Int):List Int:=List.zipWith (· - ·) x y
def liftZ (x:List Int) (n:Nat):List Int:=x ++ List.replicate (n - x.length) 0
def radZ (t:List (List Int)) (j:Nat):List Int:=liftZ (t.getD j []) (2 ^ j)
def mulZ (t:List (List Int)):Nat→List Int→List Int→List Int
  | 0,x,y=>[x.getD 0 0 * y.getD 0 0]
  | j + 1,x,y =>
    addZ (mulZ t j (x.take (2 ^ j)) (y.take (2 ^ j))) (mulZ t j (mulZ t j (x.drop (2 ^ j)) (y.drop (2 ^ j))) (radZ t j)) ++
    addZ (mulZ t j (x.take (2 ^ j)) (y.drop (2 ^ j))) (mulZ t j (x.drop (2 ^ j)) (y.take (2 ^ j)))
def normZ (t:List (List Int)) (j:Nat) (x:List Int):List Int :=
  subZ (mulZ t j (x.take (2 ^ j)) (x.take (2 ^ j))) (mulZ t j (mulZ t j (x.drop (2 ^ j)) (x.drop (2 ^ j))) (radZ t j))
def sgnZ (z:Int):Int:=if z = 0 then 0 else if z < 0 then -1 else 1
def sgZ (t:List (List Int)):Nat→List Int→Int
  | 0,x=>sgnZ (x.getD 0 0)
  | j + 1,x =>
    if sgZ t j (x.drop (2 ^ j)) = 0∨sgZ t j (x.drop (2 ^ j)) = sgZ t j (x.take (2 ^ j)) then sgZ t j (x.take (2 ^ j)) else
    if sgZ t j (x.take (2 ^ j)) = 0 then sgZ t j (x.drop (2 ^ j)) else sgZ t j (x.take (2 ^ j)) * sgZ t j (normZ t j x)
theorem Sm_of {z:Int} {B:Nat} (h:z.natAbs ≤ B) (hB:B < mostZ):Sm z:=Nat.lt_of_le_of_lt h hB
theorem SmQ_cast {z:Int} (h:Sm z):SmQ (z:Rat):=⟨by simpa using h,by show Sm 1; decide⟩
theorem addR_z {a b:Int} {A B:Nat} (ha:a.natAbs ≤ A) (hb:b.natAbs ≤ B) (h:A + B < mostZ):addR 0 (a:Rat) (b:Rat) = (((a + b:Int):Rat),0):=by
  have h1:Sm a:=Sm_of ha (by omega)
  have h2:Sm b:=Sm_of hb (by omega)
  have h3:Sm (a + b):=Sm_of (B:=A + B) (by omega) h
  have h4:Sm 1:=by decide
  have:addOk (a:Rat) (b:Rat) = true:=by simp [addOk,h1,h2,h3,h4]
  unfold addR keepR
  rw [this]
  simp
theorem subR_z {a b:Int} {A B:Nat} (ha:a.natAbs ≤ A) (hb:b.natAbs ≤ B) (h:A + B < mostZ):subR 0 (a:Rat) (b:Rat) = (((a - b:Int):Rat),0):=by
  have h1:Sm a:=Sm_of ha (by omega)
  have h2:Sm b:=Sm_of hb (by omega)
  have h3:Sm (a - b):=Sm_of (B:=A + B) (by omega) h
  have h4:Sm 1:=by decide
  have:subOk (a:Rat) (b:Rat) = true:=by simp [subOk,h1,h2,h3,h4]
  unfold subR keepR
  rw [this]
  simp
theorem mulR_z {a b:Int} {A B:Nat} (ha:a.natAbs ≤ A) (hb:b.natAbs ≤ B) (h:A * B < mostZ):mulR 0 (a:Rat) (b:Rat) = (((a * b:Int):Rat),0):=by
  have h3:Sm (a * b):=Sm_of (B:=A * B) (by rw [Int.natAbs_mul]; exact Nat.mul_le_mul ha hb) h
  have h4:Sm 1:=by decide
  have:mulOk (a:Rat) (b:Rat) = true:=by simp [mulOk,h3,h4]
  unfold mulR keepR
  rw [this]
  simp
theorem castL_cons {z:Int} {l:List Int}:castL (z :: l) = (z:Rat) :: castL l:=rfl
theorem castL_len {l:List Int}:(castL l).length = l.length:=by simp [castL]
theorem castL_take {l:List Int} {n:Nat}:(castL l).take n = castL (l.take n):=by simp [castL]
theorem castL_drop {l:List Int} {n:Nat}:(castL l).drop n = castL (l.drop n):=by simp [castL]
theorem castL_append {l m:List Int}:castL l ++ castL m = castL (l ++ m):=by simp [castL]
theorem castL_getD {l:List Int} {n:Nat}:(castL l).getD n 0 = ((l.getD n 0:Int):Rat):=by
  simp only [castL,List.getD_eq_getElem?_getD,List.getElem?_map]
  cases l[n]? <;> simp
theorem castL_lift {l:List Int} {n:Nat}:liftS (castL l) n = castL (liftZ l n):=by simp [liftS,liftZ,castL]
theorem castL_rad {t:List (List Int)} {j:Nat}:radS (t.map castL) j = castL (radZ t j):=by
  unfold radS radZ
  have:(t.map castL).getD j [] = castL (t.getD j []):=by
    simp only [List.getD_eq_getElem?_getD,List.getElem?_map]
    cases t[j]? <;> simp [castL]
  rw [this,castL_lift]
theorem BdZ.mono {B C:Nat} {l:List Int} (h:BdZ B l) (hc:B ≤ C):BdZ C l:=fun z hz=>Nat.le_trans (h z hz) hc
theorem BdZ.take {B n:Nat} {l:List Int} (h:BdZ B l):BdZ B (l.take n):=fun z hz=>h z (List.mem_of_mem_take hz)
theorem BdZ.drop {B n:Nat} {l:List Int} (h:BdZ B l):BdZ B (l.drop n):=fun z hz=>h z (List.mem_of_mem_drop hz)
theorem BdZ.getD {B n:Nat} {l:List Int} (h:BdZ B l):(l.getD n 0).natAbs ≤ B:=by
  rw [List.getD_eq_getElem?_getD]
  cases hn:l[n]? with
  | none=>simp
  | some z=>exact h z (List.mem_of_getElem? hn)
theorem BdZ.append {B:Nat} {l m:List Int} (h:BdZ B l) (h':BdZ B m):BdZ B (l ++ m):=fun z hz=>(List.mem_append.1 hz).elim (h z) (h' z)
theorem BdZ.lift {B n:Nat} {l:List Int} (h:BdZ B l):BdZ B (liftZ l n):=fun z hz=>by
  rcases List.mem_append.1 hz with h1 | h1
  · exact h z h1
  · rw [List.mem_replicate] at h1; rw [h1.2]; simp
theorem BdZ.add {A B:Nat}:∀ {x y:List Int},BdZ A x→BdZ B y→BdZ (A + B) (addZ x y)
  | [],_,_,_=>by intro z hz; simp [addZ] at hz
  | _ :: _,[],_,_=>by intro z hz; simp [addZ] at hz
  | a :: x,b :: y,h1,h2=>by
    intro z hz
    rcases List.mem_cons.1 hz with e | e
    · have q1:=h1 a (by simp); have q2:=h2 b (by simp); rw [e]; show (a + b).natAbs ≤ _; omega
    · exact BdZ.add (x:=x) (y:=y) (fun z hz=>h1 z (by simp [hz])) (fun z hz=>h2 z (by simp [hz])) z e
theorem BdZ.sub {A B:Nat}:∀ {x y:List Int},BdZ A x→BdZ B y→BdZ (A + B) (subZ x y)
  | [],_,_,_=>by intro z hz; simp [subZ] at hz
  | _ :: _,[],_,_=>by intro z hz; simp [subZ] at hz
  | a :: x,b :: y,h1,h2=>by
    intro z hz
    rcases List.mem_cons.1 hz with e | e
    · have q1:=h1 a (by simp); have q2:=h2 b (by simp); rw [e]; show (a - b).natAbs ≤ _; omega
    · exact BdZ.sub (x:=x) (y:=y) (fun z hz=>h1 z (by simp [hz])) (fun z hz=>h2 z (by simp [hz])) z e
theorem eachS_addZ:∀ {x y:List Int} {A B:Nat},x.length = y.length→BdZ A x→BdZ B y→A + B < mostZ→eachS addR 0 (castL x) (castL y) = (castL (addZ x y),0)
  | [],[],_,_,_,_,_,_=>rfl
  | a :: x,b :: y,A,B,hl,h1,h2,hM=>by
    have ih:=eachS_addZ (x:=x) (y:=y) (by simpa using hl) (fun z hz=>h1 z (by simp [hz])) (fun z hz=>h2 z (by simp [hz])) hM
    have hh:=addR_z (h1 a (by simp)) (h2 b (by simp)) hM
    simp only [castL_cons,eachS,hh,ih]
    rfl
theorem eachS_subZ:∀ {x y:List Int} {A B:Nat},x.length = y.length→BdZ A x→BdZ B y→A + B < mostZ→eachS subR 0 (castL x) (castL y) = (castL (subZ x y),0)
  | [],[],_,_,_,_,_,_=>rfl
  | a :: x,b :: y,A,B,hl,h1,h2,hM=>by
    have ih:=eachS_subZ (x:=x) (y:=y) (by simpa using hl) (fun z hz=>h1 z (by simp [hz])) (fun z hz=>h2 z (by simp [hz])) hM
    have hh:=subR_z (h1 a (by simp)) (h2 b (by simp)) hM
    simp only [castL_cons,eachS,hh,ih]
    rfl
def kZ (R:Nat):Nat→Nat
  | 0=>1
  | j + 1=>kZ R j + kZ R j * kZ R j * R
theorem kZ_pos (R:Nat):∀ j,1 ≤ kZ R j
  | 0=>Nat.le_refl _
  | j + 1=>by have:=kZ_pos R j; unfold kZ; omega
theorem mulZ_ok {t:List (List Int)} {R:Nat} (hR:1 ≤ R) (ht:∀ x ∈ t,BdZ R x) (hl:∀ j,j < t.length→(t.getD j []).length ≤ 2 ^ j):∀ {j:Nat} {x y:List Int} {B C:Nat},j ≤ t.length→x.length = 2 ^ j→y.length = 2 ^ j→BdZ B x→BdZ C y→kZ R j * (B * C) < mostZ →
    timesS (t.map castL) j 0 (castL x) (castL y) = (castL (mulZ t j x y),0)∧BdZ (kZ R j * (B * C)) (mulZ t j x y)∧(mulZ t j x y).length = 2 ^ j
  | 0,x,y,B,C,_,hx,hy,h1,h2,hM=>by
    have hh:=mulR_z (h1.getD (n:=0)) (h2.getD (n:=0)) (by simpa [kZ] using hM)
    refine ⟨?_,fun z hz=>?_,rfl⟩
    · simp only [timesS,castL_getD,hh,mulZ]; rfl
    · simp only [mulZ,List.mem_singleton] at hz
      rw [hz,Int.natAbs_mul,kZ,Nat.one_mul]
      exact Nat.mul_le_mul h1.getD h2.getD
  | j + 1,x,y,B,C,hj,hx,hy,h1,h2,hM=>by
    have hK:=kZ_pos R j
    have ekz:kZ R (j + 1) * (B * C) = kZ R j * (B * C) + kZ R j * (kZ R j * (B * C) * R):=by
      rw [kZ,Nat.add_mul]
      congr 1
      simp only [Nat.mul_assoc,Nat.mul_comm,Nat.mul_left_comm]
    have le1:kZ R j * (B * C) ≤ kZ R j * (kZ R j * (B * C) * R):=by
      refine Nat.mul_le_mul_left _ ?_
      have:1 * (B * C) ≤ kZ R j * (B * C):=Nat.mul_le_mul_right _ hK
      have h3:kZ R j * (B * C) * 1 ≤ kZ R j * (B * C) * R:=Nat.mul_le_mul_left _ hR
      omega
    have hpow:2 ^ (j + 1) = 2 ^ j + 2 ^ j:=by rw [Nat.pow_succ]; omega
    have lx1:(x.take (2 ^ j)).length = 2 ^ j:=by rw [List.length_take,hx]; omega
    have lx2:(x.drop (2 ^ j)).length = 2 ^ j:=by rw [List.length_drop,hx]; omega
    have ly1:(y.take (2 ^ j)).length = 2 ^ j:=by rw [List.length_take,hy]; omega
    have ly2:(y.drop (2 ^ j)).length = 2 ^ j:=by rw [List.length_drop,hy]; omega
    have lr:(radZ t j).length = 2 ^ j:=by
      have:=hl j (by omega)
      simp only [radZ,liftZ,List.length_append,List.length_replicate]; omega
    have br:BdZ R (radZ t j):=by
      refine BdZ.lift ?_
      have:t.getD j [] ∈ t:=by
        rw [List.getD_eq_getElem?_getD,List.getElem?_eq_getElem (show j < t.length by omega)]
        exact List.getElem_mem _
      exact ht _ this
    have ih:=fun {x y:List Int} {B C:Nat}=>mulZ_ok hR ht hl (j:=j) (x:=x) (y:=y) (B:=B) (C:=C) (by omega)
    obtain ⟨p1,p2,p3⟩:=ih lx1 ly1 h1.take h2.take (by omega)
    obtain ⟨q1,q2,q3⟩:=ih lx2 ly2 h1.drop h2.drop (by omega)
    obtain ⟨w1,w2,w3⟩:=ih q3 lr q2 br (by omega)
    obtain ⟨u1,u2,u3⟩:=ih lx1 ly2 h1.take h2.drop (by omega)
    obtain ⟨v1,v2,v3⟩:=ih lx2 ly1 h1.drop h2.take (by omega)
    have lo:=eachS_addZ (p3.trans w3.symm) p2 w2 (by omega)
    have hi:=eachS_addZ (u3.trans v3.symm) u2 v2 (by omega)
    refine ⟨?_,?_,?_⟩
    · unfold timesS
      simp only [ne_eq,not_true_eq_false,if_false,castL_take,castL_drop,castL_rad,p1,q1,w1,lo,u1,v1,hi,castL_append]
      rfl
    · rw [ekz]
      unfold mulZ
      exact (p2.add w2).append ((u2.add v2).mono (by omega))
    · unfold mulZ
      simp only [addZ,List.length_append,List.length_zipWith,p3,w3,u3,v3,hpow]; omega
theorem normZ_ok {t:List (List Int)} {R:Nat} (hR:1 ≤ R) (ht:∀ x ∈ t,BdZ R x) (hl:∀ j,j < t.length→(t.getD j []).length ≤ 2 ^ j) {j:Nat} {x:List Int} {B:Nat} (hj:j + 1 ≤ t.length) (hx:x.length = 2 ^ (j + 1)) (h1:BdZ B x) (hM:kZ R (j + 1) * (B * B) < mostZ) :
    normS (t.map castL) j 0 (castL x) = (castL (normZ t j x),0)∧BdZ (kZ R (j + 1) * (B * B)) (normZ t j x)∧(normZ t j x).length = 2 ^ j:=by
  have hK:=kZ_pos R j
  have ekz:kZ R (j + 1) * (B * B) = kZ R j * (B * B) + kZ R j * (kZ R j * (B * B) * R):=by
    rw [kZ,Nat.add_mul]
    congr 1
    simp only [Nat.mul_assoc,Nat.mul_comm,Nat.mul_left_comm]
  have le1:kZ R j * (B * B) ≤ kZ R j * (kZ R j * (B * B) * R):=by
    refine Nat.mul_le_mul_left _ ?_
    have:1 * (B * B) ≤ kZ R j * (B * B):=Nat.mul_le_mul_right _ hK
    have h3:kZ R j * (B * B) * 1 ≤ kZ R j * (B * B) * R:=Nat.mul_le_mul_left _ hR
    omega
  have hpow:2 ^ (j + 1) = 2 ^ j + 2 ^ j:=by rw [Nat.pow_succ]; omega
  have lx1:(x.take (2 ^ j)).length = 2 ^ j:=by rw [List.length_take,hx]; omega
  have lx2:(x.drop (2 ^ j)).length = 2 ^ j:=by rw [List.length_drop,hx]; omega
  have lr:(radZ t j).length = 2 ^ j:=by
    have:=hl j (by omega)
    simp only [radZ,liftZ,List.length_append,List.length_replicate]; omega
  have br:BdZ R (radZ t j):=by
    refine BdZ.lift ?_
    have:t.getD j [] ∈ t:=by
      rw [List.getD_eq_getElem?_getD,List.getElem?_eq_getElem (show j < t.length by omega)]
      exact List.getElem_mem _
    exact ht _ this
  have ih:=fun {x y:List Int} {B C:Nat}=>mulZ_ok hR ht hl (j:=j) (x:=x) (y:=y) (B:=B) (C:=C) (by omega)
  obtain ⟨p1,p2,p3⟩:=ih lx1 lx1 h1.take h1.take (by omega)
  obtain ⟨q1,q2,q3⟩:=ih lx2 lx2 h1.drop h1.drop (by omega)
  obtain ⟨w1,w2,w3⟩:=ih q3 lr q2 br (by omega)
  have lo:=eachS_subZ (p3.trans w3.symm) p2 w2 (by omega)
  refine ⟨?_,?_,?_⟩
  · unfold normS
    simp only [castL_take,castL_drop,castL_rad,p1,q1,w1,lo]
    rfl
  · rw [ekz]
    unfold normZ
    exact p2.sub w2
  · unfold normZ
    simp only [subZ,List.length_zipWith,p3,w3]; omega
theorem sgnQ_z {z:Int}:sgnQ (z:Rat) = sgnZ z:=by simp only [sgnQ,sgnZ,Rat.num_intCast]; rfl
def SgOk (R:Nat):Nat→Nat→Prop
  | 0,_=>True
  | j + 1,B=>kZ R (j + 1) * (B * B) < mostZ∧SgOk R j B∧SgOk R j (kZ R (j + 1) * (B * B))
theorem sgZ_ok {t:List (List Int)} {R:Nat} (hR:1 ≤ R) (ht:∀ x ∈ t,BdZ R x) (hl:∀ j,j < t.length→(t.getD j []).length ≤ 2 ^ j):∀ {j:Nat} {x:List Int} {B:Nat},j ≤ t.length→x.length = 2 ^ j→BdZ B x→SgOk R j B →
    signS (t.map castL) j 0 (castL x) = (sgZ t j x,0)
  | 0,x,B,_,hx,h1,_=>by
    simp only [signS,castL_getD,sgnQ_z,sgZ]; rfl
  | j + 1,x,B,hj,hx,h1,hs=>by
    obtain ⟨s1,s2,s3⟩:=hs
    have hpow:2 ^ (j + 1) = 2 ^ j + 2 ^ j:=by rw [Nat.pow_succ]; omega
    have lx1:(x.take (2 ^ j)).length = 2 ^ j:=by rw [List.length_take,hx]; omega
    have lx2:(x.drop (2 ^ j)).length = 2 ^ j:=by rw [List.length_drop,hx]; omega
    have m:=sgZ_ok hR ht hl (j:=j) (by omega) lx1 h1.take s2
    have n:=sgZ_ok hR ht hl (j:=j) (by omega) lx2 h1.drop s2
    obtain ⟨w1,w2,w3⟩:=normZ_ok hR ht hl hj hx h1 s1
    have s:=sgZ_ok hR ht hl (j:=j) (by omega) w3 w2 s3
    unfold signS
    simp only [ne_eq,not_true_eq_false,if_false,castL_take,castL_drop,m,n,w1,s,sgZ]
    split
    · rfl
    · split <;> rfl
end Go.Proofs.YtjkdcddpicndgaaGreatDoor
namespace Go.Proofs.YtjkdcddpicndgaaGreatDoor
open Go
theorem ownInt_pf (n:Bool) (l:List Nat) (ll:l.length ≤ 1000000000000):PF X0 Gam 243 [agI n l] (agI n l):=by
  have h4:4 * (l.length:Int) ≤ 281474976710656:=by omega
  have h63:(l.length:Int) ≤ 9223372036854775807:=by omega
  refine WF_intro rfl rfl ?_
  simp [EV,evOp,mkSlice,h4,h63]
  rw [copyV_at (rows:=List.replicate l.length [PV.v (.int .u32 0)]) (ys:=l.map limb) rfl (by simp) rfl (by simp [limb]) (by simp)]
  simp [EV,evOp,fill,splice]
theorem P243 {n:Bool} {l:List Nat} {H H1:List Obj} {K:AV→List Obj→Prop} (ll:l.length ≤ 1000000000000):WP X0 Gam 243 false [agI n l] H H1 K↔K (agI n l) H1:=WP_slice (ownInt_pf n l ll) (by simp [flat])
theorem own_pf {r:Rat} (h:SmQ r):PF X0 Gam 196 [qA r] (qA r):=by
  refine WF_intro rfl rfl ?_
  simp [EV,EVR,evOp,C243]
  rw [P243 (digits_len h.1)]
  simp [EV,EVR,evOp,C243]
  rw [P243 (digits_len (show r.den < _ from h.2))]
  simp [EV,EVR,evOp,fill,splice]
theorem P196 {r:Rat} {H H1:List Obj} {K:AV→List Obj→Prop} (h:SmQ r):WP X0 Gam 196 false [qA r] H H1 K↔K (qA r) H1:=WP_slice (own_pf h) (by simp [flat])
theorem ownAll_pf {x:List Rat} (hs:∀ r ∈ x,SmQ r) (hl:x.length ≤ 1000000):PF X0 Gam 146 [.p (el x)] (.p (el x)):=by
  have h64:64 * (x.length:Int) ≤ 281474976710656:=by omega
  have h63:(x.length:Int) ≤ 9223372036854775807:=by omega
  refine WF_intro rfl rfl ?_
  simp [EV,mkSlice,h64,h63]
  refine W_loop (fun m s=>∃ (j:Nat) (G:List Obj),m = x.length - j∧j ≤ x.length∧lk s.env 0 = some (.p (el x))∧lk s.env 3 = some (.ar 0 0 0 x.length)∧lk s.env 9 = some (int x.length)∧lk s.env 10 = some (int j) ∧
    s.H = .arr 4 none 0 ((x.map qrow).take j ++ List.replicate (x.length - j) zrow) :: G) ?_ x.length _ ?_
  · rintro m ⟨env,H⟩ ⟨j,G,rfl,hj,h0,h3,h9,h10,rfl⟩
    simp only at h0 h3 h9 h10
    by_cases hjl:j < x.length
    · have hok:=hs x[j] (List.getElem_mem hjl)
      have hg:=List.getElem?_eq_getElem hjl
      obtain ⟨r,er⟩:∃ r,x[j] = r:=⟨_,rfl⟩
      rw [er] at hok hg
      have w5:IntKind.i64.wrap ((j:Int) + 1) = j + 1:=wrap_i64 (by omega)
      have lt:(x.take j).length = j:=by simp; omega
      simp [EV,EVR,evOp,h0,h3,h9,h10,hjl,er,splice,C196]
      rw [P196 hok]
      simp [EV,EVR,evOp,h0,h3,h9,h10,hjl,er,splice,fill,lt]
      rw [storeC_row (rows:=(x.map qrow).take j ++ List.replicate (x.length - j) zrow) (row:=zrow) (ps:=qrow r) rfl (rep_get (by simp; omega) hjl) qcells_ars qcells rfl,
        rep_set (by simp; omega) hjl]
      have hst:(x.map qrow).take (j + 1) = (x.map qrow).take j ++ [qrow r]:=by rw [List.take_add_one,List.getElem?_map,hg]; rfl
      simp [EV,EVR,evOp,h0,h3,h9,h10,w5]
      exact ⟨x.length - (j + 1),by omega,j + 1,rfl,by omega,rfl,by rw [hst]; simp⟩
    · have ek:j = x.length:=by omega
      subst ek
      simp [EV,EVR,evOp,h0,h3,h9,h10,take_map_len]
  · exact ⟨0,[],by simp,by omega,by simp [EV],by simp [EV],by simp [EV],by simp [EV],by simp [EV]⟩
end Go.Proofs.YtjkdcddpicndgaaGreatDoor

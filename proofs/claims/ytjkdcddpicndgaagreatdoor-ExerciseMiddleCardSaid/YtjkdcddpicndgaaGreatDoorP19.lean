/- Part of the proof of Rows.ExerciseMiddleCardSaid: EvN14, EvN15, EvN16, EvM1, EvM2, EvM3, EvM4, EvM5, EvM6. -/
import Derived.Test.YtjkdcddpicndgaaGreatDoorP18
set_option linter.all false
namespace Go.Proofs.YtjkdcddpicndgaaGreatDoor
open Go
def keepZ (e z:Int):Int×Int:=if e ≠ 0 then (0,e) else if Sm z then (z,0) else (0,2)
theorem keepZ_sm {e z:Int}:Sm (keepZ e z).1:=by
  unfold keepZ
  split
  · show (0:Nat) < _; decide
  · split
    · assumption
    · show (0:Nat) < _; decide
theorem keepM_wf {e:Int} {x y:Int} {n m:Bool} {a b:List Nat} (hx:Sm x) (hy:Sm y) (h1:agI n a = zI x) (h2:agI m b = zI y) :
    WF X0 Gam 283 [agI n a,agI m b,.ptr 0 0,.ptr 1 0] [.cells [int e],.cells [.fn (.func 284) [] []]] fun r H2=>canon H2 r = some (zI (keepZ e (x * y)).1)∧(freeze H2 (arsOf [r])).take 2 = [.cells [int (keepZ e (x * y)).2],.cells [.fn (.func 284) [] []]]:=by
  rw [h1,h2]
  refine WF_intro rfl rfl ?_
  by_cases he:e = 0
  · subst he
    simp [EV,evOp,C284]
    rw [P284 (dig_digits _) (dig_digits _) (by have:=zI_len hx; omega) (by have:=zI_len hy; omega),mulI_z hx hy]
    by_cases hs:Sm (x * y)
    · simp [EV,evOp,resZ,hs,splice,keepZ]
    · simp [EV,evOp,resZ,hs,splice,keepZ,digits_zero]
  · simp [EV,evOp,he,splice,fill,keepZ,digits_zero]
theorem keepA_wf {e:Int} {x y:Int} {n m:Bool} {a b:List Nat} (hx:Sm x) (hy:Sm y) (h1:agI n a = zI x) (h2:agI m b = zI y) :
    WF X0 Gam 283 [agI n a,agI m b,.ptr 0 0,.ptr 1 0] [.cells [int e],.cells [.fn (.func 285) [] []]] fun r H2=>canon H2 r = some (zI (keepZ e (x + y)).1)∧(freeze H2 (arsOf [r])).take 2 = [.cells [int (keepZ e (x + y)).2],.cells [.fn (.func 285) [] []]]:=by
  rw [h1,h2]
  refine WF_intro rfl rfl ?_
  by_cases he:e = 0
  · subst he
    simp [EV,evOp,C285]
    rw [P285 (dig_digits _) (dig_digits _) (by have:=zI_len hx; omega) (by have:=zI_len hy; omega),addI_z hx hy]
    by_cases hs:Sm (x + y)
    · simp [EV,evOp,resZ,hs,splice,keepZ]
    · simp [EV,evOp,resZ,hs,splice,keepZ,digits_zero]
  · simp [EV,evOp,he,splice,fill,keepZ,digits_zero]
theorem keep_at {g:FuncId} {args:List AV} {e e' z:Int} {H:List Obj} {K:AV→List Obj→Prop} {p q:Nat} (hargs:refsL args = [])
    (hp:H[p]? = some (.cells [int e])) (hq:H[q]? = some (.cells [.fn (.func g) [] []])) (hpq:p ≠ q)
    (h:WF X0 Gam 283 (args ++ [.ptr 0 0,.ptr 1 0]) [.cells [int e],.cells [.fn (.func g) [] []]] fun r H2=>canon H2 r = some (zI z)∧(freeze H2 (arsOf [r])).take 2 = [.cells [int e'],.cells [.fn (.func g) [] []]])
    (hK:K (zI z) (H.set p (.cells [int e']))):WR X0 Gam 283 false (args ++ [.ptr p 0,.ptr q 0]) H H K:=by
  have hr:refsL (args ++ [.ptr p 0,.ptr q 0]) = [p,q]:=by
    have:∀ l m,refsL (l ++ m) = refsL l ++ refsL m:=fun l m=>by
      induction l with
      | nil=>simp [EV]
      | cons a l ih=>simp [EV,ih]
    rw [this,hargs]; simp [EV]
  have hren:∀ f,renL f (args ++ [.ptr p 0,.ptr q 0]) = args ++ [.ptr (f p) 0,.ptr (f q) 0]:=fun f=>by
    have:∀ l m,renL f (l ++ m) = renL f l ++ renL f m:=fun l m=>by
      induction l with
      | nil=>simp [EVR]
      | cons a l ih=>simp [EVR,ih]
    rw [this,renL_bare f args hargs]; simp [EVR]
  have hqp:q ≠ p:=fun h=>hpq h.symm
  refine WR_step [p,q] [.cells [int e],.cells [.fn (.func g) [] []]] (args ++ [.ptr 0 0,.ptr 1 0]) ?_ [.cells [int e],.cells [.fn (.func g) [] []]] ?_ ?_ ?_ ?_ (WF_mono h ?_)
  · rw [hr]; simp [EV,EVR,hp,hq,hpq,hqp]
  · simp [EV,EVR,hp,hq]
  · rw [hr]; simp [EV,EVR,within,nodupB,hpq]
  · simp [EVR]
  · rw [hren]; simp [List.idxOf_cons,beq_false_of_ne hpq]
  · rintro r H2 ⟨h2,h3⟩
    rw [back_bare h2 (by simp [EV]) (by simp) (by rw [show [p,q].length = 2 from rfl,h3]; simp [EV,EVR])]
    rw [show [p,q].length = 2 from rfl,h3]
    have:putBack H [p,q] [.cells [int e'],.cells [.fn (.func g) [] []]] = H.set p (.cells [int e']):=by
      simp only [putBack]
      refine List.ext_getElem? fun i=>?_
      rw [List.getElem?_set]
      split
      · rename_i hqi; subst hqi
        rw [List.getElem?_set_ne hpq,hq]
        simp [(List.getElem?_eq_some_iff.1 hq).1]
      · rfl
    rw [this]
    exact hK
theorem P283m {n m:Bool} {a b:List Nat} {H:List Obj} {K:AV→List Obj→Prop} {p q:Nat} {e:Int} (x y:Int) (hx:Sm x) (hy:Sm y) (h1:agI n a = zI x) (h2:agI m b = zI y)
    (hp:H[p]? = some (.cells [int e])) (hq:H[q]? = some (.cells [.fn (.func 284) [] []])) (hpq:p ≠ q)
    (hK:K (zI (keepZ e (x * y)).1) (H.set p (.cells [int (keepZ e (x * y)).2]))):WR X0 Gam 283 false [agI n a,agI m b,.ptr p 0,.ptr q 0] H H K :=
  keep_at (args:=[agI n a,agI m b]) (by simp [EV]) hp hq hpq (keepM_wf hx hy h1 h2) hK
theorem P283a {n m:Bool} {a b:List Nat} {H:List Obj} {K:AV→List Obj→Prop} {p q:Nat} {e:Int} (x y:Int) (hx:Sm x) (hy:Sm y) (h1:agI n a = zI x) (h2:agI m b = zI y)
    (hp:H[p]? = some (.cells [int e])) (hq:H[q]? = some (.cells [.fn (.func 285) [] []])) (hpq:p ≠ q)
    (hK:K (zI (keepZ e (x + y)).1) (H.set p (.cells [int (keepZ e (x + y)).2]))):WR X0 Gam 283 false [agI n a,agI m b,.ptr p 0,.ptr q 0] H H K :=
  keep_at (args:=[agI n a,agI m b]) (by simp [EV]) hp hq hpq (keepA_wf hx hy h1 h2) hK
abbrev qc (r:Rat):List AV:=[boo (decide (r.num < 0)),.p (mag (digits r.num.natAbs)),boo false,.p (mag (digits r.den))]
def SmQ (r:Rat):Prop:=Sm r.num∧Sm r.den
theorem zI_den {n:Nat}:agI false (digits n) = zI (n:Int):=by
  have:decide ((n:Int) < 0) = false:=by simp
  unfold zI; rw [this]; simp
abbrev opH (e:Int) (a b:Rat):List Obj:=[.cells [int e],.cells [.fn (.func 284) [] []],.cells [.fn (.func 285) [] []],.cells (qc a),.cells (qc b)]
abbrev opA:List AV:=[.fn (.func 283) [] [.ptr 0 0,.ptr 1 0],.fn (.func 283) [] [.ptr 0 0,.ptr 2 0],.ptr 3 0,.ptr 4 0]
def opPost (a b:Rat) (n d e:Int) (r:AV) (H2:List Obj):Prop:=canon H2 r = some (.tup [zI n,zI d])∧(freeze H2 (arsOf [r])).take 5 = opH e a b
def addK3 (a b:Rat):Int×Int×Int :=
  let k1:=keepZ 0 (a.num * b.den)
  let k2:=keepZ k1.2 (b.num * a.den)
  let k3:=keepZ k2.2 (k1.1 + k2.1)
  let k4:=keepZ k3.2 (a.den * b.den)
  (k3.1,k4.1,k4.2)
theorem Add1_wf {a b:Rat} (ha:SmQ a) (hb:SmQ b):WF X0 Gam 248 opA (opH 0 a b) (opPost a b (addK3 a b).1 (addK3 a b).2.1 (addK3 a b).2.2):=by
  obtain ⟨ha1,ha2⟩:=ha
  obtain ⟨hb1,hb2⟩:=hb
  refine WF_intro rfl rfl ?_
  simp [EV,EVR,evOp,R283]
  refine P283m a.num b.den ha1 hb2 rfl zI_den rfl rfl (by decide) ?_
  simp [EV,EVR,evOp,R283]
  refine P283m b.num a.den hb1 ha2 rfl zI_den rfl rfl (by decide) ?_
  simp [EV,EVR,evOp,R283,splice]
  refine P283a _ _ keepZ_sm keepZ_sm rfl rfl rfl rfl (by decide) ?_
  simp [EV,EVR,evOp,R283,splice]
  refine P283m a.den b.den ha2 hb2 zI_den zI_den rfl rfl (by decide) ?_
  simp [EV,EVR,evOp,R283,splice,opPost,addK3]
def subK3 (a b:Rat):Int×Int×Int :=
  let k1:=keepZ 0 (a.num * b.den)
  let k2:=keepZ k1.2 (b.num * a.den)
  let k3:=keepZ k2.2 (k1.1 + -k2.1)
  let k4:=keepZ k3.2 (a.den * b.den)
  (k3.1,k4.1,k4.2)
theorem sm_neg {x:Int} (h:Sm x):Sm (-x):=by unfold Sm at *; omega
theorem zI_neg {y:Int}:agI (decide (0 < y)) (digits y.natAbs) = zI (-y):=by unfold zI; simp
theorem Sub1_wf {a b:Rat} (ha:SmQ a) (hb:SmQ b):WF X0 Gam 249 opA (opH 0 a b) (opPost a b (subK3 a b).1 (subK3 a b).2.1 (subK3 a b).2.2):=by
  obtain ⟨ha1,ha2⟩:=ha
  obtain ⟨hb1,hb2⟩:=hb
  refine WF_intro rfl rfl ?_
  simp [EV,EVR,evOp,R283]
  refine P283m a.num b.den ha1 hb2 rfl zI_den rfl rfl (by decide) ?_
  simp [EV,EVR,evOp,R283]
  refine P283m b.num a.den hb1 ha2 rfl zI_den rfl rfl (by decide) ?_
  simp [EV,EVR,evOp,R283,splice,C226]
  rw [P226 (by have:=zI_len (keepZ_sm (e:=(keepZ 0 (a.num * b.den)).2) (z:=b.num * a.den)); omega),negA_z]
  simp [EV,EVR,evOp,R283,splice]
  refine P283a _ _ keepZ_sm (sm_neg keepZ_sm) rfl zI_neg rfl rfl (by decide) ?_
  simp [EV,EVR,evOp,R283,splice]
  refine P283m a.den b.den ha2 hb2 zI_den zI_den rfl rfl (by decide) ?_
  simp [EV,EVR,evOp,R283,splice,opPost,subK3]
def mulK3 (a b:Rat):Int×Int×Int :=
  let k1:=keepZ 0 (a.num * b.num)
  let k2:=keepZ k1.2 (a.den * b.den)
  (k1.1,k2.1,k2.2)
theorem Mul1_wf {a b:Rat} (ha:SmQ a) (hb:SmQ b):WF X0 Gam 250 opA (opH 0 a b) (opPost a b (mulK3 a b).1 (mulK3 a b).2.1 (mulK3 a b).2.2):=by
  obtain ⟨ha1,ha2⟩:=ha
  obtain ⟨hb1,hb2⟩:=hb
  refine WF_intro rfl rfl ?_
  simp [EV,EVR,evOp,R283]
  refine P283m a.num b.num ha1 hb1 rfl rfl rfl rfl (by decide) ?_
  simp [EV,EVR,evOp,R283,splice]
  refine P283m a.den b.den ha2 hb2 zI_den zI_den rfl rfl (by decide) ?_
  simp [EV,EVR,evOp,R283,splice,opPost,mulK3]
end Go.Proofs.YtjkdcddpicndgaaGreatDoor
namespace Go.Proofs.YtjkdcddpicndgaaGreatDoor
open Go
theorem P282 {g:FuncId} {p:Nat} {e:Int} {H:List Obj} {K:AV→List Obj→Prop} (hp:H[p]? = some (.cells [int e]))
    (hK:K (.fn (.func 283) [] [.ptr p 0,.ptr H.length 0]) (H ++ [.cells [.fn (.func g) [] []]])):WR X0 Gam 282 false [.fn (.func g) [] [],.ptr p 0] H H K:=by
  have hlt:=(List.getElem?_eq_some_iff.1 hp).1
  refine WR_step [p] [.cells [int e]] [.fn (.func g) [] [],.ptr 0 0] ?_ [.cells [int e]] ?_ ?_ ?_ ?_ ?_
  · simp [EV,EVR,hp]
  · simp [EV,EVR,hp]
  · simp [EV,EVR,within,nodupB]
  · simp [EVR]
  · simp [EVR]
  refine WF_intro rfl rfl ?_
  simp [EV,evOp]
  simp [EV,EVR,comeBack,within,nodupB,backTo,putBack]
  have:H.set p (.cells [int e]) = H:=by
    refine List.ext_getElem? fun i=>?_
    rw [List.getElem?_set]
    split
    · rename_i h; subst h; rw [hp]
    · rfl
  simp [this]
  exact hK
def fracE (n d e:Int):AV:=if e ≠ 0 then .tup [agR false [] false [],int e] else .tup [qA (Rat.divInt n d),int 0]
theorem qA_val {a:Rat} (ha:SmQ a):valR (decide (a.num < 0)) (digits a.num.natAbs) false (digits a.den) = true:=by
  have h2:valI false (digits a.den) = true:=valI_digits ha.2
  have h3:digits a.den ≠ []:=fun h=>a.den_nz (digits_nil_iff.1 h)
  unfold valR
  simp only [zI_valI ha.1,h2,val_digits,Bool.true_and,Bool.not_false,decide_true,decide_eq_true_eq,Bool.and_eq_true,h3,ne_eq,not_false_eq_true,true_and]
  exact a.reduced
def Q4.of (a:Rat):Q4:=⟨decide (a.num < 0),digits a.num.natAbs,false,digits a.den⟩
theorem Q4.of_ok {a:Rat} (ha:SmQ a):(Q4.of a).Ok :=
  ⟨dig_digits _,dig_digits _,by
                                  have:(digits a.num.natAbs).length ≤ 128:=digits_length_le.2 ha.1
                                  show (digits a.num.natAbs).length ≤ _; omega,
    by
       have:(digits a.den).length ≤ 128:=digits_length_le.2 ha.2
       show (digits a.den).length ≤ _; omega⟩
theorem all_two {a b:Rat} (ha:SmQ a) (hb:SmQ b) {H H1:List Obj} {K:AV→List Obj→Prop} :
    WP X0 Gam 251 false [.p (.sl [[.v (.bool (decide (a.num < 0))),mag (digits a.num.natAbs),.v (.bool false),mag (digits a.den)],[.v (.bool (decide (b.num < 0))),mag (digits b.num.natAbs),.v (.bool false),mag (digits b.den)]])] H H1 K↔K (boo true) H:=by
  have h:=P251 (l:=[Q4.of a,Q4.of b]) (H:=H) (H1:=H1) (K:=K) (by
    intro r hr
    rcases List.mem_cons.1 hr with h | h
    · subst h; exact Q4.of_ok ha
    · rw [List.mem_singleton] at h; subst h; exact Q4.of_ok hb) (by simp)
  have e:[Q4.of a,Q4.of b].all Q4.val = true:=by
    have h1:(Q4.of a).val = true:=qA_val ha
    have h2:(Q4.of b).val = true:=qA_val hb
    simp [h1,h2]
  rw [e] at h
  exact h
theorem operate_wf {g:FuncId} {a b:Rat} {n d e:Int} (ha:SmQ a) (hb:SmQ b) (hR:∀ {as:List AV} {H:List Obj} {K:AV→List Obj→Prop},WC X0 Gam g as H K↔bindP (canons H as) fun as'=>WR X0 Gam g false as' H (freeze H (arsOf as)) K)
    (hg:WF X0 Gam g opA (opH 0 a b) (opPost a b n d e)) (hn:Sm n) (hd:Sm d) (hd0:e = 0→d ≠ 0) :
    WF X0 Gam 247 [qA a,qA b,.fn (.func g) [] [.ptr 0 0,.ptr 1 0]] [.cells (qc a),.cells (qc b)] fun r H2=>canon H2 r = some (fracE n d e)∧(freeze H2 (arsOf [r])).take 2 = [.cells (qc a),.cells (qc b)]:=by
  refine WF_intro rfl rfl ?_
  simp [EV,EVR,evOp,fillRows,partArs,splice,toPVs,toPV,freeze,C251]
  rw [all_two ha hb]
  simp [EV,EVR,evOp,splice,R282]
  refine P282 (e:=0) rfl ?_
  simp [EV,EVR,evOp,splice,R282]
  refine P282 (e:=0) rfl ?_
  simp [EV,EVR,evOp,splice,hR]
  refine WR_step [5,6,7,0,1] (opH 0 a b) opA ?_ (opH 0 a b |>.set 0 (.cells [int 0])) ?_ ?_ ?_ ?_ (WF_mono hg ?_)
  · simp [EV,EVR]
  · simp [EV,EVR]
  · simp [EV,EVR,within,nodupB]
  · simp [EV,EVR]
  · simp [EV,EVR,List.idxOf_cons]
  rintro r H2 ⟨h2,h3⟩
  rw [back_bare h2 (by simp [EV]) (by simp) (by rw [show [5,6,7,0,1].length = 5 from rfl,h3]; simp [EV,EVR])]
  rw [show [5,6,7,0,1].length = 5 from rfl,h3]
  by_cases he:e = 0
  · subst he
    simp [EV,EVR,evOp,splice,putBack,C172]
    rw [P172 (dig_digits _) (dig_digits _) (zI_valI hn) (zI_valI hd) (fun h=>hd0 rfl (by have:=digits_nil_iff.1 h; omega)),redR_z (hd0 rfl)]
    simp [EV,EVR,evOp,splice,fracE]
  · simp [EV,EVR,evOp,splice,putBack,he,fill,fracE]
theorem P247 {g:FuncId} {a b:Rat} {n d e:Int} {H:List Obj} {K:AV→List Obj→Prop} (ha:SmQ a) (hb:SmQ b) (hR:∀ {as:List AV} {H:List Obj} {K:AV→List Obj→Prop},WC X0 Gam g as H K↔bindP (canons H as) fun as'=>WR X0 Gam g false as' H (freeze H (arsOf as)) K)
    (hg:WF X0 Gam g opA (opH 0 a b) (opPost a b n d e)) (hn:Sm n) (hd:Sm d) (hd0:e = 0→d ≠ 0)
    (hK:K (fracE n d e) (.cells (qc a) :: .cells (qc b) :: H)) :
    WR X0 Gam 247 false [qA a,qA b,.fn (.func g) [] [.ptr 0 0,.ptr 1 0]] (.cells (qc a) :: .cells (qc b) :: H) (.cells (qc a) :: .cells (qc b) :: H) K:=by
  refine WR_step [0,1] [.cells (qc a),.cells (qc b)] [qA a,qA b,.fn (.func g) [] [.ptr 0 0,.ptr 1 0]] ?_ [.cells (qc a),.cells (qc b)] ?_ ?_ ?_ ?_ (WF_mono (operate_wf ha hb hR hg hn hd hd0) ?_)
  · simp [EV,EVR]
  · simp [EV,EVR]
  · simp [EV,EVR,within,nodupB]
  · simp [EV,EVR]
  · simp [EV,EVR,List.idxOf_cons]
  rintro r H2 ⟨h2,h3⟩
  rw [back_bare h2 (by unfold fracE; split <;> simp [EV]) (by simp) (by rw [show [0,1].length = 2 from rfl,h3]; simp [EV,EVR])]
  rw [show [0,1].length = 2 from rfl,h3]
  exact hK
def okOp (r:Rat):AV:=.tup [qA r,int 0]
def addOk (a b:Rat):Bool:=decide (Sm (a.num * b.den)∧Sm (b.num * a.den)∧Sm (a.num * b.den + b.num * a.den)∧Sm (a.den * b.den))
def errQ (e:Int):AV:=.tup [agR false [] false [],int e]
def addQ (a b:Rat):AV:=if addOk a b then okOp (a + b) else errQ 2
def subOk (a b:Rat):Bool:=decide (Sm (a.num * b.den)∧Sm (b.num * a.den)∧Sm (a.num * b.den - b.num * a.den)∧Sm (a.den * b.den))
def subQ (a b:Rat):AV:=if subOk a b then okOp (a - b) else errQ 2
def mulOk (a b:Rat):Bool:=decide (Sm (a.num * b.num)∧Sm (a.den * b.den))
def mulQ (a b:Rat):AV:=if mulOk a b then okOp (a * b) else errQ 2
theorem addQ_frac {a b:Rat}:fracE (addK3 a b).1 (addK3 a b).2.1 (addK3 a b).2.2 = addQ a b:=by
  unfold addQ addOk addK3 fracE okOp errQ
  have e:a + b = Rat.divInt (a.num * b.den + b.num * a.den) (a.den * b.den):=by
    have h:=Rat.divInt_add_divInt a.num b.num (d₁:=a.den) (d₂:=b.den) (by have:=a.den_nz; omega) (by have:=b.den_nz; omega)
    rwa [Rat.num_divInt_den,Rat.num_divInt_den] at h
  rw [e]
  by_cases h1:Sm (a.num * b.den)
  · by_cases h2:Sm (b.num * a.den)
    · by_cases h3:Sm (a.num * b.den + b.num * a.den)
      · by_cases h4:Sm (a.den * b.den)
        · simp [keepZ,h1,h2,h3,h4]
        · simp [keepZ,h1,h2,h3,h4]
      · simp [keepZ,h1,h2,h3]
    · simp [keepZ,h1,h2]
  · simp [keepZ,h1]
theorem subQ_frac {a b:Rat}:fracE (subK3 a b).1 (subK3 a b).2.1 (subK3 a b).2.2 = subQ a b:=by
  unfold subQ subOk subK3 fracE okOp errQ
  have e:a - b = Rat.divInt (a.num * b.den - b.num * a.den) (a.den * b.den):=by
    have h:=Rat.divInt_sub_divInt a.num b.num (d₁:=a.den) (d₂:=b.den) (by have:=a.den_nz; omega) (by have:=b.den_nz; omega)
    rwa [Rat.num_divInt_den,Rat.num_divInt_den] at h
  rw [e]
  by_cases h1:Sm (a.num * b.den)
  · by_cases h2:Sm (b.num * a.den)
    · by_cases h3:Sm (a.num * b.den - b.num * a.den)
      · have h3':Sm (a.num * b.den + -(b.num * a.den)):=by rwa [← Int.sub_eq_add_neg]
        by_cases h4:Sm (a.den * b.den)
        · simp [keepZ,h1,h2,h3,h3',h4,Int.sub_eq_add_neg]
        · simp [keepZ,h1,h2,h3,h3',h4]
      · have h3':¬ Sm (a.num * b.den + -(b.num * a.den)):=by rwa [← Int.sub_eq_add_neg]
        simp [keepZ,h1,h2,h3,h3']
    · simp [keepZ,h1,h2]
  · simp [keepZ,h1]
theorem mulQ_frac {a b:Rat}:fracE (mulK3 a b).1 (mulK3 a b).2.1 (mulK3 a b).2.2 = mulQ a b:=by
  unfold mulQ mulOk mulK3 fracE okOp errQ
  have e:a * b = Rat.divInt (a.num * b.num) (a.den * b.den):=by
    have h:=Rat.divInt_mul_divInt a.num b.num (d₁:=a.den) (d₂:=b.den)
    rwa [Rat.num_divInt_den,Rat.num_divInt_den] at h
  rw [e]
  by_cases h1:Sm (a.num * b.num)
  · by_cases h4:Sm (a.den * b.den)
    · simp [keepZ,h1,h4]
    · simp [keepZ,h1,h4]
  · simp [keepZ,h1]
end Go.Proofs.YtjkdcddpicndgaaGreatDoor
namespace Go.Proofs.YtjkdcddpicndgaaGreatDoor
open Go
theorem sm_zero:Sm 0:=by show (0:Nat) < _; decide
theorem keepZ_zero {e z:Int} (h:(keepZ e z).2 = 0):(keepZ e z).1 = z:=by
  unfold keepZ at *
  split at h
  · exact absurd h (by assumption)
  · split at h
    · rename_i h1 h2; rw [if_neg h1,if_pos h2]
    · cases h
theorem den_ne {a:Rat}:(a.den:Int) ≠ 0:=by have:=a.den_nz; omega
theorem Add_pfQ {a b:Rat} (ha:SmQ a) (hb:SmQ b):PF X0 Gam 205 [qA a,qA b] (addQ a b):=by
  refine WF_intro rfl rfl ?_
  simp [EV,EVR,evOp,R247]
  refine P247 ha hb R248 (Add1_wf ha hb) keepZ_sm keepZ_sm (fun h=>?_) ?_
  · have:=keepZ_zero h
    show (addK3 a b).2.1 ≠ 0
    unfold addK3
    rw [this]; exact Int.mul_ne_zero den_ne den_ne
  · rw [addQ_frac]
    unfold addQ okOp errQ
    split <;> simp [EV,EVR,evOp,splice]
theorem Sub_pfQ {a b:Rat} (ha:SmQ a) (hb:SmQ b):PF X0 Gam 206 [qA a,qA b] (subQ a b):=by
  refine WF_intro rfl rfl ?_
  simp [EV,EVR,evOp,R247]
  refine P247 ha hb R249 (Sub1_wf ha hb) keepZ_sm keepZ_sm (fun h=>?_) ?_
  · have:=keepZ_zero h
    show (subK3 a b).2.1 ≠ 0
    unfold subK3
    rw [this]; exact Int.mul_ne_zero den_ne den_ne
  · rw [subQ_frac]
    unfold subQ okOp errQ
    split <;> simp [EV,EVR,evOp,splice]
theorem Mul_pfQ {a b:Rat} (ha:SmQ a) (hb:SmQ b):PF X0 Gam 207 [qA a,qA b] (mulQ a b):=by
  refine WF_intro rfl rfl ?_
  simp [EV,EVR,evOp,R247]
  refine P247 ha hb R250 (Mul1_wf ha hb) keepZ_sm keepZ_sm (fun h=>?_) ?_
  · have:=keepZ_zero h
    show (mulK3 a b).2.1 ≠ 0
    unfold mulK3
    rw [this]; exact Int.mul_ne_zero den_ne den_ne
  · rw [mulQ_frac]
    unfold mulQ okOp errQ
    split <;> simp [EV,EVR,evOp,splice]
section
variable {a b:Rat} {H H1:List Obj} {K:AV→List Obj→Prop}
theorem P205 (ha:SmQ a) (hb:SmQ b):WP X0 Gam 205 false [qA a,qA b] H H1 K↔K (addQ a b) H1:=WP_slice (Add_pfQ ha hb) (by unfold addQ; split <;> simp [okOp,errQ,flat])
theorem P206 (ha:SmQ a) (hb:SmQ b):WP X0 Gam 206 false [qA a,qA b] H H1 K↔K (subQ a b) H1:=WP_slice (Sub_pfQ ha hb) (by unfold subQ; split <;> simp [okOp,errQ,flat])
theorem P207 (ha:SmQ a) (hb:SmQ b):WP X0 Gam 207 false [qA a,qA b] H H1 K↔K (mulQ a b) H1:=WP_slice (Mul_pfQ ha hb) (by unfold mulQ; split <;> simp [okOp,errQ,flat])
theorem digits_len {n:Nat} (h:n < 4294967296 ^ 128):(digits n).length ≤ 1000000000000:=by
  have:(digits n).length ≤ 128:=digits_length_le.2 h
  omega
def sgnQ (a:Rat):Int:=if a.num = 0 then 0 else if a.num < 0 then -1 else 1
theorem P62q (ha:SmQ a):WP X0 Gam 62 false [qA a] H H1 K↔K (boo true) H:=by
  rw [P62 (dig_digits _) (dig_digits _) (digits_len ha.1) (digits_len (show a.den < _ from ha.2)),qA_val ha]
theorem P209q (ha:SmQ a):WP X0 Gam 209 false [qA a] H H1 K↔K (int (sgnQ a)) H:=by
  rw [P209 (dig_digits _) (dig_digits _) (digits_len ha.1) (digits_len (show a.den < _ from ha.2)),qA_val ha]
  have:(digits a.num.natAbs = [])↔a.num = 0:=by rw [digits_nil_iff]; omega
  unfold sgnQ
  by_cases h0:a.num = 0
  · simp [h0,digits_zero]
  · have h1:¬ digits a.num.natAbs = []:=fun h=>h0 (this.1 h)
    simp [h0,h1]
theorem P78q {n:Int} (h:-9223372036854775808 ≤ n∧n ≤ 9223372036854775807):WP X0 Gam 78 false [int n,int 1] H H1 K↔K (okOp n) H1:=by
  rw [P78 h (by decide) (by decide)]
  rw [redR_z (x:=n) (y:=1) (by decide)]
  have:Rat.divInt n 1 = (n:Rat):=(Rat.num_divInt_den (n:Rat))
  rw [this]
  rfl
end
theorem SmQ_divInt {n d:Int} (hn:Sm n) (hd:Sm d) (h0:d ≠ 0):SmQ (Rat.divInt n d):=by
  have hg:0 < d.gcd n:=Int.gcd_pos_of_ne_zero_left _ h0
  constructor
  · have h1:=Rat.num_divInt n d
    unfold Sm at *
    rw [h1,Int.natAbs_ediv_of_dvd (Int.dvd_mul_of_dvd_right (Int.gcd_dvd_right ..)),Int.natAbs_mul,Int.natAbs_sign_of_ne_zero h0]
    exact Nat.lt_of_le_of_lt (Nat.div_le_self _ _) (by omega)
  · have h2:=Rat.den_divInt n d
    rw [if_neg h0] at h2
    unfold Sm at *
    rw [h2]
    show d.natAbs / d.gcd n < _
    exact Nat.lt_of_le_of_lt (Nat.div_le_self _ _) hd
theorem SmQ_add {a b:Rat} (h:addOk a b = true):SmQ (a + b):=by
  unfold addOk at h
  obtain ⟨_,_,h3,h4⟩:=of_decide_eq_true h
  have e:a + b = Rat.divInt (a.num * b.den + b.num * a.den) (a.den * b.den):=by
    have h:=Rat.divInt_add_divInt a.num b.num (d₁:=a.den) (d₂:=b.den) den_ne den_ne
    rwa [Rat.num_divInt_den,Rat.num_divInt_den] at h
  rw [e]; exact SmQ_divInt h3 h4 (Int.mul_ne_zero den_ne den_ne)
theorem SmQ_sub {a b:Rat} (h:subOk a b = true):SmQ (a - b):=by
  unfold subOk at h
  obtain ⟨_,_,h3,h4⟩:=of_decide_eq_true h
  have e:a - b = Rat.divInt (a.num * b.den - b.num * a.den) (a.den * b.den):=by
    have h:=Rat.divInt_sub_divInt a.num b.num (d₁:=a.den) (d₂:=b.den) den_ne den_ne
    rwa [Rat.num_divInt_den,Rat.num_divInt_den] at h
  rw [e]; exact SmQ_divInt h3 h4 (Int.mul_ne_zero den_ne den_ne)
theorem SmQ_mul {a b:Rat} (h:mulOk a b = true):SmQ (a * b):=by
  unfold mulOk at h
  obtain ⟨h3,h4⟩:=of_decide_eq_true h
  have e:a * b = Rat.divInt (a.num * b.num) (a.den * b.den):=by
    have h:=Rat.divInt_mul_divInt a.num b.num (d₁:=a.den) (d₂:=b.den)
    rwa [Rat.num_divInt_den,Rat.num_divInt_den] at h
  rw [e]; exact SmQ_divInt h3 h4 (Int.mul_ne_zero den_ne den_ne)
end Go.Proofs.YtjkdcddpicndgaaGreatDoor
namespace Go.Proofs.YtjkdcddpicndgaaGreatDoor
open Go
abbrev qrow (r:Rat):List PV:=[.v (.bool (decide (r.num < 0))),mag (digits r.num.natAbs),.v (.bool false),mag (digits r.den)]
abbrev el (l:List Rat):PV:=.sl (l.map qrow)
abbrev rads (t:List (List Rat)):PV:=.sl (t.map fun x=>[el x])
def El (j:Nat) (l:List Rat):Prop:=l.length = 2 ^ j∧∀ r ∈ l,SmQ r
theorem lenT {n b:Nat} (h:lenTab[n]? = some b.toUInt8) (hb:b < 256):idxStr lenTab n = some (.p (.v (.int .u8 b))):=by
  unfold idxStr
  have:lenTab[(n:Int).toNat]? = some b.toUInt8:=h
  rw [if_pos (by omega),this]
  simp; omega
theorem lt1:idxStr lenTab 1 = some (.p (.v (.int .u8 1))):=lenT (n:=1) (b:=1) (by decide +kernel) (by decide)
theorem lt2:idxStr lenTab 2 = some (.p (.v (.int .u8 2))):=lenT (n:=2) (b:=2) (by decide +kernel) (by decide)
theorem lt4:idxStr lenTab 4 = some (.p (.v (.int .u8 3))):=lenT (n:=4) (b:=3) (by decide +kernel) (by decide)
theorem lt8:idxStr lenTab 8 = some (.p (.v (.int .u8 4))):=lenT (n:=8) (b:=4) (by decide +kernel) (by decide)
theorem lt16:idxStr lenTab 16 = some (.p (.v (.int .u8 5))):=lenT (n:=16) (b:=5) (by decide +kernel) (by decide)
theorem lt32:idxStr lenTab 32 = some (.p (.v (.int .u8 6))):=lenT (n:=32) (b:=6) (by decide +kernel) (by decide)
theorem Len64_at {n j:Nat} (h:(n,j) ∈ [(1,1),(2,2),(4,3),(8,4),(16,5),(32,6)]):PF X0 Gam 266 [u64 n] (int j):=by
  refine WF_intro rfl rfl ?_
  simp only [List.mem_cons,Prod.mk.injEq,List.not_mem_nil,or_false] at h
  rcases h with ⟨rfl,rfl⟩ | ⟨rfl,rfl⟩ | ⟨rfl,rfl⟩ | ⟨rfl,rfl⟩ | ⟨rfl,rfl⟩ | ⟨rfl,rfl⟩ <;>
  simp [EV,evOp,evStr,asStr,IntKind.wrap,IntKind.bits,IntKind.signed,lt1,lt2,lt4,lt8,lt16,lt32]
theorem P266 {n j:Nat} {H H1:List Obj} {K:AV→List Obj→Prop} (h:(n,j) ∈ [(1,1),(2,2),(4,3),(8,4),(16,5),(32,6)]):WP X0 Gam 266 false [u64 n] H H1 K↔K (int j) H:=WP_flat (Len64_at h) rfl
theorem Len_at {n j:Nat} (h:(n,j) ∈ [(1,1),(2,2),(4,3),(8,4),(16,5),(32,6)]):PF X0 Gam 246 [u64 n] (int j):=by
  refine WF_intro rfl rfl ?_
  simp [EV,C266]
  rw [P266 h]
  simp [EV]
theorem P246 {n j:Nat} {H H1:List Obj} {K:AV→List Obj→Prop} (h:(n,j) ∈ [(1,1),(2,2),(4,3),(8,4),(16,5),(32,6)]):WP X0 Gam 246 false [u64 n] H H1 K↔K (int j) H:=WP_flat (Len_at h) rfl
theorem pow_mem {j:Nat} (h:j ≤ 5):(2 ^ j,j + 1) ∈ [(1,1),(2,2),(4,3),(8,4),(16,5),(32,6)]:=by
  match j,h with
  | 0,_ | 1,_ | 2,_ | 3,_ | 4,_ | 5,_=>simp
  | n + 6,h=>omega
theorem level_pf {l:List (List PV)} {j:Nat} (hj:j ≤ 5) (hl:l.length = 2 ^ j):PF X0 Gam 244 [.p (.sl l)] (int j):=by
  refine WF_intro rfl rfl ?_
  obtain ⟨n,hn⟩:∃ n,l.length = n:=⟨_,rfl⟩
  have hm:=pow_mem hj
  rw [← hl,hn] at hm
  have hb:n ≤ 32:=by
    simp only [List.mem_cons,Prod.mk.injEq,List.not_mem_nil,or_false] at hm
    omega
  have w1:IntKind.u64.wrap (n:Int) = n:=wrap_u64 (by omega)
  have hp:(0:Int) < n:=by
    simp only [List.mem_cons,Prod.mk.injEq,List.not_mem_nil,or_false] at hm
    omega
  have hp':0 < n:=by omega
  have w2:IntKind.u64.wrap ((n:Int) - 1) = n - 1:=wrap_u64 (by omega)
  have ha:binV .and (I .u64 n) (I .u64 ((n:Int) - 1)) = some (I .u64 0):=by
    simp only [List.mem_cons,Prod.mk.injEq,List.not_mem_nil,or_false] at hm
    rcases hm with ⟨rfl,_⟩ | ⟨rfl,_⟩ | ⟨rfl,_⟩ | ⟨rfl,_⟩ | ⟨rfl,_⟩ | ⟨rfl,_⟩ <;> rfl
  have w3:IntKind.i64.wrap (j:Int) = j:=wrap_i64 (by omega)
  simp [EV,hn,w1,hp',w2,ha,C246]
  rw [P246 hm]
  simp [EV,w3]
theorem P244 {l:List (List PV)} {j:Nat} {H H1:List Obj} {K:AV→List Obj→Prop} (hj:j ≤ 5) (hl:l.length = 2 ^ j):WP X0 Gam 244 false [.p (.sl l)] H H1 K↔K (int j) H:=WP_flat (level_pf hj hl) rfl
theorem element_pf {l:List Rat} {j most:Nat} (hj:j ≤ 5) (h:El j l) (hm:j ≤ most) (hm5:most ≤ 5):PF X0 Gam 197 [.p (el l),int most] (boo true):=by
  refine WF_intro rfl rfl ?_
  obtain ⟨hl,hs⟩:=h
  have hlen:l.length ≤ 32:=by
    rw [hl]; exact Nat.pow_le_pow_right (by omega) hj
  have h1:¬ (j:Int) < 0:=by omega
  have h2:¬ (most:Int) < j:=by omega
  simp [EV,C244]
  rw [P244 hj (by simpa using hl)]
  simp [EV,h1,h2]
  refine W_loop (fun n s=>∃ k:Nat,n = l.length - k∧k ≤ l.length∧lk s.env 17 = some (.p (el l))∧lk s.env 18 = some (int l.length)∧lk s.env 19 = some (int k)) ?_ l.length _ ?_
  · rintro n ⟨env,H⟩ ⟨k,rfl,hk,h17,h18,h19⟩
    simp only at h17 h18 h19
    by_cases hkl:k < l.length
    · have hok:=hs l[k] (List.getElem_mem hkl)
      obtain ⟨r,er⟩:∃ r,l[k] = r:=⟨_,rfl⟩
      rw [er] at hok
      have w5:IntKind.i64.wrap ((k:Int) + 1) = k + 1:=wrap_i64 (by omega)
      simp [EV,h17,h18,h19,hkl,er,splice,C62]
      rw [P62q hok]
      simp [EV,h17,h18,h19,w5]
      exact ⟨l.length - (k + 1),by omega,k + 1,rfl,by omega,rfl⟩
    · have ek:k = l.length:=by omega
      subst ek
      simp [EV,h17,h18,h19]
  · exact ⟨0,by simp,by omega,by simp [EV],by simp [EV],by simp [EV]⟩
theorem P197 {l:List Rat} {j most:Nat} {H H1:List Obj} {K:AV→List Obj→Prop} (hj:j ≤ 5) (h:El j l) (hm:j ≤ most) (hm5:most ≤ 5):WP X0 Gam 197 false [.p (el l),int most] H H1 K↔K (boo true) H:=WP_flat (element_pf hj h hm hm5) rfl
end Go.Proofs.YtjkdcddpicndgaaGreatDoor
namespace Go.Proofs.YtjkdcddpicndgaaGreatDoor
open Go
structure Tw (t:List (List Rat)):Prop where
  len:t.length ≤ 5
  el:∀ i x,t[i]? = some x→∃ j,j ≤ i∧El j x
abbrev twA (t:List (List Rat)):AV:=.agg [.p (rads t)]
theorem shaped_pf {t:List (List Rat)} (ht:Tw t):PF X0 Gam 202 [twA t] (boo true):=by
  refine WF_intro rfl rfl ?_
  have hlen:=ht.len
  have h5:(t.length:Int) ≤ 5:=by omega
  simp [EV,h5]
  refine W_loop (fun n s=>∃ k:Nat,n = t.length - k∧k ≤ t.length∧lk s.env 10 = some (.p (rads t))∧lk s.env 11 = some (int t.length)∧lk s.env 12 = some (int k)) ?_ t.length _ ?_
  · rintro n ⟨env,H⟩ ⟨k,rfl,hk,h17,h18,h19⟩
    simp only at h17 h18 h19
    by_cases hkl:k < t.length
    · obtain ⟨j,hj,hx⟩:=ht.el k _ (List.getElem?_eq_getElem hkl)
      obtain ⟨x,ex⟩:∃ x,t[k] = x:=⟨_,rfl⟩
      rw [ex] at hx
      have w5:IntKind.i64.wrap ((k:Int) + 1) = k + 1:=wrap_i64 (by omega)
      simp [EV,h17,h18,h19,hkl,ex,splice,C197]
      rw [P197 (by omega) hx hj (by omega)]
      simp [EV,h17,h18,h19,w5]
      exact ⟨t.length - (k + 1),by omega,k + 1,rfl,by omega,rfl⟩
    · have ek:k = t.length:=by omega
      subst ek
      simp [EV,h17,h18,h19]
  · exact ⟨0,by simp,by omega,by simp [EV],by simp [EV],by simp [EV]⟩
theorem P202 {t:List (List Rat)} {H H1:List Obj} {K:AV→List Obj→Prop} (ht:Tw t):WP X0 Gam 202 false [twA t] H H1 K↔K (boo true) H:=WP_flat (shaped_pf ht) rfl
theorem ValidT_pf {t:List (List Rat)} {l:List Rat} {j:Nat} (ht:Tw t) (h:El j l) (hj:j ≤ t.length):PF X0 Gam 152 [twA t,.p (el l)] (boo true):=by
  have:=ht.len
  refine WF_intro rfl rfl ?_
  simp [EV,C202]
  rw [P202 ht]
  simp [EV,C197]
  rw [P197 (by omega) h (by omega) (by omega)]
  simp [EV]
theorem P152 {t:List (List Rat)} {l:List Rat} {j:Nat} {H H1:List Obj} {K:AV→List Obj→Prop} (ht:Tw t) (h:El j l) (hj:j ≤ t.length):WP X0 Gam 152 false [twA t,.p (el l)] H H1 K↔K (boo true) H:=WP_flat (ValidT_pf ht h hj) rfl
theorem limbs_pf (n:Bool) (l:List Nat) (ll:l.length ≤ 1000000000000):PF X0 Gam 281 [agI n l] (agI n l):=by
  refine WF_intro rfl rfl ?_
  by_cases hl:l = []
  · subst hl
    simp [EV,evOp,fill,splice,appendV,rowsOf]
  · have ha:appendV [.cells [boo n,.p (mag l)],.cells [boo false,.lit []]] 4 1 (.lit []) (.p (mag l)) = some (.ar 2 0 0 l.length,[.cells [boo n,.p (mag l)],.cells [boo false,.lit []],.arr 1 none 0 (l.map limb)]):=by
      have hle:l.length * 4 ≤ 140737488355328:=by omega
      simp [appendV,rowsOf,all_limb,hl,hle,limb_len]
    simp [EV,evOp]
    rw [ha]
    simp [EV,evOp,fill,splice]
theorem P281 {n:Bool} {l:List Nat} {H H1:List Obj} {K:AV→List Obj→Prop} (ll:l.length ≤ 1000000000000):WP X0 Gam 281 false [agI n l] H H1 K↔K (agI n l) H1:=WP_slice (limbs_pf n l ll) (by simp [flat])
theorem halves_pf {a b:List Rat} (h:a.length = b.length) (h0:a ≠ []) (hb:b.length ≤ 1000000000000):PF X0 Gam 200 [.p (el (a ++ b))] (.tup [.p (el a),.p (el b)]):=by
  refine WF_intro rfl rfl ?_
  have e:((a.length:Int) + b.length).tdiv 2 = b.length:=by
    rw [h,show (b.length:Int) + b.length = b.length * 2 by omega,Int.mul_tdiv_cancel _ (by decide)]
  have w:IntKind.i64.wrap (b.length:Int) = b.length:=wrap_i64 (by omega)
  simp [EV,evOp,e,w]
  refine ⟨by omega,by omega,by omega,?_,?_⟩
  · rw [List.take_append_of_le_length (by simp; omega),List.take_of_length_le (by simp; omega)]
  · rw [List.drop_append_of_le_length (by simp; omega),List.drop_of_length_le (by simp; omega),List.nil_append,List.take_of_length_le (by simp; omega)]
theorem P200 {a b:List Rat} {H H1:List Obj} {K:AV→List Obj→Prop} (h:a.length = b.length) (h0:a ≠ []) (hb:b.length ≤ 1000000000000):WP X0 Gam 200 false [.p (el (a ++ b))] H H1 K↔K (.tup [.p (el a),.p (el b)]) H1:=WP_slice (halves_pf h h0 hb) (by simp [flat])
end Go.Proofs.YtjkdcddpicndgaaGreatDoor
namespace Go.Proofs.YtjkdcddpicndgaaGreatDoor
open Go
abbrev cHat (p:Nat) (t:List (List Rat)) (e:Int):List Obj :=
  [.cells [.p (rads t),int e,boo false,.p (mag []),boo false,.p (mag [1]),boo false,.p (mag [1]),boo false,.p (mag [1]),
    .fn (.func 204) [] [.ptr (p + 1) 0,.ptr (p + 2) 0],.fn (.func 204) [] [.ptr (p + 1) 0,.ptr (p + 3) 0],.fn (.func 204) [] [.ptr (p + 1) 0,.ptr (p + 4) 0],.fn (.func 204) [] [.ptr (p + 1) 0,.ptr (p + 5) 0]],
    .cells [.ptr p 0],.cells [.fn (.func 205) [] []],.cells [.fn (.func 206) [] []],.cells [.fn (.func 207) [] []],.cells [.fn (.func 208) [] []]]
theorem WP_of_WF {X:FuncId→List AV→List Obj→Option (AV×List Obj)} {Γ:FuncId→Option SFunc} {g:FuncId} {own:Bool} {args:List AV} {H H1:List Obj} {K:AV→List Obj→Prop}
    (h:WF X Γ g args [] fun r H2=>bindP (comeBack H H1 [] own r H2) fun r=>K r.1 r.2):WP X Γ g own args H H1 K:=h
theorem qA_zero:qA 0 = agR false [] false [1]:=by
  have:digits (0:Rat).den = [1]:=digits_one
  have h0:(0:Rat).num = 0:=rfl
  unfold qA; rw [this,h0]; simp [digits_zero]
theorem qA_one:qA 1 = agR false [1] false [1]:=by
  have:digits (1:Rat).den = [1]:=digits_one
  have h0:(1:Rat).num = 1:=rfl
  have h1:digits (1:Int).natAbs = [1]:=digits_one
  unfold qA; rw [this,h0,h1]; simp
theorem okOp_zero:okOp ((0:Int):Rat) = .tup [agR false [] false [1],int 0]:=by unfold okOp; rw [show ((0:Int):Rat) = 0 from rfl,qA_zero]
theorem okOp_one:okOp ((1:Int):Rat) = .tup [agR false [1] false [1],int 0]:=by unfold okOp; rw [show ((1:Int):Rat) = 1 from rfl,qA_one]
theorem P203 {g:FuncId} {p c:Nat} {cs:List AV} {H:List Obj} {K:AV→List Obj→Prop} (hp:H[p]? = some (.cells [.ptr c 0])) (hc:H[c]? = some (.cells cs)) (hcs:refsL cs = []) (hpc:p ≠ c)
    (hK:K (.fn (.func 204) [] [.ptr p 0,.ptr H.length 0]) (H ++ [.cells [.fn (.func g) [] []]])):WR X0 Gam 203 false [.fn (.func g) [] [],.ptr p 0] H H K:=by
  have hlt:=(List.getElem?_eq_some_iff.1 hp).1
  have hcp:c ≠ p:=fun h=>hpc h.symm
  refine WR_step [p,c] [.cells [.ptr 1 0],.cells cs] [.fn (.func g) [] [],.ptr 0 0] ?_ [.cells [.ptr c 0],.cells cs] ?_ ?_ ?_ ?_ ?_
  · simp [EV,EVR,hp,hc,hcs,hcp]
  · simp [EV,EVR,hp,hc]
  · simp [EV,EVR,within,nodupB,hcs,hpc]
  · simp [EVR,renL_bare _ _ hcs,List.idxOf_cons,beq_false_of_ne hpc]
  · simp [EVR]
  refine WF_intro rfl rfl ?_
  simp [EV,evOp]
  simp [EV,EVR,comeBack,within,nodupB,backTo,putBack,hcs,renL_bare _ _ hcs]
  have h1:((H.set p (.cells [.ptr c 0])).set c (.cells cs)) = H:=by
    refine List.ext_getElem? fun i=>?_
    rw [List.getElem?_set]
    split
    · rename_i h; subst h; rw [hc]; simp [(List.getElem?_eq_some_iff.1 hc).1]
    · rw [List.getElem?_set]
      split
      · rename_i h; subst h; rw [hp]
      · rfl
  simp [h1]
  exact hK
theorem newCalc_wf {t:List (List Rat)} {H H1:List Obj} {K:AV→List Obj→Prop} (hK:K (.ptr H1.length 0) (H1 ++ cHat H1.length t 0)):WP X0 Gam 153 false [twA t] H H1 K:=by
  refine WP_of_WF (WF_intro rfl rfl ?_)
  simp [EV,EVR,evOp,fill,splice,C78]
  rw [P78q (by decide),okOp_zero]
  simp [EV,EVR,evOp,fill,splice,C78]
  rw [P78q (by decide),okOp_one]
  simp [EV,EVR,evOp,fill,splice,R203]
  refine P203 (c:=1) rfl rfl ?_ (by decide) ?_
  · simp [EV]
  simp [EV,EVR,evOp,fill,splice,R203]
  refine P203 (c:=1) rfl rfl ?_ (by decide) ?_
  · simp [EV]
  simp [EV,EVR,evOp,fill,splice,R203]
  refine P203 (c:=1) rfl rfl ?_ (by decide) ?_
  · simp [EV]
  simp [EV,EVR,evOp,fill,splice,R203]
  refine P203 (c:=1) rfl rfl ?_ (by decide) ?_
  · simp [EV]
  simp [EV,EVR,evOp,fill,splice,R203]
  rw [back_step _ [1,2,3,4,5,6] [1,2,3,4,5,6] _ canon_ptr (by simp [flat]) rfl]
  rotate_left
  · rfl
  · simp [EV,EVR,within,nodupB]
  · simp
  · simp [EV,EVR]; rfl
  simp [EV,EVR,backTo,putBack,List.idxOf_cons]
  exact hK
end Go.Proofs.YtjkdcddpicndgaaGreatDoor
namespace Go.Proofs.YtjkdcddpicndgaaGreatDoor
open Go
theorem P153 {t:List (List Rat)} {H H1:List Obj} {K:AV→List Obj→Prop} (hK:K (.ptr H1.length 0) (H1 ++ cHat H1.length t 0)):WP X0 Gam 153 false [twA t] H H1 K:=newCalc_wf hK
abbrev eH (t:List (List Rat)) (e:Int):List Obj :=
  [.cells [.ptr 1 0],
    .cells [.p (rads t),int e,boo false,.p (mag []),boo false,.p (mag [1]),boo false,.p (mag [1]),boo false,.p (mag [1]),
    .fn (.func 204) [] [.ptr 0 0,.ptr 2 0],.fn (.func 204) [] [.ptr 0 0,.ptr 3 0],.fn (.func 204) [] [.ptr 0 0,.ptr 4 0],.fn (.func 204) [] [.ptr 0 0,.ptr 5 0]],
    .cells [.fn (.func 205) [] []],.cells [.fn (.func 206) [] []],.cells [.fn (.func 207) [] []],.cells [.fn (.func 208) [] []]]
def keepR (e:Int) (ok:Bool) (v:Rat):Rat×Int:=if e ≠ 0 then (0,e) else if ok then (v,0) else (0,2)
def addR (e:Int) (a b:Rat):Rat×Int:=keepR e (addOk a b) (a + b)
def subR (e:Int) (a b:Rat):Rat×Int:=keepR e (subOk a b) (a - b)
def mulR (e:Int) (a b:Rat):Rat×Int:=keepR e (mulOk a b) (a * b)
theorem SmQ_zero:SmQ 0:=⟨sm_zero,by show (1:Nat) < _; decide⟩
theorem keepR_sm {e:Int} {ok:Bool} {v:Rat} (h:ok = true→SmQ v):SmQ (keepR e ok v).1:=by
  unfold keepR
  split
  · exact SmQ_zero
  · split
    · exact h (by assumption)
    · exact SmQ_zero
theorem addR_sm {e:Int} {a b:Rat}:SmQ (addR e a b).1:=keepR_sm SmQ_add
theorem subR_sm {e:Int} {a b:Rat}:SmQ (subR e a b).1:=keepR_sm SmQ_sub
theorem mulR_sm {e:Int} {a b:Rat}:SmQ (mulR e a b).1:=keepR_sm SmQ_mul
theorem agR_zero:agR false [] false [1] = qA 0:=qA_zero.symm
def kPost (t:List (List Rat)) (x:Rat×Int) (r:AV) (H2:List Obj):Prop:=canon H2 r = some (qA x.1)∧(freeze H2 (arsOf [r])).take 6 = eH t x.2
theorem kAdd_wf {t:List (List Rat)} {e:Int} {a b:Rat} (ha:SmQ a) (hb:SmQ b):WF X0 Gam 204 [qA a,qA b,.ptr 0 0,.ptr 2 0] (eH t e) (kPost t (addR e a b)):=by
  refine WF_intro rfl rfl ?_
  by_cases he:e = 0
  · subst he
    simp [EV,EVR,evOp,C205]
    rw [P205 ha hb]
    by_cases ok:addOk a b = true
    · simp [EV,EVR,evOp,addQ,okOp,ok,splice,kPost,addR,keepR]
    · simp [EV,EVR,evOp,addQ,errQ,ok,splice,kPost,addR,keepR,agR_zero]
  · simp [EV,EVR,evOp,he,splice,kPost,addR,keepR,agR_zero]
theorem kSub_wf {t:List (List Rat)} {e:Int} {a b:Rat} (ha:SmQ a) (hb:SmQ b):WF X0 Gam 204 [qA a,qA b,.ptr 0 0,.ptr 3 0] (eH t e) (kPost t (subR e a b)):=by
  refine WF_intro rfl rfl ?_
  by_cases he:e = 0
  · subst he
    simp [EV,EVR,evOp,C206]
    rw [P206 ha hb]
    by_cases ok:subOk a b = true
    · simp [EV,EVR,evOp,subQ,okOp,ok,splice,kPost,subR,keepR]
    · simp [EV,EVR,evOp,subQ,errQ,ok,splice,kPost,subR,keepR,agR_zero]
  · simp [EV,EVR,evOp,he,splice,kPost,subR,keepR,agR_zero]
theorem kMul_wf {t:List (List Rat)} {e:Int} {a b:Rat} (ha:SmQ a) (hb:SmQ b):WF X0 Gam 204 [qA a,qA b,.ptr 0 0,.ptr 4 0] (eH t e) (kPost t (mulR e a b)):=by
  refine WF_intro rfl rfl ?_
  by_cases he:e = 0
  · subst he
    simp [EV,EVR,evOp,C207]
    rw [P207 ha hb]
    by_cases ok:mulOk a b = true
    · simp [EV,EVR,evOp,mulQ,okOp,ok,splice,kPost,mulR,keepR]
    · simp [EV,EVR,evOp,mulQ,errQ,ok,splice,kPost,mulR,keepR,agR_zero]
  · simp [EV,EVR,evOp,he,splice,kPost,mulR,keepR,agR_zero]
inductive KOp:Nat→(Int→Rat→Rat→Rat×Int)→Prop
  | add:KOp 2 addR
  | sub:KOp 3 subR
  | mul:KOp 4 mulR
theorem KOp.wf {k:Nat} {f:Int→Rat→Rat→Rat×Int} (h:KOp k f) {t:List (List Rat)} {e:Int} {a b:Rat} (ha:SmQ a) (hb:SmQ b):WF X0 Gam 204 [qA a,qA b,.ptr 0 0,.ptr k 0] (eH t e) (kPost t (f e a b)):=by
  cases h
  · exact kAdd_wf ha hb
  · exact kSub_wf ha hb
  · exact kMul_wf ha hb
theorem KOp.sm {k:Nat} {f:Int→Rat→Rat→Rat×Int} (h:KOp k f) {e:Int} {a b:Rat}:SmQ (f e a b).1:=by
  cases h
  · exact addR_sm
  · exact subR_sm
  · exact mulR_sm
theorem KOp.lt {k:Nat} {f:Int→Rat→Rat→Rat×Int} (h:KOp k f):k = 2∨k = 3∨k = 4:=by cases h <;> simp
theorem back_closed {H H1 H2 S S':List Obj} {sub seen:List Nat} {r r':AV} (hc:canon H2 r = some r') (hr:refs r' = []) (hsub:sub ≠ []) (hlen:sub.length = S.length)
    (hS:(freeze H2 (arsOf [r])).take sub.length = S) (hn:S.length ≤ 8∧3 ≤ S.length)
    (hreach:∀ C n,reach (S ++ C) (n + 20) ((S.map objRefs).flatten) [] = seen)
    (hw:∀ C,(within seen ((S.map objRefs).flatten) && seen.all (fun i=>within seen ((((S ++ C)[i]?).map objRefs).getD []))) = true)
    (hlt:seen.filter (sub.length ≤ ·) = []) (hren:S.map (renO (backTo H1.length sub [])) = S') :
    comeBack H H1 sub false r H2 = some (r',putBack H1 sub S'):=by
  obtain ⟨H3,h3⟩:∃ H3,freeze H2 (arsOf [r]) = H3:=⟨_,rfl⟩
  rw [h3] at hS
  have e:H3 = S ++ H3.drop sub.length:=by rw [← hS,List.take_append_drop]
  have hlen3:3 ≤ H3.length:=by
    have:=congrArg List.length hS
    simp only [List.length_take] at this
    omega
  have hroots:refs r' ++ ((H3.take sub.length).map objRefs).flatten = (S.map objRefs).flatten:=by rw [hr,hS]; rfl
  rw [back_step H3 seen [] [] hc (by cases sub with | nil=>exact absurd rfl hsub | cons=>simp) h3]
  · rw [hS,hren,ren_bare _ _ hr]; simp
  · rw [hroots]
    have:4 * H3.length * H3.length + 4 = (4 * H3.length * H3.length - 16) + 20:=by
      have:4 * 3 * 3 ≤ 4 * H3.length * H3.length:=Nat.mul_le_mul (Nat.mul_le_mul_left 4 hlen3) hlen3
      omega
    rw [this]
    conv=>lhs; arg 1; rw [e]
    exact hreach _ _
  · rw [hroots]
    have h1:=hw (H3.drop sub.length)
    rw [← e] at h1
    rw [h1]; rfl
  · exact hlt
  · rfl
theorem back_eH {H H1 H2:List Obj} {t:List (List Rat)} {e:Int} {r r':AV} (hc:canon H2 r = some r') (hr:refs r' = []) (hS:(freeze H2 (arsOf [r])).take 6 = eH t e) :
    comeBack H H1 [0,1,2,3,4,5] false r H2 = some (r',putBack H1 [0,1,2,3,4,5] (eH t e)):=by
  refine back_closed (S:=eH t e) (seen:=[1,0,2,3,4,5]) hc hr (by simp) rfl hS (by simp) (fun C n=>rfl) (fun C=>rfl) (by simp) ?_
  simp [EVR,backTo]
theorem P204 {k:Nat} {f:Int→Rat→Rat→Rat×Int} (h:KOp k f) {t:List (List Rat)} {e:Int} {a b:Rat} (ha:SmQ a) (hb:SmQ b) {B:List Obj} {K:AV→List Obj→Prop}
    (hK:K (qA (f e a b).1) (eH t (f e a b).2 ++ B)):WR X0 Gam 204 false [qA a,qA b,.ptr 0 0,.ptr k 0] (eH t e ++ B) (eH t e ++ B) K:=by
  have hk:=h.lt
  have hr:∀ n,reach (eH t e ++ B) (n + 20) (refsL [qA a,qA b,.ptr 0 0,.ptr k 0]) [] = [0,1,2,3,4,5]:=fun n=>by
    rcases hk with rfl | rfl | rfl <;> rfl
  refine WR_step [0,1,2,3,4,5] (eH t e) [qA a,qA b,.ptr 0 0,.ptr k 0] ?_ (eH t e) ?_ ?_ ?_ ?_ (WF_mono (h.wf ha hb) ?_)
  · have:4 * (eH t e ++ B).length * (eH t e ++ B).length + 4 = (4 * (eH t e ++ B).length * (eH t e ++ B).length - 16) + 20:=by
      have h6:6 ≤ (eH t e ++ B).length:=by simp
      have:4 * 6 * 6 ≤ 4 * (eH t e ++ B).length * (eH t e ++ B).length:=Nat.mul_le_mul (Nat.mul_le_mul_left 4 h6) h6
      omega
    rw [this]; exact hr _
  · simp [EV,EVR]
  · rcases hk with rfl | rfl | rfl <;> simp [EV,EVR,within,nodupB]
  · simp [EV,EVR,List.idxOf_cons]
  · rcases hk with rfl | rfl | rfl <;> simp [EV,EVR,List.idxOf_cons]
  rintro r H2 ⟨h2,h3⟩
  rw [back_eH h2 (by simp [EV]) h3]
  simp only [putBack,bindP_some]
  exact hK
end Go.Proofs.YtjkdcddpicndgaaGreatDoor
namespace Go.Proofs.YtjkdcddpicndgaaGreatDoor
open Go
theorem splice_all {α:Type}:∀ {l m:List α},m.length = l.length→splice l 0 m = some m
  | [],[],_=>rfl
  | a :: l,b :: m,h=>by
    have ih:=splice_all (l:=l) (m:=m) (by simpa using h)
    simp [splice,ih]
theorem storeC_row {H:List Obj} {r v k es:Nat} {rows:List (List PV)} {row ps:List PV} {xs:List AV} (h:H[r]? = some (.arr es none v rows)) (hk:rows[k]? = some row) (ha:arsOf xs = []) (hp:toPVs H xs = some ps) (hl:ps.length = row.length) :
    storeC H (.elp r v k 0) xs = some (H.set r (.arr es none v (rows.set k ps))):=by
  simp only [storeC,ha,List.contains_nil,Bool.false_eq_true,if_false,h,if_true,hk,Option.bind_some,hp,splice_all hl,Option.map_some,freeze]
def eachS (f:Int→Rat→Rat→Rat×Int):Int→List Rat→List Rat→List Rat×Int
  | e,x :: xs,y :: ys=>((f e x y).1 :: (eachS f (f e x y).2 xs ys).1,(eachS f (f e x y).2 xs ys).2)
  | e,_,_=>([],e)
theorem eachS_take {f:Int→Rat→Rat→Rat×Int}:∀ {k:Nat} {e:Int} {xs ys:List Rat} {x y:Rat},xs[k]? = some x→ys[k]? = some y →
    eachS f e (xs.take (k + 1)) (ys.take (k + 1)) = ((eachS f e (xs.take k) (ys.take k)).1 ++ [(f (eachS f e (xs.take k) (ys.take k)).2 x y).1],(f (eachS f e (xs.take k) (ys.take k)).2 x y).2)
  | 0,e,a :: xs,b :: ys,x,y,hx,hy=>by simp at hx hy; subst hx; subst hy; simp [eachS]
  | k + 1,e,a :: xs,b :: ys,x,y,hx,hy=>by
    simp at hx hy
    have ih:=eachS_take (f:=f) (k:=k) (e:=(f e a b).2) hx hy
    simp only [List.take_succ_cons,eachS,ih]
    simp
theorem eachS_len {f:Int→Rat→Rat→Rat×Int}:∀ {e:Int} {xs ys:List Rat},xs.length = ys.length→(eachS f e xs ys).1.length = xs.length
  | e,[],[],_=>rfl
  | e,a :: xs,b :: ys,h=>by simp [eachS,eachS_len (f:=f) (e:=(f e a b).2) (xs:=xs) (ys:=ys) (by simpa using h)]
theorem eachS_sm {f:Int→Rat→Rat→Rat×Int} {k:Nat} (hf:KOp k f):∀ {e:Int} {xs ys:List Rat},∀ r ∈ (eachS f e xs ys).1,SmQ r
  | e,x :: xs,y :: ys,r,h=>by
    simp [eachS] at h
    rcases h with rfl | h
    · exact hf.sm
    · exact eachS_sm hf r h
  | e,[],ys,r,h=>by simp [eachS] at h
  | e,x :: xs,[],r,h=>by simp [eachS] at h
abbrev zrow:List PV:=[.v bF,.sl [],.v bF,.sl []]
inductive ArPre:List Obj→Prop
  | zero:ArPre []
  | three (a b c:Obj):ArPre [a,b,c]
def arPost (C:List Obj) (rows:List (List PV)) (r:AV) (H2:List Obj):Prop:=∃ v D rest,ArPre D∧r = .ar (C.length + D.length) v 0 rows.length∧H2 = C ++ (D ++ .arr 4 none v rows :: rest)
theorem rep_get {α:Type} {l:List α} {z:α} {j n:Nat} (h:l.length = j) (hj:j < n):(l ++ List.replicate (n - j) z)[j]? = some z:=by
  rw [List.getElem?_append_right (by omega),h,Nat.sub_self,List.getElem?_replicate,if_pos (by omega)]
theorem rep_set {α:Type} {l:List α} {z a:α} {j n:Nat} (h:l.length = j) (hj:j < n):(l ++ List.replicate (n - j) z).set j a = l ++ [a] ++ List.replicate (n - (j + 1)) z:=by
  rw [List.set_append_right _ _ (by omega),h,Nat.sub_self]
  obtain ⟨m,hm⟩:∃ m,n - j = m + 1:=⟨n - j - 1,by omega⟩
  rw [hm,show n - (j + 1) = m by omega]
  simp [List.replicate_succ]
theorem qcells {x:Rat} {H:List Obj}:toPVs H (qc x) = some (qrow x):=by simp [toPVs,toPV,EV]
theorem qcells_ars {x:Rat}:arsOf (qc x) = []:=by simp [EV]
theorem each_wf {k:Nat} {f:Int→Rat→Rat→Rat×Int} (hf:KOp k f) {t:List (List Rat)} {e:Int} {xs ys:List Rat} (hx:∀ r ∈ xs,SmQ r) (hy:∀ r ∈ ys,SmQ r) (hl:xs.length = ys.length) (hl2:xs.length ≤ 1000000) :
    WF X0 Gam 151 [.p (el xs),.p (el ys),.fn (.func 204) [] [.ptr 0 0,.ptr k 0]] (eH t e) (arPost (eH t (eachS f e xs ys).2) ((eachS f e xs ys).1.map qrow)):=by
  refine WF_intro rfl rfl ?_
  have h64:64 * (xs.length:Int) ≤ 281474976710656:=by omega
  have h63:(xs.length:Int) ≤ 9223372036854775807:=by omega
  simp [EV,mkSlice,h64,h63]
  refine W_loop (fun m s=>∃ j:Nat,m = xs.length - j∧j ≤ xs.length∧lk s.env 0 = some (.p (el xs))∧lk s.env 1 = some (.p (el ys))∧lk s.env 2 = some (.fn (.func 204) [] [.ptr 0 0,.ptr k 0])∧lk s.env 7 = some (.ar 6 0 0 xs.length)∧lk s.env 13 = some (int xs.length)∧lk s.env 14 = some (int j) ∧
    s.H = eH t (eachS f e (xs.take j) (ys.take j)).2 ++ [.arr 4 none 0 ((eachS f e (xs.take j) (ys.take j)).1.map qrow ++ List.replicate (xs.length - j) zrow)]) ?_ xs.length _ ?_
  · rintro m ⟨env,H⟩ ⟨j,rfl,hj,h0,h1,h2,h7,h13,h14,rfl⟩
    simp only at h0 h1 h2 h7 h13 h14
    by_cases hjl:j < xs.length
    · have hjy:j < ys.length:=by omega
      have okx:=hx xs[j] (List.getElem_mem hjl)
      have oky:=hy ys[j] (List.getElem_mem hjy)
      have hgx:=List.getElem?_eq_getElem hjl
      have hgy:=List.getElem?_eq_getElem hjy
      obtain ⟨x,ex⟩:∃ r,xs[j] = r:=⟨_,rfl⟩
      obtain ⟨y,ey⟩:∃ r,ys[j] = r:=⟨_,rfl⟩
      rw [ex] at okx hgx
      rw [ey] at oky hgy
      have hst:=eachS_take (f:=f) (e:=e) hgx hgy
      obtain ⟨S,hS⟩:∃ S,eachS f e (xs.take j) (ys.take j) = S:=⟨_,rfl⟩
      rw [hS] at hst ⊢
      have lS:S.1.length = j:=by rw [← hS,eachS_len (by simp; omega)]; simp; omega
      have w5:IntKind.i64.wrap ((j:Int) + 1) = j + 1:=wrap_i64 (by omega)
      simp [EV,EVR,evOp,h0,h1,h2,h7,h13,h14,hjl,hjy,ex,ey,R204]
      refine P204 hf okx oky (B:=[_]) ?_
      simp [EV,EVR,evOp,h0,h1,h2,h7,h13,h14,hjl,hjy,ex,ey,R204]
      rw [storeC_row (rows:=S.1.map qrow ++ List.replicate (xs.length - j) zrow) (row:=zrow) (ps:=qrow (f S.2 x y).1) rfl (rep_get (by simp [lS]) hjl) qcells_ars qcells rfl,
        rep_set (by simp [lS]) hjl]
      simp [EV,EVR,evOp,h0,h1,h2,h7,h13,h14,hjl,hjy,ex,ey,w5]
      refine ⟨xs.length - (j + 1),by omega,j + 1,rfl,by omega,rfl,?_⟩
      rw [hst]
      simp
    · have ek:j = xs.length:=by omega
      subst ek
      simp [EV,h0,h1,h2,h7,h13,h14]
      rw [show List.take xs.length ys = ys from List.take_of_length_le (by omega)]
      exact ⟨0,[],[],.zero,by simp [eachS_len hl],by simp [eachS_len hl]⟩
  · exact ⟨0,by simp,by omega,by simp [EV],by simp [EV],by simp [EV],by simp [EV],by simp [EV],by simp [EV],by simp [EV,eachS]⟩
def liftS (x:List Rat) (n:Nat):List Rat:=x ++ List.replicate (n - x.length) 0
theorem liftS_len {x:List Rat} {n:Nat} (h:x.length ≤ n):(liftS x n).length = n:=by simp [liftS]; omega
theorem liftS_sm {x:List Rat} {n:Nat} (h:∀ r ∈ x,SmQ r):∀ r ∈ liftS x n,SmQ r:=by
  intro r hr
  rcases List.mem_append.1 hr with hr | hr
  · exact h r hr
  · rw [List.mem_replicate] at hr; rw [hr.2]; exact SmQ_zero
theorem append_row {H:List Obj} {l v b n:Nat} {fz:Option Nat} {rows ys:List (List PV)} {y:AV} (h:H[l]? = some (.arr 4 fz v rows)) (hn:n = rows.length) (hy:rowsOf H y = some ys) (h4:ys.all (fun r=>r.length == 4) = true) (hb:(n + ys.length) * b ≤ 140737488355328) :
    appendV H b 4 (.ar l v 0 n) y = some (.ar l (v + 1) 0 (n + ys.length),H.set l (.arr 4 fz (v + 1) (rows ++ ys))):=by
  subst hn
  simp only [appendV,hy,Option.bind_some,h4,if_true,h,true_and,hb]
theorem all_qrow {l:List Rat}:(l.map qrow).all (fun r=>r.length == 4) = true:=by simp
theorem qrow_zero:qrow 0 = [.v (.bool false),mag [],.v (.bool false),mag [1]]:=by
  have:digits (0:Rat).den = [1]:=digits_one
  have h0:(0:Rat).num = 0:=rfl
  unfold qrow; rw [this,h0]; simp [digits_zero]
theorem lift_wf {t:List (List Rat)} {e:Int} {x:List Rat} {n:Nat} (hx:x.length ≤ n) (hn:n ≤ 1000000) :
    WF X0 Gam 199 [.ptr 0 0,.p (el x),int n] (cHat 0 t e) (arPost (cHat 0 t e) ((liftS x n).map qrow)):=by
  refine WF_intro rfl rfl ?_
  have h64:64 * (n:Int) ≤ 281474976710656:=by omega
  have h63:(n:Int) ≤ 9223372036854775807:=by omega
  simp [EV,mkSlice,h64,h63]
  rw [append_row (rows:=[]) (ys:=x.map qrow) (fz:=none) (n:=0) rfl rfl (by simp [EV]) all_qrow (by simp; omega)]
  simp [EV]
  refine W_loop (fun m s=>∃ j v:Nat,m = n - j∧x.length ≤ j∧j ≤ n∧lk s.env 0 = some (.ptr 0 0)∧lk s.env 2 = some (int n)∧lk s.env 7 = some (.ar 6 v 0 j) ∧
    s.H = cHat 0 t e ++ [.arr 4 none v ((liftS x j).map qrow)]) ?_ (n - x.length) _ ?_
  · rintro m ⟨env,H⟩ ⟨j,v,rfl,hj,hjn,h0,h2,h7,rfl⟩
    simp only at h0 h2 h7
    by_cases hjl:j < n
    · simp [EV,EVR,h0,h2,h7,hjl,fillRows,partArs,splice,toPVs,toPV,freeze]
      have hs:(liftS x (j + 1)).map qrow = (liftS x j).map qrow ++ [[.v (.bool false),mag [],.v (.bool false),mag [1]]]:=by
        have:j + 1 - x.length = (j - x.length) + 1:=by omega
        rw [← qrow_zero]
        simp [liftS,this,List.replicate_succ']
      rw [append_row (rows:=(liftS x j).map qrow) (ys:=[[.v (.bool false),mag [],.v (.bool false),mag [1]]]) (fz:=none) (n:=j) rfl (by simp [liftS_len hj]) (by simp [EV]) (by simp) (by simp; omega)]
      simp [EV,EVR,h0,h2,h7,-List.map_append]
      exact ⟨n - (j + 1),by omega,j + 1,rfl,by omega,by omega,v + 1,⟨rfl,rfl⟩,rfl,hs.symm⟩
    · have ek:j = n:=by omega
      subst ek
      simp [EV,h0,h2,h7]
      exact ⟨v,[],[],.zero,by simp [liftS_len hj],rfl⟩
  · exact ⟨x.length,1,rfl,by omega,hx,by simp [EV],by simp [EV],by simp [EV],by simp [liftS]⟩
end Go.Proofs.YtjkdcddpicndgaaGreatDoor
namespace Go.Proofs.YtjkdcddpicndgaaGreatDoor
open Go
theorem fuel20 {H:List Obj} (h:6 ≤ H.length):4 * H.length * H.length + 4 = (4 * H.length * H.length - 16) + 20:=by
  have:4 * 6 * 6 ≤ 4 * H.length * H.length:=Nat.mul_le_mul (Nat.mul_le_mul_left 4 h) h
  omega
theorem calc_own0 {g:FuncId} {args:List AV} {B H:List Obj} {t:List (List Rat)} {e e':Int} {rows:List (List PV)} {K:AV→List Obj→Prop} (hargs:refsL args = [])
    (h:WF X0 Gam g (.ptr 0 0 :: args) (cHat 0 t e) (arPost (cHat 0 t e') rows))
    (hK:∀ v,K (.ar (6 + B.length) v 0 rows.length) (cHat 0 t e' ++ (B ++ [.arr 4 none v rows]))):WR X0 Gam g true (.ptr 0 0 :: args) H (cHat 0 t e ++ B) K:=by
  refine WR_step [0,1,2,3,4,5] (cHat 0 t e) (.ptr 0 0 :: args) ?_ (cHat 0 t e) ?_ ?_ ?_ ?_ (WF_mono h ?_)
  · rw [fuel20 (by simp)]
    simp only [refsL_cons',hargs,refs_ptr,List.append_nil]
    rfl
  · rfl
  · simp only [refsL_cons',hargs,refs_ptr,List.append_nil]
    rfl
  · simp [EVR,List.idxOf_cons]
  · simp [EVR,List.idxOf_cons,renL_bare _ _ hargs]
  rintro r H2 ⟨v,D,rest,hD,rfl,rfl⟩
  have:=hK v
  simp at this
  cases hD with
  | zero =>
    rw [back_own [6,1,0,2,3,4,5] [6] [.arr 4 none v rows] (by simp [flat]) rfl rfl rfl rfl]
    simp [EVR,backTo,putBack]
    rw [show B.length + 1 + 1 + 1 + 1 + 1 + 1 = 6 + B.length by omega]
    exact this
  | three =>
    rw [back_own [9,1,0,2,3,4,5] [9] [.arr 4 none v rows] (by simp [flat]) rfl rfl rfl rfl]
    simp [EVR,backTo,putBack]
    rw [show B.length + 1 + 1 + 1 + 1 + 1 + 1 = 6 + B.length by omega]
    exact this
theorem calc_own1 {g:FuncId} {args:List AV} {o:Obj} {B H:List Obj} {t:List (List Rat)} {e e':Int} {rows:List (List PV)} {K:AV→List Obj→Prop} (hargs:refsL args = [])
    (h:WF X0 Gam g (.ptr 0 0 :: args) (cHat 0 t e) (arPost (cHat 0 t e') rows))
    (hK:∀ v,K (.ar (7 + B.length) v 0 rows.length) (o :: cHat 1 t e' ++ (B ++ [.arr 4 none v rows]))):WR X0 Gam g true (.ptr 1 0 :: args) H (o :: cHat 1 t e ++ B) K:=by
  refine WR_step [1,2,3,4,5,6] (cHat 0 t e) (.ptr 0 0 :: args) ?_ (cHat 1 t e) ?_ ?_ ?_ ?_ (WF_mono h ?_)
  · rw [fuel20 (by simp)]
    simp only [refsL_cons',hargs,refs_ptr,List.append_nil]
    rfl
  · rfl
  · simp only [refsL_cons',hargs,refs_ptr,List.append_nil]
    rfl
  · simp [EVR,List.idxOf_cons]
  · simp [EVR,List.idxOf_cons,renL_bare _ _ hargs]
  rintro r H2 ⟨v,D,rest,hD,rfl,rfl⟩
  have:=hK v
  simp at this
  cases hD with
  | zero =>
    rw [back_own [6,1,0,2,3,4,5] [6] [.arr 4 none v rows] (by simp [flat]) rfl rfl rfl rfl]
    simp [EVR,backTo,putBack]
    rw [show B.length + 1 + 1 + 1 + 1 + 1 + 1 + 1 = 7 + B.length by omega]
    exact this
  | three =>
    rw [back_own [9,1,0,2,3,4,5] [9] [.arr 4 none v rows] (by simp [flat]) rfl rfl rfl rfl]
    simp [EVR,backTo,putBack]
    rw [show B.length + 1 + 1 + 1 + 1 + 1 + 1 + 1 = 7 + B.length by omega]
    exact this
theorem calc_each0 {k:Nat} {g:FuncId} {x y:PV} {f:Int→Rat→Rat→Rat×Int} (hf:KOp k f) {B H:List Obj} {t:List (List Rat)} {e e':Int} {rows:List (List PV)} {K:AV→List Obj→Prop}
    (h:WF X0 Gam g [.p x,.p y,.fn (.func 204) [] [.ptr 0 0,.ptr k 0]] (eH t e) (arPost (eH t e') rows))
    (hK:∀ v,K (.ar (6 + B.length) v 0 rows.length) (cHat 0 t e' ++ (B ++ [.arr 4 none v rows]))):WR X0 Gam g true [.p x,.p y,.fn (.func 204) [] [.ptr 1 0,.ptr k 0]] H (cHat 0 t e ++ B) K:=by
  have hk:=hf.lt
  refine WR_step [1,0,2,3,4,5] (eH t e) [.p x,.p y,.fn (.func 204) [] [.ptr 0 0,.ptr k 0]] ?_ [(cHat 0 t e)[1],(cHat 0 t e)[0],(cHat 0 t e)[2],(cHat 0 t e)[3],(cHat 0 t e)[4],(cHat 0 t e)[5]] ?_ ?_ ?_ ?_ (WF_mono h ?_)
  · rw [fuel20 (by simp)]
    rcases hk with rfl | rfl | rfl <;> rfl
  · rfl
  · rcases hk with rfl | rfl | rfl <;> rfl
  · simp [EVR,List.idxOf_cons]
  · rcases hk with rfl | rfl | rfl <;> simp [EVR,List.idxOf_cons]
  rintro r H2 ⟨v,D,rest,hD,rfl,rfl⟩
  have:=hK v
  simp at this
  cases hD with
  | zero =>
    rw [back_own [6,1,0,2,3,4,5] [6] [.arr 4 none v rows] (by simp [flat]) rfl rfl rfl rfl]
    simp [EVR,backTo,putBack]
    rw [show B.length + 1 + 1 + 1 + 1 + 1 + 1 = 6 + B.length by omega]
    exact this
  | three =>
    rw [back_own [9,1,0,2,3,4,5] [9] [.arr 4 none v rows] (by simp [flat]) rfl rfl rfl rfl]
    simp [EVR,backTo,putBack]
    rw [show B.length + 1 + 1 + 1 + 1 + 1 + 1 = 6 + B.length by omega]
    exact this
def plPost (C:List Obj) (r' r:AV) (H2:List Obj):Prop:=canon H2 r = some r'∧refs r' = []∧(freeze H2 (arsOf [r])).take 6 = C
theorem calc_pl0 {g:FuncId} {args:List AV} {B H:List Obj} {t:List (List Rat)} {e e':Int} {r':AV} {K:AV→List Obj→Prop} (hargs:refsL args = [])
    (h:WF X0 Gam g (.ptr 0 0 :: args) (cHat 0 t e) (plPost (cHat 0 t e') r'))
    (hK:K r' (cHat 0 t e' ++ B)):WR X0 Gam g false (.ptr 0 0 :: args) H (cHat 0 t e ++ B) K:=by
  refine WR_step [0,1,2,3,4,5] (cHat 0 t e) (.ptr 0 0 :: args) ?_ (cHat 0 t e) ?_ ?_ ?_ ?_ (WF_mono h ?_)
  · rw [fuel20 (by simp)]
    simp only [refsL_cons',hargs,refs_ptr,List.append_nil]
    rfl
  · rfl
  · simp only [refsL_cons',hargs,refs_ptr,List.append_nil]
    rfl
  · simp [EVR,List.idxOf_cons]
  · simp [EVR,List.idxOf_cons,renL_bare _ _ hargs]
  rintro r H2 ⟨h1,h2,h3⟩
  rw [back_closed (sub:=[0,1,2,3,4,5]) (S:=cHat 0 t e') (S':=cHat 0 t e') (seen:=[1,0,2,3,4,5]) h1 h2 (by simp) rfl h3 (by simp) (fun C n=>rfl) (fun C=>rfl) (by simp) (by simp [EVR,backTo])]
  exact hK
theorem calc_pl1 {g:FuncId} {args:List AV} {o:Obj} {B H:List Obj} {t:List (List Rat)} {e e':Int} {r':AV} {K:AV→List Obj→Prop} (hargs:refsL args = [])
    (h:WF X0 Gam g (.ptr 0 0 :: args) (cHat 0 t e) (plPost (cHat 0 t e') r'))
    (hK:K r' (o :: cHat 1 t e' ++ B)):WR X0 Gam g false (.ptr 1 0 :: args) H (o :: cHat 1 t e ++ B) K:=by
  refine WR_step [1,2,3,4,5,6] (cHat 0 t e) (.ptr 0 0 :: args) ?_ (cHat 1 t e) ?_ ?_ ?_ ?_ (WF_mono h ?_)
  · rw [fuel20 (by simp)]
    simp only [refsL_cons',hargs,refs_ptr,List.append_nil]
    rfl
  · rfl
  · simp only [refsL_cons',hargs,refs_ptr,List.append_nil]
    rfl
  · simp [EVR,List.idxOf_cons]
  · simp [EVR,List.idxOf_cons,renL_bare _ _ hargs]
  rintro r H2 ⟨h1,h2,h3⟩
  rw [back_closed (sub:=[1,2,3,4,5,6]) (S:=cHat 0 t e') (S':=cHat 1 t e') (seen:=[1,0,2,3,4,5]) h1 h2 (by simp) rfl h3 (by simp) (fun C n=>rfl) (fun C=>rfl) (by simp) (by simp [EVR,backTo])]
  exact hK
def litPost (C:List Obj) (rows:List (List PV)) (r:AV) (H2:List Obj):Prop:=r = .lit rows∧H2 = C
theorem calc_lit0 {g:FuncId} {args:List AV} {B H:List Obj} {t:List (List Rat)} {e e':Int} {rows:List (List PV)} {K:AV→List Obj→Prop} (hargs:refsL args = [])
    (h:WF X0 Gam g (.ptr 0 0 :: args) (cHat 0 t e) (litPost (cHat 0 t e') rows))
    (hK:K (.lit rows) (cHat 0 t e' ++ B)):WR X0 Gam g true (.ptr 0 0 :: args) H (cHat 0 t e ++ B) K:=by
  refine WR_step [0,1,2,3,4,5] (cHat 0 t e) (.ptr 0 0 :: args) ?_ (cHat 0 t e) ?_ ?_ ?_ ?_ (WF_mono h ?_)
  · rw [fuel20 (by simp)]
    simp only [refsL_cons',hargs,refs_ptr,List.append_nil]
    rfl
  · rfl
  · simp only [refsL_cons',hargs,refs_ptr,List.append_nil]
    rfl
  · simp [EVR,List.idxOf_cons]
  · simp [EVR,List.idxOf_cons,renL_bare _ _ hargs]
  rintro r H2 ⟨rfl,rfl⟩
  rw [back_own [1,0,2,3,4,5] [] [] (by simp)]
  · simp [EVR,backTo,putBack]
    exact hK
  · rfl
  · rfl
  · rfl
  · rfl
theorem P204c {k:Nat} {f:Int→Rat→Rat→Rat×Int} (h:KOp k f) {t:List (List Rat)} {e:Int} {a b:Rat} (ha:SmQ a) (hb:SmQ b) {B H:List Obj} {K:AV→List Obj→Prop}
    (hK:K (qA (f e a b).1) (cHat 0 t (f e a b).2 ++ B)):WR X0 Gam 204 false [qA a,qA b,.ptr 1 0,.ptr k 0] H (cHat 0 t e ++ B) K:=by
  have hk:=h.lt
  refine WR_step [1,0,2,3,4,5] (eH t e) [qA a,qA b,.ptr 0 0,.ptr k 0] ?_ [(cHat 0 t e)[1],(cHat 0 t e)[0],(cHat 0 t e)[2],(cHat 0 t e)[3],(cHat 0 t e)[4],(cHat 0 t e)[5]] ?_ ?_ ?_ ?_ (WF_mono (h.wf ha hb) ?_)
  · rw [fuel20 (by simp)]
    rcases hk with rfl | rfl | rfl <;> rfl
  · rfl
  · rcases hk with rfl | rfl | rfl <;> rfl
  · simp [EVR,List.idxOf_cons]
  · rcases hk with rfl | rfl | rfl <;> simp [EVR,List.idxOf_cons]
  rintro r H2 ⟨h2,h3⟩
  rw [back_closed (sub:=[1,0,2,3,4,5]) (S:=eH t (f e a b).2) (S':=[(cHat 0 t (f e a b).2)[1],(cHat 0 t (f e a b).2)[0],(cHat 0 t (f e a b).2)[2],(cHat 0 t (f e a b).2)[3],(cHat 0 t (f e a b).2)[4],(cHat 0 t (f e a b).2)[5]]) (seen:=[1,0,2,3,4,5]) h2 (by simp [EV]) (by simp) rfl h3 (by simp) (fun C n=>rfl) (fun C=>rfl) (by simp) (by simp [EVR,backTo])]
  exact hK
end Go.Proofs.YtjkdcddpicndgaaGreatDoor

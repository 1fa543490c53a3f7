/- Part of the proof of Rows.ProverMiddlesCardSaid: EvE3, PmD1, PmH1, PmV1, PmV2, PmV3. -/
import Derived.KernelRfl
import Derived.Test.YtepbfecmageleaaGreatDoorP13
import Derived.Test.YtepbfecmageleaaGreatDoorP14
import Derived.Test.YtepbfecmageleaaGreatDoorP15
import Derived.Test.YtepbfecmageleaaGreatDoorP17
import Derived.Test.YtepbfecmageleaaGreatDoorP19
set_option linter.all false
namespace Go.Proofs.YtepbfecmageleaaGreatDoor
open Go
noncomputable def vWant:Value→Bool→Option Bool:=@Value.rec (fun _=>Bool→Option Bool) (fun _=>PUnit) (fun _=>PUnit) (fun t b=>some (eqbK t b)) (fun _ _=>fun _=>none) (fun _ _=>fun _=>none) (fun _ _ _=>fun _=>none) (fun _=>fun _=>none) (fun _=>fun _=>none) (fun _ _ _=>fun _=>none) (fun _=>fun _=>none) (fun _=>fun _=>none) (fun _ _ _ _ _=>fun _=>none) (fun _=>none) (fun _ _ _=>fun _=>none) (fun _=>none) (fun _ _=>fun _=>none) (fun _ _=>fun _=>none) (fun _ _=>⟨⟩) ⟨⟩ (fun _ _ _ _=>⟨⟩)
noncomputable def pvWant:PV→Bool→Option Bool:=@PV.rec (fun _=>Bool→Option Bool) (fun _=>PUnit) (fun _=>PUnit) (vWant) (fun _=>none) (fun _ _=>fun _=>none) (fun _ _=>fun _=>none) ⟨⟩ (fun _ _ _ _=>⟨⟩) ⟨⟩ (fun _ _ _ _=>⟨⟩)
noncomputable def avWant:AV→Bool→Option Bool:=@AV.rec (fun _=>Bool→Option Bool) (fun _=>PUnit) (pvWant) (fun _=>fun _=>none) (fun _ _ _ _=>fun _=>none) (fun _ _=>fun _=>none) (fun _ _ _ _=>fun _=>none) (fun _ _=>fun _=>none) (fun _ _ _ _ _=>fun _=>none) (fun _ _=>fun _=>none) (fun vs _ _=>List.rec (some false) (fun _ _ _=>none) vs) (fun _=>fun _=>none) (fun _=>fun _=>none) (fun _=>none) (fun _ _ _=>fun _=>none) ⟨⟩ (fun _ _ _ _=>⟨⟩)
theorem avWant_eq (a:AV) (b:Bool):avWant a b = match a with
    | .p (.v (.bool t))=>some (t == b)
    | .tup []=>some false
    | _=>none:=by
  cases a with
  | p x =>
    cases x with
    | v x =>
      cases x with
      | bool t=>exact congrArg some (eqbK_eq t b)
      | _=>rfl
    | _=>rfl
  | tup vs=>cases vs <;> rfl
  | _=>rfl
noncomputable def wantG (g:SA×Bool) (e:Fr):Option Bool:=bindK (evK g.1 e) fun a=>avWant a g.2
noncomputable def wantK (o:SO) (e:Fr):Option Bool:=Option.rec (some true) (fun g=>wantG g e) o.guard
theorem wantK_eq (o:SO) (e:Fr):wantK o e = wanted o e:=by
  unfold wantK wanted
  cases o.guard with
  | none=>rfl
  | some g =>
    simp only [wantG,evK_eq,bindK_eq,avWant_eq]
    cases ev e g.1 with
    | none=>rfl
    | some a=>simp only [Option.bind_some]; split <;> simp_all
noncomputable def avPlain:AV→Bool:=@AV.rec (fun _=>Bool) (fun _=>PUnit) (fun _=>true) (fun _=>false) (fun _ _ _ _=>false) (fun _ _=>false) (fun _ _ _ _=>false) (fun _ _=>false) (fun _ _ _ _ _=>false) (fun _ _=>false) (fun _ _=>false) (fun _=>false) (fun _=>false) (false) (fun _ _ _=>false) ⟨⟩ (fun _ _ _ _=>⟨⟩)
noncomputable def pvFlat:PV→Bool:=@PV.rec (fun _=>Bool) (fun _=>PUnit) (fun _=>PUnit) (fun _=>true) (true) (fun _ _=>false) (fun _ _=>false) ⟨⟩ (fun _ _ _ _=>⟨⟩) ⟨⟩ (fun _ _ _ _=>⟨⟩)
noncomputable def avFlat1:AV→Bool:=@AV.rec (fun _=>Bool) (fun _=>PUnit) (pvFlat) (fun _=>false) (fun _ _ _ _=>false) (fun _ _=>false) (fun _ _ _ _=>false) (fun _ _=>false) (fun _ _ _ _ _=>false) (fun _ _=>false) (fun _ _=>false) (fun _=>false) (fun _=>false) (false) (fun _ _ _=>false) ⟨⟩ (fun _ _ _ _=>⟨⟩)
noncomputable def allFlat:List AV→Bool:=fun l=>List.rec true (fun a _ ih=>Bool.rec false ih (avFlat1 a)) l
noncomputable def avFlat:AV→Bool:=@AV.rec (fun _=>Bool) (fun _=>PUnit) (pvFlat) (fun _=>false) (fun _ _ _ _=>false) (fun _ _=>false) (fun _ _ _ _=>false) (fun _ _=>false) (fun _ _ _ _ _=>false) (fun _ _=>false) (fun vs _=>allFlat vs) (fun _=>false) (fun _=>false) (false) (fun _ _ _=>false) ⟨⟩ (fun _ _ _ _=>⟨⟩)
theorem avFlat1_eq (a:AV):avFlat1 a = match a with | .p (.v _)=>true | .p .nsl=>true | _=>false:=by
  cases a with
  | p x=>cases x <;> rfl
  | _=>rfl
theorem allFlat_eq:∀ (l:List AV),allFlat l = l.all fun | .p (.v _)=>true | .p .nsl=>true | _=>false
  | []=>rfl
  | a::l=>by
    have h1:allFlat (a::l) = Bool.rec false (allFlat l) (avFlat1 a):=rfl
    rw [h1,List.all_cons,allFlat_eq l,avFlat1_eq]
    split <;> simp_all
theorem avFlat_eq (a:AV):avFlat a = flat a:=by
  cases a with
  | p x=>cases x <;> rfl
  | tup vs=>exact allFlat_eq vs
  | _=>rfl
noncomputable def vCond:Value→(St→Option (SExit×St))→(St→Option (SExit×St))→St→Option (SExit×St):=@Value.rec (fun _=>(St→Option (SExit×St))→(St→Option (SExit×St))→St→Option (SExit×St)) (fun _=>PUnit) (fun _=>PUnit) (fun t a b s=>Bool.rec (b s) (a s) t) (fun _ _=>fun _ _ _=>none) (fun _ _=>fun _ _ _=>none) (fun _ _ _=>fun _ _ _=>none) (fun _=>fun _ _ _=>none) (fun _=>fun _ _ _=>none) (fun _ _ _=>fun _ _ _=>none) (fun _=>fun _ _ _=>none) (fun _=>fun _ _ _=>none) (fun _ _ _ _ _=>fun _ _ _=>none) (fun _ _ _=>none) (fun _ _ _=>fun _ _ _=>none) (fun _ _ _=>none) (fun _ _=>fun _ _ _=>none) (fun _ _=>fun _ _ _=>none) (fun _ _=>⟨⟩) ⟨⟩ (fun _ _ _ _=>⟨⟩)
noncomputable def pvCond:PV→(St→Option (SExit×St))→(St→Option (SExit×St))→St→Option (SExit×St):=@PV.rec (fun _=>(St→Option (SExit×St))→(St→Option (SExit×St))→St→Option (SExit×St)) (fun _=>PUnit) (fun _=>PUnit) (vCond) (fun _ _ _=>none) (fun _ _=>fun _ _ _=>none) (fun _ _=>fun _ _ _=>none) ⟨⟩ (fun _ _ _ _=>⟨⟩) ⟨⟩ (fun _ _ _ _=>⟨⟩)
noncomputable def avCond:AV→(St→Option (SExit×St))→(St→Option (SExit×St))→St→Option (SExit×St):=@AV.rec (fun _=>(St→Option (SExit×St))→(St→Option (SExit×St))→St→Option (SExit×St)) (fun _=>PUnit) (pvCond) (fun _=>fun _ _ _=>none) (fun _ _ _ _=>fun _ _ _=>none) (fun _ _=>fun _ _ _=>none) (fun _ _ _ _=>fun _ _ _=>none) (fun _ _=>fun _ _ _=>none) (fun _ _ _ _ _=>fun _ _ _=>none) (fun _ _=>fun _ _ _=>none) (fun _ _=>fun _ _ _=>none) (fun _=>fun _ _ _=>none) (fun _=>fun _ _ _=>none) (fun _ _ _=>none) (fun _ _ _=>fun _ _ _=>none) ⟨⟩ (fun _ _ _ _=>⟨⟩)
noncomputable def putK (d:SD) (e:Fr) (v:AV):Fr:=SD.rec e (fun n=>⟨(n,v)::e.loc,e.env⟩) (fun n=>⟨e.loc,updK e.env n v⟩) d
theorem putK_eq (d:SD) (e:Fr) (v:AV):putK d e v = dstPut d e v:=by
  cases d with
  | x n=>simp only [putK,dstPut,updK_eq]
  | _=>rfl
noncomputable def opsK (C D:CB) (ops:List SO):Fr→List Obj→Option St :=
  List.rec (fun e H=>some ⟨e.env,H⟩) (fun o _ ih e H=>Option.rec none (fun t=>Bool.rec (ih (putK o.dst e (.tup [])) H) (bindK (opK o.op e H C D) fun r=>ih (putK o.dst e r.1) r.2) t) (wantK o e)) ops
noncomputable def plainK (aZ:List AV):Bool:=List.rec true (fun a _ ih=>Bool.rec false ih (avPlain a)) aZ
noncomputable def backK (H:List Obj) (own:Bool) (r:AV×List Obj):RO:=Bool.rec (comeBack H H [] own r.1 r.2) (some (r.1,H)) (avFlat r.1)
noncomputable def doFree (ih:Fr→List Obj→Option St) (C D:CB) (o:SO) (e:Fr) (H:List Obj):Option St:=bindK (opK o.op e H noCB noCB) fun v=>ih (putK o.dst e v.1) H
noncomputable def doWrite (ih:Fr→List Obj→Option St) (C D:CB) (o:SO) (e:Fr) (H:List Obj):Option St:=bindK (opK o.op e H C D) fun v=>ih (putK o.dst e v.1) v.2
noncomputable def doFresh (ih:Fr→List Obj→Option St) (C D:CB) (o:SO) (e:Fr) (H:List Obj):Option St:=bindK (opK o.op e H noCB noCB) fun v=>ih (putK o.dst e v.1) v.2
noncomputable def doNone (ih:Fr→List Obj→Option St) (C D:CB) (o:SO) (e:Fr) (H:List Obj):Option St:=none
noncomputable def doK (k:DK):(Fr→List Obj→Option St)→CB→CB→SO→Fr→List Obj→Option St:=DK.rec doFree doFree doNone doWrite doNone doFresh k
noncomputable def okD (o:DO):Bool:=DK.rec true true false true false true o.k
noncomputable def okK (ops:List DO):Bool:=allK okD ops
noncomputable def quickK (C D:CB) (ops:List DO):Fr→List Obj→Option St :=
  List.rec (fun e H=>some ⟨e.env,H⟩) (fun o _ ih e H=>Option.rec none (fun t=>Bool.rec (ih (putK o.o.dst e (.tup [])) H) (doK o.k ih C D o.o e H) t) (wantK o.o e)) ops
section
variable (Γ:FuncId→Option SFunc)
noncomputable def goK (R:E2) (g:FuncId) (own:Bool) (args:List AV) (H:List Obj):RO:=bindK (R.call g args []) (backK H own)
noncomputable def passK (H:List Obj) (raw:List Nat) (args:List AV):Option (List AV):=List.rec (canonsK H args) (fun _ _ _=>passArgs H raw 0 args) raw
noncomputable def frzL (raw:List Nat) (args:List AV):List Nat:=List.rec (arsK args) (fun _ _ _=>passFrz raw 0 args) raw
noncomputable def ambK (R:E2) (g:FuncId) (own:Bool) (H H1:List Obj) (sub:List Nat):RO :=
  (R.call g [.p .nsl] []).bind fun r=>(R.call g [.emp] []).bind fun q=>if eqAV r.1 q.1 && (r.2.isEmpty && q.2.isEmpty) then comeBack H H1 sub own r.1 r.2 else none
noncomputable def inK (R:E2) (fn:SFunc) (g:FuncId) (args':List AV) (H H1:List Obj) (sub:List Nat) (os:List Obj):RO :=
  Bool.rec none (Bool.rec (fL1 (renL2 (idxOfK sub) args') fun aZ=>fH (mapK (fun o=>renO2 o (idxOfK sub)) os) fun os=>bindK (R.call g aZ os) fun r=>comeK H H1 sub fn.own r.1 r.2) (ambK R g fn.own H H1 sub) (andK (memK fn.raw 1000) (isAmb args')))
    (andK (andK (withinK sub (refsL2 args')) (allK (fun o=>withinK sub (obRefs o)) os)) (nodupK sub))
noncomputable def midK (R:E2) (fn:SFunc) (g:FuncId) (args':List AV) (H H1:List Obj):RO :=
  fNs (reachK H1 (Nat.add (Nat.mul (Nat.mul 4 (lenK H1)) (lenK H1)) 4) (refsL2 args') []) fun sub=>bindK (pickK H1 sub) fun os=>inK R fn g args' H H1 sub os
noncomputable def goGK (R:E2) (fn:SFunc) (g:FuncId) (args:List AV) (H:List Obj):RO :=
  bindK (passK H fn.raw args) fun args'=>midK R fn g args' H (frzK (frzL fn.raw args) H)
noncomputable def callAtK (R:E2) (g:FuncId) (args:List AV) (H:List Obj):RO :=
  bindK (Γ g) fun fn=>Bool.rec (goGK R fn g args H) (Bool.rec (goGK R fn g args H) (goK R g fn.own args H) (plainK args)) (List.isEmpty fn.raw)
noncomputable def drawK (R:E2):List DO→Fr→List Obj→Option Tr
  | [],e,H=>some ⟨[],[],⟨e.env,H⟩⟩
  | o::os,e,H=>match wantK o.o e with
    | none=>none
    | some false=>(drawK R os (putK o.o.dst e (.tup [])) H).map fun r=>⟨(e,none)::r.recs,if o.k.seq then H::r.stores else r.stores,r.s⟩
    | some true=>match o.k with
      | .write=>(opK o.o.op e H (callAtK Γ R) (yieldF R)).bind fun v=>(drawK R os (putK o.o.dst e v.1) v.2).map fun r=>⟨(e,some v.1)::r.recs,H::r.stores,r.s⟩
      | .lone=>(opK o.o.op e [] (callAtK Γ R) (yieldF R)).bind fun u=>(loneV u).bind fun v=>if v.2.isEmpty && noRefs e o.o.op then (drawK R os (putK o.o.dst e v.1) H).map fun r=>⟨(e,some v.1)::r.recs,r.stores,r.s⟩ else none
      | .fresh=>(opK o.o.op e H noCB noCB).bind fun v=>(drawK R os (putK o.o.dst e v.1) v.2).map fun r=>⟨(e,some v.1)::r.recs,H::r.stores,r.s⟩
      | _=>(opK o.o.op e H noCB noCB).bind fun v=>(drawK R os (putK o.o.dst e v.1) H).map fun r=>⟨(e,some v.1)::r.recs,r.stores,r.s⟩
noncomputable def seqK (k:St→Option (SExit×St)) (r:SExit×St):Option (SExit×St) :=
  SExit.rec (k r.2) (fun i=>some (.exit i,r.2)) (some (.ret,r.2)) r.1
noncomputable def blockK (id:Nat) (r:SExit×St):Option (SExit×St) :=
  SExit.rec (some (.normal,r.2)) (fun i=>Bool.rec (some (.exit i,r.2)) (some (.normal,r.2)) (Nat.beq i id)) (some (.ret,r.2)) r.1
noncomputable def slowD (R:E2) (ops:List DO) (s:St):Option (SExit×St):=bindK (drawK Γ R ops ⟨[],s.env⟩ s.H) fun r=>Bool.rec none (some (.normal,r.s)) (stablesB ops r.recs (r.stores++[r.s.H]))
noncomputable def codeK (R:E2) (c:SCode):St→Option (SExit×St) :=
  SCode.rec (fun s=>some (.normal,s))
    (fun ops s=>bindK (opsK (callAtK Γ R) (yieldF R) ops ⟨[],s.env⟩ s.H) fun s=>some (.normal,s))
    (fun ops s=>Bool.rec (slowD Γ R ops s) (bindK (quickK (callAtK Γ R) (yieldF R) ops ⟨[],s.env⟩ s.H) fun s=>some (.normal,s)) (okK ops))
    (fun _ _ ia ib s=>bindK (ia s) (seqK ib))
    (fun c _ _ ia ib s=>bindK (evK c ⟨[],s.env⟩) fun v=>avCond v ia ib s)
    (fun id _ ib s=>bindK (ib s) (blockK id))
    (fun b ib s=>bindK (ib s) (seqK (R.loop (.loop b))))
    (fun id s=>some (.exit id,s))
    (fun s=>some (.ret,s))
    (fun _=>none)
    (fun f ps a b _ _ s=>codeF Γ R (.range f ps a b) s)
    (fun ns _ ic s=>ic (stillS ns s)) c
noncomputable def finK (res:List SOp) (r:SExit×St):RO :=
  SExit.rec ((evRes ⟨[],r.2.env⟩ r.2.H res).map fun rs=>(tupOf rs,r.2.H)) (fun _=>none) ((evRes ⟨[],r.2.env⟩ r.2.H res).map fun rs=>(tupOf rs,r.2.H)) r.1
noncomputable def callFK (R:E2) (f:FuncId) (args:List AV) (H:List Obj):RO :=
  bindK (Γ f) fun fn=>Bool.rec none (bindK (codeK Γ R fn.body ⟨begin0 0 args,H⟩) (finK fn.results)) (Nat.beq (lenK args) fn.arity)
noncomputable def itK (X:FuncId→List AV→List Obj→Option (AV×List Obj)) (n:Nat):E2 :=
  Nat.rec ⟨fun _ _=>none,fun _ _ _=>none,fun _ _=>none⟩ (fun _ R=>⟨codeK Γ R,fun f a H=>Option.rec (callFK Γ R f a H) some (X f a H),codeK Γ R⟩) n
end
section
variable {X:FuncId→List AV→List Obj→Option (AV×List Obj)} {Γ:FuncId→Option SFunc} {R:E2}
theorem plain_all:∀ {aZ:List AV},plainK aZ = true→∀ H,canons H aZ = some aZ∧refsL aZ = []∧arsOf aZ = []
  | [],_,H=>⟨rfl,rfl,rfl⟩
  | .p x::aZ,h,H=>by
    obtain ⟨h1,h2,h3⟩:=plain_all (aZ:=aZ) h H
    exact ⟨by simp [canons,canon,h1],by simp [refsL,refs,h2],by simp [arsOf,arsA,h3]⟩
  | .lit _::_,h,_ | .ar ..::_,h,_ | .ptr ..::_,h,_ | .elp ..::_,h,_ | .imm ..::_,h,_ | .fn ..::_,h,_ | .agg _::_,h,_ | .tup _::_,h,_ | .map _::_,h,_ | .yld _::_,h,_ | .emp::_,h,_ | .csl ..::_,h,_=>by cases h
theorem canons_flat (H:List Obj):∀ (vs:List AV),(vs.all fun | .p (.v _)=>true | .p .nsl=>true | _=>false) = true→canons H vs = some vs
  | [],_=>rfl
  | v::vs,h=>by
    simp only [List.all_cons,Bool.and_eq_true] at h
    rw [canons,canons_flat H vs h.2]
    have h1:=h.1
    split at h1
    · simp [canon]
    · simp [canon]
    · cases h1
theorem flat_canon {r:AV} (h:flat r = true) (H:List Obj):canon H r = some r:=by
  unfold flat at h
  split at h
  · simp [canon]
  · simp [canon]
  · rw [canon,canons_flat H _ h]; rfl
  · cases h
theorem backK_eq (H:List Obj) (own:Bool) (r:AV×List Obj):backK H own r = comeBack H H [] own r.1 r.2:=by
  unfold backK
  rw [avFlat_eq]
  cases hf:flat r.1 with
  | false=>rfl
  | true =>
    show some (r.1,H) = _
    unfold comeBack
    rw [flat_canon hf]
    cases own <;> simp [hf]
theorem plain_call {fn:SFunc} {g:FuncId} {args:List AV} {H:List Obj} (hG:Γ g = some fn) (hp:plainK args = true) (hr:fn.raw = []):goK R g fn.own args H = callAtF Γ R g args H:=by
  obtain ⟨h1,h2,h3⟩:=plain_all hp H
  have go:goK R g fn.own args H = ((R.call g args []).bind fun r=>comeBack H H [] fn.own r.1 r.2):=by
    unfold goK
    rw [bindK_eq]
    congr 1
    funext r
    exact backK_eq ..
  have hreach:∀ H' n,reach H' (n + 1) [] [] = []:=fun _ _=>rfl
  unfold callAtF
  simp only [hG,hr,passArgs_nil,passFrz_nil,h1,h2,h3,freeze_nil,Nat.add_succ,Nat.add_zero,hreach,pickObjs,within,List.all_nil,nodupB,Bool.and_self,if_true,List.contains_nil,Bool.false_and,Bool.false_eq_true,if_false,List.map_nil,renL_bare _ _ h2]
  exact go
theorem passK_eq (H:List Obj) (raw:List Nat) (args:List AV):passK H raw args = passArgs H raw 0 args:=by
  cases raw with
  | nil=>show canonsK H args = _; rw [canonsK_eq,passArgs_nil]
  | cons=>rfl
theorem frzL_eq (raw:List Nat) (args:List AV):frzL raw args = passFrz raw 0 args:=by
  cases raw with
  | nil=>show arsK args = _; rw [arsK_eq,passFrz_nil]
  | cons=>rfl
theorem inK_eq (fn:SFunc) (g:FuncId) (args':List AV) (H H1:List Obj) (sub:List Nat) (os:List Obj):inK R fn g args' H H1 sub os =
    if within sub (refsL args') && os.all (fun o=>within sub (objRefs o)) && nodupB sub then
      if fn.raw.contains 1000 && isAmb args' then (R.call g [.p .nsl] []).bind fun r=>(R.call g [.emp] []).bind fun q =>
        if eqAV r.1 q.1 && (r.2.isEmpty && q.2.isEmpty) then comeBack H H1 sub fn.own r.1 r.2 else none
      else (R.call g (renL sub.idxOf args') (os.map (renO sub.idxOf))).bind fun r=>comeBack H H1 sub fn.own r.1 r.2
    else none:=by
  have hw:(fun o=>withinK sub (obRefs o)) = fun o=>within sub (objRefs o):=by funext o; rw [withinK_eq,obRefs_eq]
  have hi:idxOfK sub = sub.idxOf:=by funext n; exact idxOfK_eq sub n
  unfold inK
  rw [hw,hi,andK_eq,andK_eq,andK_eq,withinK_eq,refsL2_eq,allK_eq,nodupK_eq,memK_eq]
  simp only [fL1_eq,fH_eq,renL2_eq,renO2_map,bindK_eq,comeK_eq]
  cases within sub (refsL args') && os.all (fun o=>within sub (objRefs o)) && nodupB sub with
  | false=>rfl
  | true =>
    simp only [if_true]
    cases fn.raw.contains 1000 && isAmb args' <;> rfl
theorem goGK_eq (fn:SFunc) (g:FuncId) (args:List AV) (H:List Obj):goGK R fn g args H = match passArgs H fn.raw 0 args with
      | none=>none
      | some args' =>
        let H1:=freeze H (passFrz fn.raw 0 args)
        let sub:=reach H1 (4 * H1.length * H1.length + 4) (refsL args') []
        match pickObjs H1 sub with
        | none=>none
        | some os =>
          if within sub (refsL args') && os.all (fun o=>within sub (objRefs o)) && nodupB sub then
            if fn.raw.contains 1000 && isAmb args' then (R.call g [.p .nsl] []).bind fun r=>(R.call g [.emp] []).bind fun q =>
              if eqAV r.1 q.1 && (r.2.isEmpty && q.2.isEmpty) then comeBack H H1 sub fn.own r.1 r.2 else none
            else (R.call g (renL sub.idxOf args') (os.map (renO sub.idxOf))).bind fun r=>comeBack H H1 sub fn.own r.1 r.2
          else none:=by
  unfold goGK
  rw [bindK_eq,passK_eq,frzL_eq,frzK_eq]
  cases passArgs H fn.raw 0 args with
  | none=>rfl
  | some args' =>
    simp only [Option.bind_some]
    unfold midK
    simp only [fNs_eq,reachK_eq,refsL2_eq,lenK_eq,pickK_eq,bindK_eq,inK_eq]
    show Option.bind (pickObjs _ (reach _ (4 * _ * _ + 4) _ _)) _ = _
    generalize reach (freeze H (passFrz fn.raw 0 args)) (4 * (freeze H (passFrz fn.raw 0 args)).length * (freeze H (passFrz fn.raw 0 args)).length + 4) (refsL args') [] = sub
    cases pickObjs (freeze H (passFrz fn.raw 0 args)) sub <;> rfl
theorem callAtK_eq:callAtK Γ R = callAtF Γ R:=by
  funext g args H
  unfold callAtK
  cases hG:Γ g with
  | none=>unfold callAtF; rw [hG]; rfl
  | some fn =>
    have gen:goGK R fn g args H = callAtF Γ R g args H:=by
      unfold callAtF
      simp only [hG]
      exact goGK_eq ..
    show Bool.rec (motive:=fun _=>RO) _ (Bool.rec (motive:=fun _=>RO) _ _ (plainK args)) (List.isEmpty fn.raw) = _
    rw [gen]
    cases hr:List.isEmpty fn.raw with
    | false=>rfl
    | true =>
      cases hp:plainK args with
      | false=>rfl
      | true=>exact plain_call hG hp (List.isEmpty_iff.1 hr)
theorem opsK_eq:∀ (ops:List SO) (e:Fr) (H:List Obj),opsK (callAtK Γ R) (yieldF R) ops e H = evOpsF Γ R ops e H
  | [],e,H=>rfl
  | o::os,e,H=>by
    have h1:opsK (callAtK Γ R) (yieldF R) (o::os) e H = Option.rec none (fun t=>Bool.rec (opsK (callAtK Γ R) (yieldF R) os (putK o.dst e (.tup [])) H)
      (bindK (opK o.op e H (callAtK Γ R) (yieldF R)) fun r=>opsK (callAtK Γ R) (yieldF R) os (putK o.dst e r.1) r.2) t) (wantK o e):=rfl
    rw [h1,evOpsF,wantK_eq]
    cases wanted o e with
    | none=>rfl
    | some t =>
      cases t with
      | false=>simp only [opsK_eq os,putK_eq]; rfl
      | true =>
        simp only [opsK_eq os,putK_eq,bindK_eq]
        simp only [callAtK_eq,opK_eq]
theorem drawK_eq:∀ (ops:List DO) (e:Fr) (H:List Obj),drawK Γ R ops e H = evDrawF Γ R ops e H
  | [],e,H=>rfl
  | o::os,e,H=>by
    rw [drawK,evDrawF]
    simp only [wantK_eq,drawK_eq os,putK_eq,callAtK_eq,opK_eq,opK_none]
    rfl
theorem okK_cons {o:DO} {os:List DO} (h:okK (o::os) = true):okD o = true∧okK os = true:=by
  rw [okK,allK_eq,List.all_cons,Bool.and_eq_true] at h
  exact ⟨h.1,by rw [okK,allK_eq]; exact h.2⟩
theorem quick_stable:∀ (ops:List DO) (e:Fr) (H:List Obj) (r:Tr),okK ops = true→evDrawF Γ R ops e H = some r→∀ Hs,stablesB ops r.recs Hs = true
  | [],e,H,r,_,h,Hs=>by cases h; simp [stablesB]
  | o::os,e,H,r,ho,h,Hs=>by
    obtain ⟨o1,o2⟩:=okK_cons ho
    have done:∀ (r:Tr) (x:AV),(∀ Hs,stablesB os r.recs Hs = true)→stablesB (o::os) ((e,some x)::r.recs) Hs = true:=fun r x hst=>by
      rw [stablesB,hst,Bool.and_true]
      split
      · rename_i h2; unfold okD at o1; rw [h2] at o1; cases o1
      · rfl
    rw [evDrawF] at h
    split at h
    · cases h
    · obtain ⟨r',hr,rfl⟩:=Option.map_eq_some_iff.1 h
      simp only [stablesB]
      exact quick_stable os _ _ _ o2 hr Hs
    · split at h
      · obtain ⟨v,hv,h2⟩:=Option.bind_eq_some_iff.1 h
        obtain ⟨r',hr,rfl⟩:=Option.map_eq_some_iff.1 h2
        exact done r' v.1 (quick_stable os _ _ _ o2 hr)
      · obtain ⟨u,hu,h2⟩:=Option.bind_eq_some_iff.1 h
        obtain ⟨v,hv,h2⟩:=Option.bind_eq_some_iff.1 h2
        split at h2
        · obtain ⟨r',hr,rfl⟩:=Option.map_eq_some_iff.1 h2
          exact done r' v.1 (quick_stable os _ _ _ o2 hr)
        · cases h2
      · obtain ⟨v,hv,h2⟩:=Option.bind_eq_some_iff.1 h
        obtain ⟨r',hr,rfl⟩:=Option.map_eq_some_iff.1 h2
        exact done r' v.1 (quick_stable os _ _ _ o2 hr)
      · obtain ⟨v,hv,h2⟩:=Option.bind_eq_some_iff.1 h
        obtain ⟨r',hr,rfl⟩:=Option.map_eq_some_iff.1 h2
        exact done r' v.1 (quick_stable os _ _ _ o2 hr)
theorem quick_eq:∀ (ops:List DO) (e:Fr) (H:List Obj),okK ops = true→quickK (callAtK Γ R) (yieldF R) ops e H = (evDrawF Γ R ops e H).map (·.s)
  | [],e,H,_=>rfl
  | o::os,e,H,ho=>by
    obtain ⟨o1,o2⟩:=okK_cons ho
    have h1:quickK (callAtK Γ R) (yieldF R) (o::os) e H = Option.rec none (fun t=>Bool.rec (quickK (callAtK Γ R) (yieldF R) os (putK o.o.dst e (.tup [])) H)
      (doK o.k (quickK (callAtK Γ R) (yieldF R) os) (callAtK Γ R) (yieldF R) o.o e H) t) (wantK o.o e):=rfl
    rw [h1,wantK_eq,evDrawF]
    cases hw:wanted o.o e with
    | none=>rfl
    | some t =>
      cases t with
      | false =>
        simp only
        rw [putK_eq,quick_eq os _ _ o2,Option.map_map]
        rfl
      | true =>
        simp only
        have free:bindK (opK o.o.op e H noCB noCB) (fun v=>quickK (callAtK Γ R) (yieldF R) os (putK o.o.dst e v.1) H) =
            ((evOpK e H o.o.op).bind fun v=>(evDrawF Γ R os (dstPut o.o.dst e v.1) H).map fun r=>(⟨(e,some v.1)::r.recs,r.stores,r.s⟩:Tr)).map (·.s):=by
          rw [bindK_eq,opK_none,Option.map_bind]
          congr 1
          funext v
          simp only [Function.comp,putK_eq,quick_eq os _ _ o2,Option.map_map]
          rfl
        cases hk:o.k with
        | read=>rw [okD,hk] at o1; cases o1
        | lone=>rw [okD,hk] at o1; cases o1
        | free=>exact free
        | here=>exact free
        | write =>
          show bindK (opK o.o.op e H (callAtK Γ R) (yieldF R)) (fun v=>quickK (callAtK Γ R) (yieldF R) os (putK o.o.dst e v.1) v.2) = _
          rw [bindK_eq,Option.map_bind]
          simp only [putK_eq,quick_eq os _ _ o2]
          rw [callAtK_eq,opK_eq]
          congr 1
          funext v
          simp only [Function.comp,Option.map_map]
          rfl
        | fresh =>
          show bindK (opK o.o.op e H noCB noCB) (fun v=>quickK (callAtK Γ R) (yieldF R) os (putK o.o.dst e v.1) v.2) = _
          rw [bindK_eq,opK_none,Option.map_bind]
          congr 1
          funext v
          simp only [Function.comp,putK_eq,quick_eq os _ _ o2,Option.map_map]
          rfl
theorem codeK_eq:∀ (c:SCode) (s:St),codeK Γ R c s = codeF Γ R c s
  | .skip,s=>rfl
  | .region ops,s=>by
    have h1:codeK Γ R (.region ops) s = bindK (opsK (callAtK Γ R) (yieldF R) ops ⟨[],s.env⟩ s.H) fun s=>some (.normal,s):=rfl
    rw [h1,codeF,bindK_eq,opsK_eq]
    cases evOpsF Γ R ops ⟨[],s.env⟩ s.H <;> rfl
  | .draw ops,s=>by
    have h1:codeK Γ R (.draw ops) s = Bool.rec (slowD Γ R ops s) (bindK (quickK (callAtK Γ R) (yieldF R) ops ⟨[],s.env⟩ s.H) fun s=>some (.normal,s)) (okK ops):=rfl
    rw [h1]
    cases ho:okK ops with
    | false =>
      show slowD Γ R ops s = _
      rw [slowD,codeF,bindK_eq,drawK_eq]
      congr 1
      funext r
      cases stablesB ops r.recs (r.stores++[r.s.H]) <;> rfl
    | true =>
      show bindK _ _ = _
      rw [codeF,bindK_eq,quick_eq ops _ _ ho]
      cases hr:evDrawF Γ R ops ⟨[],s.env⟩ s.H with
      | none=>rfl
      | some r=>simp only [Option.map_some,Option.bind_some,quick_stable ops _ _ r ho hr,if_true]
  | .seq a b,s=>by
    have h1:codeK Γ R (.seq a b) s = bindK (codeK Γ R a s) (seqK (codeK Γ R b)):=rfl
    rw [h1,codeF,bindK_eq,codeK_eq a s]
    congr 1
    funext r
    unfold seqK
    cases hr:r.1 with
    | normal=>exact codeK_eq b r.2
    | _=>rfl
  | .cond c a b,s=>by
    have h1:codeK Γ R (.cond c a b) s = bindK (evK c ⟨[],s.env⟩) (fun v=>avCond v (codeK Γ R a) (codeK Γ R b) s):=rfl
    rw [h1,codeF,bindK_eq,evK_eq]
    cases ev ⟨[],s.env⟩ c with
    | none=>rfl
    | some v =>
      simp only [Option.bind_some]
      cases v with
      | p x =>
        cases x with
        | v x =>
          cases x with
          | bool t =>
            cases t
            · exact codeK_eq b s
            · exact codeK_eq a s
          | _=>rfl
        | _=>rfl
      | _=>rfl
  | .block id b,s=>by
    have h1:codeK Γ R (.block id b) s = bindK (codeK Γ R b s) (blockK id):=rfl
    rw [h1,codeF,bindK_eq,codeK_eq b s]
    congr 1
    funext r
    unfold blockK
    cases hr:r.1 with
    | exit i =>
      simp only
      cases hb:Nat.beq i id with
      | true=>rw [if_pos (Nat.eq_of_beq_eq_true hb)]
      | false=>rw [if_neg (Nat.ne_of_beq_eq_false hb)]
    | _=>rfl
  | .loop b,s=>by
    have h1:codeK Γ R (.loop b) s = bindK (codeK Γ R b s) (seqK (R.loop (.loop b))):=rfl
    rw [h1,codeF,bindK_eq,codeK_eq b s]
    congr 1
    funext r
    unfold seqK
    cases hr:r.1 <;> rfl
  | .exit id,s=>rfl
  | .ret,s=>rfl
  | .refuse,s=>rfl
  | .range f ps a b,s=>rfl
  | .still ns c,s=>by
    have h1:codeK Γ R (.still ns c) s = codeK Γ R c (stillS ns s):=rfl
    rw [h1,codeF,codeK_eq c]
theorem callFK_eq (f:FuncId) (args:List AV) (H:List Obj):callFK Γ R f args H = callF Γ R f args H:=by
  unfold callFK callF
  rw [bindK_eq]
  cases Γ f with
  | none=>rfl
  | some fn =>
    simp only [Option.bind_some]
    have key:(bindK (codeK Γ R fn.body ⟨begin0 0 args,H⟩) (finK fn.results)) = (codeF Γ R fn.body ⟨begin0 0 args,H⟩).bind fun r=>match r.1 with
      | .exit _=>none
      | _=>(evRes ⟨[],r.2.env⟩ r.2.H fn.results).map fun rs=>(tupOf rs,r.2.H):=by
      rw [bindK_eq,codeK_eq]
      congr 1
      funext r
      unfold finK
      cases hr:r.1 <;> rfl
    cases hb:Nat.beq (lenK args) fn.arity with
    | true=>rw [if_pos (by rw [← lenK_eq]; exact Nat.eq_of_beq_eq_true hb)]; exact key
    | false=>rw [if_neg (by rw [← lenK_eq]; exact Nat.ne_of_beq_eq_false hb)]
theorem itK_eq:∀ n,itK Γ X n = itE Γ X n
  | 0=>rfl
  | n + 1=>by
    have h1:itK Γ X (n + 1) = ⟨codeK Γ (itK Γ X n),fun f a H=>Option.rec (callFK Γ (itK Γ X n) f a H) some (X f a H),codeK Γ (itK Γ X n)⟩:=rfl
    rw [h1,itK_eq n,itE]
    congr 1
    · funext c s; exact codeK_eq c s
    · funext f a H
      cases X f a H with
      | none=>exact callFK_eq f a H
      | some r=>rfl
    · funext c s; exact codeK_eq c s
end
noncomputable def pfK (X:FuncId→List AV→List Obj→Option (AV×List Obj)) (Γ:FuncId→Option SFunc) (n:Nat) (g:FuncId) (args:List AV) (r':AV):Bool :=
  match (itK Γ X n).call g args [] with
  | some r=>match canon r.2 r.1 with
    | some v=>eqAV v r' && (refs r').isEmpty
    | none=>false
  | none=>false
theorem pf_of_evalK {X:FuncId→List AV→List Obj→Option (AV×List Obj)} {Γ:FuncId→Option SFunc} {n:Nat} {g:FuncId} {args:List AV} {r':AV} (h:pfK X Γ n g args r' = true):PF X Γ g args r':=by
  unfold pfK at h
  rw [itK_eq] at h
  exact pf_of_eval h
end Go.Proofs.YtepbfecmageleaaGreatDoor
namespace Go.Proofs.YtepbfecmageleaaGreatDoor
open Go
def exC (x:List Nat):List AV:=x.map fun (n:Nat)=>.p (.v (I .u8 n))
def exRows (x:List Nat):List (List PV):=x.map fun (n:Nat)=>[.v (I .i64 n)]
def ordE:Nat→List Nat→List Nat→Int
  | 0,_,_=>0
  | n + 1,a,b=>if a.headD 0 = b.headD 0 then ordE n a.tail b.tail else if a.headD 0 < b.headD 0 then -1 else 1
structure E where
  x:List Nat
  b:Bool
  m:PV
def E.kv (e:E):Value:=.agg (e.x.map fun (n:Nat)=>Value.int .u8 n).toArray
def E.av (e:E):AV:=.agg [.p (.v (.bool e.b)),.p e.m]
structure E.Ok (e:E):Prop where
  len:e.x.length = 32
  u8:∀ n ∈ e.x,n < 256
  mag:e.m = .nsl∨∃ rows,e.m = .sl rows∧(∀ r ∈ rows,r.length = 1)∧rows.length ≤ 1000000
def E.z (e:E):Bool:=match e.m with
  | .sl (_::_)=>false
  | _=>true
def E.nz (e:E):Bool:=!e.z
def E.row (e:E):List PV:=[.v (.bool e.b),e.m,.sl (exRows (trim e.x))]
def insE (e:E):List E→List E
  | []=>[e]
  | f::l=>if ordE 32 e.x f.x ≤ 0 then e::f::l else f::insE e l
def isort:List E→List E
  | []=>[]
  | e::l=>insE e (isort l)
def asU8:Value→Option Nat
  | .int .u8 (.ofNat n)=>if Nat.ble n 255 then some n else none
  | _=>none
def asExp:List Value→Option (List Nat)
  | []=>some []
  | v::l=>(asU8 v).bind fun n=>(asExp l).map fun x=>n::x
def oneAll:List (List PV)→Bool
  | []=>true
  | [_]::l=>oneAll l
  | _=>false
def magB:PV→Bool
  | .nsl=>true
  | .sl rows=>oneAll rows && Nat.ble rows.length 1000000
  | _=>false
def asE:Value×AV→Option E
  | (.agg k,.agg [.p (.v (.bool b)),.p m])=>(asExp k.toList).bind fun x=>if Nat.beq x.length 32 && magB m then some ⟨x,b,m⟩ else none
  | _=>none
def asEs:List (Value×AV)→Option (List E)
  | []=>some []
  | p::l=>(asE p).bind fun e=>(asEs l).map fun es=>e::es
def ltE (a b:E):Bool:=match ordE 32 a.x b.x with
  | .negSucc _=>true
  | .ofNat _=>false
def strictB:List E→Bool
  | a::b::l=>ltE a b && strictB (b::l)
  | _=>true
def collectR (es:List (Value×AV)):Option (AV×List Obj) :=
  (asEs es).bind fun l=>if strictB (isort l) && Nat.ble (l.filter E.nz).length 2048 then
    some (.tup [.p (.sl (((isort l).filter E.nz).map E.row)),int 0],[.map ((l.filter E.nz).map fun e=>(e.kv,e.av))]) else none
def collectX:FuncId→List AV→List Obj→Option (AV×List Obj):=fun f args H =>
  if Nat.beq f 69 then match args,H with
    | [.map 0],[.map es]=>collectR es
    | _,_=>none
  else none
end Go.Proofs.YtepbfecmageleaaGreatDoor
namespace Go.Proofs.YtepbfecmageleaaGreatDoor
open Go
def SoundAll (P:Program) (kn:TypeId→Bool):Prop:=∀ (S:Sub) (X:XR),@RuleOk S P kn X→∀ f args H r,call X Gam f args H = some r→@CallSim S P kn f args H r
section
variable {P:Program} {kn:TypeId→Bool}
structure Fact where
  f:Nat
  args:List AV
  r:AV
noncomputable def factFind (T:List Fact) (f:Nat) (args:List AV):Option AV:=List.rec none (fun e _ ih=>Bool.rec ih (Bool.rec ih (some e.r) (eqAVs e.args args)) (Nat.beq e.f f)) T
noncomputable def factX (T:List Fact):XR:=fun f args H=>List.rec (Option.rec none (fun r=>some (r,[])) (factFind T f args)) (fun _ _ _=>none) H
theorem factFind_some {T:List Fact} {f:Nat} {args:List AV} {r:AV} (h:factFind T f args = some r):∃ e ∈ T,e.f = f∧e.args = args∧r = e.r:=by
  induction T with
  | nil=>cases h
  | cons e T ih =>
    have h1:factFind (e::T) f args = Bool.rec (factFind T f args) (Bool.rec (factFind T f args) (some e.r) (eqAVs e.args args)) (Nat.beq e.f f):=rfl
    rw [h1] at h
    have go:factFind T f args = some r→∃ e' ∈ e::T,e'.f = f∧e'.args = args∧r = e'.r:=fun h=>by
      obtain ⟨e',q1,q2⟩:=ih h
      exact ⟨e',List.mem_cons_of_mem _ q1,q2⟩
    cases hf:Nat.beq e.f f with
    | false=>rw [hf] at h; exact go h
    | true =>
      rw [hf] at h
      cases ha:eqAVs e.args args with
      | false=>rw [ha] at h; exact go h
      | true =>
        rw [ha] at h
        cases h
        exact ⟨e,List.mem_cons_self ..,Nat.eq_of_beq_eq_true hf,eqAVs_sound _ _ ha,rfl⟩
theorem fact_ok {S:Sub} {T:List Fact} (h:∀ e ∈ T,@CallSim S P kn e.f e.args [] (e.r,[])):@RuleOk S P kn (factX T):=fun g args H r hx=>by
  unfold factX at hx
  cases H with
  | cons o H=>cases hx
  | nil =>
    cases hf:factFind T g args with
    | none=>rw [hf] at hx; cases hx
    | some x =>
      rw [hf] at hx
      cases hx
      obtain ⟨e,he,rfl,rfl,rfl⟩:=factFind_some hf
      exact h e he
theorem noX_ok {S:Sub}:@RuleOk S P kn X0:=fun _ _ _ _ h=>by cases h
end
def eqVAs:List (Value×AV)→List (Value×AV)→Bool
  | [],[]=>true
  | a::l,b::m=>eqV a.1 b.1 && (eqAV a.2 b.2 && eqVAs l m)
  | _,_=>false
theorem eqVAs_sound:∀ {l m:List (Value×AV)},eqVAs l m = true→l = m
  | [],[],_=>rfl
  | a::l,b::m,h=>by
    simp only [eqVAs,Bool.and_eq_true] at h
    rw [eqVAs_sound h.2.2,Prod.ext (eqV_sound h.1) (eqAV_sound _ _ h.2.1)]
  | [],_::_,h | _::_,[],h=>by cases h
def eqOb:Obj→Obj→Bool
  | .cells a,.cells b=>eqAVs a b
  | .arr es fz ver rows,.arr es' fz' ver' rows'=>Nat.beq es es' && (fz == fz' && (Nat.beq ver ver' && eqPVss rows rows'))
  | .map a,.map b=>eqVAs a b
  | _,_=>false
theorem eqOb_sound:∀ {a b:Obj},eqOb a b = true→a = b
  | .cells a,.cells b,h=>by rw [eqOb] at h; rw [eqAVs_sound _ _ h]
  | .arr ..,.arr ..,h=>by
    simp only [eqOb,Bool.and_eq_true,beq_iff_eq] at h
    rw [Nat.eq_of_beq_eq_true h.1,h.2.1,Nat.eq_of_beq_eq_true h.2.2.1,eqPVss_sound h.2.2.2]
  | .map a,.map b,h=>by rw [eqOb] at h; rw [eqVAs_sound h]
  | .cells _,.arr ..,h | .cells _,.map _,h | .cells _,.loop ..,h | .arr ..,.cells _,h | .arr ..,.map _,h | .arr ..,.loop ..,h | .map _,.cells _,h | .map _,.arr ..,h | .map _,.loop ..,h | .loop ..,_,h=>by cases h
def eqObs:List Obj→List Obj→Bool
  | [],[]=>true
  | a::l,b::m=>eqOb a b && eqObs l m
  | _,_=>false
theorem eqObs_sound:∀ {l m:List Obj},eqObs l m = true→l = m
  | [],[],_=>rfl
  | a::l,b::m,h=>by
    simp only [eqObs,Bool.and_eq_true] at h
    rw [eqOb_sound h.1,eqObs_sound h.2]
  | [],_::_,h | _::_,[],h=>by cases h
structure SFact where
  f:Nat
  args:List AV
  H:List Obj
  r:AV
  H':List Obj
noncomputable def stFind (T:List SFact) (f:Nat) (args:List AV) (H:List Obj):Option (AV×List Obj) :=
  List.rec none (fun e _ ih=>Bool.rec ih (Bool.rec ih (Bool.rec ih (some (e.r,e.H')) (eqObs e.H H)) (eqAVs e.args args)) (Nat.beq e.f f)) T
noncomputable def stX (T:List SFact):XR:=fun f args H=>stFind T f args H
theorem stFind_some {T:List SFact} {f:Nat} {args:List AV} {H:List Obj} {r:AV×List Obj} (h:stFind T f args H = some r):∃ e ∈ T,e.f = f∧e.args = args∧e.H = H∧r = (e.r,e.H'):=by
  induction T with
  | nil=>cases h
  | cons e T ih =>
    have h1:stFind (e::T) f args H = Bool.rec (stFind T f args H) (Bool.rec (stFind T f args H) (Bool.rec (stFind T f args H) (some (e.r,e.H')) (eqObs e.H H)) (eqAVs e.args args)) (Nat.beq e.f f):=rfl
    rw [h1] at h
    have go:stFind T f args H = some r→∃ e' ∈ e::T,e'.f = f∧e'.args = args∧e'.H = H∧r = (e'.r,e'.H'):=fun h=>by
      obtain ⟨e',q1,q2⟩:=ih h
      exact ⟨e',List.mem_cons_of_mem _ q1,q2⟩
    cases hf:Nat.beq e.f f with
    | false=>rw [hf] at h; exact go h
    | true =>
      rw [hf] at h
      cases ha:eqAVs e.args args with
      | false=>rw [ha] at h; exact go h
      | true =>
        rw [ha] at h
        cases hH:eqObs e.H H with
        | false=>rw [hH] at h; exact go h
        | true =>
          rw [hH] at h
          cases h
          exact ⟨e,List.mem_cons_self ..,Nat.eq_of_beq_eq_true hf,eqAVs_sound _ _ ha,eqObs_sound hH,rfl⟩
noncomputable def SFact.run (X:XR) (n:Nat) (e:SFact):Bool:=match (itK Gam X n).call e.f e.args e.H with
  | some r=>eqAV r.1 e.r && eqObs r.2 e.H'
  | none=>false
noncomputable def Fact.run (X:XR) (n:Nat) (e:Fact):Bool:=pfK X Gam n e.f e.args e.r
section
variable {P:Program} {kn:TypeId→Bool}
theorem SFact.sim (hA:SoundAll P kn) {S:Sub} {X:XR} (hX:@RuleOk S P kn X) {n:Nat} {e:SFact} (h:e.run X n = true):@CallSim S P kn e.f e.args e.H (e.r,e.H'):=by
  unfold SFact.run at h
  split at h
  · rename_i r hr
    simp only [Bool.and_eq_true] at h
    rw [itK_eq] at hr
    have hc:=(itE_good n).call hr
    have:=hA S X hX _ _ _ _ hc
    rwa [show r = (e.r,e.H') from Prod.ext (eqAV_sound _ _ h.1) (eqObs_sound h.2)] at this
  · cases h
theorem st_ok (hA:SoundAll P kn) {S:Sub} {X:XR} (hX:@RuleOk S P kn X) {n:Nat} {T:List SFact} (h:∀ e ∈ T,e.run X n = true):@RuleOk S P kn (stX T):=fun g args H r hx=>by
  obtain ⟨e,he,rfl,rfl,rfl,rfl⟩:=stFind_some hx
  exact SFact.sim hA hX (h e he)
theorem Fact.sim (hA:SoundAll P kn) {S:Sub} {X:XR} (hX:@RuleOk S P kn X) {n:Nat} {e:Fact} (h:e.run X n = true):@CallSim S P kn e.f e.args [] (e.r,[]) :=
  @callSim_plain S P kn X Gam (fun f a H r hc=>hA S X hX f a H r hc) e.f e.args e.r (pf_of_evalK h)
theorem facts_ok (hA:SoundAll P kn) {S:Sub} {X:XR} (hX:@RuleOk S P kn X) {n:Nat} {T:List Fact} (h:∀ e ∈ T,e.run X n = true):@RuleOk S P kn (factX T):=fact_ok fun e he=>Fact.sim hA hX (h e he)
theorem all_nil {α:Type} {p:α→Prop}:∀ e ∈ ([]:List α),p e:=fun _ h=>by cases h
theorem all_cons {α:Type} {p:α→Prop} {a:α} {l:List α} (h:p a) (hl:∀ e ∈ l,p e):∀ e ∈ a::l,p e:=fun e he=>(List.mem_cons.1 he).elim (fun q=>q ▸ h) (hl e)
end
noncomputable def onX (f0:Nat) (X:XR):XR:=fun f a H=>Bool.rec none (X f a H) (Nat.beq f f0)
section
variable {P:Program} {kn:TypeId→Bool}
theorem on_ok {S:Sub} {f0:Nat} {X:XR} (h:@RuleOk S P kn X):@RuleOk S P kn (onX f0 X):=fun g args H r hx=>by
  unfold onX at hx
  cases hg:Nat.beq g f0 with
  | false=>rw [hg] at hx; cases hx
  | true=>rw [hg] at hx; exact h g args H r hx
end
mutual
def noH:PV→Bool
  | .v _=>true
  | .nsl=>true
  | .sl rows=>noHss rows
  | .h _ _=>false
def noHs:List PV→Bool
  | []=>true
  | x::xs=>noH x && noHs xs
def noHss:List (List PV)→Bool
  | []=>true
  | r::rs=>noHs r && noHss rs
end
mutual
def noHA:AV→Bool
  | .p x=>noH x
  | .lit rows=>noHss rows
  | .agg cs=>noHAs cs
  | .tup cs=>noHAs cs
  | _=>false
def noHAs:List AV→Bool
  | []=>true
  | a::aZ=>noHA a && noHAs aZ
end
theorem noHs_mem:∀ {l:List PV},noHs l = true→∀ x ∈ l,noH x = true
  | [],_,_,h=>by cases h
  | y::ys,h,x,hx=>by
    simp only [noHs,Bool.and_eq_true] at h
    rcases List.mem_cons.1 hx with e | e
    · rw [e]; exact h.1
    · exact noHs_mem h.2 x e
theorem noHss_mem:∀ {l:List (List PV)},noHss l = true→∀ r ∈ l,noHs r = true
  | [],_,_,h=>by cases h
  | y::ys,h,x,hx=>by
    simp only [noHss,Bool.and_eq_true] at h
    rcases List.mem_cons.1 hx with e | e
    · rw [e]; exact h.1
    · exact noHss_mem h.2 x e
theorem noHAs_mem:∀ {l:List AV},noHAs l = true→∀ x ∈ l,noHA x = true
  | [],_,_,h=>by cases h
  | y::ys,h,x,hx=>by
    simp only [noHAs,Bool.and_eq_true] at h
    rcases List.mem_cons.1 hx with e | e
    · rw [e]; exact h.1
    · exact noHAs_mem h.2 x e
theorem repP_any {S S':Sub} {w:World} {D:Nat→Nat→Prop} {c:Value} {x:PV} (h:@RepP S w D c x):noH x = true→@RepP S' w D c x:=by
  induction h with
  | v h=>intro _; exact .v h
  | nsl=>intro _; exact .nsl
  | nil=>intro _; exact .nil
  | h h _=>intro hn; cases hn
  | sl cs hn hc hes hD hcell _ ih =>
    intro hh
    rw [noH] at hh
    exact .sl cs hn hc hes hD hcell fun i j row x h1 h2=>ih i j row x h1 h2 (noHs_mem (noHss_mem hh row (List.mem_of_getElem? h1)) x (List.mem_of_getElem? h2))
theorem rep_any {S S':Sub} {w:World} {g:Gh} {H:List Obj} {c:Value} {a:AV} (h:@Rep S w g H c a):noHA a = true→@Rep S' w g [] c a:=by
  induction h with
  | p h=>intro hn; rw [noHA] at hn; exact .p (repP_any h hn)
  | lit h=>intro hn; rw [noHA] at hn; exact .lit (repP_any h (by rw [noH]; exact hn))
  | agg ha h1 _ ih=>intro hn; rw [noHA] at hn; exact .agg ha h1 fun i c x q1 q2=>ih i c x q1 q2 (noHAs_mem hn x (List.mem_of_getElem? q2))
  | tup ha _ ih=>intro hn; rw [noHA] at hn; exact .tup ha fun i c x q1 q2=>ih i c x q1 q2 (noHAs_mem hn x (List.mem_of_getElem? q2))
  | _=>intro hn; simp [noHA] at hn
section
variable {P:Program} {kn:TypeId→Bool}
theorem stRel_any {S S':Sub} {w:World} {g:Gh} (h:@StRel S w g []):@StRel S' w g [] :=
  ⟨fun l o hl=>by simp at hl,fun l k hl=>by simp at hl,fun l o hl=>by simp at hl,@StRel.dom S _ _ _ h⟩
theorem evo_any {S S':Sub} {w w':World} {g g':Gh} (h:@Evo S w g [] w' g' []):@Evo S' w g [] w' g' [] :=
  ⟨@Evo.D S _ _ _ _ _ _ h,@Evo.cells S _ _ _ _ _ _ h,fun c a hr=>@Rep.step S' _ _ _ _ _ _ (@Evo.D S _ _ _ _ _ _ h) (@Evo.cells S _ _ _ _ _ _ h) (fun l o hl=>by simp at hl) _ _ hr,@Evo.keep S _ _ _ _ _ _ h,@Evo.own S _ _ _ _ _ _ h,@Evo.newD S _ _ _ _ _ _ h,@Evo.cd S _ _ _ _ _ _ h⟩
theorem callSim_any {S S':Sub} {f:FuncId} {args:List AV} {r:AV} (ha:noHAs args = true) (hr:noHA r = true) (h:@CallSim S P kn f args [] (r,[])):@CallSim S' P kn f args [] (r,[]):=by
  intro w gh cs hcd hs hargs
  refine (h w gh cs hcd (stRel_any hs) ⟨hargs.1,fun i c x q1 q2=>rep_any (hargs.2 i c x q1 q2) (noHAs_mem ha x (List.mem_of_getElem? q2))⟩).mono fun e w' he=>?_
  obtain ⟨v,g',rfl,h1,h4,h5⟩:=he
  exact ⟨v,g',rfl,evo_any h1,stRel_any h4,rep_any h5 hr⟩
theorem or_ok {S:Sub} {A B:XR} (ha:@RuleOk S P kn A) (hb:@RuleOk S P kn B):@RuleOk S P kn (orX A B):=@RuleOk.or S P kn A B ha hb
theorem callSim_put {S:Sub} {f:FuncId} {args:List AV} {r:AV} (h:@CallSim S P kn f args [] (r,[])):@CallSim S P kn f (args.map (@subA S)) [] (r,[]):=by
  refine @callSim_args S P kn f (args.map (@subA S)) args r (fun w gh cs ha=>⟨by rw [ha.1,List.length_map],fun i c x q1 q2=>?_⟩) h
  exact @Rep.out S _ _ _ x _ (ha.2 i c (@subA S x) q1 (by rw [List.getElem?_map,q2]; rfl))
end
end Go.Proofs.YtepbfecmageleaaGreatDoor
namespace Go.Proofs.YtepbfecmageleaaGreatDoor
set_option maxRecDepth 100000
open Go
abbrev j (n:Int):PV:=.v (.int .i64 n)
abbrev u (n:Int):PV:=.v (.int .u32 n)
abbrev bt:PV:=.v (.bool true)
abbrev bf:PV:=.v (.bool false)
def mgW (n:Int):PV:=.sl (if n = 0 then [] else [[u n.natAbs]])
def sgW (n:Int):PV:=.v (.bool (decide (n < 0)))
def rowW (n:Int):List PV:=[sgW n,mgW n,bf,.sl [[u 1]]]
@[reducible] def subX (x:Nat→Int):Sub:=⟨fun s n=>bif s then .sl [[]] else bif Nat.beq (n % 2) 0 then sgW (x (n / 2)) else mgW (x (n / 2)),fun _=>⟨[],[],rfl⟩⟩
def rowH (k:Nat):List PV:=[.h false (2 * k),.h false (2 * k + 1),bf,.sl [[u 1]]]
theorem sub_even (x:Nat→Int) (k:Nat):@Sub.val (subX x) false (2 * k) = sgW (x k):=by
  have h1:Nat.beq (2 * k % 2) 0 = true:=by rw [show 2 * k % 2 = 0 by omega]; rfl
  have h2:2 * k / 2 = k:=by omega
  show (bif false then _ else bif Nat.beq (2 * k % 2) 0 then sgW (x (2 * k / 2)) else mgW (x (2 * k / 2))) = _
  rw [h1,h2]
  rfl
theorem sub_odd (x:Nat→Int) (k:Nat):@Sub.val (subX x) false (2 * k + 1) = mgW (x k):=by
  have h1:Nat.beq ((2 * k + 1) % 2) 0 = false:=by rw [show (2 * k + 1) % 2 = 1 by omega]; rfl
  have h2:(2 * k + 1) / 2 = k:=by omega
  show (bif false then _ else bif Nat.beq ((2 * k + 1) % 2) 0 then sgW (x ((2 * k + 1) / 2)) else mgW (x ((2 * k + 1) / 2))) = _
  rw [h1,h2]
  rfl
theorem sub_row (x:Nat→Int) (k:Nat):(rowH k).map (@subP (subX x)) = rowW (x k):=by
  simp only [rowH,rowW,List.map_cons,List.map_nil,subP,subPss,subPs,sub_even,sub_odd]
def validX:XR:=fun _ args H=>match args,H with
  | [.agg (.p (.h false a)::r)],[]=>bif eqAVs (.p (.h false a)::r) ((rowH (a / 2)).map .p) then some (.p bt,[]) else none
  | _,_=>none
def wF (n:Int):Fact:=⟨5,[.p (j n)],.agg ((rowW n).map .p)⟩
def vF (n:Int):Fact:=⟨99,[.agg ((rowW n).map .p)],.p bt⟩
theorem small_cases {p:Int→Prop} (h:∀ k:Nat,k < 19→p ((k:Int) - 9)) {n:Int} (hn:n.natAbs ≤ 9):p n:=by
  have:=h (n + 9).toNat (by omega)
  rwa [show (((n + 9).toNat:Nat):Int) - 9 = n by omega] at this
noncomputable def allW (f:Int→Fact):Bool:=(List.range 19).all fun (k:Nat)=>(f ((k:Int) - 9)).run X0 1000
theorem allW_get {f:Int→Fact} (h:allW f = true) {n:Int} (hn:n.natAbs ≤ 9):(f n).run X0 1000 = true :=
  small_cases (p:=fun n=>(f n).run X0 1000 = true) (fun k hk=>List.all_eq_true.1 h k (List.mem_range.2 hk)) hn
theorem wF_run:allW wF = true:=by kernel_rfl
theorem vF_run:allW vF = true:=by kernel_rfl
section
variable (hA:SoundAll TP knT)
include hA
theorem valid_ok {x:Nat→Int} (hx:∀ k,(x k).natAbs ≤ 9):@RuleOk (subX x) TP knT (onX 99 validX):=fun g args H r h=>by
  unfold onX at h
  cases hg:Nat.beq g 99 with
  | false=>rw [hg] at h; cases h
  | true =>
    rw [hg] at h
    obtain rfl:g = 99:=Nat.eq_of_beq_eq_true hg
    have h:validX 99 args H = some r:=h
    unfold validX at h
    split at h
    · rename_i a l _
      cases he:eqAVs (.p (.h false a)::l) ((rowH (a / 2)).map .p) with
      | false=>rw [he] at h; cases h
      | true =>
        rw [he] at h
        cases h
        rw [eqAVs_sound _ _ he]
        refine @callSim_out (subX x) TP knT 99 _ _ ?_
        have h1:List.map (@subA (subX x)) [.agg ((rowH (a / 2)).map .p)] = [.agg ((rowW (x (a / 2))).map .p)]:=by
          rw [← sub_row]
          simp only [rowH,List.map_cons,List.map_nil,subA,subAs]
        rw [h1]
        exact Fact.sim hA (S:=subX x) (X:=X0) (e:=vF (x (a / 2))) noX_ok (allW_get vF_run (hx _))
    · cases h
end
end Go.Proofs.YtepbfecmageleaaGreatDoor
namespace Go.Proofs.YtepbfecmageleaaGreatDoor
set_option maxRecDepth 100000
open Go
def rowS (nm:List UInt8) (op:Int) (args:List (List PV)) (x y:List PV):List PV:=[.v (Y nm),j op,.sl args]++x++y++[j 0]
def nought:List PV:=[bf,.sl [],bf,.sl []]
def madeS (nm:List UInt8) (op:Int) (args:List (List PV)):List PV:=rowS nm op args nought nought
def rest0:List (List PV):=[madeS [68] 12 [[j 0],[j 1]],madeS [69] 12 [[j 0],[j 2]],madeS [108] 3 [[j 3],[j 4]],madeS [109] 3 [[j 1],[j 2]]]
abbrev rest1:List (List PV):=[madeS [70] 12 [[j 1],[j 2]],madeS [112] 3 [[j 2],[j 3]],madeS [113] 3 [[j 1],[j 4]],madeS [114] 3 [[j 0],[j 7]]]
abbrev rest2:List (List PV):=[madeS [120] 3 [[j 1],[j 2]],madeS [121] 3 [[j 0],[j 2]],madeS [122] 3 [[j 0],[j 1]],madeS [112] 10 [[j 0],[j 3]],madeS [113] 10 [[j 1],[j 4]],madeS [114] 10 [[j 2],[j 5]]]
def pts (r:Nat→List PV):List (List PV):=[rowS [65] 1 [] (r 0) (r 1),rowS [66] 1 [] (r 2) (r 3),rowS [67] 1 [] (r 4) (r 5)]
def steps0 (r:Nat→List PV):List (List PV):=pts r++rest0
def steps1 (r:Nat→List PV):List (List PV):=pts r++rest0++rest1
def steps2 (r:Nat→List PV):List (List PV):=pts r++rest2
abbrev relP:AV:=.agg [.p (j 3),.p (.sl [[j 5],[j 6]])]
abbrev relC (a b c:Int):AV:=.agg [.p (j 7),.p (.sl [[j a],[j b],[j c]])]
def wh (x:Nat→Int) (k:Nat):List PV:=rowW (x k)
def x0:Nat→Int:=fun k=>match k with | 2=>4 | 4=>1 | 5=>3 | _=>0
def midF:SFact:=⟨4,[],[],.ar 0 0 0 7,[.arr 12 none 0 (steps0 (wh x0))]⟩
theorem midF_run:midF.run X0 1000 = true:=by kernel_rfl
open Classical in
noncomputable def X3 (x:Nat→Int):XR:=fun f args H =>
  if f = 4∧args = []∧H = [] then some (.ar 0 0 0 7,[.arr 12 none 0 (steps0 (wh x0))]) else
  if f = 7∧args = []∧H = [] then some (.p bt,[]) else
  if f = 8∧(args = [.p (.sl (steps0 (wh x))),relP]∨args = [.p (.sl (steps1 (wh x))),relC 8 9 10]∨args = [.p (.sl (steps2 (wh x))),relC 6 7 8])∧H = [] then some (.p bt,[]) else
  if f = 5∧H = [] then match args with
    | [.p (.v (.int .i64 n))]=>if n.natAbs ≤ 9 then some (.agg ((rowW n).map .p),[]) else none
    | _=>none
  else none
section
variable {x:Nat→Int}
theorem PF_X {X:XR} {Γ:FuncId→Option SFunc} {g:FuncId} {args:List AV} {r:AV} (h:X g args [] = some (r,[])) (hc:canon [] r = some r) (hr:refs r = []):PF X Γ g args r:=by
  unfold PF WF
  rw [cq]
  rw [h]
  exact ⟨hc,hr⟩
theorem pX5 {n:Int} (h:n.natAbs ≤ 9):PF (X3 x) Gam 5 [int n] (.agg ((rowW n).map .p)):=PF_X (by simp [X3,h]) (by simp [canon,canons,rowW,mgW,sgW]) (by simp [refs,refsL,rowW])
theorem pX7:PF (X3 x) Gam 7 [] (.p bt):=PF_X (by simp [X3]) (by simp [canon]) (by simp [refs])
theorem pX80:PF (X3 x) Gam 8 [.p (.sl (steps0 (wh x))),relP] (.p bt):=PF_X (by simp [X3]) (by simp [canon]) (by simp [refs])
theorem pX81:PF (X3 x) Gam 8 [.p (.sl (steps1 (wh x))),relC 8 9 10] (.p bt):=PF_X (by simp [X3]) (by simp [canon]) (by simp [refs])
theorem pX82:PF (X3 x) Gam 8 [.p (.sl (steps2 (wh x))),relC 6 7 8] (.p bt):=PF_X (by simp [X3]) (by simp [canon]) (by simp [refs])
theorem pX6 {nm:List UInt8} {op:Int} {args:List (List PV)}:PF (X3 x) Gam 6 [.p (.v (Y nm)),int op,.p (.sl args)] (.agg ((madeS nm op args).map .p)):=by
  refine WF_intro rfl rfl ?_ (by simp [X3])
  simp [EV,fill,splice,madeS,rowS,nought]
variable {H H1:List Obj} {a:List AV} {K:AV→List Obj→Prop}
theorem cX5:WC (X3 x) Gam 5 a H K↔bindP (canons H a) fun bs=>bif (refsL bs).isEmpty then WP (X3 x) Gam 5 false bs H (freeze H (arsOf a)) K else WCx (X3 x) Gam 5 a H K:=WC_go rfl rfl rfl rfl
theorem cX6:WC (X3 x) Gam 6 a H K↔bindP (canons H a) fun bs=>bif (refsL bs).isEmpty then WP (X3 x) Gam 6 false bs H (freeze H (arsOf a)) K else WCx (X3 x) Gam 6 a H K:=WC_go rfl rfl rfl rfl
theorem cX7:WC (X3 x) Gam 7 a H K↔bindP (canons H a) fun bs=>bif (refsL bs).isEmpty then WP (X3 x) Gam 7 false bs H (freeze H (arsOf a)) K else WCx (X3 x) Gam 7 a H K:=WC_go rfl rfl rfl rfl
theorem cX8:WC (X3 x) Gam 8 a H K↔bindP (canons H a) fun bs=>bif (refsL bs).isEmpty then WP (X3 x) Gam 8 false bs H (freeze H (arsOf a)) K else WCx (X3 x) Gam 8 a H K:=WC_go rfl rfl rfl rfl
theorem qX5 {n:Int} (h:n.natAbs ≤ 9):WP (X3 x) Gam 5 false [int n] H H1 K↔K (.agg ((rowW n).map .p)) H1:=WP_slice (pX5 h) rfl
theorem qX7:WP (X3 x) Gam 7 false [] H H1 K↔K (.p bt) H:=WP_flat pX7 rfl
theorem qX80:WP (X3 x) Gam 8 false [.p (.sl (steps0 (wh x))),relP] H H1 K↔K (.p bt) H:=WP_flat pX80 rfl
theorem qX81:WP (X3 x) Gam 8 false [.p (.sl (steps1 (wh x))),relC 8 9 10] H H1 K↔K (.p bt) H:=WP_flat pX81 rfl
theorem qX82:WP (X3 x) Gam 8 false [.p (.sl (steps2 (wh x))),relC 6 7 8] H H1 K↔K (.p bt) H:=WP_flat pX82 rfl
theorem qX6 {nm:List UInt8} {op:Int} {args:List (List PV)}:WP (X3 x) Gam 6 false [.p (.v (Y nm)),int op,.p (.sl args)] H H1 K↔K (.agg ((madeS nm op args).map .p)) H1:=WP_slice pX6 rfl
theorem wX4:WC (X3 x) Gam 4 [] [] K↔K (.ar 0 0 0 7) [.arr 12 none 0 (steps0 (wh x0))]:=by
  have hc:call (X3 x) Gam 4 [] [] = some (.ar 0 0 0 7,[.arr 12 none 0 (steps0 (wh x0))]):=by rw [cq]; simp [X3]
  have hca:callAt (X3 x) Gam 4 [] [] = some (.ar 0 0 0 7,[.arr 12 none 0 (steps0 (wh x0))]):=by
    rw [caq]
    have hG:Gam 4 = some K4:=rfl
    rw [hG]
    dsimp only
    have hp:passArgs [] K4.raw 0 [] = some []:=rfl
    rw [hp]
    have hf:freeze [] (passFrz K4.raw 0 []) = []:=rfl
    simp only [hf]
    have hr:reach [] (4 * ([]:List Obj).length * ([]:List Obj).length + 4) (refsL []) [] = []:=rfl
    rw [hr]
    have hren:renL (List.idxOf · ([]:List Nat)) [] = []:=rfl
    have hraw:K4.raw.contains 1000 = false:=rfl
    simp only [pickObjs,hraw,Bool.false_and,Bool.false_eq_true,if_false,hren,List.map_nil,hc,Option.bind_eq_bind,Option.bind_some]
    rfl
  unfold WC
  rw [hca]
  rfl
end
end Go.Proofs.YtepbfecmageleaaGreatDoor
namespace Go.Proofs.YtepbfecmageleaaGreatDoor
set_option maxRecDepth 100000
open Go
theorem WO_slitA {X:XR} {Γ:FuncId→Option SFunc} {d:SD} {os:List SO} {e:Fr} {H:List Obj} {K:Fr→List Obj→Prop} {z:List PV} {n:Nat} {ps:List (Nat×SA)} :
    WO X Γ (⟨d,.slitA z n ps,none⟩::os) e H K↔bindP (fillRows H e z.length (List.replicate n z) ps) fun rows=>WO X Γ os (dstPut d e (.ar (freeze H (partArs e ps)).length 0 0 rows.length)) (freeze H (partArs e ps)++[.arr z.length none 0 rows]) K:=by
  rw [WO_op rfl,evOp,bindP_map]
def lowM (m a:Int):Int:=((BitVec.ofInt 64 a &&& BitVec.ofInt 64 m).toNat:Int)
theorem lowM_bd {m:Nat} (hm:m < 2 ^ 63) (a:Int):0 ≤ lowM m a∧lowM m a ≤ m:=by
  unfold lowM
  rw [BitVec.toNat_and]
  have h:(BitVec.ofInt 64 a).toNat &&& (BitVec.ofInt 64 m).toNat ≤ (BitVec.ofInt 64 m).toNat:=Nat.and_le_right
  have h2:(BitVec.ofInt 64 (m:Int)).toNat = m:=by
    rw [BitVec.toNat_ofInt]
    have:((m:Int) % (2 ^ 64:Nat)) = m:=Int.emod_eq_of_lt (by omega) (by omega)
    rw [this]; rfl
  rw [h2] at h ⊢
  omega
theorem and_19 (a:Int):binV .and (.int .i64 a) (.int .i64 65535) = some (.int .i64 (lowM 65535 a)):=by
  have h:0 ≤ lowM 65535 a∧lowM 65535 a ≤ 65535:=lowM_bd (m:=65535) (by decide) a
  have:IntKind.i64.wrap (lowM 65535 a) = lowM 65535 a:=wrap_i64 (by omega)
  show some (Value.int .i64 (IntKind.i64.wrap (lowM 65535 a))) = _
  rw [this]
theorem and_17 (a:Int):binV .and (.int .i64 a) (.int .i64 4095) = some (.int .i64 (lowM 4095 a)):=by
  have h:0 ≤ lowM 4095 a∧lowM 4095 a ≤ 4095:=lowM_bd (m:=4095) (by decide) a
  have:IntKind.i64.wrap (lowM 4095 a) = lowM 4095 a:=wrap_i64 (by omega)
  show some (Value.int .i64 (IntKind.i64.wrap (lowM 4095 a))) = _
  rw [this]
def e19 (a:Int):Int:=(lowM 65535 a).tmod 19 - 9
def e17 (a:Int):Int:=(lowM 4095 a).tmod 17 - 8
theorem e19_bd (a:Int):(e19 a).natAbs ≤ 9:=by
  have h:0 ≤ lowM 65535 a∧lowM 65535 a ≤ 65535:=lowM_bd (m:=65535) (by decide) a
  unfold e19
  have h1:(lowM 65535 a).tmod 19 = lowM 65535 a % 19:=Int.tmod_eq_emod_of_nonneg h.1
  omega
theorem e17_bd (a:Int):(e17 a).natAbs ≤ 9:=by
  have h:0 ≤ lowM 4095 a∧lowM 4095 a ≤ 4095:=lowM_bd (m:=4095) (by decide) a
  unfold e17
  have h1:(lowM 4095 a).tmod 17 = lowM 4095 a % 17:=Int.tmod_eq_emod_of_nonneg h.1
  omega
theorem e19_wrap (a:Int):IntKind.i64.wrap ((lowM 65535 a).tmod 19 - 9) = e19 a:=by
  have h:=e19_bd a
  exact wrap_i64 (by unfold e19 at h; omega)
theorem e17_wrap (a:Int):IntKind.i64.wrap ((lowM 4095 a).tmod 17 - 8) = e17 a:=by
  have h:=e17_bd a
  exact wrap_i64 (by unfold e17 at h; omega)
def xs (a b c:Int):Nat→Int:=fun k=>match k with | 0=>e19 a | 1=>e17 b | 2=>e19 b | 3=>e17 c | 4=>e19 c | _=>e17 a
def put (y:Nat→Int) (m:Nat) (n:Int):Nat→Int:=fun k=>if k = m then n else y k
theorem toPVs_map {H:List Obj}:∀ l:List PV,toPVs H (l.map .p) = some l
  | []=>rfl
  | x::l=>by simp [toPVs,toPV,canon,toPVs_map l]
theorem arsOf_map:∀ l:List PV,arsOf (l.map .p) = []
  | []=>arsOf_nil
  | x::l=>by rw [List.map_cons,arsOf_cons,arsOf_map l,arsA_p]; rfl
section
variable (y:Nat→Int) (n:Int)
abbrev H0 (y:Nat→Int):List Obj:=[.arr 12 none 0 (steps0 (wh y))]
theorem st0:storeC (H0 y) (.elp 0 0 0 3) ((rowW n).map .p) = some (H0 (put y 0 n)):=rfl
theorem st1:storeC (H0 y) (.elp 0 0 0 7) ((rowW n).map .p) = some (H0 (put y 1 n)):=rfl
theorem st2:storeC (H0 y) (.elp 0 0 1 3) ((rowW n).map .p) = some (H0 (put y 2 n)):=rfl
theorem st3:storeC (H0 y) (.elp 0 0 1 7) ((rowW n).map .p) = some (H0 (put y 3 n)):=rfl
theorem st4:storeC (H0 y) (.elp 0 0 2 3) ((rowW n).map .p) = some (H0 (put y 4 n)):=rfl
theorem st5:storeC (H0 y) (.elp 0 0 2 7) ((rowW n).map .p) = some (H0 (put y 5 n)):=rfl
theorem rowW_len:(rowW n).length = 4:=rfl
theorem ap1:appendV [.arr 12 none 0 (steps0 (wh y)),.arr 12 none 0 []] 184 12 (.ar 1 0 0 0) (.ar 0 0 0 7) = some (.ar 1 1 0 7,[.arr 12 none 0 (steps0 (wh y)),.arr 12 none 1 (steps0 (wh y))]):=rfl
theorem ap2:appendV [.arr 12 none 0 (steps0 (wh y)),.arr 12 none 1 (steps0 (wh y)),.arr 12 none 0 rest1] 184 12 (.ar 1 1 0 7) (.ar 2 0 0 4) = some (.ar 1 2 0 11,[.arr 12 none 0 (steps0 (wh y)),.arr 12 none 2 (steps1 (wh y)),.arr 12 none 0 rest1]):=rfl
theorem ap3:appendV [.arr 12 none 0 (steps0 (wh y)),.arr 12 none 2 (steps1 (wh y)),.arr 12 none 0 rest1,.arr 12 none 0 []] 184 12 (.ar 3 0 0 0) (.ar 0 0 0 3) = some (.ar 3 1 0 3,[.arr 12 none 0 (steps0 (wh y)),.arr 12 none 2 (steps1 (wh y)),.arr 12 none 0 rest1,.arr 12 none 1 (pts (wh y))]):=rfl
theorem ap4:appendV [.arr 12 none 0 (steps0 (wh y)),.arr 12 none 2 (steps1 (wh y)),.arr 12 none 0 rest1,.arr 12 none 1 (pts (wh y)),.arr 12 none 0 rest2] 184 12 (.ar 3 1 0 3) (.ar 4 0 0 6) = some (.ar 3 2 0 9,[.arr 12 none 0 (steps0 (wh y)),.arr 12 none 2 (steps1 (wh y)),.arr 12 none 0 rest1,.arr 12 none 2 (steps2 (wh y)),.arr 12 none 0 rest2]):=rfl
theorem len_s0:(steps0 (wh y)).length = 7:=rfl
theorem len_s1:(steps1 (wh y)).length = 11:=rfl
theorem len_s2:(steps2 (wh y)).length = 9:=rfl
theorem take_s0:(steps0 (wh y)).take 7 = steps0 (wh y):=rfl
theorem take_s1:(steps1 (wh y)).take 11 = steps1 (wh y):=rfl
theorem take_s2:(steps2 (wh y)).take 9 = steps2 (wh y):=rfl
end
theorem made_len {nm:List UInt8} {op:Int} {args:List (List PV)}:(madeS nm op args).length = 12:=rfl
theorem w1:IntKind.i64.wrap 1 = 1:=by decide
theorem w2:IntKind.i64.wrap 2 = 2:=by decide
theorem w3:IntKind.i64.wrap 3 = 3:=by decide
theorem loop3 (a b c:Int):WF (X3 (xs a b c)) Gam 3 [int a,int b,int c] [] fun r H=>r = boo true:=by
  refine WF_intro rfl rfl ?_ (by simp [X3])
  simp [EV,wX4]
  rw [W_loop1]
  simp [EV,fillRows,partArs,toPVs,toPV,splice,and_19,and_17,e19_wrap,e17_wrap,cX5,qX5 (e19_bd _),qX5 (e17_bd _),rowW_len,st0,st1,st2,st3,st4,st5,w1,w2,w3]
  rw [W_loop1]
  simp [EV,fillRows,partArs,toPVs,toPV,splice,and_19,and_17,e19_wrap,e17_wrap,cX5,qX5 (e19_bd _),qX5 (e17_bd _),rowW_len,st0,st1,st2,st3,st4,st5,w1,w2,w3]
  rw [W_loop1]
  simp [EV,fillRows,partArs,toPVs,toPV,splice,and_19,and_17,e19_wrap,e17_wrap,cX5,qX5 (e19_bd _),qX5 (e17_bd _),rowW_len,st0,st1,st2,st3,st4,st5,w1,w2,w3]
  rw [W_loop1]
  simp [EV,fillRows,partArs,toPVs,toPV,splice,and_19,and_17,e19_wrap,e17_wrap,cX5,qX5 (e19_bd _),qX5 (e17_bd _),rowW_len,st0,st1,st2,st3,st4,st5,w1,w2,w3]
  have hH:H0 (put (put (put (put (put (put x0 0 (e19 a)) 1 (e17 b)) 2 (e19 b)) 3 (e17 c)) 4 (e19 c)) 5 (e17 a)) = [.arr 12 none 0 (steps0 (wh (xs a b c)))]:=rfl
  rw [hH]
  clear hH
  generalize xs a b c = y
  simp [EV,WO_slitA,fill,fillRows,partArs,toPVs,toPV,splice,ap1,ap2,ap3,ap4,cX6,qX6,made_len,arsOf_map,toPVs_map,len_s0,len_s1,len_s2,take_s0,take_s1,take_s2,cX7,qX7,cX8,qX80,qX81,qX82]
end Go.Proofs.YtepbfecmageleaaGreatDoor

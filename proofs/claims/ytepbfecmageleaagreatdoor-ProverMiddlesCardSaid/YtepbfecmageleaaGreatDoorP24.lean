/- Part of the proof of Rows.ProverMiddlesCardSaid: PmS3, PmA1, PmA2, PmA3, PmA4, PmR1. -/
import Derived.Test.YtepbfecmageleaaGreatDoorP23
set_option linter.all false
namespace Go.Proofs.YtepbfecmageleaaGreatDoor
set_option maxRecDepth 100000
open Go Go.Sort
variable [Sub]
theorem canon_int {H:List Obj} {r:AV} {x:Value} (h:canon H r = some (.p (.v x))):r = .p (.v x):=by
  cases r <;> simp [canon] at h
  · exact congrArg _ h
theorem grown_of {w w':World} {g g':Gh} {H':List Obj} (h:Evo w g [] w' g' H'):∃ q os,w' = grow (w.drewN q) os:=by
  obtain ⟨h1,h2,⟨h3,h3'⟩,h4,h5⟩:=h.keep
  refine ⟨w'.drawn - w.drawn,w'.heap.extract w.heap.size w'.heap.size,?_⟩
  have hh:w'.heap = w.heap++w'.heap.extract w.heap.size w'.heap.size:=by
    apply Array.ext_getElem?
    intro b
    rw [Array.getElem?_append]
    split
    · rename_i hb
      exact h.keep.same hb (no_own b)
    · rename_i hb
      rw [Array.getElem?_extract]
      split
      · congr 1; omega
      · rw [Array.getElem?_eq_none (by omega)]
  have hd:w'.drawn = w.drawn + (w'.drawn - w.drawn):=by omega
  cases w
  cases w'
  simp only at h1 h2 h3 hh hd
  subst h1 h2 h3
  simp only [grow,World.drewN]
  congr 1
section
variable {w:World} {g:Gh}
theorem cmp_calls {e f:E} {W:World} {ce cf:Array Value} (hcd:g.cd = CD TP knT) (hs:StRel W g []) (he:E.Ok e) (hf:E.Ok f) (h1:Rep W g [] (.agg ce) (.agg [.p (.v (.bool e.b)),.p e.m,.p (.sl (exRows (trim e.x)))]))
    (h2:Rep W g [] (.agg cf) (.agg [.p (.v (.bool f.b)),.p f.m,.p (.sl (exRows (trim f.x)))])) :
    Calls TP 118 #[.agg ce,.agg cf] W fun r w'=>r = .returned (.int .i64 (ordE 32 e.x f.x))∧∃ q os,w' = grow (W.drewN q) os:=by
  have l1:=@trim_len e.x
  have l2:=@trim_len f.x
  have hpf:=cmp_pf (a:=trim e.x) (b:=trim f.x) (s1:=.v (.bool e.b)) (s2:=.v (.bool f.b)) (m1:=e.m) (m2:=f.m) (by rw [he.len] at l1; exact l1) (by rw [hf.len] at l2; exact l2)
  rw [cmp_eq he.len hf.len] at hpf
  unfold PF WF at hpf
  cases hc:call X0 Gam 118 [.agg [.p (.v (.bool e.b)),.p e.m,.p (.sl (exRows (trim e.x)))],.agg [.p (.v (.bool f.b)),.p f.m,.p (.sl (exRows (trim f.x)))]] [] with
  | none=>rw [hc] at hpf; exact hpf.elim
  | some r =>
    rw [hc] at hpf
    have hr:=canon_int hpf.1
    refine (parts0.1 _ _ _ _ hc W g #[.agg ce,.agg cf] hcd hs ⟨rfl,fun i c x a b=>?_⟩).mono fun en w' hq=>?_
    · match i with
      | 0=>simp at a b; subst a; subst b; exact h1
      | 1=>simp at a b; subst a; subst b; exact h2
      | i + 2=>simp at a
    · obtain ⟨v,g',q1,q2,q3,q4⟩:=hq
      rw [hr] at q4
      have:=q4.val.1
      subst this
      exact ⟨q1,grown_of q2⟩
theorem row_len {e:E}:e.row.length = 3:=rfl
theorem sort_call {done:List E} {ver:Nat} {c:Value} (hcd:g.cd = CD TP knT) (hs:StRel w g [.arr 3 none ver (done.map E.row)]) (hok:∀ e ∈ done,E.Ok e) (hds:Distinct done) (hne:done ≠ []) (hlen:done.length ≤ 2048)
    (hr:Rep w g [.arr 3 none ver (done.map E.row)] c (.ar 0 ver 0 done.length)) :
    Calls TP 117 #[c,.func (.func 118) #[] #[]] w fun e w'=>e = .returned (.tuple #[])∧∃ so:List E,so.Perm done∧so.Pairwise (fun a b=>ordE 32 a.x b.x ≤ 0) ∧
      Evo w g [.arr 3 none ver (done.map E.row)] w' g [.arr 3 none ver (so.map E.row)]∧StRel w' g [.arr 3 none ver (so.map E.row)]:=by
  have hpos:0 < done.length:=List.length_pos_iff.2 hne
  letI:Inhabited (Fin done.length):=⟨⟨0,hpos⟩⟩
  obtain ⟨o1,o2,⟨vs,ety,o3,o4⟩,o5,o6⟩:=hs.objs 0 _ rfl
  have hnoD:∀ i,¬ g.D (g.blk 0) i:=hs.stand 0 _ rfl
  have hblk:g.blk 0 < w.heap.size:=IsBlk.lt hs (by simp)
  obtain ⟨cap,rfl⟩:∃ cap,c = .slice (some ⟨g.blk 0,g.base 0,none⟩) done.length cap:=by
    cases hr with
    | ar h =>
      obtain ⟨_,_,es',fz',ver',rows',hH,_,_,hsn⟩:=h
      simp only [List.getElem?_cons_zero,Option.some.injEq,Obj.arr.injEq] at hH
      obtain ⟨rfl,rfl,rfl,rfl⟩:=hH
      obtain ⟨ha,_⟩:=(hsn (by simp [seen])).2.1 rfl rfl
      rw [ha]
      exact ⟨_,rfl⟩
  have hcellj:∀ (i:Fin done.length) (j:Nat),j < 3→∃ u x,vs[g.base 0 + i * 3 + j]? = some u∧(done[i].row)[j]? = some x∧RepP w g.D u x:=fun i j hj=>by
    obtain ⟨x,hx⟩:∃ x,(done[i].row)[j]? = some x:=⟨_,List.getElem?_eq_getElem (show j < done[i].row.length from hj)⟩
    obtain ⟨u,hu,hru⟩:=o5 i j done[i].row x (by rw [List.getElem?_map]; exact congrArg (Option.map E.row) (List.getElem?_eq_getElem i.2)) hx
    rw [cellAt_cells o3] at hu
    exact ⟨u,x,hu,hx,hru⟩
  let enc:Fin done.length→List Value:=fun i=>[vs.getD (g.base 0 + i * 3 + 0) undef,vs.getD (g.base 0 + i * 3 + 1) undef,vs.getD (g.base 0 + i * 3 + 2) undef]
  have henc:∀ (i:Fin done.length) (j:Nat),j < 3→(enc i)[j]? = vs[g.base 0 + i * 3 + j]?:=fun i j hj=>by
    obtain ⟨u,x,h1,_⟩:=hcellj i j hj
    rw [h1]
    match j,hj,h1 with
    | 0,_,h1=>simp [enc,Array.getD_eq_getD_getElem?] ; simp at h1; rw [h1]; rfl
    | 1,_,h1=>simp [enc,Array.getD_eq_getD_getElem?,h1]
    | 2,_,h1=>simp [enc,Array.getD_eq_getD_getElem?,h1]
  have hrepj:∀ (i:Fin done.length) (j:Nat) (u:Value) (x:PV),(enc i)[j]? = some u→(done[i].row)[j]? = some x→RepP w g.D u x:=fun i j u x h1 h2=>by
    have hj:j < 3:=(List.getElem?_eq_some_iff.1 h1).1
    obtain ⟨u',x',q1,q2,q3⟩:=hcellj i j hj
    rw [henc i j hj,q1] at h1
    rw [q2] at h2
    cases h1; cases h2
    exact q3
  have h1c:∀ x,∀ v ∈ enc x,v.oneCell' = true:=fun x v hv=>by
    obtain ⟨j,hj,rfl⟩:=List.getElem_of_mem hv
    exact (hrepj x j _ _ (List.getElem?_eq_getElem hj) (List.getElem?_eq_getElem (show j < done[x].row.length from hj))).one
  let d:Array (Fin done.length):=Array.ofFn fun i=>i
  have hdsz:d.size = done.length:=by simp [d]
  have hdi:∀ i (h:i < done.length),d[i]! = ⟨i,h⟩:=fun i h=>by
    rw [getElem!_pos d i (by rw [hdsz]; exact h)]
    simp [d]
  have hH:HoldsK enc 3 w (g.blk 0) (g.base 0) d:=by
    intro t ht
    rw [size_flatK,hdsz] at ht
    have hi:t / 3 < done.length:=by omega
    have hj:t % 3 < 3:=Nat.mod_lt _ (by decide)
    have hdm:t / 3 * 3 + t % 3 = t:=by omega
    rw [get_flatK enc 3 d t (by rw [hdsz]; exact ht),hdi _ hi]
    obtain ⟨u,x,q1,_⟩:=hcellj ⟨t / 3,hi⟩ (t % 3) hj
    refine ⟨?_,?_⟩
    · show cellAt w (g.blk 0) (g.base 0 + t) = _
      rw [cellAt_cells o3,List.getElem!_eq_getElem?_getD,henc ⟨t / 3,hi⟩ (t % 3) hj,q1]
      have:g.base 0 + t / 3 * 3 + t % 3 = g.base 0 + t:=by omega
      rw [← this,q1]
      rfl
    · simp [World.frozen?,o3]
  let cf:Fin done.length→Fin done.length→Int:=fun i j=>ordE 32 done[i].x done[j].x
  have hO:SWO (ltOf cf):=ordE_swo fun i:Fin done.length=>done[i].x
  have hT:∀ x y,(ltOf cf) x y = false→(ltOf cf) y x = false→x = y:=fun x y q1 q2=>by
    simp only [ltOf,cf,decide_eq_false_iff_not,Int.not_lt] at q1 q2
    have hn:=@ordE_neg 32 done[x].x done[y].x
    have hxy:=ordE_zero (hok _ (List.getElem_mem _)).len (hok _ (List.getElem_mem _)).len (show ordE 32 done[x].x done[y].x = 0 by omega)
    rcases Nat.lt_trichotomy x.1 y.1 with h | h | h
    · exact absurd hxy (List.pairwise_iff_getElem.1 hds x y x.2 y.2 h)
    · exact Fin.ext h
    · exact absurd hxy.symm (List.pairwise_iff_getElem.1 hds y x y.2 x.2 h)
  have hcmp:CmpLays TP 118 #[] enc 3 cf (g.blk 0) (g.base 0) d.size w:=by
    intro m os dk hdk x y
    have hold:∀ b i,g.D b i→cellAt (sortWorldK enc 3 w (g.blk 0) (g.base 0) m dk os) b i = cellAt w b i:=fun b i hD=>by
      have hb:g.blk 0 ≠ b:=fun e=>hnoD i (e ▸ hD)
      have hlt:=hs.dom b i hD
      refine cellAt_heap ?_ i
      simp [sortWorldK,grow,putRowK,putRow,mapBlock,Array.getElem?_append,hlt,Array.getElem_modify,hb]
    have hst:StRel (sortWorldK enc 3 w (g.blk 0) (g.base 0) m dk os) g []:=⟨fun l o h=>by simp at h,fun l k h=>by simp at h,fun l o h=>by simp at h,fun b i hD=>by
      have:=hs.dom b i hD
      simp [sortWorldK,grow,putRowK,putRow,mapBlock]
      omega⟩
    have hagg:∀ i:Fin done.length,Rep (sortWorldK enc 3 w (g.blk 0) (g.base 0) m dk os) g [] (.agg (enc i).toArray) (.agg [.p (.v (.bool done[i].b)),.p done[i].m,.p (.sl (exRows (trim done[i].x)))]):=fun i=>by
      refine .agg rfl (fun j u hu=>h1c i u (by simpa using List.mem_of_getElem? (by simpa using hu))) (fun j u x hu hx=>?_)
      have hu':(enc i)[j]? = some u:=by simpa using hu
      have hx':∃ x',(done[i].row)[j]? = some x'∧x = .p x':=by
        match j with
        | 0=>simp at hx; exact ⟨_,rfl,hx.symm⟩
        | 1=>simp at hx; exact ⟨_,rfl,hx.symm⟩
        | 2=>simp at hx; exact ⟨_,rfl,hx.symm⟩
        | j + 3=>simp at hx
      obtain ⟨x',k1,rfl⟩:=hx'
      exact .p ((hrepj i j u x' hu' k1).mono (fun _ _ h=>h) hold)
    exact cmp_calls hcd hst (hok _ (List.getElem_mem _)) (hok _ (List.getElem_mem _)) (hagg x) (hagg y)
  have hcall:=AnyQ.slices_SortFunc_total Tryz.sortT 3 Tryz.isAgg89 Tryz.sizeOf89 enc (fun _=>rfl) h1c cf hO 118 #[] (g.blk 0) (g.base 0) cap d w (enters_of Tryz.func118 (by kernel_rfl) rfl) hcmp hH hblk (by rw [hdsz]; omega) hT
  rw [hdsz] at hcall
  refine (show Calls TP 117 _ _ _ from hcall).mono ?_
  rintro en w' ⟨hen,n0,os,rfl⟩
  generalize hL:(d.toList.mergeSort fun x y=>!(ltOf cf) y x) = L
  have hperm:L.Perm d.toList:=by rw [← hL]; exact List.mergeSort_perm ..
  have hdl:d.toList.map (fun i=>done[i]) = done:=by
    apply List.ext_getElem
    · simp [d]
    · intro i h1 h2
      simp [d]
  refine ⟨hen,L.map fun i:Fin done.length=>done[i],(hperm.map fun i:Fin done.length=>done[i]).trans (List.Perm.of_eq hdl),?_,?_⟩
  · rw [← hL]
    have hp:=List.pairwise_mergeSort (le:=fun x y=>!(ltOf cf) y x) (fun a b c h1 h2=>by
      simp only [Bool.not_eq_true'] at h1 h2 ⊢
      exact hO.ntrans c b a h2 h1) (fun a b=>by
      cases h1:ltOf cf b a with
      | false=>simp
      | true =>
        cases h2:ltOf cf a b with
        | false=>simp
        | true =>
          have:=hO.trans a b a h2 h1
          rw [hO.irrefl] at this
          cases this) d.toList
    rw [List.pairwise_map]
    refine hp.imp fun {a b} h=>?_
    simp only [ltOf,cf,Bool.not_eq_true',decide_eq_false_iff_not,Int.not_lt] at h
    have:=@ordE_neg 32 done[a].x done[b].x
    omega
  · have hll:L.length = done.length:=by rw [hperm.length_eq]; simp [d]
    have hrows:(L.map fun i:Fin done.length=>done[i]).map E.row = L.map fun i:Fin done.length=>done[i].row:=by simp
    rw [hrows]
    obtain ⟨e1,s1⟩:=evo_sorted (l:=0) (es:=3) (ver:=ver) (rows:=done.map E.row) (rows':=L.map fun i:Fin done.length=>done[i].row) (enc:=enc) (d':=L.toArray) (n:=n0) hs rfl (by simp [hll]) (fun r hr=>by
      simp only [List.mem_map] at hr
      obtain ⟨i,_,rfl⟩:=hr
      exact row_len (e:=done[i])) (by simp) (fun i j row x hi hj=>by
      simp only [List.getElem?_map,Option.map_eq_some_iff] at hi
      obtain ⟨k,hk,rfl⟩:=hi
      have hkl:i < L.length:=(List.getElem?_eq_some_iff.1 hk).1
      have hkk:L.toArray[i]! = k:=by
        rw [getElem!_pos L.toArray i (by simpa using hkl)]
        have:=(List.getElem?_eq_some_iff.1 hk).2
        simpa using this
      have hj3:j < 3:=(List.getElem?_eq_some_iff.1 hj).1
      rw [hkk]
      obtain ⟨u,x',q1,q2,q3⟩:=hcellj k j hj3
      rw [q2] at hj
      cases hj
      exact ⟨u,by rw [henc k j hj3]; exact q1,q3⟩)
    have hset:([.arr 3 none ver (done.map E.row)]:List Obj).set 0 (.arr 3 none ver (L.map fun i:Fin done.length=>done[i].row)) = [.arr 3 none ver (L.map fun i:Fin done.length=>done[i].row)]:=rfl
    rw [hset] at e1 s1
    obtain ⟨e2,s2⟩:=evo_grown os.toList s1
    exact ⟨e1.trans e2,s2⟩
end
end Go.Proofs.YtepbfecmageleaaGreatDoor
namespace Go.Proofs.YtepbfecmageleaaGreatDoor
set_option maxRecDepth 100000
open Go
theorem insE_perm {e:E}:∀ {l:List E},(insE e l).Perm (e::l)
  | []=>.refl _
  | f::l=>by
    rw [insE]
    split
    · exact .refl _
    · exact (List.Perm.cons f insE_perm).trans (List.Perm.swap ..)
theorem isort_perm:∀ {l:List E},(isort l).Perm l
  | []=>.refl _
  | e::l=>insE_perm.trans (List.Perm.cons e isort_perm)
theorem insE_pw {e:E}:∀ {l:List E},l.Pairwise (fun a b=>ordE 32 a.x b.x ≤ 0)→(insE e l).Pairwise (fun a b=>ordE 32 a.x b.x ≤ 0)
  | [],_=>by simp [insE]
  | f::l,h=>by
    rw [List.pairwise_cons] at h
    rw [insE]
    split
    · rename_i hle
      rw [List.pairwise_cons]
      refine ⟨fun y hy=>?_,List.pairwise_cons.2 h⟩
      rcases List.mem_cons.1 hy with rfl | hy
      · exact hle
      · exact ordE_trans.2.2 hle (h.1 y hy)
    · rename_i hle
      rw [List.pairwise_cons]
      refine ⟨fun y hy=>?_,insE_pw h.2⟩
      rcases List.mem_cons.1 (insE_perm.subset hy) with rfl | hy
      · have:=@ordE_neg 32 y.x f.x
        omega
      · exact h.1 y hy
theorem isort_pw:∀ {l:List E},(isort l).Pairwise (fun a b=>ordE 32 a.x b.x ≤ 0)
  | []=>.nil
  | _::_=>insE_pw isort_pw
theorem distinct_eq:∀ {l:List E},Distinct l→∀ {a b:E},a ∈ l→b ∈ l→a.x = b.x→a = b
  | [],_,a,b,ha,_,_=>by cases ha
  | y::l,hd,a,b,ha,hb,h=>by
    obtain ⟨h1,h2⟩:=List.pairwise_cons.1 hd
    rcases List.mem_cons.1 ha with ha | ha <;> rcases List.mem_cons.1 hb with hb | hb
    · rw [ha,hb]
    · exact absurd (ha ▸ h) (h1 b hb)
    · exact absurd (hb ▸ h).symm (h1 a ha)
    · exact distinct_eq h2 ha hb h
theorem sorted_one {es so:List E} (hok:∀ e ∈ es,E.Ok e) (hd:Distinct es) (hp:so.Perm es) (hs:so.Pairwise (fun a b=>ordE 32 a.x b.x ≤ 0)):so = isort es:=by
  refine List.Perm.eq_of_pairwise (le:=fun a b:E=>ordE 32 a.x b.x ≤ 0) (fun a b ha hb h1 h2=>?_) hs isort_pw (hp.trans isort_perm.symm)
  have ha':=hp.subset ha
  have hb':=isort_perm.subset hb
  have hn:=@ordE_neg 32 a.x b.x
  exact distinct_eq hd ha' hb' (ordE_zero (hok _ ha').len (hok _ hb').len (by omega))
theorem distinct_perm {l l':List E} (h:l.Perm l') (hd:Distinct l):Distinct l':=h.pairwise hd (fun h=>Ne.symm h)
section
variable [Sub] {P:Program} {a:Act} {w:World}
theorem op_calls {o:Oper} {c:Call} {f:Operand} {fid:FuncId} {args:Array Value} {r0:Option Nat} {K:Act→World→Prop} {Q:Exit→Act→World→Prop} (ho:o.op = .call c) (hcal:c.callee = .value f) (hok:FnOk P fid)
    (hf:a.eval f = .func (.func fid) #[] #[]) (hargs:c.args.map a.eval = args) (hc:Calls P fid args w fun e w'=>∃ v,e = .returned v∧K (a.put o.dst v) w'):o.wpIn (FR r0) 0 P a w K Q:=by
  obtain ⟨fn,code,h1,h2,h3⟩:=hok
  have hrun:(execOp a.eval o).run P w = .ok (.enter fid args) w:=by
    obtain ⟨dst,op,ty,pos,after,gd⟩:=o
    cases ho
    simp [execOp,resolve,hcal,hf,Deferred.ofValue,Go.invoke,callFunc,h1,h3]
    simp at h2
    simp [h2,hargs]
  refine ⟨fun _ _=>trivial,?_⟩
  rw [Oper.semAt_eq _ _ _ (fun c' hc'=>by rw [ho] at hc'; cases hc'),hrun,Oper.uponIn_enter]
  refine ⟨fun h=>(by cases h),callsIn_FR (hc.mono fun e w'' he=>?_)⟩
  obtain ⟨cv,rfl,hk⟩:=he
  exact hk
theorem ops_calls {o:Oper} {ops:Array Oper} {c:Call} {f:Operand} {fid:FuncId} {args:Array Value} {r0:Option Nat} {k:Nat} {ks:List Nat} {Q:Exit→Act→World→Prop} (hat:ops[k]? = some o) (hg:o.guard = none) (ho:o.op = .call c) (hcal:c.callee = .value f) (hok:FnOk P fid)
    (hf:a.eval f = .func (.func fid) #[] #[]) (hargs:c.args.map a.eval = args) (hc:Calls P fid args w fun e w'=>∃ v,e = .returned v∧wpOpsIn (FR r0) 0 P ops Q ks (a.put o.dst v) w'):wpOpsIn (FR r0) 0 P ops Q (k::ks) a w:=by
  simp only [wpOpsIn,hat]
  have:Region.wanted o (yielded ops a.tmps) = true:=by unfold Region.wanted; rw [hg]
  rw [this]
  exact op_calls ho hcal hok hf hargs hc
end
end Go.Proofs.YtepbfecmageleaaGreatDoor
namespace Go.Proofs.YtepbfecmageleaaGreatDoor
set_option maxRecDepth 100000
open Go
variable [Sub]
abbrev mpv (m:Nat):AV:=.p (.v (.map (some m)))
section
variable {m ck:Nat} {w0 w:World} {g0 g:Gh} {ents:Array MapEntry} {a:Act} {es0:List E}
theorem keep0 {env:Env} {H:List Obj} (h:BW m w0 g0 43 vs69 ents ck a w g ⟨env,H⟩) (h0:lk env 0 = some (mpv m)):BW m w0 g0 43 vs69 ents ck a w g ⟨[(0,mpv m)],[]⟩ :=
  h.drop fun t v hv=>by
    simp only [lk] at hv
    split at hv
    · rename_i e; subst e; cases hv; exact ⟨by simp [vs69],by rw [(h.env.env 0 _ h0).val.1]; exact .p (.v rfl)⟩
    · cases hv
theorem start0 {Q:Exit→Act→World→Prop} (hcd:g0.cd = CD TP knT) (hb:BW m w0 g0 43 vs69 ents ck a w g ⟨[(0,mpv m)],[]⟩) (hr:EntsR w g ents es0)
    (hQ:∀ a w g,BW m w0 g0 43 vs69 ents ck a w g ⟨[(0,mpv m)],[]⟩→EntsR w g ents es0→Q .normal a w):r0.wpIn (FR none) 0 TP Q a w:=by
  have hx:exec X0 Gam s0 ⟨[(0,mpv m)],[]⟩ = some (.normal,⟨[(0,mpv m),(2,.lit []),(3,int 0)],[]⟩):=exec_of (by unfold s0; simp [EV,evOp,upd])
  refine hb.code hcd cp0 (parts0.2.1 _ _ _ hx) fun e a' w' g' x v h=>?_
  have he:e = .normal:=by cases e <;> first | rfl | exact x.elim
  subst he
  exact hQ a' w' g' (keep0 h rfl) (hr.evo v)
theorem ranged {id n t:Nat} {p1 p2:String} {f1 f2:Array Edge} {env:Env} {H:List Obj} {Q:Exit→Act→World→Prop} (hb:BW m w0 g0 43 vs69 ents ck a w g ⟨env,H⟩) (h0:lk env 0 = some (mpv m)) (ht:t < 43) (htv:t ∉ vs69) (hn:n ∈ vs69) (hn2:n < 43)
    (hQ:∀ a' w' b,BW m w0 g0 43 vs69 ents ck a' w' g ⟨upd env n (.p (.v (.pointer (some ⟨b,0,none⟩)))),H⟩→IW m w0 b ck #[] w' g H→(∀ c v,Rep w g H c v→Rep w' g H c v)→EntsR w' g ents es0→Q .normal a' w') (hr:EntsR w g ents es0) :
    (Code.region id #[⟨some t,.move (.tmp 0),126,p1,f1,none⟩,⟨some n,.range 126 (.tmp t),0,p2,f2,none⟩] false).wpIn (FR none) 0 TP Q a w:=by
  refine wpIn_region ?_
  show wpOpsIn (FR none) 0 TP _ _ [0,1] a w
  have hsz:=hb.size
  have h0':a.tmps.getD 0 undef = .map (some m):=(hb.env.env 0 _ h0).val.1
  refine ops_run (cv:=.map (some m)) (w':=w) rfl rfl (fun c hc=>by cases hc) (.inl (by simp [execOp,eval_tmp,h0'])) ?_
  have hb1:=hb.act (a':=a.put (some t) (.map (some m))) (by rw [put_size]; exact hsz) (by rw [put_defers]) (fun k hk=>by
    rw [getD_put (by rw [hsz]; exact ht),if_neg (fun e=>htv (by rw [e]; exact hk))])
  have h9:(a.put (some t) (.map (some m))).tmps.getD t undef = .map (some m):=by rw [getD_put (by rw [hsz]; exact ht),if_pos rfl]
  obtain ⟨q1,q2,q3⟩:=hb1.range (o:=default) hn hn2 und126
  refine ops_run (cv:=.pointer (some ⟨w.heap.size,0,none⟩)) rfl rfl (fun c hc=>by cases hc) (.inl (by simp [execOp,eval_tmp,h9,q1]; rfl)) ?_
  have hp:Pushed w (w.alloc (.mapIter (some m) ck #[] ck)) (.mapIter (some m) ck #[] ck):=⟨rfl,rfl,rfl,⟨rfl,Nat.le_refl _⟩⟩
  obtain ⟨ev,_⟩:=evo_push hp hb.far.st
  exact hQ _ _ _ q2 q3 ev.rep (hr.evo ev)
theorem part1 (hcd:g0.cd = CD TP knT) (hb:BW m w0 g0 43 vs69 ents ck a w g ⟨[(0,mpv m)],[]⟩) (hr:EntsR w g ents es0) (hok:∀ e ∈ es0,E.Ok e) (hd:Distinct es0) {Q:Exit→Act→World→Prop} (hQ:∀ a w,P1 m ck w0 g0 es0 a w→Q .normal a w) :
    (Code.seq r1 (.block 0 (.loop body1))).wpIn (FR none) 0 TP Q a w:=by
  refine wpIn_seq (ranged hb rfl (by decide) (by simp [vs69]) (by simp [vs69]) (by decide) (fun a' w' b h1 h2 _ h3=>?_) hr)
  show Code.wpIn _ _ _ _ _ _ _
  refine wpIn_block (wpIn_loopN (J1 m ck b w0 g0 es0) (fun n a w hj=>round1 hcd hQ n a w hj) (n:=unseen #[] ents) ⟨g,ents,#[],es0,h1,h2,h3,hok,hd,rfl,fun i me e _ _ h=>?_,rfl⟩)
  simp at h
theorem part2 (hcd:g0.cd = CD TP knT) {es:List E} (hb:BW m w0 g0 43 vs69 ents ck a w g ⟨[(0,mpv m),(6,.lit [])],[]⟩) (hr:EntsR w g ents es) (hok:∀ e ∈ es,E.Ok e) (hnz:∀ e ∈ es,e.nz = true) (hlen:es.length ≤ 2048) {Q:Exit→Act→World→Prop} (hQ:∀ a w,P2 m ck w0 g0 es a w→Q .normal a w) :
    (Code.seq r9 (.block 2 (.loop body2))).wpIn (FR none) 0 TP Q a w:=by
  refine wpIn_seq (ranged hb rfl (by decide) (by simp [vs69]) (by simp [vs69]) (by decide) (fun a' w' b h1 h2 _ h3=>?_) hr)
  show Code.wpIn _ _ _ _ _ _ _
  have h1':BW m w0 g0 43 vs69 ents ck a' w' g ⟨env2 m b (.lit []),[]⟩:=h1.drop fun t v hv=>by
    have hv2:lk (upd [(0,mpv m),(6,.lit [])] 26 (.p (.v (.pointer (some ⟨b,0,none⟩))))) t = some v:=by
      rw [lk_upd]
      simp only [env2,lk] at hv ⊢
      by_cases e26:26 = t
      · subst e26; simpa using hv
      · rw [if_neg e26]
        split at hv
        · rename_i e0; rw [if_pos e0]; exact hv
        · rename_i e0
          rw [if_neg e0]
          first | exact hv | (rw [if_neg e26] at hv; exact hv) | simpa [e26] using hv
    exact ⟨h1.fr.env t v hv2,h1.env.env t v hv2⟩
  refine wpIn_block (wpIn_loopN (J2 m ck b w0 g0 es) (fun n a w hj=>round2 hcd hok hnz hlen hQ n a w hj) (n:=unseen #[] ents) ⟨g,ents,#[],[],.lit [],[],h1',h2,h3,?_,.inl ⟨rfl,rfl,rfl⟩,rfl⟩)
  rw [List.nil_append,left_none h3.1]
theorem lens {es:List E} {Q:Exit→Act→World→Prop} {x:Code} (hb:BW m w0 g0 43 vs69 ents ck a w g ⟨[(0,mpv m)],[]⟩) (hr:EntsR w g ents es) (hlen:es.length ≤ 2048) (hQ:∀ a,BW m w0 g0 43 vs69 ents ck a w g ⟨[(0,mpv m)],[]⟩→Q .normal a w) :
    (Code.seq r6 (.cond (.tmp 24) x .skip)).wpIn (FR none) 0 TP Q a w:=by
  refine wpIn_seq (wpIn_region ?_)
  show wpOpsIn (FR none) 0 TP _ _ [0,1,2] a w
  have hsz:=hb.size
  have h0':a.tmps.getD 0 undef = .map (some m):=(hb.env.env 0 _ rfl).val.1
  have hgo:(getObj m).run TP w = .ok (.map ents ck) w:=by simp [getObj,Sem.run,hb.mp]
  refine ops_run (cv:=.map (some m)) (w':=w) rfl rfl (fun c hc=>by cases hc) (.inl (by simp [execOp,eval_tmp,h0'])) ?_
  have e22:(a.put (some 22) (.map (some m))).eval (.tmp 22) = .map (some m):=by rw [eval_tmp,getD_put (by rw [hsz]; decide),if_pos rfl]
  refine ops_run (cv:=.int .i64 (es.length:Int)) (w':=w) rfl rfl (fun c hc=>by cases hc) (.inl (by
    simp [execOp,resolve,e22,Go.invoke,Go.builtin,Builtin.len_,run_underlying und126,hgo,hr.1,goInt])) ?_
  have e23:((a.put (some 22) (.map (some m))).put (some 23) (.int .i64 (es.length:Int))).eval (.tmp 23) = .int .i64 (es.length:Int):=by rw [eval_tmp,getD_put (by rw [put_size,hsz]; decide),if_pos rfl]
  have hbin:∀ dst ty pos after gd,RunV TP ((a.put (some 22) (.map (some m))).put (some 23) (.int .i64 (es.length:Int))) w g [] ⟨dst,.binOp .gtr 3 (.tmp 23) (.const (.int .i64 2048)) 3,ty,pos,after,gd⟩ (.p (.v (.bool false))):=fun dst ty pos after gd =>
    run_bin (u:=.int .i64 (es.length:Int)) (v:=.int .i64 2048) (by rw [e23]; exact .p (.v rfl)) (.p (.v rfl)) (by
      have:¬ ((2048:Int) < (es.length:Int)):=by omega
      simp [binV,binInt]
      omega)
  obtain ⟨cv,c1,c2⟩:=hbin (some 24) 4 "multipoly.go:142" #[⟨1,.data⟩] none
  have hcv:cv = .bool false:=c2.val.1
  subst hcv
  refine ops_run (cv:=.bool false) (w':=w) rfl rfl (fun c hc=>by cases hc) (.inl c1) ?_
  have hb1:=hb.act (a':=((a.put (some 22) (.map (some m))).put (some 23) (.int .i64 (es.length:Int)))) (by rw [put_size,put_size]; exact hsz) rfl (fun k hk=>by
    rw [getD_put (by rw [put_size,hsz]; decide),if_neg (fun e=>by subst e; simp [vs69] at hk),getD_put (by rw [hsz]; decide),if_neg (fun e=>by subst e; simp [vs69] at hk)])
  have hb2:=hb1.set (n:=24) (cv:=.bool false) (v:=.p (.v (.bool false))) (by simp [vs69]) (by decide) (.p (.v rfl))
  show Code.wpIn _ _ _ _ _ _ _
  refine wpIn_cond_false (hb2.env.env 24 _ rfl).val.1 (wpIn_skip ?_)
  exact hQ _ (keep0 hb2 rfl)
end
end Go.Proofs.YtepbfecmageleaaGreatDoor
namespace Go.Proofs.YtepbfecmageleaaGreatDoor
set_option maxRecDepth 100000
open Go
variable [Sub]
theorem ok117:FnOk TP 117:=by
  have h1:(TP.funcs[117]?).isSome = true:=by kernel_rfl
  obtain ⟨fn,hfn⟩:=Option.isSome_iff_exists.1 h1
  have h2:((TP.funcs[117]?).map fun fn=>(fn.name == "runtime.NumGoroutine",fn.body.isSome)) = some (false,true):=by kernel_rfl
  rw [hfn] at h2
  simp only [Option.map_some,Option.some.injEq,Prod.mk.injEq] at h2
  obtain ⟨c,hc⟩:=Option.isSome_iff_exists.1 h2.2
  exact ⟨fn,c,hfn,h2.1,hc⟩
section
variable {m ck:Nat} {w0 w:World} {g0 g:Gh} {ents:Array MapEntry} {a:Act} {es:List E}
def P3 (m ck:Nat) (w0:World) (g0:Gh) (es:List E) (a:Act) (w:World):Prop :=
  ∃ g ents out H,BW m w0 g0 43 vs69 ents ck a w g ⟨[(0,mpv m),(6,out)],H⟩∧EntsR w g ents es∧canon H out = some (.p (.sl ((isort es).map E.row)))∧∀ l ∈ arsA out,l ∈ [0]
theorem sorted3 (hcd:g0.cd = CD TP knT) (hok:∀ e ∈ es,E.Ok e) (hd:Distinct es) (hlen:es.length ≤ 2048) {Q:Exit→Act→World→Prop} (hp:P2 m ck w0 g0 es a w) (hQ:∀ a w,P3 m ck w0 g0 es a w→Q .normal a w):r13.wpIn (FR none) 0 TP Q a w:=by
  obtain ⟨g,ents,done,out,H,hb,hr,hpm,hout⟩:=hp
  refine wpIn_region ?_
  show wpOpsIn (FR none) 0 TP _ _ [0,1] a w
  have hsz:=hb.size
  have h6:Rep w g H (a.tmps.getD 6 undef) out:=hb.env.env 6 _ rfl
  generalize hc:a.tmps.getD 6 undef = c at h6
  refine ops_run (cv:=c) (w':=w) rfl rfl (fun c hc=>by cases hc) (.inl (by simp [execOp,eval_tmp,hc])) ?_
  have hb1:=hb.act (a':=a.put (some 40) c) (by rw [put_size]; exact hsz) (by rw [put_defers]) (fun k hk=>by
    rw [getD_put (by rw [hsz]; decide),if_neg (fun e=>by subst e; simp [vs69] at hk)])
  have h40:(a.put (some 40) c).eval (.tmp 40) = c:=by rw [eval_tmp,getD_put (by rw [hsz]; decide),if_pos rfl]
  have hargs:(#[Operand.tmp 40,Operand.func 118]:Array Operand).map (a.put (some 40) c).eval = #[c,.func (.func 118) #[] #[]]:=by
    have h118:(a.put (some 40) c).eval (.func 118) = .func (.func 118) #[] #[]:=rfl
    simp [h40,h118]
  have hput:∀ {w':World} {g':Gh} {s:St},BW m w0 g0 43 vs69 ents ck (a.put (some 40) c) w' g' s→BW m w0 g0 43 vs69 ents ck ((a.put (some 40) c).put (some 41) (.tuple #[])) w' g' s:=fun h=>h.act (by rw [put_size]; exact h.size) (by rw [put_defers]) (fun k hk=>by
    rw [getD_put (by rw [h.size]; decide),if_neg (fun e=>by subst e; simp [vs69] at hk)])
  rcases hout with ⟨rfl,rfl,rfl⟩ | ⟨ver,hne,rfl,rfl⟩
  · have hes:es = []:=List.length_eq_zero_iff.1 (by rw [← hpm.length_eq]; rfl)
    subst hes
    obtain ⟨p,rfl⟩:∃ p,c = .slice p 0 0:=by
      cases h6 with
      | @lit p n _ h =>
        cases h with
        | nil=>exact ⟨_,rfl⟩
        | sl cs hn _ _ _ _ _=>simp at hn; subst hn; exact ⟨_,rfl⟩
    refine ops_calls (args:=#[.slice p 0 0,.func (.func 118) #[] #[]]) rfl rfl rfl rfl ok117 rfl hargs ((show Calls TP 117 _ _ _ from AnyF.slices_SortFunc_none Tryz.sortT p 0 (.func (.func 118) #[] #[]) w).mono fun e w' he=>?_)
    obtain ⟨rfl,rfl⟩:=he
    refine ⟨_,rfl,hQ _ _ ⟨g,ents,.lit [],[],hput hb1,hr,by simp [canon,isort],fun l hl=>by simp [arsA] at hl⟩⟩
  · have hdd:=distinct_perm hpm.symm hd
    have hokd:∀ e ∈ done,E.Ok e:=fun e he=>hok e (hpm.subset he)
    have hcall:=sort_call (hb.cd hcd) hb.far.st hokd hdd hne (by rw [hpm.length_eq]; exact hlen) h6
    refine ops_calls (args:=#[c,.func (.func 118) #[] #[]]) rfl rfl rfl rfl ok117 rfl hargs (hcall.mono fun e w' he=>?_)
    obtain ⟨rfl,so,k1,k2,k3,k4⟩:=he
    have hso:so = isort es:=sorted_one hok hd (k1.trans hpm) k2
    subst hso
    have hb2:=hb1.evo (a':=a.put (some 40) c) k3 k4 hb1.size (hb1.dfr.evo k3) ⟨fun t v ht=>(by cases ht),fun t v ht=>k3.rep _ _ (hb1.env.env t v ht)⟩ hb1.fr
    refine ⟨_,rfl,hQ _ _ ⟨g,ents,.ar 0 ver 0 done.length,_,hput hb2,hr.evo k3,?_,fun l hl=>by simpa [arsA] using hl⟩⟩
    have hl:((isort es).map E.row).length = done.length:=by rw [List.length_map,k1.length_eq]
    rw [canon_ar]
    simp only [rowsOf,List.getElem?_cons_zero]
    simp [seen,← hl]
    exact List.take_of_length_le (by rw [List.length_map]; omega)
def P4 (m ck:Nat) (w0:World) (g0:Gh) (es:List E) (a:Act) (w:World):Prop :=
  ∃ g ents,BW m w0 g0 43 vs69 ents ck a w g ⟨[(2,.p (.sl ((isort es).map E.row))),(3,int 0)],[]⟩∧EntsR w g ents es
theorem tail4 (hcd:g0.cd = CD TP knT) {Q:Exit→Act→World→Prop} (hp:P3 m ck w0 g0 es a w) (hQ:∀ a w,P4 m ck w0 g0 es a w→Q .ret a w):(Code.seq r14 .ret).wpIn (FR none) 0 TP Q a w:=by
  obtain ⟨g,ents,out,H,hb,hr,hcn,hars⟩:=hp
  have hx:exec X0 Gam s14 ⟨[(0,mpv m),(6,out)],H⟩ = some (.normal,⟨[(0,mpv m),(6,out),(2,out),(3,int 0)],H⟩):=exec_of (by unfold s14; simp [EV,evOp,upd])
  refine wpIn_seq (hb.code hcd cp14 (parts0.2.1 _ _ _ hx) fun e a' w' g' x v h=>?_)
  have he:e = .normal:=by cases e <;> first | rfl | exact x.elim
  subst he
  show Code.wpIn _ _ _ _ _ _ _
  refine wpIn_ret (hQ a' w' ?_)
  obtain ⟨g1,e1,s1⟩:=evo_freeze [0] h.far.st
  have h2:Rep w' g1 (freeze H [0]) (a'.tmps.getD 2 undef) (.p (.sl ((isort es).map E.row))):=canon_rep e1 (h.env.env 2 _ rfl) hcn hars
  have h3:a'.tmps.getD 3 undef = .int .i64 0:=(h.env.env 3 _ rfl).val.1
  have hb2:=h.evo (a':=a') (env':=[]) e1 s1 h.size (h.dfr.evo e1) ⟨fun t v ht=>(by cases ht),fun t v ht=>(by cases ht)⟩ ⟨fun t v ht=>(by cases ht),fun t v ht=>(by cases ht)⟩
  refine ⟨g1,ents,hb2.drop fun t v hv=>?_,(hr.evo v).evo e1⟩
  simp only [lk] at hv
  split at hv
  · rename_i e; subst e; cases hv; exact ⟨by simp [vs69],h2.bare (by simp [refs])⟩
  · split at hv
    · rename_i e; subst e; cases hv; exact ⟨by simp [vs69],by rw [h3]; exact .p (.v rfl)⟩
    · cases hv
end
end Go.Proofs.YtepbfecmageleaaGreatDoor
namespace Go.Proofs.YtepbfecmageleaaGreatDoor
set_option maxRecDepth 100000
open Go
variable [Sub]
def E.ent (e:E):Value×AV:=(e.kv,e.av)
theorem av_refs {e:E}:refs e.av = []:=by unfold E.av; simp [refs,refsL]
section
variable {m ck:Nat} {w0 w:World} {g0 g:Gh} {ents:Array MapEntry} {a:Act} {es0:List E}
theorem body69 (hcd:g0.cd = CD TP knT) (hb:BW m w0 g0 43 vs69 ents ck a w g ⟨[(0,mpv m)],[]⟩) (hr:EntsR w g ents es0) (hok:∀ e ∈ es0,E.Ok e) (hd:Distinct es0) (hlen:(es0.filter E.nz).length ≤ 2048) :
    collectCode.wpIn (FR none) 0 TP (fun e a w=>e = .ret∧P4 m ck w0 g0 (es0.filter E.nz) a w) a w:=by
  have hok1:∀ e ∈ es0.filter E.nz,E.Ok e:=fun e he=>hok e (List.mem_filter.1 he).1
  have hnz1:∀ e ∈ es0.filter E.nz,e.nz = true:=fun e he=>(List.mem_filter.1 he).2
  have hd1:Distinct (es0.filter E.nz):=hd.sublist (List.filter_sublist ..)
  refine wpIn_seq (start0 hcd hb hr fun a1 w1 g1 hb1 hr1=>?_)
  show Code.wpIn _ _ _ _ _ _ _
  refine wpIn_seq (part1 hcd hb1 hr1 hok hd fun a2 w2 hp2=>?_)
  show Code.wpIn _ _ _ _ _ _ _
  obtain ⟨g2,ents2,hb2,hr2⟩:=hp2
  refine wpIn_seq (lens hb2 hr2 hlen fun a3 hb3=>?_)
  show Code.wpIn _ _ _ _ _ _ _
  have hx:exec X0 Gam s8 ⟨[(0,mpv m)],[]⟩ = some (.normal,⟨[(0,mpv m),(6,.lit [])],[]⟩):=exec_of (by unfold s8; simp [EV,evOp,upd])
  refine wpIn_seq (hb3.code hcd cp8 (parts0.2.1 _ _ _ hx) fun e a4 w4 g4 x v hb4=>?_)
  have he:e = .normal:=by cases e <;> first | rfl | exact x.elim
  subst he
  show Code.wpIn _ _ _ _ _ _ _
  refine wpIn_seq (part2 hcd hb4 (hr2.evo v) hok1 hnz1 hlen fun a5 w5 hp5=>?_)
  show Code.wpIn _ _ _ _ _ _ _
  refine wpIn_seq (sorted3 hcd hok1 hd1 hlen hp5 fun a6 w6 hp6=>?_)
  show Code.wpIn _ _ _ _ _ _ _
  exact tail4 hcd hp6 fun a7 w7 hp7=>⟨rfl,hp7⟩
end
theorem collect_sim {es0:List E} (hok:∀ e ∈ es0,E.Ok e) (hd:Distinct es0) (hlen:(es0.filter E.nz).length ≤ 2048) :
    CallSim TP knT 69 [.map 0] [.map (es0.map E.ent)] (.tup [.p (.sl ((isort (es0.filter E.nz)).map E.row)),int 0],[.map ((es0.filter E.nz).map E.ent)]):=by
  intro w g cs hcd hs hargs
  obtain ⟨ents,ck,⟨hm,hbo⟩,hsz,hents⟩:=hs.objs 0 _ rfl
  have hr:EntsR w g ents es0:=⟨by simpa using hsz,fun i me e h1 h2=>by
    obtain ⟨q1,q2⟩:=hents i me e.ent h1 (by simp [h2])
    exact ⟨q1,q2.bare av_refs⟩⟩
  have hmlt:g.blk 0 < w.heap.size:=IsBlk.lt hs (by simp)
  have hcs:cs = #[.map (some (g.blk 0))]:=by
    have hl:cs.size = 1:=hargs.1
    obtain ⟨c,rfl⟩:∃ c,cs = #[c]:=⟨cs[0],by
      apply Array.ext
      · simp [hl]
      · intro i h1 h2
        have:i = 0:=by omega
        subst this
        rfl⟩
    have:=hargs.2 0 c (.map 0) rfl rfl
    cases this with
    | map h=>rfl
  subst hcs
  have hget0:((#[Value.map (some (g.blk 0))]:Array Value)++Array.replicate (fn69.ntmps - (#[Value.map (some (g.blk 0))]:Array Value).size) undef).getD 0 undef = .map (some (g.blk 0)):=by
    rw [Array.getD_eq_getD_getElem?,Array.getElem?_append_left (by simp)]
    rfl
  have hb:BW (g.blk 0) w g 43 vs69 ents ck { tmps:=(#[Value.map (some (g.blk 0))]:Array Value)++Array.replicate (fn69.ntmps - (#[Value.map (some (g.blk 0))]:Array Value).size) undef,defers:=[] } w g ⟨[(0,mpv (g.blk 0))],[]⟩:=by
    refine ⟨Far.start hs,by simp [fn69_nt],.nil,hm,fun i=>no_own _ i,fun i=>hs.stand 0 _ rfl i,hmlt,hbo,⟨fun t v h=>(by cases h),fun t v hv=>?_⟩,⟨fun t v h=>(by cases h),fun t v hv=>?_⟩⟩
    · simp only [lk] at hv
      split at hv
      · rename_i e; subst e; cases hv; show Rep w g [] (Array.getD _ 0 undef) _; rw [hget0]; exact .p (.v rfl)
      · cases hv
    · simp only [lk] at hv
      split at hv
      · rename_i e; subst e; simp [vs69]
      · cases hv
  refine callsIn_wide.1 (callsIn_of_wp_marks (F:=FR none) (n:=0) fn69_at fn69_body trivial (wpIn_mono (body69 hcd hb hr hok hd hlen) fun e a' w' hq=>?_))
  obtain ⟨rfl,g',ents',hb',hr'⟩:=hq
  obtain ⟨ev,st⟩:=hb'.far.done (es':=(es0.filter E.nz).map E.ent) hs hb'.mp hb'.bo (by rw [List.length_map]; exact hr'.1) (fun i me p h1 h2=>by
    rw [List.getElem?_map,Option.map_eq_some_iff] at h2
    obtain ⟨e,he,rfl⟩:=h2
    exact hr'.2 i me e h1 he)
  obtain ⟨bs,d1,d2,d3⟩:=hb'.dfr
  show LeavesInM (FR none) 0 TP fn69 a'.tmps _ a'.defers .returning w'
  rw [d1]
  refine leaves_marks ev st (fun _ _ h=>h) d2 (fun c hc=>⟨(d3 c hc).1,(d3 c hc).2.1,fun i ho=>?_⟩) fun w'' q1 q2 qr=>?_
  · obtain ⟨⟨l,hl,hbl⟩,_⟩:=ho
    have hl0:l = 0:=by simpa using hl
    subst hl0
    have:=(d3 c hc).1
    have hbl':g.blk 0 = c:=hbl
    omega
  · have h2:Rep w'' { g with D:=g'.D } [.map ((es0.filter E.nz).map E.ent)] (a'.tmps.getD 2 undef) (.p (.sl ((isort (es0.filter E.nz)).map E.row))):=qr _ _ (Rep.lift (g:=g') (g2:={ g with D:=g'.D }) rfl (hb'.env.env 2 _ rfl))
    have h3:Rep w'' { g with D:=g'.D } [.map ((es0.filter E.nz).map E.ent)] (a'.tmps.getD 3 undef) (int 0):=qr _ _ (Rep.lift (g:=g') (g2:={ g with D:=g'.D }) rfl (hb'.env.env 3 _ rfl))
    refine ⟨.tuple #[a'.tmps.getD 2 undef,a'.tmps.getD 3 undef],?_,_,_,rfl,q1,q2,.tup rfl fun i c x hc hx=>?_⟩
    · rw [results_eq,fn69_res]
      simp [resV]
    · match i with
      | 0=>simp at hc hx; subst hc; subst hx; simpa using h2
      | 1=>simp at hc hx; subst hc; subst hx; simpa using h3
      | i + 2=>simp at hc
end Go.Proofs.YtepbfecmageleaaGreatDoor
namespace Go.Proofs.YtepbfecmageleaaGreatDoor
open Go
theorem asU8_some {v:Value} {n:Nat} (h:asU8 v = some n):v = .int .u8 n∧n < 256:=by
  unfold asU8 at h
  split at h
  · split at h
    · rename_i hle
      cases h
      exact ⟨rfl,Nat.lt_succ_of_le (Nat.le_of_ble_eq_true hle)⟩
    · cases h
  · cases h
theorem asExp_some:∀ {l:List Value} {x:List Nat},asExp l = some x→l = x.map (fun (n:Nat)=>Value.int .u8 n)∧∀ n ∈ x,n < 256
  | [],x,h=>by cases h; exact ⟨rfl,fun n h=>by cases h⟩
  | v::l,x,h=>by
    simp only [asExp,Option.bind_eq_some_iff,Option.map_eq_some_iff] at h
    obtain ⟨n,hn,x',hx,rfl⟩:=h
    obtain ⟨h1,h2⟩:=asU8_some hn
    obtain ⟨h3,h4⟩:=asExp_some hx
    refine ⟨by rw [h1,h3]; rfl,fun k hk=>?_⟩
    rcases List.mem_cons.1 hk with rfl | hk
    · exact h2
    · exact h4 k hk
theorem oneAll_some:∀ {l:List (List PV)},oneAll l = true→∀ r ∈ l,r.length = 1
  | [],_,r,hr=>by cases hr
  | [x]::l,h,r,hr=>by
    rcases List.mem_cons.1 hr with rfl | hr
    · rfl
    · exact oneAll_some (by simpa [oneAll] using h) r hr
  | []::l,h,_,_=>by simp [oneAll] at h
  | (_::_::_)::l,h,_,_=>by simp [oneAll] at h
theorem magB_some {m:PV} (h:magB m = true):m = .nsl∨∃ rows,m = .sl rows∧(∀ r ∈ rows,r.length = 1)∧rows.length ≤ 1000000:=by
  unfold magB at h
  split at h
  · exact .inl rfl
  · simp only [Bool.and_eq_true] at h
    exact .inr ⟨_,rfl,oneAll_some h.1,Nat.le_of_ble_eq_true h.2⟩
  · cases h
theorem asE_some {p:Value×AV} {e:E} (h:asE p = some e):e.Ok∧p = (e.kv,e.av):=by
  unfold asE at h
  split at h
  · rename_i k b m
    simp only [Option.bind_eq_some_iff] at h
    obtain ⟨x,hx,h⟩:=h
    split at h
    · rename_i hc
      simp only [Bool.and_eq_true] at hc
      cases h
      obtain ⟨h1,h2⟩:=asExp_some hx
      refine ⟨⟨Nat.eq_of_beq_eq_true hc.1,h2,magB_some hc.2⟩,?_⟩
      unfold E.kv E.av
      rw [← h1]
    · cases h
  · cases h
theorem asEs_some:∀ {l:List (Value×AV)} {es:List E},asEs l = some es→(∀ e ∈ es,E.Ok e)∧l = es.map fun e=>(e.kv,e.av)
  | [],es,h=>by cases h; exact ⟨fun e h=>(by cases h),rfl⟩
  | p::l,es,h=>by
    simp only [asEs,Option.bind_eq_some_iff,Option.map_eq_some_iff] at h
    obtain ⟨e,he,es',hes,rfl⟩:=h
    obtain ⟨h1,h2⟩:=asE_some he
    obtain ⟨h3,h4⟩:=asEs_some hes
    refine ⟨fun k hk=>?_,by rw [h2,h4]; rfl⟩
    rcases List.mem_cons.1 hk with rfl | hk
    · exact h1
    · exact h3 k hk
theorem ltE_some {a b:E} (h:ltE a b = true):ordE 32 a.x b.x < 0:=by
  unfold ltE at h
  split at h
  · rename_i n hn; rw [hn]; exact Int.negSucc_lt_zero n
  · cases h
theorem strictB_some:∀ {l:List E},strictB l = true→l.Pairwise fun a b=>ordE 32 a.x b.x < 0
  | [],_=>.nil
  | [a],_=>by simp
  | a::b::l,h=>by
    simp only [strictB,Bool.and_eq_true] at h
    have h1:=ltE_some h.1
    have h2:=strictB_some h.2
    refine List.pairwise_cons.2 ⟨fun y hy=>?_,h2⟩
    rcases List.mem_cons.1 hy with rfl | hy
    · exact h1
    · exact ordE_trans.1 h1 (by have:=(List.pairwise_cons.1 h2).1 y hy; omega)
theorem collect_ok [Sub]:RuleOk TP knT collectX:=by
  intro f args H r h
  unfold collectX at h
  split at h
  · rename_i hf
    have:=Nat.eq_of_beq_eq_true hf
    subst this
    split at h
    · rename_i es
      simp only [collectR,Option.bind_eq_some_iff] at h
      obtain ⟨l,hl,h⟩:=h
      split at h
      · rename_i hc
        simp only [Bool.and_eq_true] at hc
        obtain ⟨hok,rfl⟩:=asEs_some hl
        have hst:=strictB_some hc.1
        have hd:Distinct l:=distinct_perm isort_perm (hst.imp fun {a b} h e=>by rw [e,ordE_self] at h; omega)
        have hlen:=Nat.le_of_ble_eq_true hc.2
        have hsim:=collect_sim hok hd hlen
        have hso:(isort l).filter E.nz = isort (l.filter E.nz):=sorted_one (fun e he=>hok e (List.mem_filter.1 he).1) (hd.sublist (List.filter_sublist ..)) (isort_perm.filter _) (isort_pw.sublist (List.filter_sublist ..))
        cases h
        rw [hso]
        exact hsim
      · cases h
    · cases h
  · cases h
end Go.Proofs.YtepbfecmageleaaGreatDoor

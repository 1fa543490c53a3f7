/- Part of the proof of Rows.ProverMiddlesCardSaid: EvX, EvX2, EvY, EvZ. -/
import Derived.Test.YtepbfecmageleaaGreatDoorP10
set_option linter.all false
namespace Go.Proofs.YtepbfecmageleaaGreatDoor
open Go
variable [Sub]
def ExitRel:SExit→Exit→Prop
  | .normal,.normal=>True
  | .exit i,.exit j=>i = j
  | .ret,.ret=>True
  | _,_=>False
def mark (b:Nat):Deferred:={ target:=.collected b,args:=#[] }
def Marks (n0:Nat) (w:World) (g:Gh) (H:List Obj) (l:List Deferred):Prop :=
  ∃ bs:List Nat,l = bs.map mark∧bs.Nodup∧∀ b ∈ bs,n0 ≤ b∧w.heap[b]? = some (.deferred (some []))∧∀ i,¬ OwnAny g H b i
theorem Marks.nil {n0:Nat} {w:World} {g:Gh} {H:List Obj}:Marks n0 w g H []:=⟨[],rfl,List.nodup_nil,fun b h=>by cases h⟩
theorem unowned_evo {w w':World} {g g':Gh} {H H':List Obj} {b:Nat} {o:Go.Obj} (hv:Evo w g H w' g' H') (hb:w.heap[b]? = some o) (hn:∀ i,¬ OwnAny g H b i):w'.heap[b]? = some o∧∀ i,¬ OwnAny g' H' b i:=by
  have hlt:b < w.heap.size:=(Array.getElem?_eq_some_iff.1 hb).1
  refine ⟨by rw [hv.keep.same hlt hn]; exact hb,fun i ho=>?_⟩
  rcases hv.own b i ho with h | h
  · exact hn i h
  · omega
theorem Marks.evo {n0:Nat} {w w':World} {g g':Gh} {H H':List Obj} {l:List Deferred} (h:Marks n0 w g H l) (hv:Evo w g H w' g' H'):Marks n0 w' g' H' l:=by
  obtain ⟨bs,h1,h2,h3⟩:=h
  exact ⟨bs,h1,h2,fun b hb=>⟨(h3 b hb).1,unowned_evo hv (h3 b hb).2.1 (h3 b hb).2.2⟩⟩
def PostX (n0:Nat) (vars:List Nat) (w:World) (g:Gh) (H:List Obj) (a:Act) (r:SExit×St):Exit→Act→World→Prop:=fun e a' w' =>
  ExitRel r.1 e∧∃ g',Evo w g H w' g' r.2.H∧StRel w' g' r.2.H∧EnvRel w' g' r.2.H a'.tmps ⟨[],r.2.env⟩∧FrOk vars ⟨[],r.2.env⟩∧Marks n0 w' g' r.2.H a'.defers∧a'.tmps.size = a.tmps.size
structure Pre (P:Program) (kn:TypeId→Bool) (n0:Nat) (r0:Option Nat) (nt:Nat) (vars:List Nat) (a:Act) (w:World) (g:Gh) (s:St):Prop where
  env:EnvRel w g s.H a.tmps ⟨[],s.env⟩
  fr:FrOk vars ⟨[],s.env⟩
  size:nt ≤ a.tmps.size
  st:StRel w g s.H
  cd:g.cd = CD P kn
  mks:Marks n0 w g s.H a.defers
  nle:n0 ≤ w.heap.size
  rd:∀ l0,r0 = some l0→∃ l,Rep w g s.H (.func (.yield l0) #[] #[]) (.yld l)
theorem PostX.pre {P:Program} {kn:TypeId→Bool} {n0:Nat} {r0:Option Nat} {nt:Nat} {vars:List Nat} {a a':Act} {w w':World} {g:Gh} {s:St} {r:SExit×St} {e:Exit} (h:PostX n0 vars w g s.H a r e a' w') (hp:Pre P kn n0 r0 nt vars a w g s) :
    ∃ g',Evo w g s.H w' g' r.2.H∧Pre P kn n0 r0 nt vars a' w' g' r.2∧a'.tmps.size = a.tmps.size:=by
  obtain ⟨_,g',h1,h2,h3,h4,h5,h6⟩:=h
  exact ⟨g',h1,⟨h3,h4,by rw [h6]; exact hp.size,h2,h1.cd.trans hp.cd,h5,Nat.le_trans hp.nle h1.keep.2.2.2.1,fun l0 hl=>let ⟨l,hr⟩:=hp.rd l0 hl; ⟨l,h1.rep _ _ hr⟩⟩,h6⟩
theorem PostX.trans {n0:Nat} {vars:List Nat} {a a' a'':Act} {w w' w'':World} {g g':Gh} {H H':List Obj} {r:SExit×St} {e:Exit} (hv:Evo w g H w' g' H') (hs:a'.tmps.size = a.tmps.size)
    (h:PostX n0 vars w' g' H' a' r e a'' w''):PostX n0 vars w g H a r e a'' w'':=by
  obtain ⟨h0,g2,h1,h2,h3,h4,h5,h6⟩:=h
  exact ⟨h0,g2,hv.trans h1,h2,h3,h4,h5,h6.trans hs⟩
section
variable {P:Program} {kn:TypeId→Bool}
inductive CompI (P:Program) (kn:TypeId→Bool) (lone:FuncId→Bool) (nt:Nat) (vars:List Nat):Code→SCode→Prop
  | skip:CompI P kn lone nt vars .skip .skip
  | region {id:Nat} {ops:Array Oper} {sos:List SO} (h:compOps P kn nt vars ops ops.toList [] = some sos):CompI P kn lone nt vars (.region id ops false) (.region sos)
  | draw {id:Nat} {ops:Array Oper} {sos:List SO} {ds:List DO} (h:compOps P kn nt vars ops ops.toList [] = some sos) (hd:compDraw lone ops sos = some ds):CompI P kn lone nt vars (.region id ops true) (.draw ds)
  | still {id:Nat} {ops:Array Oper} {sos:List SO} {ds:List DO} {ns:List Nat} (h:compOps P kn nt vars ops ops.toList [] = some sos) (hd:compDraw lone ops sos = some ds):CompI P kn lone nt vars (.region id ops true) (.still ns (.draw ds))
  | seq {a b:Code} {a' b':SCode} (ha:comp P kn lone nt vars a = some a') (hb:comp P kn lone nt vars b = some b'):CompI P kn lone nt vars (.seq a b) (.seq a' b')
  | cond {c:Operand} {c':SA} {a b:Code} {a' b':SCode} (hc:compArg [] false c = some c') (ha:comp P kn lone nt vars a = some a') (hb:comp P kn lone nt vars b = some b'):CompI P kn lone nt vars (.cond c a b) (.cond c' a' b')
  | block {id:Nat} {b:Code} {b':SCode} (hb:comp P kn lone nt vars b = some b'):CompI P kn lone nt vars (.block id b) (.block id b')
  | loop {b:Code} {b':SCode} (hb:comp P kn lone nt vars b = some b'):CompI P kn lone nt vars (.loop b) (.loop b')
  | exit {id:Nat}:CompI P kn lone nt vars (.exit id) (.exit id)
  | ret:CompI P kn lone nt vars .ret .ret
  | bad {c:Code}:CompI P kn lone nt vars c .refuse
  | range {f:Operand} {f':SA} {ps:Array Tmp} {a b:Code} {a' b':SCode} (hps:∀ p ∈ ps.toList,p ∈ vars∧p < nt) (hf:compArg [] false f = some f') (ha:comp P kn lone nt vars a = some a') (hb:comp P kn lone nt vars b = some b') :
      CompI P kn lone nt vars (.rangeFunc f ps a b) (.range f' ps.toList a' b')
theorem comp_inv {lone:FuncId→Bool} {nt:Nat} {vars:List Nat} {code:Code} {c:SCode} (h:comp P kn lone nt vars code = some c):CompI P kn lone nt vars code c:=by
  cases code with
  | skip=>simp only [comp,Option.some.injEq] at h; subst h; exact .skip
  | exit id=>simp only [comp,Option.some.injEq] at h; subst h; exact .exit
  | ret=>simp only [comp,Option.some.injEq] at h; subst h; exact .ret
  | region id ops draw =>
    simp only [comp,Option.some.injEq] at h
    cases h1:compOps P kn nt vars ops ops.toList [] with
    | none=>rw [h1] at h; simp at h; subst h; exact .bad
    | some sos =>
      rw [h1] at h
      cases draw with
      | true =>
        cases h3:compDraw lone ops sos with
        | none=>simp [h3] at h; subst h; exact .bad
        | some ds =>
          simp [h3] at h
          split at h
          · subst h; exact .draw h1 h3
          · subst h; exact .still h1 h3
      | false=>simp at h; subst h; exact .region h1
  | seq a b =>
    simp only [comp,Option.bind_eq_some_iff,Option.map_eq_some_iff] at h
    obtain ⟨a',ha,b',hb,rfl⟩:=h
    exact .seq ha hb
  | cond c a b =>
    simp only [comp,Option.bind_eq_some_iff,Option.map_eq_some_iff] at h
    obtain ⟨c',hc,a',ha,b',hb,rfl⟩:=h
    exact .cond hc ha hb
  | block id b =>
    simp only [comp,Option.map_eq_some_iff] at h
    obtain ⟨b',hb,rfl⟩:=h
    exact .block hb
  | loop b =>
    simp only [comp,Option.map_eq_some_iff] at h
    obtain ⟨b',hb,rfl⟩:=h
    exact .loop hb
  | rangeFunc f ps a b =>
    simp only [comp] at h
    split at h
    · rename_i hps
      simp only [Option.bind_eq_some_iff,Option.map_eq_some_iff] at h
      obtain ⟨f',hf,a',ha,b',hb,rfl⟩:=h
      refine .range (fun p hp=>?_) hf ha hb
      have:=List.all_eq_true.1 hps p hp
      simpa using this
    · cases h
  | _=>simp only [comp,Option.some.injEq] at h; subst h; exact .bad
end
def ExecM (P:Program) (kn:TypeId→Bool) (c:SCode) (s:St) (r:SExit×St):Prop :=
  ∀ (n0:Nat) (r0:Option Nat) (lone:FuncId→Bool) (nt:Nat) (vars:List Nat) (code:Code),CompI P kn lone nt vars code c→∀ (a:Act) (w:World) (g:Gh),Pre P kn n0 r0 nt vars a w g s→code.wpIn (FR r0) 0 P (PostX n0 vars w g s.H a r) a w
def LoopWp (r0:Option Nat) (P:Program) (c:Code) (Q:Exit→Act→World→Prop) (a:Act) (w:World):Prop :=
  ∀ (b:Frame) (k:List Item) (cs:List Frame),b.roundOf = r0→∃ e a' w',Q e a' w'∧ArrivesIn (Machine.fenced P (FR r0)) P (lone (b.atR a (.code c::.inLoop c::k)) cs w) b k cs e a' w'
theorem FR_room {r0:Option Nat} {n:Nat}:(FR r0).room n:=fun _ h=>by cases h
theorem LoopWp.wp {r0:Option Nat} {P:Program} {c:Code} {Q:Exit→Act→World→Prop} {a:Act} {w:World} (h:LoopWp r0 P c Q a w):(Code.loop c).wpIn (FR r0) 0 P Q a w:=fun b k cs hro hb hr =>
  let ⟨e,a',w',q,r⟩:=h b k cs hro; ⟨e,a',w',q,.of_steps (.one (fenced_calm hb hr rfl) stepR_loop) r⟩
theorem LoopWp.round {r0:Option Nat} {P:Program} {c:Code} {Q:Exit→Act→World→Prop} {a:Act} {w:World} (h:c.wpIn (FR r0) 0 P (Exit.then (LoopWp r0 P c Q) Q) a w):LoopWp r0 P c Q a w:=by
  intro b k cs hro
  have hb:(FR r0).fn b.fn:=trivial
  have hr:(FR r0).room (cs.length + 1 + 0):=FR_room
  obtain ⟨e,a₁,w₁,hq,harr⟩:=h b (.inLoop c::k) cs hro hb hr
  cases e with
  | normal =>
    obtain ⟨e₂,a₂,w₂,hq₂,harr₂⟩:=hq b k cs hro
    exact ⟨e₂,a₂,w₂,hq₂,.of_steps (StepsIn.trans harr (.one (fenced_calm hb hr rfl) stepR_inLoop)) harr₂⟩
  | exit id=>exact ⟨_,a₁,w₁,hq,.pass (x:=.inLoop c) rfl (fun _ _=>.inl (by simp)) harr⟩
  | goto l=>exact ⟨_,a₁,w₁,hq,.pass (x:=.inLoop c) rfl (fun _ _=>.inl (by simp)) harr⟩
  | ret=>exact ⟨_,a₁,w₁,hq,.pass (x:=.inLoop c) rfl (fun _ _=>.inl (by simp)) harr⟩
  | panic ch=>exact ⟨_,a₁,w₁,hq,.pass (x:=.inLoop c) rfl (fun _ _=>.inl (by simp)) harr⟩
  | outgrown=>exact ⟨_,a₁,w₁,hq,.pass (x:=.inLoop c) rfl (fun _ _=>.inl (by simp)) harr⟩
theorem LoopWp.mono {r0:Option Nat} {P:Program} {c:Code} {Q Q':Exit→Act→World→Prop} {a:Act} {w:World} (h:LoopWp r0 P c Q a w) (hq:∀ e a w,Q e a w→Q' e a w):LoopWp r0 P c Q' a w :=
  fun b k cs hro=>let ⟨e,a',w',q,r⟩:=h b k cs hro; ⟨e,a',w',hq _ _ _ q,r⟩
def LoopM (P:Program) (kn:TypeId→Bool) (c:SCode) (s:St) (r:SExit×St):Prop :=
  ∀ (n0:Nat) (r0:Option Nat) (lone:FuncId→Bool) (nt:Nat) (vars:List Nat) (code:Code),CompI P kn lone nt vars code c→∀ (a:Act) (w:World) (g:Gh),Pre P kn n0 r0 nt vars a w g s→LoopWp r0 P code (PostX n0 vars w g s.H a r) a w
def DrawM (P:Program) (kn:TypeId→Bool) (ops:List DO) (s:St) (s':St):Prop :=
  ∀ (n0:Nat) (r0:Option Nat) (lone:FuncId→Bool) (nt:Nat) (vars:List Nat) (code:Code),CompI P kn lone nt vars code (.draw ops)→∀ (a:Act) (w:World) (g:Gh),Pre P kn n0 r0 nt vars a w g s→code.wpIn (FR r0) 0 P (PostX n0 vars w g s.H a (.normal,s')) a w
section
variable {P:Program} {kn:TypeId→Bool}
theorem exec_skip {s:St}:ExecM P kn .skip s (.normal,s):=by
  intro n0 r0 lone nt vars code hc a w g hp
  cases hc with
  | skip=>exact wpIn_skip ⟨trivial,g,.refl _ _ _,hp.st,hp.env,hp.fr,hp.mks,rfl⟩
theorem exec_region {sos:List SO} {s s':St} (h:OpsM P kn sos ⟨[],s.env⟩ s.H s'):ExecM P kn (.region sos) s (.normal,s'):=by
  intro n0 r0 lone nt vars code hc a w g hp
  cases hc with
  | @region id ops _ hops =>
  refine wpIn_region ?_
  have:=h nt vars ops ops.toList [] 0 hops (fun j hj=>by simp) a w g r0 (PostX n0 vars w g s.H a (.normal,s')) hp.env hp.fr hp.size hp.cd hp.st
    (fun a' w' g' q1 q2 q3 q4 q5 q6=>⟨trivial,g',q1,q2,q3,q4,by rw [q5]; exact hp.mks.evo q1,q6⟩)
  rw [List.range_eq_range']
  simpa using this
theorem exec_exit {id:Nat} {s:St}:ExecM P kn (.exit id) s (.exit id,s):=by
  intro n0 r0 lone nt vars code hc a w g hp
  cases hc with
  | exit=>exact wpIn_exit ⟨rfl,g,.refl _ _ _,hp.st,hp.env,hp.fr,hp.mks,rfl⟩
theorem exec_ret {s:St}:ExecM P kn .ret s (.ret,s):=by
  intro n0 r0 lone nt vars code hc a w g hp
  cases hc with
  | ret=>exact wpIn_ret ⟨trivial,g,.refl _ _ _,hp.st,hp.env,hp.fr,hp.mks,rfl⟩
theorem exec_draw {ops:List DO} {s s':St} (h:DrawM P kn ops s s'):ExecM P kn (.draw ops) s (.normal,s'):=h
theorem stillV_rep {w:World} {g:Gh} {H:List Obj} {c:Value} {v:AV} (h:Rep w g H c v):Rep w g H c (stillV H v):=by
  cases v with
  | ar l v off len =>
    simp only [stillV]
    split
    · rename_i es f ver rows hH
      split
      · rename_i hcond
        obtain ⟨p,cap,rfl,hA⟩:=h.ar_inv
        obtain ⟨_,_,es2,fz2,ver2,rows2,hH2,_,_,hf⟩:=hA
        rw [hH] at hH2
        cases hH2
        exact .p (hf (by simpa [seen] using hcond.1)).1
      · exact h
    · exact h
  | _=>exact h
theorem lk_still {ns:List Nat} {H:List Obj}:∀ {env:Env} {n:Nat} {v:AV},lk (stillE ns H env) n = some v→∃ u,lk env n = some u∧(v = u∨v = stillV H u)
  | [],n,v,h=>by cases h
  | (m,u)::env,n,v,h=>by
    simp only [stillE,List.map_cons,lk] at h ⊢
    split at h
    · rename_i hm
      rw [if_pos hm]
      refine ⟨u,rfl,?_⟩
      simp only [Option.some.injEq] at h
      subst h
      split
      · exact .inr rfl
      · exact .inl rfl
    · rename_i hm
      rw [if_neg hm]
      exact lk_still h
theorem exec_still {ns:List Nat} {c:SCode} {s:St} {r:SExit×St} (h:ExecM P kn c (stillS ns s) r):ExecM P kn (.still ns c) s r:=by
  intro n0 r0 lone nt vars code hc a w g hp
  cases hc with
  | still h1 hd =>
    obtain ⟨g1,e1,s1⟩:=evo_freeze (stillArs ns s.env) hp.st
    refine wpIn_mono (h n0 r0 lone nt vars _ (.draw h1 hd) a w g1 ⟨⟨fun t v h=>(by cases h),fun t v h=>?_⟩,⟨fun t v h=>(by cases h),fun t v h=>?_⟩,hp.size,s1,e1.cd.trans hp.cd,hp.mks.evo e1,hp.nle,fun l0 hl=>?_⟩) fun e a' w' q=>q.trans e1 rfl
    · obtain ⟨u,hu,hv⟩:=lk_still h
      have:=e1.rep _ _ (hp.env.env t u hu)
      rcases hv with rfl | rfl
      · exact this
      · exact stillV_rep this
    · obtain ⟨u,hu,_⟩:=lk_still h
      exact hp.fr.env t u hu
    · obtain ⟨l,hr⟩:=hp.rd l0 hl
      exact ⟨l,e1.rep _ _ hr⟩
theorem then_post {n0:Nat} {r0:Option Nat} {nt:Nat} {vars:List Nat} {a:Act} {w:World} {g:Gh} {s:St} {r r':SExit×St} {N:Act→World→Prop} {e:Exit} {a':Act} {w':World} (hq:PostX n0 vars w g s.H a r e a' w') (hp:Pre P kn n0 r0 nt vars a w g s)
    (hnormal:r.1 = .normal→∀ g',Evo w g s.H w' g' r.2.H→Pre P kn n0 r0 nt vars a' w' g' r.2→a'.tmps.size = a.tmps.size→N a' w') (hother:r.1 ≠ .normal→r' = r):Exit.then N (PostX n0 vars w g s.H a r') e a' w':=by
  obtain ⟨x,s1⟩:=r
  have h0:=hq.1
  obtain ⟨g',h1,h2,h3⟩:=hq.pre hp
  cases x with
  | normal=>cases e <;> first | (exact h0.elim) | exact hnormal rfl g' h1 h2 h3
  | exit i=>cases e <;> first | (exact h0.elim) | (rw [hother (by simp)]; exact hq)
  | ret=>cases e <;> first | (exact h0.elim) | (rw [hother (by simp)]; exact hq)
theorem exec_seq {x y:SCode} {s:St} {r1 r:SExit×St} (h1:ExecM P kn x s r1) (h2:(r1.1 = .normal∧ExecM P kn y r1.2 r)∨(r1.1 ≠ .normal∧r = r1)):ExecM P kn (.seq x y) s r:=by
  intro n0 r0 lone nt vars code hc a w g hp
  cases hc with
  | seq ha hb =>
    refine wpIn_seq (wpIn_mono (h1 n0 r0 lone nt vars _ (comp_inv ha) a w g hp) fun e a' w' hq=>then_post hq hp (fun hn g' k1 k2 k4=>?_) (fun hn=>?_))
    · rcases h2 with ⟨_,h2⟩ | ⟨h3,_⟩
      · exact wpIn_mono (h2 n0 r0 lone nt vars _ (comp_inv hb) a' w' g' k2) fun e a'' w'' q=>q.trans k1 k4
      · exact absurd hn h3
    · rcases h2 with ⟨h3,_⟩ | ⟨_,h3⟩
      · exact absurd h3 hn
      · exact h3
theorem exec_cond {c:SA} {x y:SCode} {s:St} {r:SExit×St} {t:Bool} (hev:ev ⟨[],s.env⟩ c = some (.p (.v (.bool t)))) (h:ExecM P kn (if t then x else y) s r):ExecM P kn (.cond c x y) s r:=by
  intro n0 r0 lone nt vars code hc a w g hp
  cases hc with
  | cond h0 ha hb =>
    have hv:=(arg_rep hp.env h0 hev).val.1
    refine wpIn_cond hv ?_
    cases t with
    | true=>exact h n0 r0 lone nt vars _ (comp_inv ha) a w g hp
    | false=>exact h n0 r0 lone nt vars _ (comp_inv hb) a w g hp
theorem exec_block {id:Nat} {x:SCode} {s:St} {r1 r:SExit×St} (h1:ExecM P kn x s r1) (h2:r = match r1.1 with | .exit i=>if i = id then (.normal,r1.2) else r1 | _=>r1):ExecM P kn (.block id x) s r:=by
  intro n0 r0 lone nt vars code hc a w g hp
  cases hc with
  | block hb =>
    refine wpIn_block (wpIn_mono (h1 n0 r0 lone nt vars _ (comp_inv hb) a w g hp) fun e a' w' hq=>?_)
    obtain ⟨x,s'⟩:=r1
    have h0:=hq.1
    cases x with
    | normal=>simp only at h2; subst h2; cases e <;> first | exact h0.elim | exact hq
    | ret=>simp only at h2; subst h2; cases e <;> first | exact h0.elim | exact hq
    | exit i =>
      cases e with
      | exit j =>
        have hij:i = j:=h0
        subst hij
        simp only at h2
        simp only [Exit.inBlock]
        split
        · rename_i he
          rw [if_pos he] at h2
          subst h2
          exact ⟨trivial,hq.2⟩
        · rename_i he
          rw [if_neg he] at h2
          subst h2
          exact hq
      | _=>exact h0.elim
theorem exec_loop {x:SCode} {s:St} {r1 r:SExit×St} (h1:ExecM P kn x s r1) (h2:(r1.1 = .normal∧LoopM P kn x r1.2 r)∨(r1.1 ≠ .normal∧r = r1)):LoopM P kn x s r:=by
  intro n0 r0 lone nt vars code hc a w g hp
  refine LoopWp.round (wpIn_mono (h1 n0 r0 lone nt vars _ hc a w g hp) fun e a' w' hq=>then_post hq hp (fun hn g' k1 k2 k4=>?_) (fun hn=>?_))
  · rcases h2 with ⟨_,h2⟩ | ⟨h3,_⟩
    · exact LoopWp.mono (h2 n0 r0 lone nt vars _ hc a' w' g' k2) fun e a'' w'' q=>q.trans k1 k4
    · exact absurd hn h3
  · rcases h2 with ⟨h3,_⟩ | ⟨_,h3⟩
    · exact absurd h3 hn
    · exact h3
theorem LoopM.exec {x:SCode} {s:St} {r:SExit×St} (h:LoopM P kn x s r):ExecM P kn (.loop x) s r:=by
  intro n0 r0 lone nt vars code hc a w g hp
  cases hc with
  | loop hb=>exact (h n0 r0 lone nt vars _ (comp_inv hb) a w g hp).wp
end
end Go.Proofs.YtepbfecmageleaaGreatDoor
namespace Go.Proofs.YtepbfecmageleaaGreatDoor
open Go
variable [Sub]
section
variable {P:Program} {kn:TypeId→Bool} {w w':World} {g g':Gh} {H H':List Obj}
theorem evo_push {ob:Go.Obj} (hp:Pushed w w' ob) (hs:StRel w g H):Evo w g H w' g H∧StRel w' g H:=by
  have hc:∀ b i,g.D b i→cellAt w' b i = cellAt w b i:=fun b i hd=>cellAt_heap (hp.old (hs.dom b i hd)) i
  have hr:∀ c a,Rep w g H c a→Rep w' g H c a:=fun c a h=>h.step (fun _ _ h=>h) hc (fun l o' hl=>.same rfl rfl rfl rfl)
  refine ⟨⟨fun _ _ h=>h,hc,hr,hp.keep _,fun _ _ h=>.inl h,fun _ _ h=>.inl h,rfl⟩,⟨fun l o' hl=>?_,hs.inj,hs.stand,fun b i hd=>by rw [hp.size]; have:=hs.dom b i hd; omega⟩⟩
  exact (hs.objs l o' hl).keep rfl rfl rfl (hp.old (IsBlk.lt hs (List.getElem?_eq_some_iff.1 hl).1)) (fun _ _ h=>h) hc hr
theorem evo_loop {l:Nat} {st st':LS} {env env':List (Nat×AV)} {ps ps':List Nat} {a b a' b':SCode} {r r':Go.Loop} (hs:StRel w g H) (hl:H[l]? = some (.loop st env ps a b)) (hh:w.heap[g.blk l]? = some (.loop r))
    (hrel:LoopRel w g H r' st' env' ps' a' b') :
    Evo w g H (w.putObj (g.blk l) (.loop r')) g (H.set l (.loop st' env' ps' a' b'))∧StRel (w.putObj (g.blk l) (.loop r')) g (H.set l (.loop st' env' ps' a' b')):=by
  have hlt:g.blk l < w.heap.size:=(Array.getElem?_eq_some_iff.1 hh).1
  have hst:∀ i,¬ g.D (g.blk l) i:=hs.stand l _ hl
  have hll:=(List.getElem?_eq_some_iff.1 hl).1
  refine evo_obj (Q:=fun _=>False) hs hl rfl rfl rfl (fun b i=>by simp) ⟨fun b hb=>World.putObj_heap_other hb,World.putObj_size,rfl,rfl,⟨rfl,Nat.le_refl _⟩,fun vs e f h=>(by rw [hh] at h; cases h),fun _=>hst⟩
    (.loop hl (List.getElem?_set_self hll) rfl) (fun hr=>⟨r',World.putObj_heap_same hlt,hrel.keep rfl hr⟩) hst
theorem loop_rel {l:Nat} {st:LS} {env:List (Nat×AV)} {ps:List Nat} {a b:SCode} (hs:StRel w g H) (hl:H[l]? = some (.loop st env ps a b)):∃ r,w.heap[g.blk l]? = some (.loop r)∧LoopRel w g H r st env ps a b:=hs.objs l _ hl
theorem yld_blk {l n:Nat} (h:Rep w g H (.func (.yield n) #[] #[]) (.yld l)):g.blk l = n:=by
  generalize hc:Value.func (.yield n) #[] #[] = c at h
  cases h with
  | yld=>cases hc; rfl
theorem range_call {fo:Operand} {a:Act} {gf l:Nat} {first cap:List AV} (hok:FnOk P gf) (hf:Rep w g H (a.eval fo) (.fn (.func gf) first cap)) :
    ∃ (d:Deferred) (cf cc:Array Value),ArgsRep w g H cf first∧ArgsRep w g H cc cap∧(∀ w:World,(resolve a.eval (rangeCall fo l) 0).run P w = .ok d w)∧∀ w:World,(invoke d.target d.args).run P w = .ok (.enter gf (cf++#[.func (.yield l) #[] #[]]++cc)) w:=by
  obtain ⟨fn,code,h1,h2,h3⟩:=hok
  simp only [beq_eq_false_iff_ne,ne_eq] at h2
  generalize hfv:a.eval fo = fv at hf
  cases hf with
  | @fn _ cf cc _ _ e1 e2 r1 r2 =>
    refine ⟨{ target:=.fn (.func gf) cc,args:=cf++#[.func (.yield l) #[] #[]] },cf,cc,⟨e1,r1⟩,⟨e2,r2⟩,fun w=>?_,fun w=>?_⟩
    · have e:resolve a.eval (rangeCall fo l) 0 = Deferred.ofValue (a.eval fo) (#[Operand.const (.func (.yield l) #[] #[])].map a.eval):=rfl
      rw [e,hfv]
      simp [Deferred.ofValue,Act.eval]
    · simp [Go.invoke,callFunc,h1,h2,h3,Act.eval]
theorem exec_range {f:SA} {ps:List Nat} {ca cb:SCode} {s:St} {gf:FuncId} {first cap:List AV} {r:AV×List Obj} {x:SExit} {st:LS} {env1:List (Nat×AV)} {ps1:List Nat} {a1 b1:SCode}
    (hev:ev ⟨[],s.env⟩ f = some (.fn (.func gf) first cap)) (hok:FnOk P gf) (hcall:CallSim P kn gf (first++[.yld s.H.length]++cap) (s.H++[.loop .ready s.env ps ca cb]) r)
    (hl:r.2[s.H.length]? = some (.loop st env1 ps1 a1 b1)) (hx:(st = .ready∧x = .normal)∨st = .done x):ExecM P kn (.range f ps ca cb) s (x,⟨s.env,r.2.set s.H.length .over⟩):=by
  intro n0 r0 lone nt vars code hc a w g hp
  cases hc with
  | @range fo _ psA ca' cb' _ _ hps hf ha hb =>
  refine wpIn_rangeFunc fun fn _=>?_
  have hfr:Rep w g s.H (a.eval fo) (.fn (.func gf) first cap):=arg_rep hp.env hf hev
  have enter:∃ (l:Nat) (mk:List Deferred) (wm w1:World) (r:Go.Loop) (bs:List Nat),(Instr.enterLoop fn a.tmps psA ca' cb' (FR r0).round).run P w = .ok (l,mk) w1∧l = wm.heap.size∧Pushed wm w1 (.loop r) ∧
      r.state = .ready∧r.pending = none∧r.tmps = a.tmps∧r.params = psA∧r.assign = ca'∧r.body = cb'∧Evo w g s.H wm g s.H∧StRel wm g s.H∧mk = bs.map mark∧bs.Nodup∧∀ b ∈ bs,b = w.heap.size∧wm.heap[b]? = some (.deferred (some []))∧w.heap.size < wm.heap.size:=by
    cases r0 with
    | none =>
      have hpd:Pushed w (w.alloc (.deferred (some []))) (.deferred (some [])):=⟨rfl,rfl,rfl,⟨rfl,Nat.le_refl _⟩⟩
      obtain ⟨e1,e2⟩:=evo_push hpd hp.st
      refine ⟨_,_,w.alloc (.deferred (some [])),_,{ state:=.ready,pending:=none,fn,tmps:=a.tmps,params:=psA,assign:=ca',body:=cb',defers:=w.heap.size },[w.heap.size],run_enterLoop_outer _ _ _ _ _,by simp,⟨rfl,rfl,rfl,⟨rfl,Nat.le_refl _⟩⟩,rfl,rfl,rfl,rfl,rfl,rfl,e1,e2,rfl,by simp,fun b hb=>?_⟩
      simp only [List.mem_singleton] at hb
      subst hb
      exact ⟨rfl,World.alloc_heap_new w _,by simp⟩
    | some l0 =>
      obtain ⟨l,hr⟩:=hp.rd l0 rfl
      have hbl:=yld_blk hr
      cases hr with
      | yld h1 =>
        obtain ⟨r2,h2,_⟩:=loop_rel hp.st h1
        exact ⟨_,_,w,_,_,[],run_enterLoop_inner h2 _ _ _ _ _,rfl,⟨rfl,rfl,rfl,⟨rfl,Nat.le_refl _⟩⟩,rfl,rfl,rfl,rfl,rfl,rfl,.refl _ _ _,hp.st,rfl,List.nodup_nil,fun b h=>by cases h⟩
  obtain ⟨l,mk,wm,w1,rec,bs,hen,rfl,hpush,s1,s2,s3,s4,s5,s6,ev0,st0,rfl,hnd,hbs⟩:=enter
  obtain ⟨ev1,st1⟩:=evo_new (cap:=0) (o:=.loop .ready s.env psA.toList ca cb) hpush st0 (fun _ _ _ _ h=>by cases h) (fun hr=>by
    refine ⟨rec,by rw [Gh.add_eq.1]; exact hpush.new,⟨s1,s2⟩,fun _=>⟨by rw [s4],fun t v hv=>?_,nt,vars,?_,?_,by rw [s3]; exact hp.size,fun t v hv=>hp.fr.env t v hv,hps⟩⟩
    · rw [s3]; exact hr _ _ (ev0.rep _ _ (hp.env.env t v hv))
    · rw [s5]; show g.cd ca' ca nt vars; rw [hp.cd]; exact ⟨lone,ha⟩
    · rw [s6]; show g.cd cb' cb nt vars; rw [hp.cd]; exact ⟨lone,hb⟩)
  generalize hg1:g.add s.H.length wm.heap.size 0 0 = g1 at ev1 st1
  have hblk1:g1.blk s.H.length = wm.heap.size:=by rw [← hg1]; exact Gh.add_eq.1
  have ev01:=ev0.trans ev1
  obtain ⟨d,cf,cc,q1,q2,q3,q4⟩:=range_call (l:=wm.heap.size) hok (ev01.rep _ _ hfr)
  have hy:Rep w1 g1 (s.H++[.loop .ready s.env psA.toList ca cb]) (.func (.yield wm.heap.size) #[] #[]) (.yld s.H.length):=by
    rw [← hblk1]; exact .yld (st:=.ready) (env:=s.env) (ps:=psA.toList) (a:=ca) (b:=cb) (by simp)
  have hargs:ArgsRep w1 g1 (s.H++[.loop .ready s.env psA.toList ca cb]) (cf++#[.func (.yield wm.heap.size) #[] #[]]++cc) (first++[.yld s.H.length]++cap):=by
    refine args_append (args_append q1 ⟨rfl,fun i c x hc hx=>?_⟩) q2
    cases i with
    | zero=>simp at hc hx; subst hc; subst hx; exact hy
    | succ i=>simp at hc
  refine ⟨wm.heap.size,bs.map mark,w1,d,w1,gf,_,w1,hen,q3 w1,fun _ _=>trivial,q4 w1,fun h=>(by cases h),callsIn_FR ((hcall w1 g1 _ (ev01.cd.trans hp.cd) st1 hargs).mono fun e w3 he=>?_)⟩
  obtain ⟨v,g3,rfl,ev3,st3,_⟩:=he
  have hblk3:g3.blk s.H.length = wm.heap.size:=yld_blk (ev3.rep _ _ hy)
  obtain ⟨r3,hr3,hrel⟩:=loop_rel st3 hl
  rw [hblk3] at hr3
  have hnb:r3.state ≠ .busy:=by
    have:=hrel.1
    rcases hx with ⟨rfl,_⟩ | rfl
    · rw [this.1]; simp
    · rw [this.1]; simp
  obtain ⟨ev4,st4⟩:=evo_loop (st':=.gone) (env':=[]) (ps':=[]) (a':=.skip) (b':=.skip) (r':={ r3 with state:=.exhausted }) st3 hl (by rw [hblk3]; exact hr3) ⟨trivial,fun h=>absurd rfl h⟩
  rw [hblk3] at ev4 st4
  have evA:=((ev01.trans ev3).trans ev4)
  have hmarks:Marks n0 (w3.putObj wm.heap.size (.loop { r3 with state:=.exhausted })) g3 (r.2.set s.H.length .over) (bs.map mark++a.defers):=by
    obtain ⟨bs0,hd0,hn0,hall⟩:=hp.mks
    refine ⟨bs++bs0,by rw [hd0,List.map_append],?_,fun b hb=>?_⟩
    · refine List.nodup_append.2 ⟨hnd,hn0,fun b hb b' hb' e=>?_⟩
      subst e
      have h1:=(hbs b hb).1
      have h2:=(hall b hb').2.1
      have:=(Array.getElem?_eq_some_iff.1 h2).1
      omega
    · rcases List.mem_append.1 hb with hb | hb
      · obtain ⟨e1,e2,e3⟩:=hbs b hb
        refine ⟨by rw [e1]; exact hp.nle,?_⟩
        have hno:∀ i,¬ OwnAny g s.H b i:=fun i ho=>by
          obtain ⟨⟨m,hm,he⟩,_⟩:=ho
          have:=IsBlk.lt hp.st hm
          omega
        exact unowned_evo (ev1.trans (ev3.trans ev4)) e2 hno
      · exact ⟨(hall b hb).1,unowned_evo evA (hall b hb).2.1 (hall b hb).2.2⟩
  have post:∀ e,ExitRel x e→PostX n0 vars w g s.H a (x,⟨s.env,r.2.set s.H.length .over⟩) e { a with defers:=bs.map mark++a.defers } (w3.putObj wm.heap.size (.loop { r3 with state:=.exhausted })):=fun e he =>
    ⟨he,g3,evA,st4,hp.env.evo evA,hp.fr,hmarks,rfl⟩
  have hend:=run_endLoop (P:=P) hr3 hnb
  rcases hx with ⟨rfl,rfl⟩ | rfl
  · have hpn:r3.pending = none:=hrel.1.2
    exact ⟨none,_,by rw [hend,hpn],post .normal trivial⟩
  · obtain ⟨_,c,hc1,hc2⟩:=hrel.1
    refine ⟨some c,_,by rw [hend,hc2],?_⟩
    have post':=post
    rw [hc2] at post'
    cases x with
    | normal=>cases hc1
    | exit i=>cases hc1; exact wpIn_exit (post' (.exit i) rfl)
    | ret=>cases hc1; exact wpIn_ret (post' .ret trivial)
theorem puts_rel {nt:Nat} {vars:List Nat}:∀ {ps:List Nat} {aZ:List AV} {cs:List Value} {tmps:Array Value} {env:Env},ps.length = aZ.length→aZ.length = cs.length→(∀ p ∈ ps,p ∈ vars∧p < nt)→nt ≤ tmps.size →
    (∀ (i:Nat) (c:Value) (x:AV),cs[i]? = some c→aZ[i]? = some x→Rep w g H c x)→(∀ (t:Nat) (v:AV),lk env t = some v→Rep w g H (tmps.getD t undef) v)→(∀ (t:Nat) (v:AV),lk env t = some v→t ∈ vars) →
    ((ps.zip cs).foldl (fun t p=>t.setIfInBounds p.1 p.2) tmps).size = tmps.size∧(∀ (t:Nat) (v:AV),lk (puts env ps aZ) t = some v→Rep w g H (((ps.zip cs).foldl (fun t p=>t.setIfInBounds p.1 p.2) tmps).getD t undef) v) ∧
      ∀ (t:Nat) (v:AV),lk (puts env ps aZ) t = some v→t ∈ vars
  | [],aZ,cs,tmps,env,_,_,_,_,_,h1,h2=>by
    have e1:puts env [] aZ = env:=by cases aZ <;> rfl
    rw [e1]
    exact ⟨rfl,h1,h2⟩
  | p::ps,[],cs,_,_,h,_,_,_,_,_,_=>by simp at h
  | p::ps,a::aZ,[],_,_,_,h,_,_,_,_,_=>by simp at h
  | p::ps,a::aZ,c::cs,tmps,env,l1,l2,hp,hn,hr,h1,h2=>by
    simp only [List.length_cons,Nat.add_right_cancel_iff] at l1 l2
    have hpv:=hp p (by simp)
    obtain ⟨k1,k2,k3⟩:=puts_rel (ps:=ps) (aZ:=aZ) (cs:=cs) (tmps:=tmps.setIfInBounds p c) (env:=upd env p a) l1 l2 (fun q hq=>hp q (by simp [hq])) (by simpa using hn) (fun i c' x hc hx=>hr (i + 1) c' x (by simpa using hc) (by simpa using hx))
      (fun t v hv=>by
        rw [lk_upd] at hv
        simp only [Array.getD_eq_getD_getElem?,Array.getElem?_setIfInBounds]
        split at hv
        · rename_i e; cases hv; subst e
          rw [if_pos rfl,if_pos (by omega)]
          exact hr 0 c a rfl rfl
        · rename_i e; rw [if_neg e]; rw [← Array.getD_eq_getD_getElem?]; exact h1 t v hv)
      (fun t v hv=>by
        rw [lk_upd] at hv
        split at hv
        · rename_i e; rw [← e]; exact hpv.1
        · exact h2 t v hv)
    simp only [List.zip_cons_cons,List.foldl_cons,puts]
    exact ⟨k1.trans (by simp),k2,k3⟩
theorem loopRel_busy {r:Go.Loop} {st:LS} {env:List (Nat×AV)} {ps:List Nat} {a b:SCode} (h:LoopRel w g H r st env ps a b) (hg:st ≠ .gone) (r':Go.Loop) (st':LS) (hs:stOk r' st') (e1:r'.params = r.params) (e2:r'.tmps = r.tmps) (e3:r'.assign = r.assign) (e4:r'.body = r.body) :
    LoopRel w g H r' st' env ps a b:=by
  refine ⟨hs,fun _=>?_⟩
  have:=h.2 hg
  rw [e1,e2,e3,e4]
  exact this
theorem yield_sim {l:Nat} {args:List AV} {env env1 env2:List (Nat×AV)} {ps ps1 ps2:List Nat} {a b a1 b1 a2 b2:SCode} {s1 s2:St} {x:SExit} (hl:H[l]? = some (.loop .ready env ps a b)) (hlen:args.length = ps.length)
    (ha:ExecM P kn a ⟨puts env ps args,H⟩ (.normal,s1)) (hl1:s1.H[l]? = some (.loop .ready env1 ps1 a1 b1)) (hb:ExecM P kn b ⟨s1.env,s1.H.set l (.loop .busy env1 ps1 a1 b1)⟩ (x,s2)) (hl2:s2.H[l]? = some (.loop .busy env2 ps2 a2 b2)) :
    YieldSim P kn l args H (match x with
      | .normal=>(.p (.v (.bool true)),s2.H.set l (.loop .ready env2 ps2 a2 b2))
      | x=>(.p (.v (.bool false)),s2.H.set l (.loop (.done x) env2 ps2 a2 b2))):=by
  intro w g cs hcd hs hargs r0
  obtain ⟨r,hr,hrel⟩:=loop_rel hs hl
  obtain ⟨hpar,htm,nt,vars,cda,cdb,hnt,hvars,hps⟩:=hrel.2 (by simp)
  rw [hcd] at cda cdb
  obtain ⟨lone,cda⟩:=cda
  obtain ⟨lone',cdb⟩:=cdb
  have hsz:cs.size = r.params.size:=by rw [hargs.1,hlen,← hpar]; simp
  have hyl:Rep w g H (.func (.yield (g.blk l)) #[] #[]) (.yld l):=.yld hl
  generalize hbl:g.blk l = bl at hr hyl ⊢
  refine ⟨r.fn,_,r.assign,r.body,run_yield hr hsz,roundIn_of_wpIn trivial ?_⟩
  have hfold:((r.params.zip cs).foldl (fun tmps p=>tmps.setIfInBounds p.1 p.2) r.tmps) = (ps.zip cs.toList).foldl (fun t p=>t.setIfInBounds p.1 p.2) r.tmps:=by
    rw [← Array.foldl_toList,Array.toList_zip,hpar]
  obtain ⟨k1,k2,k3⟩:=puts_rel (w:=w) (g:=g) (H:=H) (ps:=ps) (aZ:=args) (cs:=cs.toList) (tmps:=r.tmps) (env:=env) hlen.symm (by simp [hargs.1]) hps hnt (fun i c y hc hy=>hargs.2 i c y (by simpa using hc) hy) htm hvars
  rw [← hfold] at k1 k2
  refine wpIn_mono (ha 0 (some bl) lone nt vars _ (comp_inv cda) _ w g ⟨⟨fun t v h=>(by cases h),k2⟩,⟨fun t v h=>(by cases h),k3⟩,by show nt ≤ Array.size _; rw [k1]; exact hnt,hs,hcd,.nil,Nat.zero_le _,fun l0 e=>by cases e; exact ⟨l,hyl⟩⟩) fun e act1 w1 hq=>?_
  obtain ⟨q0,g1,q1,q2,q3,q4,q5,q6⟩:=hq
  cases e with
  | normal =>
    have hyl1:=q1.rep _ _ hyl
    have hb1:=yld_blk hyl1
    obtain ⟨r1,hr1,hrel1⟩:=loop_rel q2 hl1
    rw [hb1] at hr1
    obtain ⟨ev2,st2⟩:=evo_loop (r':={ r1 with state:=.busy }) (st':=.busy) (env':=env1) (ps':=ps1) (a':=a1) (b':=b1) q2 hl1 (by rw [hb1]; exact hr1) (loopRel_busy hrel1 (by simp) _ _ rfl rfl rfl rfl rfl)
    rw [hb1] at ev2 st2
    refine ⟨_,run_beginRound hr1 hrel1.1.1,?_⟩
    refine wpIn_mono (hb 0 (some bl) lone' nt vars _ (comp_inv cdb) act1 _ g1 ⟨q3.evo ev2,q4,by rw [q6]; show nt ≤ Array.size _; rw [k1]; exact hnt,st2,q1.cd.trans hcd,q5.evo ev2,Nat.zero_le _,fun l0 e=>by cases e; exact ⟨l,ev2.rep _ _ hyl1⟩⟩) fun e act3 w3 hq=>?_
    obtain ⟨t0,g3,t1,t2,_⟩:=hq
    have hb3:=yld_blk (t1.rep _ _ (ev2.rep _ _ hyl1))
    obtain ⟨r3,hr3,hrel3⟩:=loop_rel t2 hl2
    rw [hb3] at hr3
    have fin:∀ (j:Option Code) (st':LS),stOk { r3 with state:=if j.isNone then .ready else .done,pending:=j } st'→∃ v w',(Instr.endRound bl j).run P w3 = .ok v w'∧v = .bool j.isNone ∧
        ∃ g',Evo w g H w' g' (s2.H.set l (.loop st' env2 ps2 a2 b2))∧StRel w' g' (s2.H.set l (.loop st' env2 ps2 a2 b2)):=fun j st' hst=>by
      obtain ⟨ev4,st4⟩:=evo_loop (r':={ r3 with state:=if j.isNone then .ready else .done,pending:=j }) (st':=st') (env':=env2) (ps':=ps2) (a':=a2) (b':=b2) t2 hl2 (by rw [hb3]; exact hr3) (loopRel_busy hrel3 (by simp) _ _ hst rfl rfl rfl rfl)
      rw [hb3] at ev4 st4
      exact ⟨_,_,run_endRound j hr3,rfl,g3,((q1.trans ev2).trans t1).trans ev4,st4⟩
    have rb:∀ {w':World} {g':Gh} {H':List Obj} (t:Bool),Rep w' g' H' (.bool t) (.p (.v (.bool t))):=fun t=>.p (.v rfl)
    cases x with
    | normal =>
      cases e <;> first | exact t0.elim | skip
      obtain ⟨v,w4,h1,rfl,g4,h2,h3⟩:=fin none .ready ⟨rfl,rfl⟩
      exact ⟨_,w4,h1,_,g4,rfl,h2,h3,rb true⟩
    | exit i =>
      cases e <;> first | exact t0.elim | skip
      have hij:i = _:=t0
      subst hij
      obtain ⟨v,w4,h1,rfl,g4,h2,h3⟩:=fin (some (.exit i)) (.done (.exit i)) ⟨rfl,_,rfl,rfl⟩
      exact ⟨_,w4,h1,_,g4,rfl,h2,h3,rb false⟩
    | ret =>
      cases e <;> first | exact t0.elim | skip
      obtain ⟨v,w4,h1,rfl,g4,h2,h3⟩:=fin (some .ret) (.done .ret) ⟨rfl,_,rfl,rfl⟩
      exact ⟨_,w4,h1,_,g4,rfl,h2,h3,rb false⟩
  | _=>exact q0.elim
end
end Go.Proofs.YtepbfecmageleaaGreatDoor
namespace Go.Proofs.YtepbfecmageleaaGreatDoor
open Go
variable [Sub]
def compRes (P:Program):ResultVar→Option SOp
  | .tmp t=>some (SOp.mov (.x t))
  | .cell t ty=>(isAggT P ty).bind fun g=>if g then (sizeT P ty).map fun n=>SOp.loadn n (.x t) else some (SOp.load1 (.x t))
structure CodeOk (P:Program) (kn:TypeId→Bool) (f:FuncId) (F:SFunc):Prop where
  ok:∃ fn c lone vars,P.funcs[f]? = some fn∧(fn.name == "runtime.NumGoroutine") = false∧fn.body = some c∧comp P kn lone fn.ntmps vars c = some F.body∧(∀ i,i < F.arity→i ∈ vars) ∧
    fn.results.toList.mapM (compRes P) = some F.results
section
variable {P:Program} {kn:TypeId→Bool} {w w' w1:World} {g g':Gh} {H H':List Obj} {e:Fr}
theorem begin0_lk:∀ (args:List AV) (n t:Nat) (v:AV),lk (begin0 n args) t = some v→n ≤ t∧args[t - n]? = some v
  | [],n,t,v,h=>by cases h
  | a::aZ,n,t,v,h=>by
    simp only [begin0,lk] at h
    split at h
    · rename_i e; subst e; cases h; simp
    · rename_i hne
      obtain ⟨h1,h2⟩:=begin0_lk aZ (n + 1) t v h
      refine ⟨by omega,?_⟩
      rw [show t - n = (t - (n + 1)) + 1 by omega]
      simpa using h2
theorem load_var {t:TypeId} {x:Nat} {tmps:Array Value} {sop:SOp} {v:AV} {H':List Obj} (hs:StRel w g H) (hl:∀ t v,lk e.env t = some v→Rep w g H (tmps.getD t undef) v)
    (hc:compRes P (.cell x t) = some sop) (hr:evOp e H sop = some (v,H')):∃ cv,((asAddr (tmps.getD x undef)).run P w).andThen (fun a w=>(loadVar t a).run P w) = .ok cv w∧Rep w g H cv v∧H' = H:=by
  have fin:∀ {u:AV},lk e.env x = some u→RunV P ⟨tmps,[]⟩ w g H ⟨none,.load t (.tmp x),0, "",#[],none⟩ v→(∃ p:Addr,tmps.getD x undef = .pointer (some p)) →
      ∃ cv,((asAddr (tmps.getD x undef)).run P w).andThen (fun a w=>(loadVar t a).run P w) = .ok cv w∧Rep w g H cv v:=fun hu hrun hp=>by
    obtain ⟨cv,h1,h2⟩:=hrun
    obtain ⟨p,hp⟩:=hp
    refine ⟨cv,?_,h2⟩
    rw [hp]
    simp only [execOp,Act.eval,hp,Instr.loadAt,Instr.sureAddr,Sem.run_bind,Sem.run_pure,Result.andThen_ok] at h1
    simp only [asAddr,Sem.run_pure,Result.andThen_ok]
    cases hq:(loadVar t p).run P w with
    | ok c w2=>rw [hq] at h1; simp at h1; rw [h1.1,h1.2]
    | halt=>rw [hq] at h1; cases h1
  simp only [compRes,Option.bind_eq_some_iff] at hc
  obtain ⟨gg,hgg,hc⟩:=hc
  obtain ⟨d,hd,hda⟩:=agg_some hgg
  cases gg with
  | true =>
    simp only [if_true,Option.map_eq_some_iff] at hc
    obtain ⟨n,hn,rfl⟩:=hc
    obtain ⟨ti,hti,rfl⟩:=size_some hn
    simp only [evOp,Option.bind_eq_some_iff,Option.map_eq_some_iff,Prod.mk.injEq,ev] at hr
    obtain ⟨u,hu,cs,hcs,rfl,rfl⟩:=hr
    have hrep:=hl x u hu
    have hrun:RunV P ⟨tmps,[]⟩ w g H ⟨none,.load t (.tmp x),0, "",#[],none⟩ (.agg cs):=run_loadn hs hd hda hti hrep hcs
    obtain ⟨p,hp,_⟩:=load_rep hs hrep hcs
    obtain ⟨cv,h1,h2⟩:=fin hu hrun ⟨p,hp⟩
    exact ⟨cv,h1,h2,rfl⟩
  | false =>
    simp only [Bool.false_eq_true,if_false,Option.some.injEq] at hc
    subst hc
    simp only [evOp,Option.bind_eq_some_iff,Option.map_eq_some_iff,Prod.mk.injEq,ev] at hr
    obtain ⟨u,hu,c,hcv,rfl,rfl⟩:=hr
    have hrep:=hl x u hu
    have hrun:RunV P ⟨tmps,[]⟩ w g H ⟨none,.load t (.tmp x),0, "",#[],none⟩ c:=run_load1 hs hd hda hrep hcv
    have hp:∃ p:Addr,tmps.getD x undef = .pointer (some p):=by
      unfold load1V at hcv
      split at hcv
      · rename_i c' hl'
        obtain ⟨p,hp,_⟩:=load_rep hs hrep hl'
        exact ⟨p,hp⟩
      · cases hcv
    obtain ⟨cv,h1,h2⟩:=fin hu hrun hp
    exact ⟨cv,h1,h2,rfl⟩
def resV (tmps:Array Value):ResultVar→Sem Value
  | .tmp t=>pure (tmps.getD t undef)
  | .cell a t=>do loadVar t (← asAddr (tmps.getD a undef))
theorem results_eq (fn:Func) (tmps:Array Value):results fn tmps = (do let vs ← fn.results.mapM (resV tmps); pure (if h:vs.size = 1 then vs[0] else .tuple vs)):=by
  unfold results
  rfl
theorem res_rep {tmps:Array Value} (hs:StRel w g H) (hl:∀ t v,lk e.env t = some v→Rep w g H (tmps.getD t undef) v):∀ {l:List ResultVar} {sops:List SOp} {rs:List AV},
    l.mapM (compRes P) = some sops→evRes e H sops = some rs →
    ∃ vs:List Value,(l.mapM (resV tmps)).run P w = .ok vs w∧vs.length = rs.length∧∀ (i:Nat) (c:Value) (x:AV),vs[i]? = some c→rs[i]? = some x→Rep w g H c x
  | [],sops,rs,h1,h2=>by
    simp at h1
    subst h1
    simp only [evRes,Option.some.injEq] at h2
    subst h2
    exact ⟨[],by simp,rfl,fun i c x h=>by simp at h⟩
  | r::l,sops,rs,h1,h2=>by
    simp only [List.mapM_cons,Option.bind_eq_bind,Option.bind_eq_some_iff,Option.pure_def,Option.some.injEq] at h1
    obtain ⟨sop,hsop,sops',hsops,rfl⟩:=h1
    simp only [evRes,Option.bind_eq_some_iff,Option.map_eq_some_iff] at h2
    obtain ⟨⟨v,H'⟩,hv,rs',hrs,rfl⟩:=h2
    obtain ⟨vs,k1,k2,k3⟩:=res_rep hs hl hsops hrs
    have one:∃ cv,(resV tmps r).run P w = .ok cv w∧Rep w g H cv v:=by
      cases r with
      | tmp t =>
        simp only [compRes,Option.some.injEq] at hsop
        subst hsop
        simp only [evOp,Option.map_eq_some_iff,Prod.mk.injEq,ev] at hv
        obtain ⟨u,hu,rfl,rfl⟩:=hv
        exact ⟨_,rfl,hl t u hu⟩
      | cell x t =>
        obtain ⟨cv,q1,q2,_⟩:=load_var hs hl hsop hv
        exact ⟨cv,by simp only [resV,Sem.run_bind]; exact q1,q2⟩
    obtain ⟨cv,q1,q2⟩:=one
    refine ⟨cv::vs,?_,by simp [k2],fun i c x hc hx=>?_⟩
    · simp only [List.mapM_cons,Sem.run_bind,q1,Result.andThen_ok,k1,Sem.run_pure]
    · cases i with
      | zero=>simp at hc hx; subst hc; subst hx; exact q2
      | succ i=>simp at hc hx; exact k3 i c x hc hx
theorem evo_tail {w'':World} {x:Option (List Deferred)} {b:Nat} (he:Evo w g H w' g' H') (hs:StRel w' g' H') (hb:w.heap.size ≤ b) (hh:w'.heap[b]? = some (.deferred x)) (hn:∀ i,¬ OwnAny g' H' b i) (hw:w'' = w'.putObj b (.deferred none)) :
    Evo w g H w'' g' H'∧StRel w'' g' H'∧∀ c a,Rep w' g' H' c a→Rep w'' g' H' c a:=by
  subst hw
  have hlt:b < w'.heap.size:=(Array.getElem?_eq_some_iff.1 hh).1
  have hc:∀ b' i,cellAt (w'.putObj b (.deferred none)) b' i = cellAt w' b' i:=fun b' i=>by
    by_cases e:b' = b
    · subst e; simp [cellAt,World.cell?,World.putObj_heap_same hlt,hh]
    · exact cellAt_heap (World.putObj_heap_other e) i
  have hr:∀ c a,Rep w' g' H' c a→Rep (w'.putObj b (.deferred none)) g' H' c a:=fun c a hr=>hr.step (fun _ _ h=>h) (fun b i _=>hc b i) (fun l o _=>.same rfl rfl rfl rfl)
  have hnb:∀ l o,H'[l]? = some o→g'.blk l ≠ b:=fun l o hl e=>by
    obtain ⟨i,hi⟩:=free_cell (hs.stand l o hl)
    rw [e] at hi
    exact hn i ⟨⟨l,(List.getElem?_eq_some_iff.1 hl).1,e⟩,hi⟩
  obtain ⟨a1,a2,a3,a4,a5⟩:=he.keep
  refine ⟨⟨he.D,fun b i hd=>(hc b i).trans (he.cells b i hd),fun c a h=>hr _ _ (he.rep _ _ h),⟨a1,a2,a3,by simpa using a4,fun b' hb'=>?_⟩,he.own,he.newD,he.cd⟩,⟨fun l o hl=>?_,hs.inj,hs.stand,fun b i hd=>by simpa using hs.dom b i hd⟩,hr⟩
  · have h5:=a5 b' hb'
    have e:(w'.putObj b (.deferred none)).heap[b']? = w'.heap[b']?:=World.putObj_heap_other (by omega)
    split
    · rename_i vs e1 f hw; simp only [hw] at h5; rw [e]; exact h5
    · rename_i o hne
      intro ho
      rw [e]
      split at h5
      · rename_i vs e1 f hw; exact absurd hw (hne _ _ _)
      · exact h5 ho
  · exact (hs.objs l o hl).keep rfl rfl rfl (World.putObj_heap_other (hnb l o hl)) (fun _ _ h=>h) (fun b i _=>hc b i) hr
theorem leaves_marks {fn:Func} {tmps:Array Value} {R:Ending→World→Prop}:∀ {bs:List Nat} {w':World},Evo w g H w' g' H'→StRel w' g' H'→(∀ c a,Rep w1 g' H' c a→Rep w' g' H' c a)→bs.Nodup →
    (∀ b ∈ bs,w.heap.size ≤ b∧w'.heap[b]? = some (.deferred (some []))∧∀ i,¬ OwnAny g' H' b i)→(∀ w'',Evo w g H w'' g' H'→StRel w'' g' H'→(∀ c a,Rep w1 g' H' c a→Rep w'' g' H' c a)→∃ v,(results fn tmps).run P w'' = .ok v w''∧R (.returned v) w'') →
    LeavesInM (FR none) 0 P fn tmps R (bs.map mark) .returning w'
  | [],w',he,hs,hr,_,_,h=>h w' he hs hr
  | b::bs,w',he,hs,hr,hn,hb,h=>by
    obtain ⟨n1,n2⟩:=List.nodup_cons.1 hn
    obtain ⟨b1,b2,b3⟩:=hb b (by simp)
    obtain ⟨e1,s1,r1⟩:=evo_tail he hs b1 b2 b3 rfl
    refine ⟨by simp,.inl ⟨b,_,rfl,run_takeDeferred b2,leaves_marks e1 s1 (fun c a h=>r1 _ _ (hr _ _ h)) n2 (fun c hc=>?_) h⟩⟩
    obtain ⟨c1,c2,c3⟩:=hb c (by simp [hc])
    have hcb:c ≠ b:=fun e=>n1 (by rw [← e]; exact hc)
    exact ⟨c1,by rw [World.putObj_heap_other hcb]; exact c2,c3⟩
theorem call_sim {f:FuncId} {F:SFunc} {args:List AV} {r:SExit×St} {rs:List AV} (hok:CodeOk P kn f F) (ha:args.length = F.arity) (he:ExecM P kn F.body ⟨begin0 0 args,H⟩ r) (hx:∀ i,r.1 ≠ .exit i)
    (hr:evRes ⟨[],r.2.env⟩ r.2.H F.results = some rs):CallSim P kn f args H (tupOf rs,r.2.H):=by
  obtain ⟨fn,c,lone,vars,h1,_,h3,h4,h5,h6⟩:=hok.ok
  intro w g cs hcd hs hargs
  have hget:∀ t v,args[t]? = some v→∃ cv,cs[t]? = some cv∧(cs++Array.replicate (fn.ntmps - cs.size) undef).getD t undef = cv:=fun t v ht=>by
    have hlt:t < cs.size:=by rw [hargs.1]; exact (List.getElem?_eq_some_iff.1 ht).1
    refine ⟨cs[t],by simp [hlt],?_⟩
    rw [Array.getD_eq_getD_getElem?,Array.getElem?_append_left hlt]
    simp [hlt]
  have hpre:Pre P kn w.heap.size none fn.ntmps vars { tmps:=cs++Array.replicate (fn.ntmps - cs.size) undef,defers:=[] } w g ⟨begin0 0 args,H⟩:=by
    refine ⟨⟨fun t v h=>(by cases h),fun t v h=>?_⟩,⟨fun t v h=>(by cases h),fun t v h=>?_⟩,by simp; omega,hs,hcd,.nil,Nat.le_refl _,fun l0 e=>by cases e⟩
    · obtain ⟨_,h7⟩:=begin0_lk args 0 t v h
      simp only [Nat.sub_zero] at h7
      obtain ⟨cv,q1,q2⟩:=hget t v h7
      show Rep w g H ((cs++Array.replicate (fn.ntmps - cs.size) undef).getD t undef) v
      rw [q2]
      exact hargs.2 t cv v q1 h7
    · obtain ⟨_,h7⟩:=begin0_lk args 0 t v h
      simp only [Nat.sub_zero] at h7
      exact h5 t (by rw [← ha]; exact (List.getElem?_eq_some_iff.1 h7).1)
  refine callsIn_wide.1 (callsIn_of_wp_marks (F:=FR none) (n:=0) h1 h3 trivial (wpIn_mono (he w.heap.size none lone fn.ntmps vars c (comp_inv h4) _ w g hpre) fun e a' w' hq=>?_))
  obtain ⟨q0,g',q1,q2,q3,_,q5,_⟩:=hq
  have fin:LeavesInM (FR none) 0 P fn a'.tmps (fun e w''=>∃ v g',e = .returned v∧Evo w g H w'' g' r.2.H∧StRel w'' g' r.2.H∧Rep w'' g' r.2.H v (tupOf rs)) a'.defers .returning w':=by
    obtain ⟨bs,d1,d2,d3⟩:=q5
    rw [d1]
    refine leaves_marks q1 q2 (fun _ _ h=>h) d2 d3 fun w'' q1' q2' qr=>?_
    have q3':EnvRel w'' g' r.2.H a'.tmps ⟨[],r.2.env⟩:=⟨fun t v h=>qr _ _ (q3.loc t v h),fun t v h=>qr _ _ (q3.env t v h)⟩
    obtain ⟨vs,k1,k2,k3⟩:=res_rep (e:=⟨[],r.2.env⟩) q2' q3'.env h6 hr
    have hm:(fn.results.mapM (resV a'.tmps)).run P w'' = .ok vs.toArray w'':=by
      rw [Array.mapM_eq_mapM_toList]
      simp [k1]
    have hrun:(results fn a'.tmps).run P w'' = .ok (if h:vs.toArray.size = 1 then vs.toArray[0] else .tuple vs.toArray) w'':=by
      rw [results_eq]
      simp only [Sem.run_bind,hm,Result.andThen_ok,Sem.run_pure]
    refine ⟨_,hrun,_,g',rfl,q1',q2',?_⟩
    by_cases hl:rs.length = 1
    · obtain ⟨r1,rfl⟩:=List.length_eq_one_iff.1 hl
      obtain ⟨v1,rfl⟩:=List.length_eq_one_iff.1 (show vs.length = 1 by rw [k2]; rfl)
      exact k3 0 v1 r1 rfl rfl
    · have hne:¬ vs.toArray.size = 1:=by simp; omega
      rw [dif_neg hne]
      have ht:tupOf rs = .tup rs:=by
        unfold tupOf
        split
        · rename_i r1; exact absurd rfl hl
        · rfl
      rw [ht]
      exact .tup (by simpa using k2) (fun i c x hc hx=>k3 i c x (by simpa using hc) hx)
  cases hrx:r.1 with
  | normal=>rw [hrx] at q0; cases e <;> first | exact q0.elim | exact fin
  | ret=>rw [hrx] at q0; cases e <;> first | exact q0.elim | exact fin
  | exit i=>exact absurd hrx (hx i)
end
end Go.Proofs.YtepbfecmageleaaGreatDoor
namespace Go.Proofs.YtepbfecmageleaaGreatDoor
open Go
variable [Sub]
theorem renL_eq (f:Nat→Nat):∀ aZ:List AV,renL f aZ = aZ.map (ren f)
  | []=>by simp [renL]
  | a::aZ=>by simp [renL,renL_eq f aZ]
theorem mem_refsL:∀ {aZ:List AV} {r:Nat},r ∈ refsL aZ↔∃ a ∈ aZ,r ∈ refs a
  | [],r=>by simp [refsL]
  | a::aZ,r=>by simp [refsL,mem_refsL (aZ:=aZ)]
structure Corr (S:Nat→Prop) (f:Nat→Nat) (g:Gh) (H:List Obj) (g':Gh) (H':List Obj):Prop where
  D:g'.D = g.D
  cd:g'.cd = g.cd
  get:∀ l o,S l→H[l]? = some o→H'[f l]? = some (renO f o)
  blk:∀ l,S l→g'.blk (f l) = g.blk l
  base:∀ l,S l→g'.base (f l) = g.base l
  cap:∀ l,S l→g'.cap (f l) = g.cap l
section
variable {w w':World} {g g':Gh} {H H':List Obj} {S:Nat→Prop} {f:Nat→Nat}
theorem Rep.ren (hc:Corr S f g H g' H') {c:Value} {a:AV} (h:Rep w g H c a):(∀ r ∈ refs a,S r)→Rep w g' H' c (ren f a):=by
  have lst:∀ {aZ:List AV},(∀ r ∈ refsL aZ,S r)→∀ {i:Nat} {x:AV},aZ[i]? = some x→∀ r ∈ refs x,S r:=fun h i x hx r hr =>
    h r (mem_refsL.2 ⟨x,List.mem_of_getElem? hx,hr⟩)
  induction h with
  | p h=>intro _; simp only [Go.Proofs.YtepbfecmageleaaGreatDoor.ren]; exact .p (by rw [hc.D]; exact h)
  | lit h=>intro _; simp only [Go.Proofs.YtepbfecmageleaaGreatDoor.ren]; exact .lit (by rw [hc.D]; exact h)
  | ar h =>
    intro hr
    simp only [Go.Proofs.YtepbfecmageleaaGreatDoor.ren]
    obtain ⟨h1,h2,es,fz,ver,rows,hH,hv,hoff,hf⟩:=h
    simp only [refs,List.mem_singleton,forall_eq] at hr
    have hS:=hr
    refine .ar ⟨h1,h2,es,fz,ver,rows,by simpa [renO] using hc.get _ _ hS hH,hv,hoff,fun hsn=>?_⟩
    rw [hc.blk _ hS,hc.base _ hS,hc.cap _ hS,hc.D]
    exact hf hsn
  | ptr h =>
    intro hr
    simp only [refs,List.mem_singleton,forall_eq] at hr
    have hS:=hr
    simp only [Go.Proofs.YtepbfecmageleaaGreatDoor.ren]
    rw [← hc.blk _ hS]
    exact .ptr (by simpa [renO] using hc.get _ _ hS h)
  | elp h =>
    intro hr
    simp only [Go.Proofs.YtepbfecmageleaaGreatDoor.ren]
    obtain ⟨es,fz,ver,rows,hH,hv,hi,hf⟩:=h
    simp only [refs,List.mem_singleton,forall_eq] at hr
    have hS:=hr
    refine .elp ⟨es,fz,ver,rows,by simpa [renO] using hc.get _ _ hS hH,hv,hi,fun hsn=>?_⟩
    rw [hc.blk _ hS,hc.base _ hS,hc.D]
    exact hf hsn
  | imm cs hD hcell hr=>intro _; simp only [Go.Proofs.YtepbfecmageleaaGreatDoor.ren]; exact .imm cs (by rw [hc.D]; exact hD) hcell (by rw [hc.D]; exact hr)
  | fn ha hb _ _ ih1 ih2 =>
    intro hr
    simp only [Go.Proofs.YtepbfecmageleaaGreatDoor.ren,renL_eq]
    simp only [refs,List.mem_append] at hr
    refine .fn (by simpa using ha) (by simpa using hb) (fun i c x hc' hx=>?_) (fun i c x hc' hx=>?_)
    · rw [List.getElem?_map,Option.map_eq_some_iff] at hx
      obtain ⟨y,hy,rfl⟩:=hx
      exact ih1 i c y hc' hy (lst (fun r h=>hr r (.inl h)) hy)
    · rw [List.getElem?_map,Option.map_eq_some_iff] at hx
      obtain ⟨y,hy,rfl⟩:=hx
      exact ih2 i c y hc' hy (lst (fun r h=>hr r (.inr h)) hy)
  | agg ha h1 _ ih =>
    intro hr
    simp only [Go.Proofs.YtepbfecmageleaaGreatDoor.ren,renL_eq]
    simp only [refs] at hr
    refine .agg (by simpa using ha) h1 (fun i c x hc' hx=>?_)
    rw [List.getElem?_map,Option.map_eq_some_iff] at hx
    obtain ⟨y,hy,rfl⟩:=hx
    exact ih i c y hc' hy (lst hr hy)
  | tup ha _ ih =>
    intro hr
    simp only [Go.Proofs.YtepbfecmageleaaGreatDoor.ren,renL_eq]
    simp only [refs] at hr
    refine .tup (by simpa using ha) (fun i c x hc' hx=>?_)
    rw [List.getElem?_map,Option.map_eq_some_iff] at hx
    obtain ⟨y,hy,rfl⟩:=hx
    exact ih i c y hc' hy (lst hr hy)
  | map h =>
    intro hr
    simp only [refs,List.mem_singleton,forall_eq] at hr
    have hS:=hr
    simp only [Go.Proofs.YtepbfecmageleaaGreatDoor.ren]
    rw [← hc.blk _ hS]
    exact .map (by simpa [renO] using hc.get _ _ hS h)
  | emp=>intro _; simp only [Go.Proofs.YtepbfecmageleaaGreatDoor.ren]; exact .emp
  | csl h hn =>
    intro hr
    simp only [refs,List.mem_singleton,forall_eq] at hr
    have hS:=hr
    simp only [Go.Proofs.YtepbfecmageleaaGreatDoor.ren]
    rw [← hc.blk _ hS]
    exact .csl (by simpa [renO] using hc.get _ _ hS h) hn
  | yld h =>
    intro hr
    simp only [refs,List.mem_singleton,forall_eq] at hr
    have hS:=hr
    simp only [Go.Proofs.YtepbfecmageleaaGreatDoor.ren]
    rw [← hc.blk _ hS]
    have:=hc.get _ _ hS h
    simp only [renO] at this
    exact .yld this
theorem lk_renE (f:Nat→Nat):∀ (env:List (Nat×AV)) (t:Nat),lk (renE f env) t = (lk env t).map (ren f)
  | [],t=>rfl
  | (m,a)::env,t=>by
    have:=lk_renE f env t
    simp only [renE] at this
    simp only [renE,List.map_cons,lk]
    split
    · rfl
    · exact this
theorem lk_mem:∀ {env:List (Nat×AV)} {t:Nat} {v:AV},lk env t = some v→v ∈ env.map (·.2)
  | [],_,_,h=>by cases h
  | (m,a)::env,t,v,h=>by
    simp only [lk] at h
    split at h
    · cases h; simp
    · have:=lk_mem h; simp only [List.map_cons,List.mem_cons]; exact .inr this
theorem ObjRel.ren (hc:Corr S f g H g' H') {l:Nat} {o:Obj} (h:ObjRel w g H l o) (hl:S l) (hr:∀ r ∈ objRefs o,S r):ObjRel w g' H' (f l) (renO f o):=by
  cases o with
  | cells c =>
    obtain ⟨vs,e,h1,h2,h3⟩:=h
    refine ⟨vs,e,by rw [hc.blk _ hl]; exact h1,by rw [renL_eq]; simpa using h2,fun i v x hv hx=>?_⟩
    rw [renL_eq,List.getElem?_map,Option.map_eq_some_iff] at hx
    obtain ⟨y,hy,rfl⟩:=hx
    exact ⟨(h3 i v y hv hy).1.ren hc (fun r hr'=>hr r (mem_refsL.2 ⟨y,List.mem_of_getElem? hy,hr'⟩)),(h3 i v y hv hy).2⟩
  | arr es fz ver rows =>
    show ObjRel w g' H' (f l) (.arr es fz ver rows)
    simp only [ObjRel]
    rw [hc.blk _ hl,hc.base _ hl,hc.cap _ hl,hc.D]
    exact h
  | map es =>
    obtain ⟨ents,ck,h1,h2,h3⟩:=h
    refine ⟨ents,ck,⟨by rw [hc.blk _ hl]; exact h1.1,h1.2⟩,by simpa using h2,fun i e p he hx=>?_⟩
    rw [List.getElem?_map,Option.map_eq_some_iff] at hx
    obtain ⟨y,hy,rfl⟩:=hx
    exact ⟨(h3 i e y he hy).1,(h3 i e y he hy).2.ren hc (fun r hr'=>hr r (mem_refsL.2 ⟨y.2,List.mem_map.2 ⟨y,List.mem_of_getElem? hy,rfl⟩,hr'⟩))⟩
  | loop st env ps a b =>
    obtain ⟨r,h1,h2⟩:=h
    refine ⟨r,by rw [hc.blk _ hl]; exact h1,h2.1,fun hg=>?_⟩
    obtain ⟨k1,k2,nt,vars,k3,k4,k5,k6,k7⟩:=h2.2 hg
    refine ⟨k1,fun t v hv=>?_,nt,vars,by rw [hc.cd]; exact k3,by rw [hc.cd]; exact k4,k5,fun t v hv=>?_,k7⟩
    · rw [lk_renE,Option.map_eq_some_iff] at hv
      obtain ⟨u,hu,rfl⟩:=hv
      exact (k2 t u hu).ren hc (fun r hr'=>hr r (mem_refsL.2 ⟨u,lk_mem hu,hr'⟩))
    · rw [lk_renE,Option.map_eq_some_iff] at hv
      obtain ⟨u,hu,rfl⟩:=hv
      exact k6 t u hu
theorem Stands.ren (hc:Corr S f g H g' H') {l:Nat} {o:Obj} (h:Stands g l o) (hl:S l):Stands g' (f l) (renO f o):=by
  cases o with
  | cells c=>simp only [renO,Stands]; rw [hc.blk _ hl,hc.D]; exact h
  | arr es fz ver rows =>
    cases fz with
    | none=>show ∀ i,¬ g'.D (g'.blk (f l)) i; rw [hc.blk _ hl,hc.D]; exact h
    | some k=>show k ≤ ver∧∀ i,g'.D (g'.blk (f l)) i→i < g'.base (f l) + rows.length * es; rw [hc.blk _ hl,hc.base _ hl,hc.D]; exact h
  | map es=>simp only [renO,Stands]; rw [hc.blk _ hl,hc.D]; exact h
  | loop=>simp only [renO,Stands]; rw [hc.blk _ hl,hc.D]; exact h
theorem pick_get:∀ {sub:List Nat} {os:List Obj},pickObjs H sub = some os→os.length = sub.length∧∀ (i r:Nat),sub[i]? = some r→∃ o:Obj,H[r]? = some o∧os[i]? = some o
  | [],os,h=>by simp only [pickObjs,Option.some.injEq] at h; subst h; exact ⟨rfl,fun i r h=>by simp at h⟩
  | r::rs,os,h=>by
    simp only [pickObjs,Option.bind_eq_some_iff,Option.map_eq_some_iff] at h
    obtain ⟨o,ho,os',hos,rfl⟩:=h
    obtain ⟨h1,h2⟩:=pick_get hos
    refine ⟨by simp [h1],fun i r' hr=>?_⟩
    cases i with
    | zero=>simp at hr; subst hr; exact ⟨o,ho,rfl⟩
    | succ i=>simp at hr; simpa using h2 i r' hr
theorem nodup_idx:∀ {l:List Nat},nodupB l = true→l.Nodup
  | [],_=>List.nodup_nil
  | r::rs,h=>by
    simp only [nodupB,Bool.and_eq_true,Bool.not_eq_true',List.contains_eq_mem,decide_eq_false_iff_not] at h
    exact List.nodup_cons.2 ⟨h.1,nodup_idx h.2⟩
def Gh.part (g:Gh) (sub:List Nat):Gh:={ blk:=fun i=>g.blk (sub.getD i 0),base:=fun i=>g.base (sub.getD i 0),cap:=fun i=>g.cap (sub.getD i 0),D:=g.D,cd:=g.cd }
theorem getD_idx {sub:List Nat} {l:Nat} (h:l ∈ sub):sub.getD (sub.idxOf l) 0 = l:=by
  have hlt:=List.idxOf_lt_length_of_mem h
  rw [List.getD_eq_getElem?_getD,List.getElem?_eq_getElem hlt,Option.getD_some,List.getElem_idxOf]
theorem corr_sub {sub:List Nat} {os:List Obj} (hp:pickObjs H sub = some os):Corr (· ∈ sub) sub.idxOf g H (g.part sub) (os.map (renO sub.idxOf)):=by
  obtain ⟨h1,h2⟩:=pick_get hp
  refine ⟨rfl,rfl,fun l o hl ho=>?_,fun l hl=>?_,fun l hl=>?_,fun l hl=>?_⟩
  · have hlt:=List.idxOf_lt_length_of_mem hl
    obtain ⟨o',e1,e2⟩:=h2 (sub.idxOf l) l (by rw [List.getElem?_eq_getElem hlt,List.getElem_idxOf])
    rw [ho] at e1
    cases e1
    rw [List.getElem?_map,e2]; rfl
  · show g.blk _ = _; rw [getD_idx hl]
  · show g.base _ = _; rw [getD_idx hl]
  · show g.cap _ = _; rw [getD_idx hl]
theorem within_mem {ks rs:List Nat} (h:within ks rs = true):∀ r ∈ rs,r ∈ ks:=fun r hr=>by
  have:=List.all_eq_true.1 h r hr
  simpa using this
theorem st_sub {sub:List Nat} {os:List Obj} (hs:StRel w g H) (hp:pickObjs H sub = some os) (hw:os.all (fun o=>within sub (objRefs o)) = true) (hn:nodupB sub = true) :
    StRel w (g.part sub) (os.map (renO sub.idxOf)):=by
  obtain ⟨h1,h2⟩:=pick_get hp
  have hc:=corr_sub (g:=g) hp
  have hnd:=nodup_idx hn
  have hget:∀ i,i < os.length→∃ l o,sub[i]? = some l∧l ∈ sub∧H[l]? = some o∧os[i]? = some o∧sub.idxOf l = i∧sub.getD i 0 = l:=fun i hi=>by
    have hi':i < sub.length:=by omega
    obtain ⟨o,e1,e2⟩:=h2 i sub[i] (by simp [hi'])
    refine ⟨sub[i],o,by simp [hi'],List.getElem_mem hi',e1,e2,?_,by simp [List.getD_eq_getElem?_getD,hi']⟩
    exact List.Nodup.idxOf_getElem hnd i hi'
  refine ⟨fun i o ho=>?_,fun i k hi hk e=>?_,fun i o ho=>?_,hs.dom⟩
  · rw [List.getElem?_map,Option.map_eq_some_iff] at ho
    obtain ⟨o',ho',rfl⟩:=ho
    obtain ⟨l,o2,e1,e2,e3,e4,e5,_⟩:=hget i (List.getElem?_eq_some_iff.1 ho').1
    rw [ho'] at e4
    cases e4
    have:=(hs.objs l _ e3).ren hc e2 (within_mem (List.all_eq_true.1 hw _ (List.mem_of_getElem? ho')))
    rwa [e5] at this
  · rw [List.length_map] at hi hk
    obtain ⟨l,o,e1,e2,e3,_,e5,e6⟩:=hget i hi
    obtain ⟨l',o',f1,f2,f3,_,f5,f6⟩:=hget k hk
    have he:g.blk l = g.blk l':=by
      have:g.blk (sub.getD i 0) = g.blk (sub.getD k 0):=e
      rwa [e6,f6] at this
    have:=hs.inj l l' (List.getElem?_eq_some_iff.1 e3).1 (List.getElem?_eq_some_iff.1 f3).1 he
    rw [← e5,← f5,this]
  · rw [List.getElem?_map,Option.map_eq_some_iff] at ho
    obtain ⟨o',ho',rfl⟩:=ho
    obtain ⟨l,o2,e1,e2,e3,e4,e5,_⟩:=hget i (List.getElem?_eq_some_iff.1 ho').1
    rw [ho'] at e4
    cases e4
    have:=(hs.stand l _ e3).ren hc e2
    rwa [e5] at this
end
end Go.Proofs.YtepbfecmageleaaGreatDoor

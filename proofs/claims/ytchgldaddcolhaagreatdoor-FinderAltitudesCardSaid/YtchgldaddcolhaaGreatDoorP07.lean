/- Part of the proof of Rows.FinderAltitudesCardSaid: EvZ, EvZ2, EvZ3, EvA, EvD, EvW, EvNa, EvL, FaG. -/
import Derived.Test.YtchgldaddcolhaaGreatDoorP03
import Derived.Test.YtchgldaddcolhaaGreatDoorP04
import Derived.Test.YtchgldaddcolhaaGreatDoorP05
import Derived.Test.YtchgldaddcolhaaGreatDoorP06
set_option linter.all false
namespace Go.Proofs.YtchgldaddcolhaaGreatDoor
open Go
variable[Sub]
theorem renL_eq(f:Nat→Nat):∀ aZ:List AV,renL f aZ = aZ.map (ren f)
 | []=>by simp[renL]
 | a::aZ=>by simp[renL,renL_eq f aZ]
theorem mem_refsL:∀ {aZ:List AV} {r:Nat},r ∈ refsL aZ↔∃ a ∈ aZ,r ∈ refs a
 | [],r=>by simp[refsL]
 | a::aZ,r=>by simp[refsL,mem_refsL (aZ:=aZ)]
structure Corr (S:Nat→Prop) (f:Nat→Nat) (g:Gh) (H:List Obj) (g':Gh) (H':List Obj):Prop where
 D:g'.D = g.D
 cd:g'.cd = g.cd
 get:∀ l o,S l→H[l]? = some o→H'[f l]? = some (renO f o)
 blk:∀ l,S l→g'.blk (f l) = g.blk l
 base:∀ l,S l→g'.base (f l) = g.base l
 cap:∀ l,S l→g'.cap (f l) = g.cap l
 kin:∀ l,S l→g'.kin (f l) = g.kin l
theorem Corr.has{S:Nat→Prop}{f:Nat→Nat}{g g':Gh}{H H':List Obj}(hc:Corr S f g H g' H'){l b:Nat}(hl:S l):g'.Has (f l) b↔g.Has l b:=by
 rw[Gh.Has,Gh.Has,hc.blk l hl,hc.kin l hl]
section
variable{w w':World}{g g':Gh}{H H':List Obj}{S:Nat→Prop}{f:Nat→Nat}
theorem Rep.ren(hc:Corr S f g H g' H'){c:Value}{a:AV}(h:Rep w g H c a):(∀ r ∈ refs a,S r)→Rep w g' H' c (ren f a):=by
 have lst:∀ {aZ:List AV},(∀ r ∈ refsL aZ,S r)→∀ {i:Nat} {x:AV},aZ[i]? = some x→∀ r ∈ refs x,S r:=fun h i x hx r hr =>
  h r (mem_refsL.2 ⟨x,List.mem_of_getElem? hx,hr⟩)
 induction h with
 | p h=>intro _; simp only[Go.Proofs.YtchgldaddcolhaaGreatDoor.ren]; exact .p (by rw[hc.D]; exact h)
 | lit h=>intro _; simp only[Go.Proofs.YtchgldaddcolhaaGreatDoor.ren]; exact .lit (by rw[hc.D]; exact h)
 | ar h =>
  intro hr
  simp only[Go.Proofs.YtchgldaddcolhaaGreatDoor.ren]
  obtain⟨h1,h2,es,fz,ver,rows,hH,hv,hoff,hf⟩:=h
  simp only[refs,List.mem_singleton,forall_eq]at hr
  have hS:=hr
  refine .ar ⟨h1,h2,es,fz,ver,rows,by simpa [renO] using hc.get _ _ hS hH,hv,hoff,fun hsn=>?_⟩
  rw[hc.blk _ hS,hc.base _ hS,hc.cap _ hS,hc.D]
  exact hf hsn
 | ptr h =>
  intro hr
  simp only[refs,List.mem_singleton,forall_eq]at hr
  have hS:=hr
  simp only[Go.Proofs.YtchgldaddcolhaaGreatDoor.ren]
  rw[← hc.blk _ hS]
  exact .ptr (by simpa [renO] using hc.get _ _ hS h)
 | elp h =>
  intro hr
  simp only[Go.Proofs.YtchgldaddcolhaaGreatDoor.ren]
  obtain⟨es,fz,ver,rows,hH,hv,hi,hf⟩:=h
  simp only[refs,List.mem_singleton,forall_eq]at hr
  have hS:=hr
  refine .elp ⟨es,fz,ver,rows,by simpa [renO] using hc.get _ _ hS hH,hv,hi,fun hsn=>?_⟩
  rw[hc.blk _ hS,hc.base _ hS,hc.D]
  exact hf hsn
 | imm cs hD hcell hr=>intro _; simp only[Go.Proofs.YtchgldaddcolhaaGreatDoor.ren]; exact .imm cs (by rw[hc.D]; exact hD) hcell (by rw[hc.D]; exact hr)
 | fn ha hb _ _ ih1 ih2 =>
  intro hr
  simp only[Go.Proofs.YtchgldaddcolhaaGreatDoor.ren,renL_eq]
  simp only[refs,List.mem_append]at hr
  refine .fn (by simpa using ha) (by simpa using hb) (fun i c x hc' hx=>?_) (fun i c x hc' hx=>?_)
  ·rw[List.getElem?_map,Option.map_eq_some_iff]at hx
   obtain⟨y,hy,rfl⟩:=hx
   exact ih1 i c y hc' hy (lst (fun r h=>hr r (.inl h)) hy)
  ·rw[List.getElem?_map,Option.map_eq_some_iff]at hx
   obtain⟨y,hy,rfl⟩:=hx
   exact ih2 i c y hc' hy (lst (fun r h=>hr r (.inr h)) hy)
 | agg ha h1 _ ih =>
  intro hr
  simp only[Go.Proofs.YtchgldaddcolhaaGreatDoor.ren,renL_eq]
  simp only[refs]at hr
  refine .agg (by simpa using ha) h1 (fun i c x hc' hx=>?_)
  rw[List.getElem?_map,Option.map_eq_some_iff]at hx
  obtain⟨y,hy,rfl⟩:=hx
  exact ih i c y hc' hy (lst hr hy)
 | tup ha _ ih =>
  intro hr
  simp only[Go.Proofs.YtchgldaddcolhaaGreatDoor.ren,renL_eq]
  simp only[refs]at hr
  refine .tup (by simpa using ha) (fun i c x hc' hx=>?_)
  rw[List.getElem?_map,Option.map_eq_some_iff]at hx
  obtain⟨y,hy,rfl⟩:=hx
  exact ih i c y hc' hy (lst hr hy)
 | map h =>
  intro hr
  simp only[refs,List.mem_singleton,forall_eq]at hr
  have hS:=hr
  simp only[Go.Proofs.YtchgldaddcolhaaGreatDoor.ren]
  rw[← hc.blk _ hS]
  exact .map (by simpa [renO] using hc.get _ _ hS h)
 | emp=>intro _; simp only[Go.Proofs.YtchgldaddcolhaaGreatDoor.ren]; exact .emp
 | nk h=>intro _; simp only[Go.Proofs.YtchgldaddcolhaaGreatDoor.ren]; exact .nk h
 | sk h =>
  intro hr
  simp only[Go.Proofs.YtchgldaddcolhaaGreatDoor.ren]
  obtain⟨h1,h2,es,ver,lens,rows,hH,hv,hf⟩:=h
  simp only[refs,List.mem_singleton,forall_eq]at hr
  have hS:=hr
  refine .sk ⟨h1,h2,es,ver,lens,_,by simpa only [renO] using hc.get _ _ hS hH,hv,?_⟩
  rw[hc.kin _ hS]
  exact hf
 | skp h =>
  intro hr
  simp only[Go.Proofs.YtchgldaddcolhaaGreatDoor.ren]
  obtain⟨es,ver,lens,rows,hH,hv,hf⟩:=h
  simp only[refs,List.mem_singleton,forall_eq]at hr
  have hS:=hr
  refine .skp ⟨es,ver,lens,_,by simpa only [renO] using hc.get _ _ hS hH,hv,?_⟩
  rw[hc.kin _ hS]
  exact hf
 | csl h hn =>
  intro hr
  simp only[refs,List.mem_singleton,forall_eq]at hr
  have hS:=hr
  simp only[Go.Proofs.YtchgldaddcolhaaGreatDoor.ren]
  rw[← hc.blk _ hS]
  exact .csl (by simpa [renO] using hc.get _ _ hS h) hn
 | yld h =>
  intro hr
  simp only[refs,List.mem_singleton,forall_eq]at hr
  have hS:=hr
  simp only[Go.Proofs.YtchgldaddcolhaaGreatDoor.ren]
  rw[← hc.blk _ hS]
  have:=hc.get _ _ hS h
  simp only[renO]at this
  exact .yld this
theorem lk_renE(f:Nat→Nat):∀ (env:List (Nat×AV)) (t:Nat),lk (renE f env) t = (lk env t).map (ren f)
 | [],t=>rfl
 | (m,a)::env,t=>by
  have:=lk_renE f env t
  simp only[renE]at this
  simp only[renE,List.map_cons,lk]
  split
  ·rfl
  ·exact this
theorem lk_mem:∀ {env:List (Nat×AV)} {t:Nat} {v:AV},lk env t = some v→v ∈ env.map (·.2)
 | [],_,_,h=>by cases h
 | (m,a)::env,t,v,h=>by
  simp only[lk]at h
  split at h
  ·cases h; simp
  ·have:=lk_mem h; simp only[List.map_cons,List.mem_cons]; exact .inr this
theorem ObjRel.ren(hc:Corr S f g H g' H'){l:Nat}{o:Obj}(h:ObjRel w g H l o)(hl:S l)(hr:∀ r ∈ objRefs o,S r):ObjRel w g' H' (f l) (renO f o):=by
 cases o with
 | cells c =>
  obtain⟨vs,e,h1,h2,h3⟩:=h
  refine⟨vs,e,by rw[hc.blk _ hl]; exact h1,by rw[renL_eq]; simpa using h2,fun i v x hv hx=>?_⟩
  rw[renL_eq,List.getElem?_map,Option.map_eq_some_iff]at hx
  obtain⟨y,hy,rfl⟩:=hx
  exact⟨(h3 i v y hv hy).1.ren hc (fun r hr'=>hr r (mem_refsL.2 ⟨y,List.mem_of_getElem? hy,hr'⟩)),(h3 i v y hv hy).2⟩
 | arr es fz ver rows =>
  show ObjRel w g' H' (f l) (.arr es fz ver rows)
  simp only[ObjRel]
  rw[hc.blk _ hl,hc.base _ hl,hc.cap _ hl,hc.D]
  exact h
 | map es =>
  obtain⟨ents,ck,h1,h2,h3⟩:=h
  refine⟨ents,ck,⟨by rw[hc.blk _ hl]; exact h1.1,h1.2⟩,by simpa using h2,fun i e p he hx=>?_⟩
  rw[List.getElem?_map,Option.map_eq_some_iff]at hx
  obtain⟨y,hy,rfl⟩:=hx
  exact⟨(h3 i e y he hy).1,(h3 i e y he hy).2.ren hc (fun r hr'=>hr r (mem_refsL.2 ⟨y.2,List.mem_map.2 ⟨y,List.mem_of_getElem? hy,rfl⟩,hr'⟩))⟩
 | loop st env ps a b =>
  obtain⟨r,h1,h2⟩:=h
  refine⟨r,by rw[hc.blk _ hl]; exact h1,h2.1,fun hg=>?_⟩
  obtain⟨k1,k2,nt,vars,k3,k4,k5,k6,k7⟩:=h2.2 hg
  refine⟨k1,fun t v hv=>?_,nt,vars,by rw[hc.cd]; exact k3,by rw[hc.cd]; exact k4,k5,fun t v hv=>?_,k7⟩
  ·rw[lk_renE,Option.map_eq_some_iff]at hv
   obtain⟨u,hu,rfl⟩:=hv
   exact (k2 t u hu).ren hc (fun r hr'=>hr r (mem_refsL.2 ⟨u,lk_mem hu,hr'⟩))
  ·rw[lk_renE,Option.map_eq_some_iff]at hv
   obtain⟨u,hu,rfl⟩:=hv
   exact k6 t u hu
 | stk es ver lens rows =>
  obtain⟨⟨vs,e,h1,h0⟩,h2,h3⟩:=h
  refine⟨⟨vs,e,by rw[hc.blk _ hl]; exact h1,h0⟩,fun r hr'=>?_,fun v n hm=>?_⟩
  ·obtain⟨r0,q1,rfl⟩:=List.mem_map.1 hr'
   rw[renL_eq,List.length_map]
   exact h2 r0 q1
  ·rw[hc.kin _ hl,List.length_map]
   obtain⟨a1,a2,a3,a4,a5,a6⟩:=h3 v n hm
   refine⟨a1,a2,a3,(hc.has hl).2 a4,a5,fun i j row x hi hrow hx=>?_⟩
   rw[List.getElem?_map,Option.map_eq_some_iff]at hrow
   obtain⟨r0,hr0,rfl⟩:=hrow
   rw[renL_eq,List.getElem?_map,Option.map_eq_some_iff]at hx
   obtain⟨y,hy,rfl⟩:=hx
   obtain⟨c,c1,c2,c3⟩:=a6 i j r0 y hi hr0 hy
   exact⟨c,c1,c2.ren hc (fun r hr'=>hr r (mem_refsL.2 ⟨y,List.mem_flatten.2 ⟨r0,List.mem_of_getElem? hr0,List.mem_of_getElem? hy⟩,hr'⟩)),c3⟩
theorem Stands.ren(hc:Corr S f g H g' H'){l:Nat}{o:Obj}(h:Stands g l o)(hl:S l):Stands g' (f l) (renO f o):=by
 cases o with
 | cells c=>simp only[renO,Stands]; rw[hc.blk _ hl,hc.D]; exact h
 | arr es fz ver rows =>
  cases fz with
  | none=>show ∀ i,¬ g'.D (g'.blk (f l)) i; rw[hc.blk _ hl,hc.D]; exact h
  | some k=>show k ≤ ver∧∀ i,g'.D (g'.blk (f l)) i→i < g'.base (f l) + rows.length * es; rw[hc.blk _ hl,hc.base _ hl,hc.D]; exact h
 | map es=>simp only[renO,Stands]; rw[hc.blk _ hl,hc.D]; exact h
 | loop=>simp only[renO,Stands]; rw[hc.blk _ hl,hc.D]; exact h
 | stk=>simp only[renO,Stands]; rw[hc.blk _ hl,hc.D]; exact h
theorem pick_get:∀ {sub:List Nat} {os:List Obj},pickObjs H sub = some os→os.length = sub.length∧∀ (i r:Nat),sub[i]? = some r→∃ o:Obj,H[r]? = some o∧os[i]? = some o
 | [],os,h=>by simp only[pickObjs,Option.some.injEq]at h; subst h; exact⟨rfl,fun i r h=>by simp at h⟩
 | r::rs,os,h=>by
  simp only[pickObjs,Option.bind_eq_some_iff,Option.map_eq_some_iff]at h
  obtain⟨o,ho,os',hos,rfl⟩:=h
  obtain⟨h1,h2⟩:=pick_get hos
  refine⟨by simp[h1],fun i r' hr=>?_⟩
  cases i with
  | zero=>simp at hr; subst hr; exact⟨o,ho,rfl⟩
  | succ i=>simp at hr; simpa using h2 i r' hr
theorem nodup_idx:∀ {l:List Nat},nodupB l = true→l.Nodup
 | [],_=>List.nodup_nil
 | r::rs,h=>by
  simp only[nodupB,Bool.and_eq_true,Bool.not_eq_true',List.contains_eq_mem,decide_eq_false_iff_not]at h
  exact List.nodup_cons.2 ⟨h.1,nodup_idx h.2⟩
def Gh.part(g:Gh)(sub:List Nat):Gh:={ blk:=fun i=>g.blk (sub.getD i 0),base:=fun i=>g.base (sub.getD i 0),cap:=fun i=>g.cap (sub.getD i 0),D:=g.D,cd:=g.cd,kin:=fun i=>g.kin (sub.getD i 0) }
theorem getD_idx{sub:List Nat}{l:Nat}(h:l ∈ sub):sub.getD (sub.idxOf l) 0 = l:=by
 have hlt:=List.idxOf_lt_length_of_mem h
 rw[List.getD_eq_getElem?_getD,List.getElem?_eq_getElem hlt,Option.getD_some,List.getElem_idxOf]
theorem corr_sub{sub:List Nat}{os:List Obj}(hp:pickObjs H sub = some os):Corr (· ∈ sub) sub.idxOf g H (g.part sub) (os.map (renO sub.idxOf)):=by
 obtain⟨h1,h2⟩:=pick_get hp
 refine⟨rfl,rfl,fun l o hl ho=>?_,fun l hl=>?_,fun l hl=>?_,fun l hl=>?_,fun l hl=>?_⟩
 ·have hlt:=List.idxOf_lt_length_of_mem hl
  obtain⟨o',e1,e2⟩:=h2 (sub.idxOf l) l (by rw[List.getElem?_eq_getElem hlt,List.getElem_idxOf])
  rw[ho]at e1
  cases e1
  rw[List.getElem?_map,e2]; rfl
 ·show g.blk _ = _; rw[getD_idx hl]
 ·show g.base _ = _; rw[getD_idx hl]
 ·show g.cap _ = _; rw[getD_idx hl]
 ·show g.kin _ = _; rw[getD_idx hl]
theorem within_mem{ks rs:List Nat}(h:within ks rs = true):∀ r ∈ rs,r ∈ ks:=fun r hr=>by
 have:=List.all_eq_true.1 h r hr
 simpa using this
theorem st_sub{sub:List Nat}{os:List Obj}(hs:StRel w g H)(hp:pickObjs H sub = some os)(hw:os.all (fun o=>within sub (objRefs o)) = true)(hn:nodupB sub = true) :
  StRel w (g.part sub) (os.map (renO sub.idxOf)):=by
 obtain⟨h1,h2⟩:=pick_get hp
 have hc:=corr_sub (g:=g) hp
 have hnd:=nodup_idx hn
 have hget:∀ i,i < os.length→∃ l o,sub[i]? = some l∧l ∈ sub∧H[l]? = some o∧os[i]? = some o∧sub.idxOf l = i∧sub.getD i 0 = l:=fun i hi=>by
  have hi':i < sub.length:=by omega
  obtain⟨o,e1,e2⟩:=h2 i sub[i] (by simp[hi'])
  refine⟨sub[i],o,by simp[hi'],List.getElem_mem hi',e1,e2,?_,by simp[List.getD_eq_getElem?_getD,hi']⟩
  exact List.Nodup.idxOf_getElem hnd i hi'
 refine⟨fun i o ho=>?_,fun i k hi hk b e e'=>?_,fun i o ho=>?_,hs.dom,fun i b hi hx=>?_,hs.glob⟩
 ·rw[List.getElem?_map,Option.map_eq_some_iff]at ho
  obtain⟨o',ho',rfl⟩:=ho
  obtain⟨l,o2,e1,e2,e3,e4,e5,_⟩:=hget i (List.getElem?_eq_some_iff.1 ho').1
  rw[ho']at e4
  cases e4
  have:=(hs.objs l _ e3).ren hc e2 (within_mem (List.all_eq_true.1 hw _ (List.mem_of_getElem? ho')))
  rwa [e5]at this
 ·rw[List.length_map]at hi hk
  obtain⟨l,o,e1,e2,e3,_,e5,e6⟩:=hget i hi
  obtain⟨l',o',f1,f2,f3,_,f5,f6⟩:=hget k hk
  rw[← e5,hc.has e2]at e
  rw[← f5,hc.has f2]at e'
  have:=hs.inj2 l l' (List.getElem?_eq_some_iff.1 e3).1 (List.getElem?_eq_some_iff.1 f3).1 b e e'
  rw[← e5,← f5,this]
 ·rw[List.getElem?_map,Option.map_eq_some_iff]at ho
  obtain⟨o',ho',rfl⟩:=ho
  obtain⟨l,o2,e1,e2,e3,e4,e5,_⟩:=hget i (List.getElem?_eq_some_iff.1 ho').1
  rw[ho']at e4
  cases e4
  have:=(hs.stand l _ e3).ren hc e2
  rwa [e5]at this
 ·rw[List.length_map]at hi
  obtain⟨l,o,e1,e2,e3,_,e5,e6⟩:=hget i hi
  rw[← e5,hc.kin l e2]at hx
  have:=hs.ext l b (List.getElem?_eq_some_iff.1 e3).1 hx
  rw[← e5,hc.blk l e2]
  exact this
end
end Go.Proofs.YtchgldaddcolhaaGreatDoor
namespace Go.Proofs.YtchgldaddcolhaaGreatDoor
open Go
variable[Sub]
theorem putBack_len:∀ (sub:List Nat) (os H:List Obj),(putBack H sub os).length = H.length
 | [],_,H=>by simp[putBack]
 | _::_,[],H=>by simp[putBack]
 | r::rs,o::os,H=>by simp[putBack,putBack_len rs os]
theorem putBack_ne:∀ (sub:List Nat) (os H:List Obj) {l:Nat},l ∉ sub→(putBack H sub os)[l]? = H[l]?
 | [],_,H,l,_=>by simp[putBack]
 | _::_,[],H,l,_=>by simp[putBack]
 | r::rs,o::os,H,l,h=>by
  simp only[List.mem_cons,not_or]at h
  simp only[putBack]
  rw[putBack_ne rs os _ h.2,List.getElem?_set_ne (Ne.symm h.1)]
theorem putBack_get:∀ (sub:List Nat) (os H:List Obj),sub.Nodup→∀ (i l:Nat) (o:Obj),sub[i]? = some l→os[i]? = some o→l < H.length→(putBack H sub os)[l]? = some o
 | [],_,H,_,i,l,o,h,_,_=>by simp at h
 | _::_,[],H,_,i,l,o,_,h,_=>by simp at h
 | r::rs,o::os,H,hn,i,l,o',h1,h2,h3=>by
  obtain⟨n1,n2⟩:=List.nodup_cons.1 hn
  simp only[putBack]
  cases i with
  | zero =>
   simp at h1 h2
   subst h1
   subst h2
   rw[putBack_ne rs os _ n1,List.getElem?_set_self h3]
  | succ i =>
   simp at h1 h2
   exact putBack_get rs os _ n2 i l o' h1 h2 (by simpa using h3)
section
variable{w w':World}{g gs:Gh}{H H3 os osn:List Obj}{sub news:List Nat}
def Gh.back(g gs:Gh)(n:Nat)(sub news:List Nat):Gh where
 blk l:=if l ∈ sub then gs.blk (sub.idxOf l) else if l < n then g.blk l else gs.blk (news.getD (l - n) 0)
 base l:=if l ∈ sub then gs.base (sub.idxOf l) else if l < n then g.base l else gs.base (news.getD (l - n) 0)
 cap l:=if l ∈ sub then gs.cap (sub.idxOf l) else if l < n then g.cap l else gs.cap (news.getD (l - n) 0)
 D:=gs.D
 cd:=gs.cd
 kin l:=if l ∈ sub then gs.kin (sub.idxOf l) else if l < n then g.kin l else gs.kin (news.getD (l - n) 0)
def backH(H H3:List Obj)(sub news:List Nat)(osn:List Obj):List Obj :=
 putBack H sub ((H3.take sub.length).map (renO (backTo H.length sub news)))++osn.map (renO (backTo H.length sub news))
structure Back (w w':World) (g gs:Gh) (H H3:List Obj) (sub news:List Nat) (os osn:List Obj):Prop where
 st:StRel w g H
 pick:pickObjs H sub = some os
 nd:sub.Nodup
 cl:∀ o ∈ os,∀ r ∈ objRefs o,r ∈ sub
 evo:Evo w (g.part sub) (os.map (renO sub.idxOf)) w' gs H3
 st3:StRel w' gs H3
 len:sub.length ≤ H3.length
 pickn:pickObjs H3 news = some osn
 ndn:news.Nodup
 big:∀ i ∈ news,sub.length ≤ i
 cl3:∀ i o,(i < sub.length∨i ∈ news)→H3[i]? = some o→∀ r ∈ objRefs o,r < sub.length∨r ∈ news
theorem Back.lt(h:Back w w' g gs H H3 sub news os osn){l:Nat}(hl:l ∈ sub):l < H.length:=by
 obtain⟨_,h2⟩:=pick_get h.pick
 have hlt:=List.idxOf_lt_length_of_mem hl
 obtain⟨o,e1,_⟩:=h2 (sub.idxOf l) l (by rw[List.getElem?_eq_getElem hlt,List.getElem_idxOf])
 exact (List.getElem?_eq_some_iff.1 e1).1
theorem Back.to_sub(h:Back w w' g gs H H3 sub news os osn){i:Nat}(hi:i < sub.length):backTo H.length sub news i = sub[i]∧sub[i] ∈ sub∧sub.idxOf sub[i] = i :=
 ⟨by simp[backTo,hi,List.getD_eq_getElem?_getD],List.getElem_mem hi,List.Nodup.idxOf_getElem h.nd i hi⟩
theorem Back.to_idx(h:Back w w' g gs H H3 sub news os osn){l:Nat}(hl:l ∈ sub):backTo H.length sub news (sub.idxOf l) = l∧sub.idxOf l < sub.length:=by
 have hlt:=List.idxOf_lt_length_of_mem hl
 exact⟨by rw[(h.to_sub hlt).1,List.getElem_idxOf],hlt⟩
theorem Back.to_new(h:Back w w' g gs H H3 sub news os osn){i:Nat}(hi:i ∈ news):backTo H.length sub news i = H.length + news.idxOf i:=by
 have:=h.big i hi
 simp[backTo,Nat.not_lt.2 this]
theorem Back.corr(h:Back w w' g gs H H3 sub news os osn):Corr (fun i=>i < sub.length∨i ∈ news) (backTo H.length sub news) gs H3 (g.back gs H.length sub news) (backH H H3 sub news osn):=by
 obtain⟨p1,p2⟩:=pick_get h.pickn
 have key:∀ {α:Type} (fs fg:Nat→α) (i:Nat),(i < sub.length∨i ∈ news) →
   (if backTo H.length sub news i ∈ sub then fs (sub.idxOf (backTo H.length sub news i)) else if backTo H.length sub news i < H.length then fg (backTo H.length sub news i) else fs (news.getD (backTo H.length sub news i - H.length) 0)) = fs i:=fun {α} fs fg i hi=>by
  by_cases h1:i < sub.length
  ·obtain⟨e1,e2,e3⟩:=h.to_sub h1
   rw[e1,if_pos e2,e3]
  ·have hn:=hi.resolve_left h1
   have e1:=h.to_new hn
   have hns:backTo H.length sub news i ∉ sub:=fun hm=>by have:=h.lt hm; omega
   rw[if_neg hns,if_neg (by omega),e1]
   have hlt:=List.idxOf_lt_length_of_mem hn
   rw[Nat.add_sub_cancel_left,getD_idx hn]
 refine⟨rfl,rfl,fun i o hi ho=>?_,fun i hi=>key gs.blk g.blk i hi,fun i hi=>key gs.base g.base i hi,fun i hi=>key gs.cap g.cap i hi,fun i hi=>key gs.kin g.kin i hi⟩
 by_cases h1:i < sub.length
 ·obtain⟨e1,e2,e3⟩:=h.to_sub h1
  rw[e1,backH,List.getElem?_append_left (by rw[putBack_len]; exact h.lt e2)]
  refine putBack_get _ _ _ h.nd i _ _ (by simp[h1]) ?_ (h.lt e2)
  rw[List.getElem?_map,List.getElem?_take,if_pos h1,ho]; rfl
 ·have hn:=hi.resolve_left h1
  rw[h.to_new hn,backH,List.getElem?_append_right (by rw[putBack_len]; omega),putBack_len,Nat.add_sub_cancel_left,List.getElem?_map]
  have hlt:=List.idxOf_lt_length_of_mem hn
  obtain⟨o',e1,e2⟩:=p2 (news.idxOf i) i (by rw[List.getElem?_eq_getElem hlt,List.getElem_idxOf])
  rw[ho]at e1
  cases e1
  rw[e2]; rfl
theorem Back.cases(h:Back w w' g gs H H3 sub news os osn){l:Nat}{o:Obj}(hl:(backH H H3 sub news osn)[l]? = some o) :
  (∃ i o3,(i < sub.length∨i ∈ news)∧H3[i]? = some o3∧l = backTo H.length sub news i∧o = renO (backTo H.length sub news) o3)∨(l ∉ sub∧l < H.length∧H[l]? = some o):=by
 obtain⟨p1,p2⟩:=pick_get h.pickn
 by_cases hs:l ∈ sub
 ·obtain⟨e1,e2⟩:=h.to_idx hs
  have hi:sub.idxOf l < H3.length:=Nat.lt_of_lt_of_le e2 h.len
  have:=h.corr.get (sub.idxOf l) H3[sub.idxOf l] (.inl e2) (by simp[hi])
  rw[e1,hl]at this
  cases this
  exact .inl ⟨_,_,.inl e2,by simp[hi],e1.symm,rfl⟩
 ·by_cases hlt:l < H.length
  ·rw[backH,List.getElem?_append_left (by rw[putBack_len]; exact hlt),putBack_ne _ _ _ hs]at hl
   exact .inr ⟨hs,hlt,hl⟩
  ·rw[backH,List.getElem?_append_right (by rw[putBack_len]; omega),putBack_len,List.getElem?_map,Option.map_eq_some_iff]at hl
   obtain⟨o3,ho3,rfl⟩:=hl
   have hk:l - H.length < news.length:=by rw[← p1]; exact (List.getElem?_eq_some_iff.1 ho3).1
   obtain⟨o',e1,e2⟩:=p2 (l - H.length) news[l - H.length] (by simp[hk])
   rw[ho3]at e2
   cases e2
   have hm:news[l - H.length] ∈ news:=List.getElem_mem hk
   exact .inl ⟨_,_,.inr hm,e1,by rw[h.to_new hm,List.Nodup.idxOf_getElem h.ndn]; omega,rfl⟩
theorem Back.far(h:Back w w' g gs H H3 sub news os osn){l b:Nat}(hs:l ∉ sub)(hl:l < H.length)(hb:g.Has l b)(i:Nat):¬ OwnAny (g.part sub) (os.map (renO sub.idxOf)) b i:=by
 rintro⟨⟨m,hm,he⟩,_⟩
 have hm':m < sub.length:=by rw[List.length_map,(pick_get h.pick).1]at hm; exact hm
 have he':g.Has (sub.getD m 0) b:=he
 have hmem:sub[m] ∈ sub:=List.getElem_mem hm'
 have:sub.getD m 0 = sub[m]:=by simp[List.getD_eq_getElem?_getD,hm']
 rw[this]at he'
 have:=h.st.inj2 _ _ (h.lt hmem) hl b he' hb
 exact hs (this ▸ hmem)
theorem Back.own(h:Back w w' g gs H H3 sub news os osn){b i:Nat}(ho:OwnAny (g.part sub) (os.map (renO sub.idxOf)) b i):OwnAny g H b i:=by
 obtain⟨⟨m,hm,he⟩,hd⟩:=ho
 have hm':m < sub.length:=by rw[List.length_map,(pick_get h.pick).1]at hm; exact hm
 have:sub.getD m 0 = sub[m]:=by simp[List.getD_eq_getElem?_getD,hm']
 have he':g.Has (sub.getD m 0) b:=he
 rw[this]at he'
 exact⟨⟨sub[m],h.lt (List.getElem_mem hm'),he'⟩,hd⟩
theorem Back.apart(h:Back w w' g gs H H3 sub news os osn){l i b:Nat}{o3:Obj}(hs:l ∉ sub)(hl:l < H.length)(ho:H3[i]? = some o3)(h1:gs.Has i b)(h2:g.Has l b):False:=by
 have hi:=(List.getElem?_eq_some_iff.1 ho).1
 obtain⟨j,hj⟩:=h.st3.free hi h1
 rcases h.evo.own b j ⟨⟨i,hi,h1⟩,hj⟩ with h3 | h3
 ·exact h.far hs hl h2 j h3
 ·have:=h.st.has_lt hl h2
  omega
theorem Gh.back_other{n l:Nat}(hs:l ∉ sub)(hl:l < n) :
  (g.back gs n sub news).blk l = g.blk l∧(g.back gs n sub news).base l = g.base l∧(g.back gs n sub news).cap l = g.cap l:=by
 simp[Gh.back,hs,hl]
theorem Gh.back_kin{n l:Nat}(hs:l ∉ sub)(hl:l < n):(g.back gs n sub news).kin l = g.kin l:=by
 simp[Gh.back,hs,hl]
theorem Gh.back_has{n l b:Nat}(hs:l ∉ sub)(hl:l < n):(g.back gs n sub news).Has l b↔g.Has l b:=by
 rw[Gh.Has,Gh.Has,Gh.back_kin hs hl,(Gh.back_other hs hl).1]
theorem Back.sound(h:Back w w' g gs H H3 sub news os osn):Evo w g H w' (g.back gs H.length sub news) (backH H H3 sub news osn)∧StRel w' (g.back gs H.length sub news) (backH H H3 sub news osn):=by
 have hc:=h.corr
 have hcs:=corr_sub (g:=g) h.pick
 have hheap:∀ l,l ∉ sub→l < H.length→∀ b,g.Has l b→w'.heap[b]? = w.heap[b]?:=fun l hs hl b hb=>h.evo.keep.same (h.st.has_lt hl hb) (h.far hs hl hb)
 have hD:∀ b i,g.D b i→gs.D b i:=h.evo.D
 have hsame:∀ l o,l ∉ sub→H[l]? = some o→OStep w g H w' (g.back gs H.length sub news) (backH H H3 sub news osn) l:=fun l o hs ho=>by
  have hl:=(List.getElem?_eq_some_iff.1 ho).1
  obtain⟨b1,b2,b3⟩:=Gh.back_other (g:=g) (gs:=gs) (news:=news) hs hl
  refine .same ?_ b1 b2 b3 (Gh.back_kin hs hl)
  rw[backH,List.getElem?_append_left (by rw[putBack_len]; exact hl),putBack_ne _ _ _ hs]
 have atom:∀ c a l,refs a = [l]→refs (ren sub.idxOf a) = [sub.idxOf l]→l ∈ sub→Rep w g H c a→Rep w' (g.back gs H.length sub news) (backH H H3 sub news osn) c (ren (backTo H.length sub news) (ren sub.idxOf a)):=fun c a l hr hr2 hl hrep=>by
  have r1:=hrep.ren hcs (fun r hm=>by rw[hr,List.mem_singleton]at hm; subst hm; exact hl)
  have r2:=h.evo.rep _ _ r1
  refine r2.ren hc (fun r hm=>.inl ?_)
  rw[hr2,List.mem_singleton]at hm
  subst hm
  exact (h.to_idx hl).2
 have hrep:∀ c a,Rep w g H c a→Rep w' (g.back gs H.length sub news) (backH H H3 sub news osn) c a:=fun c a hr=>by
  induction hr with
  | p h'=>exact .p (h'.mono hD h.evo.cells)
  | lit h'=>exact .lit (h'.mono hD h.evo.cells)
  | @ar l v off len p cap hA =>
   obtain⟨_,_,es,fz,ver,rows,hH,_⟩:=id hA
   by_cases hl:l ∈ sub
   ·have:=atom _ (.ar l v off len) l (by simp[refs]) (by simp[refs,Go.Proofs.YtchgldaddcolhaaGreatDoor.ren]) hl (.ar hA)
    simpa [Go.Proofs.YtchgldaddcolhaaGreatDoor.ren,(h.to_idx hl).1] using this
   ·exact .ar ((hsame l _ hl hH).ar hD h.evo.cells hA)
  | @ptr r off c h' =>
   by_cases hl:r ∈ sub
   ·have:=atom _ (.ptr r off) r (by simp[refs]) (by simp[refs,Go.Proofs.YtchgldaddcolhaaGreatDoor.ren]) hl (.ptr h')
    simpa [Go.Proofs.YtchgldaddcolhaaGreatDoor.ren,(h.to_idx hl).1] using this
   ·obtain⟨hb,c',h2⟩:=(hsame r _ hl h').ptr h'
    rw[← hb]; exact .ptr h2
  | @elp l v i k b o hE =>
   obtain⟨es,fz,ver,rows,hH,_⟩:=id hE
   by_cases hl:l ∈ sub
   ·have:=atom _ (.elp l v i k) l (by simp[refs]) (by simp[refs,Go.Proofs.YtchgldaddcolhaaGreatDoor.ren]) hl (.elp hE)
    simpa [Go.Proofs.YtchgldaddcolhaaGreatDoor.ren,(h.to_idx hl).1] using this
   ·exact .elp ((hsame l _ hl hH).elp hD h.evo.cells hE)
  | imm cs hDD hcell hr=>exact .imm cs (fun j hj=>hD _ _ (hDD j hj)) (fun j hj=>by rw[h.evo.cells _ _ (hDD j hj)]; exact hcell j hj) (fun j x hx=>(hr j x hx).mono hD h.evo.cells)
  | fn ha hb _ _ ih1 ih2=>exact .fn ha hb ih1 ih2
  | agg ha h1 _ ih=>exact .agg ha h1 ih
  | tup ha _ ih=>exact .tup ha ih
  | @map r es h' =>
   by_cases hl:r ∈ sub
   ·have:=atom _ (.map r) r (by simp[refs]) (by simp[refs,Go.Proofs.YtchgldaddcolhaaGreatDoor.ren]) hl (.map h')
    simpa [Go.Proofs.YtchgldaddcolhaaGreatDoor.ren,(h.to_idx hl).1] using this
   ·obtain⟨hb,c',h2⟩:=(hsame r _ hl h').mp h'
    rw[← hb]; exact .map h2
  | emp=>exact .emp
  | nk h'=>exact .nk h'
  | @sk l v n cap a hK =>
   obtain⟨_,_,es,ver,lens,rows,hH,_⟩:=id hK
   by_cases hl:l ∈ sub
   ·have:=atom _ (.sk l v n) l (by simp[refs]) (by simp[refs,Go.Proofs.YtchgldaddcolhaaGreatDoor.ren]) hl (.sk hK)
    simpa [Go.Proofs.YtchgldaddcolhaaGreatDoor.ren,(h.to_idx hl).1] using this
   ·exact .sk ((hsame l _ hl hH).sk hK)
  | @skp l v i k b o hK =>
   obtain⟨es,ver,lens,rows,hH,_⟩:=id hK
   by_cases hl:l ∈ sub
   ·have:=atom _ (.skp l v i k) l (by simp[refs]) (by simp[refs,Go.Proofs.YtchgldaddcolhaaGreatDoor.ren]) hl (.skp hK)
    simpa [Go.Proofs.YtchgldaddcolhaaGreatDoor.ren,(h.to_idx hl).1] using this
   ·exact .skp ((hsame l _ hl hH).skp hK)
  | @csl r off n cap c h' hn =>
   by_cases hl:r ∈ sub
   ·have:=atom _ (.csl r off n) r (by simp[refs]) (by simp[refs,Go.Proofs.YtchgldaddcolhaaGreatDoor.ren]) hl (.csl h' hn)
    simpa [Go.Proofs.YtchgldaddcolhaaGreatDoor.ren,(h.to_idx hl).1] using this
   ·obtain⟨hb,c',h2⟩:=(hsame r _ hl h').ptr h'
    rw[← hb]; exact .csl h2 hn
  | @yld r st env ps ca cb h' =>
   by_cases hl:r ∈ sub
   ·have:=atom _ (.yld r) r (by simp[refs]) (by simp[refs,Go.Proofs.YtchgldaddcolhaaGreatDoor.ren]) hl (.yld h')
    simpa [Go.Proofs.YtchgldaddcolhaaGreatDoor.ren,(h.to_idx hl).1] using this
   ·obtain⟨hb,_,_,_,_,_,h2⟩:=(hsame r _ hl h').lp h'
    rw[← hb]; exact .yld h2
 have hnot:∀ l i,l ∉ sub→l < H.length→gs.D (g.blk l) i→g.D (g.blk l) i:=fun l i hs hl hd=>by
  rcases h.evo.newD _ _ hd with h1 | h1 | h1
  ·exact h1
  ·exact absurd h1 (h.far hs hl (.inl rfl) i)
  ·have:=IsBlk.lt h.st hl; omega
 refine⟨⟨hD,h.evo.cells,hrep,h.evo.keep.mono (fun b i ho=>h.own ho),fun b i ho=>?_,fun b i hd=>?_,h.evo.cd⟩,⟨fun l o hl=>?_,fun l k hl hk b x1 x2=>?_,fun l o hl=>?_,h.st3.dom,fun l b hl hx=>?_,h.st3.glob⟩⟩
 ·obtain⟨⟨l,hl,he⟩,hd⟩:=ho
  rcases h.cases (List.getElem?_eq_getElem hl) with ⟨j,o3,hj,ho3,hlj,_⟩ | ⟨hs,hlt,_⟩
  ·have hb:gs.Has j b:=by rw[← hc.has hj,← hlj]; exact he
   rcases h.evo.own b i ⟨⟨j,(List.getElem?_eq_some_iff.1 ho3).1,hb⟩,hd⟩ with h1 | h1
   ·exact .inl (h.own h1)
   ·exact .inr h1
  ·exact .inl ⟨⟨l,hlt,(Gh.back_has (g:=g) (gs:=gs) (news:=news) hs hlt).1 he⟩,fun h1=>hd (hD _ _ h1)⟩
 ·rcases h.evo.newD b i hd with h1 | h1 | h1
  ·exact .inl h1
  ·exact .inr (.inl (h.own h1))
  ·exact .inr (.inr h1)
 ·rcases h.cases hl with ⟨j,o3,hj,ho3,rfl,rfl⟩ | ⟨hs,hlt,hl0⟩
  ·exact (h.st3.objs j o3 ho3).ren hc hj (fun r hr=>h.cl3 j o3 hj ho3 r hr)
  ·obtain⟨b1,b2,b3⟩:=Gh.back_other (g:=g) (gs:=gs) (news:=news) hs hlt
   exact (h.st.objs l o hl0).keep b1 b2 b3 (hheap l hs hlt) hD h.evo.cells hrep h.evo.cd (Gh.back_kin hs hlt)
 ·rcases h.cases (List.getElem?_eq_getElem hl) with ⟨i,o3,hi,ho3,hli,_⟩ | ⟨hs,hlt,_⟩
  ·rw[hli,hc.has hi]at x1
   rcases h.cases (List.getElem?_eq_getElem hk) with ⟨j,o4,hj,ho4,hkj,_⟩ | ⟨hs',hlt',_⟩
   ·rw[hkj,hc.has hj]at x2
    have:=h.st3.inj2 i j (List.getElem?_eq_some_iff.1 ho3).1 (List.getElem?_eq_some_iff.1 ho4).1 b x1 x2
    rw[hli,hkj,this]
   ·exact (h.apart hs' hlt' ho3 x1 ((Gh.back_has hs' hlt').1 x2)).elim
  ·have x1:=(Gh.back_has (g:=g) (gs:=gs) (news:=news) hs hlt).1 x1
   rcases h.cases (List.getElem?_eq_getElem hk) with ⟨j,o4,hj,ho4,hkj,_⟩ | ⟨hs',hlt',_⟩
   ·rw[hkj,hc.has hj]at x2
    exact (h.apart hs hlt ho4 x2 x1).elim
   ·exact h.st.inj2 l k hlt hlt' b x1 ((Gh.back_has hs' hlt').1 x2)
 ·rcases h.cases hl with ⟨j,o3,hj,ho3,rfl,rfl⟩ | ⟨hs,hlt,hl0⟩
  ·exact (h.st3.stand j o3 ho3).ren hc hj
  ·obtain⟨b1,b2,b3⟩:=Gh.back_other (g:=g) (gs:=gs) (news:=news) hs hlt
   exact (h.st.stand l o hl0).keep b1 b2 (fun i hd=>hnot l i hs hlt hd)
 ·rcases h.cases (List.getElem?_eq_getElem hl) with ⟨i,o3,hi,ho3,hli,_⟩ | ⟨hs,hlt,_⟩
  ·rw[hli,hc.kin i hi]at hx
   rw[hli,hc.blk i hi]
   exact h.st3.ext i b (List.getElem?_eq_some_iff.1 ho3).1 hx
  ·rw[Gh.back_kin hs hlt]at hx
   rw[(Gh.back_other hs hlt).1]
   obtain⟨q1,q2,q3⟩:=h.st.ext l b hlt hx
   have hsz:=h.evo.keep.2.2.2.1
   refine⟨by omega,q2,fun i hd=>?_⟩
   rcases h.evo.newD _ _ hd with h1 | h1 | h1
   ·exact q3 i h1
   ·exact h.far hs hlt (.inr hx) i h1
   ·omega
end
end Go.Proofs.YtchgldaddcolhaaGreatDoor
namespace Go.Proofs.YtchgldaddcolhaaGreatDoor
open Go
variable[Sub]
section
variable{P:Program}{kn:TypeId→Bool}{w w':World}{g g':Gh}{H H':List Obj}
theorem canons_get:∀ {aZ bs:List AV},canons H aZ = some bs→aZ.length = bs.length∧∀ (i:Nat) (a b:AV),aZ[i]? = some a→bs[i]? = some b→canon H a = some b
 | [],bs,h=>by simp only[canons,Option.some.injEq]at h; subst h; exact⟨rfl,fun i a b h=>by simp at h⟩
 | a::aZ,bs,h=>by
  simp only[canons,Option.bind_eq_some_iff,Option.map_eq_some_iff]at h
  obtain⟨b,hb,bs',hbs,rfl⟩:=h
  obtain⟨h1,h2⟩:=canons_get hbs
  refine⟨by simp[h1],fun i x y hx hy=>?_⟩
  cases i with
  | zero=>simp at hx hy; subst hx; subst hy; exact hb
  | succ i=>simp at hx hy; exact h2 i x y hx hy
theorem canon_rep{ls:List Nat}(he:Evo w g H w g' (freeze H ls)){c:Value}{a:AV}(h:Rep w g H c a):∀ {b:AV},canon H a = some b→(∀ l ∈ arsA a,l ∈ ls)→Rep w g' (freeze H ls) c b:=by
 induction h with
 | p h=>intro b hb _; simp only[canon,Option.some.injEq]at hb; subst hb; exact he.rep _ _ (.p h)
 | lit h=>intro b hb _; simp only[canon,Option.some.injEq]at hb; subst hb; exact .p (h.mono he.D (fun _ _ _=>rfl))
 | @ar l v off n p cap hA =>
  intro b hb hl
  simp only[canon,Option.map_eq_some_iff]at hb
  obtain⟨rows,hr,rfl⟩:=hb
  refine .p (toPV_rep (v:=.ar l v off n) he (.ar hA) ?_ (fun l' v' o' n' e=>?_))
  ·simp only[toPV,canon,hr,Option.map_some]
  ·cases e; exact hl _ (by simp[arsA])
 | ptr h=>intro b hb _; simp only[canon,Option.some.injEq]at hb; subst hb; exact he.rep _ _ (.ptr h)
 | elp h=>intro b hb _; simp only[canon,Option.some.injEq]at hb; subst hb; exact he.rep _ _ (.elp h)
 | imm cs hD hcell hr=>intro b hb _; simp only[canon,Option.some.injEq]at hb; subst hb; exact he.rep _ _ (.imm cs hD hcell hr)
 | fn ha hb' h1 h2 _ _=>intro b hb _; simp only[canon,Option.some.injEq]at hb; subst hb; exact he.rep _ _ (.fn ha hb' h1 h2)
 | map h=>intro b hb _; simp only[canon,Option.some.injEq]at hb; subst hb; exact he.rep _ _ (.map h)
 | emp=>intro b hb _; simp only[canon,Option.some.injEq]at hb; subst hb; exact .emp
 | nk h=>intro b hb _; simp only[canon,Option.some.injEq]at hb; subst hb; exact .p h.empty
 | sk h=>intro b hb _; simp only[canon,Option.some.injEq]at hb; subst hb; exact he.rep _ _ (.sk h)
 | skp h=>intro b hb _; simp only[canon,Option.some.injEq]at hb; subst hb; exact he.rep _ _ (.skp h)
 | csl h hn=>intro b hb _; simp only[canon,Option.some.injEq]at hb; subst hb; exact he.rep _ _ (.csl h hn)
 | yld h=>intro b hb _; simp only[canon,Option.some.injEq]at hb; subst hb; exact he.rep _ _ (.yld h)
 | agg ha h1 _ ih =>
  intro b hb hl
  simp only[canon,Option.map_eq_some_iff]at hb
  obtain⟨bs,hbs,rfl⟩:=hb
  obtain⟨c1,c2⟩:=canons_get hbs
  refine .agg (ha.trans c1) h1 (fun i c x hc hx=>?_)
  rename_i aZ _
  have hi:i < aZ.length:=by rw[c1]; exact (List.getElem?_eq_some_iff.1 hx).1
  exact ih i c aZ[i] hc (by simp[hi]) (c2 i aZ[i] x (by simp[hi]) hx) (fun l hm=>hl l (by simp only[arsA]; exact mem_arsOf.2 ⟨aZ[i],List.getElem_mem hi,hm⟩))
 | tup ha _ ih =>
  intro b hb hl
  simp only[canon,Option.map_eq_some_iff]at hb
  obtain⟨bs,hbs,rfl⟩:=hb
  obtain⟨c1,c2⟩:=canons_get hbs
  refine .tup (ha.trans c1) (fun i c x hc hx=>?_)
  rename_i aZ _
  have hi:i < aZ.length:=by rw[c1]; exact (List.getElem?_eq_some_iff.1 hx).1
  exact ih i c aZ[i] hc (by simp[hi]) (c2 i aZ[i] x (by simp[hi]) hx) (fun l hm=>hl l (by simp only[arsA]; exact mem_arsOf.2 ⟨aZ[i],List.getElem_mem hi,hm⟩))
theorem Rep.toNk{c:Value}{a:AV}(h:Rep w g H c a):Rep w g H c (toNk a):=by
 unfold Go.Proofs.YtchgldaddcolhaaGreatDoor.toNk
 split
 ·cases h with
  | p h=>cases h; exact .nk (.inl ⟨rfl,rfl⟩)
 ·cases h with
  | lit h =>
   cases h with
   | nil=>exact .nk (.inl ⟨rfl,rfl⟩)
   | sl cs hn=>cases hn; exact .nk (.inr ⟨_,_,rfl⟩)
 ·exact h
theorem passArgs_rep{raw ls:List Nat}(he:Evo w g H w g' (freeze H ls)):∀ {aZ bs:List AV} {n:Nat},passArgs H raw n aZ = some bs→(∀ l ∈ passFrz raw n aZ,l ∈ ls) →
  aZ.length = bs.length∧∀ (i:Nat) (c:Value) (a b:AV),aZ[i]? = some a→bs[i]? = some b→Rep w g H c a→Rep w g' (freeze H ls) c b
 | [],bs,n,h,_=>by simp only[passArgs,Option.some.injEq]at h; subst h; exact⟨rfl,fun i c a b h=>by simp at h⟩
 | a::aZ,bs,n,h,hl=>by
  simp only[passArgs,Option.bind_eq_some_iff,Option.map_eq_some_iff]at h
  obtain⟨b,hb,bs',hbs,rfl⟩:=h
  simp only[passFrz,List.mem_append]at hl
  obtain⟨h1,h2⟩:=passArgs_rep he hbs (fun l hm=>hl l (.inr hm))
  refine⟨by simp[h1],fun i c x y hx hy hr=>?_⟩
  cases i with
  | zero =>
   simp at hx hy
   subst hx
   subst hy
   split at hb
   ·cases hb; exact he.rep _ _ hr
   ·rename_i hraw
    split at hb
    ·cases hb; exact (he.rep _ _ hr).toNk
    exact canon_rep he hr hb (fun l hm=>hl l (.inl (by rw[if_neg hraw]; simpa [arsOf] using hm)))
  | succ i=>simp at hx hy; exact h2 i c x y hx hy hr
theorem Rep.ptr_inv{c:Value}{r off:Nat}(h:Rep w g H c (.ptr r off)):∃ cs,H[r]? = some (.cells cs):=by
 cases h with
 | ptr h=>exact⟨_,h⟩
theorem Rep.map_inv{c:Value}{r:Nat}(h:Rep w g H c (.map r)):∃ es,H[r]? = some (.map es):=by
 cases h with
 | map h=>exact⟨_,h⟩
theorem Rep.sk_inv{c:Value}{l v n:Nat}(h:Rep w g H c (.sk l v n)):∃ o,H[l]? = some o:=by
 cases h with
 | sk h=>obtain⟨_,_,_,_,_,_,h,_⟩:=h; exact⟨_,h⟩
theorem Rep.yld_inv{c:Value}{r:Nat}(h:Rep w g H c (.yld r)):∃ o,H[r]? = some o:=by
 cases h with
 | yld h=>exact⟨_,h⟩
theorem evo_len(he:Evo w g H w' g' H')(hs:StRel w g H):H.length ≤ H'.length:=by
 rcases Nat.eq_zero_or_pos H.length with h0 | h0
 ·omega
 ·have hi:H.length - 1 < H.length:=by omega
  have hget:=List.getElem?_eq_getElem hi
  have:H.length - 1 < H'.length:=by
   cases ho:H[H.length - 1] with
   | cells c =>
    rw[ho]at hget
    obtain⟨c',h⟩:=(he.rep _ _ (.ptr (off:=0) hget)).ptr_inv
    exact (List.getElem?_eq_some_iff.1 h).1
   | arr es fz ver rows =>
    rw[ho]at hget
    obtain⟨_,_,_,hA⟩:=(he.rep _ _ (ar_whole hs hget)).ar_inv
    obtain⟨_,_,_,_,_,_,h,_⟩:=hA
    exact (List.getElem?_eq_some_iff.1 h).1
   | map es =>
    rw[ho]at hget
    obtain⟨c',h⟩:=(he.rep _ _ (.map hget)).map_inv
    exact (List.getElem?_eq_some_iff.1 h).1
   | loop st env ps a b =>
    rw[ho]at hget
    obtain⟨o,h⟩:=(he.rep _ _ (.yld hget)).yld_inv
    exact (List.getElem?_eq_some_iff.1 h).1
   | stk es ver lens rows =>
    rw[ho]at hget
    obtain⟨⟨_,_,_,h0⟩,_⟩:=hs.objs _ _ hget
    obtain⟨o,h⟩:=(he.rep (.slice (some ⟨(g.kin (H.length - 1)).sb 0,0,none⟩) 0 ((g.kin (H.length - 1)).sc 0)) _ (.sk (l:=H.length - 1) (v:=0) ⟨Nat.zero_le _,.inr ⟨_,_,rfl⟩,es,ver,lens,rows,hget,h0,fun _=>⟨rfl,rfl⟩⟩)).sk_inv
    exact (List.getElem?_eq_some_iff.1 h).1
  omega
theorem evo_flat{g0 gs:Gh}{Hs:List Obj}(h:Evo w g0 [] w' gs Hs)(hs:StRel w g H):Evo w g H w' g H∧StRel w' g H:=by
 have hno:∀ b i,¬ OwnAny g0 [] b i:=fun b i ho=>by obtain⟨⟨l,hl,_⟩,_⟩:=ho; simp at hl
 have hheap:∀ b,b < w.heap.size→w'.heap[b]? = w.heap[b]?:=fun b hb=>h.keep.same hb (hno b)
 have hc:∀ b i,g.D b i→cellAt w' b i = cellAt w b i:=fun b i hd=>cellAt_heap (hheap b (hs.dom b i hd)) i
 have hr:∀ c a,Rep w g H c a→Rep w' g H c a:=fun c a hr=>hr.step (fun _ _ h=>h) hc (fun l o _=>.same rfl rfl rfl rfl)
 refine⟨⟨fun _ _ h=>h,hc,hr,h.keep.mono (fun b i ho=>absurd ho (hno b i)),fun _ _ h=>.inl h,fun _ _ h=>.inl h,rfl⟩,⟨fun l o hl=>?_,hs.inj2,hs.stand,fun b i hd=>Nat.lt_of_lt_of_le (hs.dom b i hd) h.keep.2.2.2.1,fun l b hl hx=>⟨Nat.lt_of_lt_of_le (hs.ext l b hl hx).1 h.keep.2.2.2.1,(hs.ext l b hl hx).2⟩,hs.glob.step (fun _ _ h=>h) hc⟩⟩
 exact (hs.objs l o hl).keep rfl rfl rfl (fun b hb=>hheap _ (hs.has_lt (List.getElem?_eq_some_iff.1 hl).1 hb)) (fun _ _ h=>h) hc hr
theorem flat_rep{c:Value}{a:AV}(h:Rep w g H c a)(hf:flat a = true):Rep w' g' H' c a:=by
 cases h with
 | p h=>cases h <;> first | (exact .p (.v ‹_›)) | exact .p .nsl | (simp[flat]at hf)
 | tup ha hr =>
  rename_i arr aZ
  refine .tup ha (fun i c x hc hx=>?_)
  have h1:=hr i c x hc hx
  have hm:x ∈ aZ:=List.mem_of_getElem? hx
  simp only[flat,List.all_eq_true]at hf
  have h2:=hf x hm
  cases h1 with
  | p h=>cases h <;> first | (exact .p (.v ‹_›)) | exact .p .nsl | (simp at h2)
  | _=>simp at h2
 | _=>simp[flat]at hf
theorem comeBack_sound{gH g1 gs:Gh}{H H1 H2:List Obj}{sub:List Nat}{os:List Obj}{own:Bool}{v:Value}{r1:AV}{r:AV×List Obj}(hs:StRel w gH H)(e1:Evo w gH H w g1 H1)(s1:StRel w g1 H1)(hp:pickObjs H1 sub = some os)(hcl:os.all (fun o=>within sub (objRefs o)) = true)(hn:nodupB sub = true)(hv:Evo w (g1.part sub) (os.map (renO sub.idxOf)) w' gs H2)(hs2:StRel w' gs H2)(hr:Rep w' gs H2 v r1)(hc:comeBack H H1 sub own r1 H2 = some r) :
  ∃ g',Evo w gH H w' g' r.2∧StRel w' g' r.2∧Rep w' g' r.2 v r.1:=by
 obtain⟨p1,p2⟩:=pick_get hp
 simp only[comeBack,Option.bind_eq_some_iff]at hc
 obtain⟨r',hr',hc⟩:=hc
 have res:∃ g3,Evo w' gs H2 w' g3 (if own then H2 else freeze H2 (arsOf [r1]))∧StRel w' g3 (if own then H2 else freeze H2 (arsOf [r1]))∧Rep w' g3 (if own then H2 else freeze H2 (arsOf [r1])) v r':=by
  cases own with
  | true=>simp only[if_true,Option.some.injEq]at hr' ⊢; subst hr'; exact⟨gs,.refl _ _ _,hs2,hr⟩
  | false =>
   simp only[Bool.false_eq_true,if_false]at hr' ⊢
   obtain⟨g3,f1,f2⟩:=evo_freeze (arsOf [r1]) hs2
   exact⟨g3,f1,f2,canon_rep f1 hr hr' (fun l hm=>by simpa [arsOf] using hm)⟩
 obtain⟨g3,f1,f2,f3⟩:=res
 generalize (if own then H2 else freeze H2 (arsOf [r1])) = H3 at hc f1 f2 f3
 split at hc
 ·rename_i hflat
  simp only[Bool.and_eq_true,List.isEmpty_iff]at hflat
  obtain⟨h1,rfl⟩:=hflat
  cases hc
  have:os = []:=List.eq_nil_of_length_eq_zero (by simpa using p1)
  subst this
  obtain⟨q1,q2⟩:=evo_flat hv hs
  exact⟨gH,q1,q2,flat_rep f3 h1⟩
 ·split at hc
  ·rename_i hcond
   simp only[Bool.and_eq_true]at hcond
   obtain⟨⟨w1,w2⟩,w3⟩:=hcond
   simp only[Option.map_eq_some_iff]at hc
   obtain⟨osn,hosn,rfl⟩:=hc
   have hv3:=hv.trans f1
   have hlen:sub.length ≤ H3.length:=by
    have:=evo_len hv3 (st_sub s1 hp hcl hn)
    rwa [List.length_map,p1]at this
   generalize hseen:reach H3 (4 * H3.length * H3.length + 4) (refs r'++((H3.take sub.length).map objRefs).flatten) [] = seen at *
   have hsn:∀ r ∈ seen,r < sub.length∨r ∈ seen.filter (fun i=>decide (sub.length ≤ i)):=fun r hm=>by
    rcases Nat.lt_or_ge r sub.length with h | h
    ·exact .inl h
    ·exact .inr (List.mem_filter.2 ⟨hm,by simpa using h⟩)
   have hb:Back w w' g1 g3 H1 H3 sub (seen.filter (fun i=>decide (sub.length ≤ i))) os osn:=by
    refine⟨s1,hp,nodup_idx hn,fun o ho r hr=>within_mem (List.all_eq_true.1 hcl o ho) r hr,hv3,f2,hlen,hosn,nodup_idx w3,fun i hi=>by simpa using (List.mem_filter.1 hi).2,fun i o hi ho r hr=>?_⟩
    rcases hi with hi | hi
    ·refine hsn r (within_mem w1 r ?_)
     refine List.mem_append.2 (.inr (List.mem_flatten.2 ⟨objRefs o,List.mem_map.2 ⟨o,?_,rfl⟩,hr⟩))
     exact List.mem_iff_getElem?.2 ⟨i,by rw[List.getElem?_take,if_pos hi]; exact ho⟩
    ·have:=List.all_eq_true.1 w2 i (List.mem_filter.1 hi).1
     rw[ho]at this
     exact hsn r (within_mem this r hr)
   obtain⟨k1,k2⟩:=hb.sound
   refine⟨_,e1.trans k1,k2,?_⟩
   exact f3.ren hb.corr (fun r hr=>hsn r (within_mem w1 r (List.mem_append.2 (.inl hr))))
  ·cases hc
theorem callAt_sim{f:FuncId}{fn:SFunc}{args args':List AV}{os:List Obj}{r1 r:AV×List Obj}(hp:passArgs H fn.raw 0 args = some args')(hpick:pickObjs (freeze H (passFrz fn.raw 0 args)) (reach (freeze H (passFrz fn.raw 0 args)) (4 * (freeze H (passFrz fn.raw 0 args)).length * (freeze H (passFrz fn.raw 0 args)).length + 4) (refsL args') []) = some os)(hw:(within (reach (freeze H (passFrz fn.raw 0 args)) (4 * (freeze H (passFrz fn.raw 0 args)).length * (freeze H (passFrz fn.raw 0 args)).length + 4) (refsL args') []) (refsL args') &&
   os.all (fun o=>within (reach (freeze H (passFrz fn.raw 0 args)) (4 * (freeze H (passFrz fn.raw 0 args)).length * (freeze H (passFrz fn.raw 0 args)).length + 4) (refsL args') []) (objRefs o)) &&
   nodupB (reach (freeze H (passFrz fn.raw 0 args)) (4 * (freeze H (passFrz fn.raw 0 args)).length * (freeze H (passFrz fn.raw 0 args)).length + 4) (refsL args') [])) = true)(hsim:CallSim P kn f (renL (reach (freeze H (passFrz fn.raw 0 args)) (4 * (freeze H (passFrz fn.raw 0 args)).length * (freeze H (passFrz fn.raw 0 args)).length + 4) (refsL args') []).idxOf args')
   (os.map (renO (reach (freeze H (passFrz fn.raw 0 args)) (4 * (freeze H (passFrz fn.raw 0 args)).length * (freeze H (passFrz fn.raw 0 args)).length + 4) (refsL args') []).idxOf)) r1)(hc:comeBack H (freeze H (passFrz fn.raw 0 args)) (reach (freeze H (passFrz fn.raw 0 args)) (4 * (freeze H (passFrz fn.raw 0 args)).length * (freeze H (passFrz fn.raw 0 args)).length + 4) (refsL args') []) fn.own r1.1 r1.2 = some r) :
  CallSim P kn f args H r:=by
 intro w g cs hcd hs hargs
 generalize reach (freeze H (passFrz fn.raw 0 args)) (4 * (freeze H (passFrz fn.raw 0 args)).length * (freeze H (passFrz fn.raw 0 args)).length + 4) (refsL args') [] = sub at *
 simp only[Bool.and_eq_true]at hw
 obtain⟨⟨w1,w2⟩,w3⟩:=hw
 obtain⟨g1,e1,s1⟩:=evo_freeze (passFrz fn.raw 0 args) hs
 obtain⟨a1,a2⟩:=passArgs_rep e1 hp (fun l hl=>hl)
 have hc1:=corr_sub (g:=g1) hpick
 have ha:ArgsRep w (g1.part sub) (os.map (renO sub.idxOf)) cs (renL sub.idxOf args'):=by
  rw[renL_eq]
  refine⟨by rw[List.length_map,← a1]; exact hargs.1,fun i c x hci hx=>?_⟩
  rw[List.getElem?_map,Option.map_eq_some_iff]at hx
  obtain⟨y,hy,rfl⟩:=hx
  have hi:i < args.length:=by rw[a1]; exact (List.getElem?_eq_some_iff.1 hy).1
  have:=a2 i c args[i] y (by simp[hi]) hy (hargs.2 i c args[i] hci (by simp[hi]))
  exact this.ren hc1 (fun r hr=>within_mem w1 r (mem_refsL.2 ⟨y,List.mem_of_getElem? hy,hr⟩))
 refine (hsim w (g1.part sub) cs (e1.cd.trans hcd) (st_sub s1 hpick w2 w3) ha).mono fun e w' he=>?_
 obtain⟨v,gs,rfl,k1,k2,k3⟩:=he
 obtain⟨g',q1,q2,q3⟩:=comeBack_sound hs e1 s1 hpick w2 w3 k1 k2 k3 hc
 exact⟨v,g',rfl,q1,q2,q3⟩
end
end Go.Proofs.YtchgldaddcolhaaGreatDoor
namespace Go.Proofs.YtchgldaddcolhaaGreatDoor
open Go
variable[Sub]
def NoCall(x:Option SOp):Prop:=∀ f aZ,x ≠ some (.call f aZ)
theorem NoCall.none:NoCall none:=fun _ _ h=>by cases h
theorem NoCall.bind{α:Type}{x:Option α}{g:α→Option SOp}(h:∀ a,NoCall (g a)):NoCall (x.bind g):=fun f aZ e=>by
 obtain⟨a,_,h2⟩:=Option.bind_eq_some_iff.1 e
 exact h a f aZ h2
theorem NoCall.map{α:Type}{x:Option α}{g:α→SOp}(h:∀ a f aZ,g a ≠ .call f aZ):NoCall (x.map g):=fun f aZ e=>by
 obtain⟨a,_,h2⟩:=Option.map_eq_some_iff.1 e
 exact h a f aZ h2
theorem NoCall.some{s:SOp}(h:∀ f aZ,s ≠ .call f aZ):NoCall (some s):=fun f aZ e=>h f aZ (Option.some.inj e)
theorem compOp_call{P:Program}{kn:TypeId→Bool}{own:List Nat}{o:Oper}{f:SA}{aZ:List SA}(h:compOp P kn own o = some (.call f aZ)) :
  ∃ c f',o.op = .call c∧c.callee = .value f'∧compArg own false f' = some f∧compArgs kn own c.args.toList c.argTypes.toList = some aZ:=by
 obtain⟨dst,op,ty,pos,after,gd⟩:=o
 cases op
 case call c =>
  simp only[compOp]at h
  split at h
  ·rename_i f' hf
   simp only[Option.bind_eq_some_iff,Option.map_eq_some_iff]at h
   obtain⟨sf,hsf,sas,hsas,h⟩:=h
   cases h
   exact⟨c,f',rfl,hf,hsf,hsas⟩
  all_goals
   exfalso
   revert h
   refine (?_:NoCall _) f aZ
   repeat' first
    | exact NoCall.none
    | contradiction
    | (refine NoCall.bind fun _=>?_)
    | (refine NoCall.map fun _ _ _ e=>?_; cases e)
    | (refine NoCall.some fun _ _ e=>?_; cases e)
    | split
 all_goals
  exfalso
  simp only[compOp]at h
  revert h
  refine (?_:NoCall _) f aZ
  repeat' first
   | exact NoCall.none
   | contradiction
   | (refine NoCall.bind fun _=>?_)
   | (refine NoCall.map fun _ _ _ e=>?_; cases e)
   | (refine NoCall.some fun _ _ e=>?_; cases e)
   | split
inductive TrM (P:Program) (kn:TypeId→Bool):List DO→Fr→List Obj→Tr→Prop
 | nil {e:Fr} {H:List Obj}:TrM P kn [] e H ⟨[],[],⟨e.env,H⟩⟩
 | skip {o:DO} {os:List DO} {e:Fr} {H:List Obj} {r:Tr} (hw:wanted o.o e = some false) (h:TrM P kn os (dstDrop o.o.dst e) H r) :
   TrM P kn (o::os) e H ⟨(e,none)::r.recs,if o.k.seq then H::r.stores else r.stores,r.s⟩
 | write {o:DO} {os:List DO} {e:Fr} {H:List Obj} {v:AV×List Obj} {r:Tr} (hw:wanted o.o e = some true) (hk:o.k = .write) (h1:OneM P kn o.o.op e H v) (h:TrM P kn os (dstPut o.o.dst e v.1) v.2 r) :
   TrM P kn (o::os) e H ⟨(e,some v.1)::r.recs,H::r.stores,r.s⟩
 | lone {o:DO} {os:List DO} {e:Fr} {H:List Obj} {v:AV} {r:Tr} (hw:wanted o.o e = some true) (hk:o.k = .lone) (hn:noRefs e o.o.op = true) (h1:OneM P kn o.o.op e [] (v,[])) (h:TrM P kn os (dstPut o.o.dst e v) H r) :
   TrM P kn (o::os) e H ⟨(e,some v)::r.recs,r.stores,r.s⟩
 | fresh {o:DO} {os:List DO} {e:Fr} {H:List Obj} {v:AV×List Obj} {r:Tr} (hw:wanted o.o e = some true) (hk:o.k = .fresh) (h1:evOp e H o.o.op = some v) (h:TrM P kn os (dstPut o.o.dst e v.1) v.2 r) :
   TrM P kn (o::os) e H ⟨(e,some v.1)::r.recs,H::r.stores,r.s⟩
 | other {o:DO} {os:List DO} {e:Fr} {H:List Obj} {v:AV×List Obj} {r:Tr} (hw:wanted o.o e = some true) (hk1:o.k.seq = false) (hk2:o.k ≠ .lone) (h1:evOp e H o.o.op = some v) (h:TrM P kn os (dstPut o.o.dst e v.1) H r) :
   TrM P kn (o::os) e H ⟨(e,some v.1)::r.recs,r.stores,r.s⟩
section
variable{w:World}{g:Gh}{H:List Obj}
theorem Rep.lift{g2:Gh}(hD:g2.D = g.D){c:Value}{a:AV}(h:Rep w g [] c a):Rep w g2 H c a:=by
 generalize hH:([]:List Obj) = H0 at h
 induction h with
 | p h=>exact .p (by rw[hD]; exact h)
 | lit h=>exact .lit (by rw[hD]; exact h)
 | ar h=>subst hH; obtain⟨_,_,_,_,_,_,h,_⟩:=h; simp at h
 | ptr h=>subst hH; simp at h
 | elp h=>subst hH; obtain⟨_,_,_,_,h,_⟩:=h; simp at h
 | imm cs hDD hcell hr=>exact .imm cs (by rw[hD]; exact hDD) hcell (by rw[hD]; exact hr)
 | fn ha hb _ _ ih1 ih2=>exact .fn ha hb ih1 ih2
 | agg ha h1 _ ih=>exact .agg ha h1 ih
 | tup ha _ ih=>exact .tup ha ih
 | map h=>subst hH; simp at h
 | yld h=>subst hH; simp at h
 | emp=>exact .emp
 | csl h=>subst hH; simp at h
 | nk h=>exact .nk h
 | sk h=>subst hH; obtain⟨_,_,_,_,_,_,h,_⟩:=h; simp at h
 | skp h=>subst hH; obtain⟨_,_,_,_,h,_⟩:=h; simp at h
end
def RuleOk(P:Program)(kn:TypeId→Bool)(X:FuncId→List AV→List Obj→Option (AV×List Obj)):Prop :=
 ∀ g args H r,X g args H = some r→CallSim P kn g args H r
theorem oneM_lone{P:Program}{kn:TypeId→Bool}{op:SOp}{e:Fr}{u v:AV×List Obj}(h:OneM P kn op e [] u)(hl:loneV u = some v)(hv:v.2 = []):OneM P kn op e [] (v.1,[]):=by
 unfold loneV at hl
 split at hl
 ·cases hl
  intro e' hag o own a w g hc he hcd hs
  have:=h e' hag o own a w g hc he hcd hs
  rwa [hv]at this
 ·intro e' hag o own a w g hc he hcd hs r0 K Q hK
  refine h e' hag o own a w g hc he hcd hs r0 K Q fun cv w' g' h1 h2 h3=>?_
  have hv0:Evo w (g.part []) ([].map (renO [].idxOf)) w' g' u.2:=by
   have ho:∀ (g2:Gh) b i,¬ OwnAny g2 [] b i:=fun g2 b i ho=>by obtain⟨⟨l,hl,_⟩,_⟩:=ho; simp at hl
   exact⟨h1.D,h1.cells,fun c x hr=>h1.rep c x (Rep.lift (g:=g.part []) (g2:=g) rfl (show Rep w (g.part []) [] c x from hr)),h1.keep.mono fun b i hb=>absurd hb (ho _ b i),fun b i hb=>(h1.own b i hb).elim (fun hb=>absurd hb (ho _ b i)) .inr,
    fun b i hb=>(h1.newD b i hb).elim .inl fun hb=>hb.elim (fun hb=>absurd hb (ho _ b i)) fun hb=>.inr (.inr hb),h1.cd⟩
  rcases h3 with h3 | h3
  ·obtain⟨q1,q2⟩:=evo_flat h1 hs
   exact hK cv w' g q1 q2 (.inl h3)
  ·obtain⟨g2,q1,q2,q3⟩:=comeBack_sound (H:=[]) (H1:=[]) (sub:=[]) (os:=[]) (own:=false) hs (.refl _ _ _) hs rfl rfl rfl hv0 h2 h3 hl
   rw[hv]at q1 q2 q3
   exact hK cv w' g2 q1 q2 (.inr q3)
theorem callSim_amb{P:Program}{kn:TypeId→Bool}{f:FuncId}{r:AV×List Obj}(h1:CallSim P kn f [.p .nsl] [] r)(h2:CallSim P kn f [.emp] [] r):CallSim P kn f [.p (.sl [])] [] r:=by
 intro w g cs hcd hs ha
 have hsz:cs.size = 1:=ha.1
 have hr:=ha.2 0 cs[0] (.p (.sl [])) (by simp[hsz]) rfl
 have key:∀ x,Rep w g [] cs[0] x→ArgsRep w g [] cs [x]:=fun x hx=>⟨hsz,fun i c y hc hy=>by
  cases i with
  | zero =>
   simp only[List.getElem?_cons_zero,Option.some.injEq]at hy
   subst hy
   rw[Array.getElem?_eq_getElem (by omega)]at hc
   cases hc
   exact hx
  | succ i=>simp at hy⟩
 generalize hc0:cs[0] = c0 at hr
 cases hr with
 | p hp =>
  cases hp with
  | nil=>exact h1 w g cs hcd hs (key _ (by rw[hc0]; exact .p .nsl))
  | sl cs2 hn =>
   cases hn
   exact h2 w g cs hcd hs (key _ (by rw[hc0]; exact .emp))
theorem amb_call{H:List Obj}{args:List AV}{n:Nat}{os:List Obj}(h:isAmb args = true)(hos:pickObjs H (reach H n (refsL args) []) = some os) :
  renL (reach H n (refsL args) []).idxOf args = [.p (.sl [])]∧os.map (renO (reach H n (refsL args) []).idxOf) = []:=by
 have:args = [.p (.sl [])]:=by
  unfold isAmb at h
  split at h
  ·rfl
  ·cases h
 subst this
 have hrl:reach H n (refsL [.p (.sl [])]) [] = []:=by
  cases n <;> rfl
 rw[hrl]at hos ⊢
 cases hos
 exact⟨rfl,rfl⟩
theorem sound_parts{P:Program}{kn:TypeId→Bool}{X:FuncId→List AV→List Obj→Option (AV×List Obj)}{Γ:FuncId→Option SFunc}(hX:RuleOk P kn X)(hG:∀ f F,Γ f = some F→CodeOk P kn f F)(hdraw:∀ (ops:List DO) (s:St) (r:Tr),TrM P kn ops ⟨[],s.env⟩ s.H r→stables ops r.recs (r.stores++[r.s.H])→DrawM P kn ops s r.s) :
  (∀ f args H r,call X Γ f args H = some r→CallSim P kn f args H r)∧(∀ c s r,exec X Γ c s = some r→ExecM P kn c s r)∧(∀ ops e H r,evOps X Γ ops e H = some r→OpsM P kn ops e H r):=by
 have sCall:∀ E:EX,(∀ c s r,E c s = some r→ExecM P kn c s r∧∀ b,c = .loop b→LoopM P kn b s r)→∀ f args H r,callE X Γ E f args H = some r→CallSim P kn f args H r:=by
  intro E h1 f args H r h
  unfold callE at h
  split at h
  ·rename_i r' hr'
   simp only[Option.some.injEq]at h
   subst h
   exact hX f args H _ hr'
  ·split at h
   ·cases h
   ·rename_i fn hfn
    split at h
    ·cases h
    ·rename_i hlen
     simp only[Option.bind_eq_bind,Option.bind_eq_some_iff]at h
     obtain⟨rx,hrx,h⟩:=h
     split at h
     ·cases h
     ·rename_i hne
      simp only[Option.map_eq_some_iff]at h
      obtain⟨rs,hrs,rfl⟩:=h
      exact call_sim (hG f fn hfn) (Classical.byContradiction hlen) (h1 _ _ _ hrx).1 (fun i e=>hne i e) hrs
 have sCallAt:∀ E:EX,(∀ c s r,E c s = some r→ExecM P kn c s r∧∀ b,c = .loop b→LoopM P kn b s r)→∀ f args H r,callAtE X Γ E f args H = some r→FnOk P f∧CallSim P kn f args H r:=by
  intro E h1 f args H r h
  have h5:=sCall E h1
  unfold callAtE at h
  split at h
  ·cases h
  ·rename_i fn hfn
   split at h
   ·cases h
   ·rename_i args' hargs
    simp only at h
    split at h
    ·cases h
    ·rename_i os hos
     split at h
     ·rename_i hcond
      simp only[Option.bind_eq_bind,Option.bind_eq_some_iff]at h
      obtain⟨fn',c,_,_,q1,q2,q3,_⟩:=(hG f fn hfn).ok
      split at h
      ·rename_i hamb
       simp only[Option.bind_eq_some_iff]at h
       obtain⟨r1,hr1,r2,hr2,r3,hr3,hcb⟩:=h
       unfold checked at hr3
       split at hr3
       ·rename_i heq
        cases hr3
        subst heq
        simp only[Bool.and_eq_true]at hamb
        obtain⟨k1,k2⟩:=amb_call hamb.2 hos
        refine⟨⟨fn',c,q1,q2,q3⟩,callAt_sim (r1:=r1) hargs hos hcond ?_ hcb⟩
        rw[k1,k2]
        exact callSim_amb (h5 _ _ _ _ hr1) (h5 _ _ _ _ hr2)
       ·cases hr3
      ·simp only[Option.bind_eq_some_iff]at h
       obtain⟨r1,hr1,hcb⟩:=h
       exact⟨⟨fn',c,q1,q2,q3⟩,callAt_sim hargs hos hcond (h5 _ _ _ _ hr1) hcb⟩
     ·cases h
 have sYield:∀ E:EX,(∀ c s r,E c s = some r→ExecM P kn c s r∧∀ b,c = .loop b→LoopM P kn b s r)→∀ l args H r,yieldAtE E l args H = some r→YieldSim P kn l args H r:=by
  intro E h1 l args H r h
  unfold yieldAtE at h
  split at h
  ·rename_i env ps a b hl
   split at h
   ·cases h
   ·rename_i hlen
    simp only[Option.bind_eq_bind,Option.bind_eq_some_iff]at h
    obtain⟨⟨x1,s1⟩,hr1,h⟩:=h
    split at h
    ·rename_i env1 ps1 a1 b1 hx1 hl1
     simp only[Option.bind_eq_some_iff]at h
     obtain⟨⟨x2,s2⟩,hr2,h⟩:=h
     simp only at hx1 hl1 hr1 hr2 h
     subst hx1
     split at h
     ·rename_i env2 ps2 a2 b2 hl2
      have:=yield_sim hl (Classical.byContradiction hlen) (h1 _ _ _ hr1).1 hl1 (h1 _ _ _ hr2).1 hl2
      cases x2 with
      | normal=>cases h; exact this
      | exit i=>cases h; exact this
      | ret=>cases h; exact this
     ·cases h
    ·cases h
  ·cases h
 have sOne:∀ E:EX,(∀ c s r,E c s = some r→ExecM P kn c s r∧∀ b,c = .loop b→LoopM P kn b s r)→∀ op e H r,evOneE X Γ E op e H = some r→OneM P kn op e H r:=by
  intro E h1 op e H r h e' hag o own a w g hc he hcd hs
  have h4:=sCallAt E h1
  have hy:=sYield E h1
  unfold evOneE at h
  split at h
  ·rename_i f aZ hcall
   have hop:op = .call f aZ:=by cases op <;> simp[isCall]at hcall; rw[hcall.1,hcall.2]
   subst hop
   split at h
   ·rename_i fid first cap args hf ha
    obtain⟨hok,hsim⟩:=h4 _ _ _ _ h
    obtain⟨c,f',ho,hcal,hsf,hsas⟩:=compOp_call hc
    exact one_call (v:=r.1) (H':=r.2) ho hcal hok hs (arg_rep he hsf (by rw[hag f (by simp[opKeys])]; exact hf)) (args_rep he hsas (by rw[evs_congr (e:=e) (fun x hx=>hag x (by simp[opKeys,hx]))]; exact ha)) hcd hsim
   ·rename_i l args hf ha
    obtain⟨c,f',ho,hcal,hsf,hsas⟩:=compOp_call hc
    exact one_yield (v:=r.1) (H':=r.2) ho hcal hs (arg_rep he hsf (by rw[hag f (by simp[opKeys])]; exact hf)) (args_rep he hsas (by rw[evs_congr (e:=e) (fun x hx=>hag x (by simp[opKeys,hx]))]; exact ha)) hcd (hy _ _ _ _ h)
   ·cases h
  ·exact OpSim.one (op_sim he hs hc (by rw[evOp_congr hag]; exact h))
 have sOps:∀ E:EX,(∀ c s r,E c s = some r→ExecM P kn c s r∧∀ b,c = .loop b→LoopM P kn b s r)→∀ ops e H r,evOpsE X Γ E ops e H = some r→OpsM P kn ops e H r:=by
  intro E h1 ops
  have h3:=sOne E h1
  induction ops with
  | nil=>intro e H r h; cases h; exact opsM_nil
  | cons o os h6 =>
   intro e H r h
   rw[evOpsE]at h
   split at h
   ·cases h
   ·rename_i hw
    exact opsM_cons hw (by simpa using h6 _ _ _ h)
   ·rename_i hw
    simp only[Option.bind_eq_bind,Option.bind_eq_some_iff]at h
    obtain⟨v,hv,h⟩:=h
    exact opsM_cons hw (by simpa using ⟨v.1,v.2,h3 _ _ _ _ hv,h6 _ _ _ h⟩)
 have sDraw:∀ E:EX,(∀ c s r,E c s = some r→ExecM P kn c s r∧∀ b,c = .loop b→LoopM P kn b s r)→∀ ops e H r,evDrawE X Γ E ops e H = some r→TrM P kn ops e H r:=by
  intro E h1 ops
  have h3:=sOne E h1
  induction ops with
  | nil=>intro e H r h; cases h; exact .nil
  | cons o os h2 =>
   intro e H r h
   rw[evDrawE]at h
   split at h
   ·cases h
   ·rename_i hw
    simp only[Option.bind_eq_bind,Option.bind_eq_some_iff,Option.some.injEq]at h
    obtain⟨r',hr',rfl⟩:=h
    exact .skip hw (h2 _ _ _ hr')
   ·rename_i hw
    split at h
    ·rename_i hk
     simp only[Option.bind_eq_bind,Option.bind_eq_some_iff,Option.some.injEq]at h
     obtain⟨v,hv,r',hr',rfl⟩:=h
     exact .write hw hk (h3 _ _ _ _ hv) (h2 _ _ _ hr')
    ·rename_i hk
     simp only[Option.bind_eq_bind,Option.bind_eq_some_iff]at h
     obtain⟨u,hu,v,hv,h⟩:=h
     split at h
     ·rename_i he
      simp only[Option.bind_eq_some_iff,Option.some.injEq]at h
      obtain⟨r',hr',rfl⟩:=h
      simp only[Bool.and_eq_true,List.isEmpty_iff]at he
      exact .lone hw hk he.2 (oneM_lone (h3 _ _ _ _ hu) hv he.1) (h2 _ _ _ hr')
     ·cases h
    ·rename_i hk
     simp only[Option.bind_eq_bind,Option.bind_eq_some_iff,Option.some.injEq]at h
     obtain⟨v,hv,r',hr',rfl⟩:=h
     exact .fresh hw hk hv (h2 _ _ _ hr')
    ·rename_i hk1 hk2 hk3
     simp only[Option.bind_eq_bind,Option.bind_eq_some_iff,Option.some.injEq]at h
     obtain⟨v,hv,r',hr',rfl⟩:=h
     exact .other hw (by cases hk:o.k <;> first | rfl | exact absurd hk hk1 | exact absurd hk hk3) (by intro e; exact hk2 e) hv (h2 _ _ _ hr')
 have sExec:∀ E:EX,(∀ c s r,E c s = some r→ExecM P kn c s r∧∀ b,c = .loop b→LoopM P kn b s r)→∀ c s r,execE X Γ E c s = some r→ExecM P kn c s r∧∀ b,c = .loop b→LoopM P kn b s r:=by
  intro E h1 c s r h
  have h4:=sCallAt E h1
  have h2:=sDraw E h1
  have h6:=sOps E h1
  unfold execE at h
  have plain:ExecM P kn c s r→(∀ b,c ≠ .loop b)→ExecM P kn c s r∧∀ b,c = .loop b→LoopM P kn b s r:=fun h hn=>⟨h,fun b e=>absurd e (hn b)⟩
  cases c with
  | skip=>cases h; exact plain exec_skip (by simp)
  | region ops =>
   simp only[Option.bind_eq_bind,Option.bind_eq_some_iff,Option.some.injEq]at h
   obtain⟨s',hs',rfl⟩:=h
   exact plain (exec_region (h6 _ _ _ _ hs')) (by simp)
  | draw ops =>
   simp only[Option.bind_eq_bind,Option.bind_eq_some_iff]at h
   obtain⟨tr,htr,h⟩:=h
   unfold checked at h
   split at h
   ·rename_i hst
    cases h
    exact plain (exec_draw (hdraw ops s tr (h2 _ _ _ _ htr) hst)) (by simp)
   ·cases h
  | seq a b =>
   simp only[Option.bind_eq_bind,Option.bind_eq_some_iff]at h
   obtain⟨⟨x,s1⟩,hr1,h⟩:=h
   refine plain (exec_seq (h1 _ _ _ hr1).1 ?_) (by simp)
   cases x with
   | normal=>exact .inl ⟨rfl,(h1 _ _ _ h).1⟩
   | exit i=>cases h; exact .inr ⟨by simp,rfl⟩
   | ret=>cases h; exact .inr ⟨by simp,rfl⟩
  | cond c a b =>
   simp only at h
   split at h
   ·rename_i t ht
    refine plain (exec_cond ht ?_) (by simp)
    cases t with
    | true=>exact (h1 _ _ _ h).1
    | false=>exact (h1 _ _ _ h).1
   ·cases h
  | block id b =>
   simp only[Option.bind_eq_bind,Option.bind_eq_some_iff]at h
   obtain⟨⟨x,s1⟩,hr1,h⟩:=h
   refine plain (exec_block (h1 _ _ _ hr1).1 ?_) (by simp)
   cases x with
   | normal=>cases h; rfl
   | exit i =>
    simp only at h ⊢
    split at h
    ·rename_i e; cases h; rw[if_pos e]
    ·rename_i e; cases h; rw[if_neg e]
   | ret=>cases h; rfl
  | loop b =>
   simp only[Option.bind_eq_bind,Option.bind_eq_some_iff]at h
   obtain⟨⟨x,s1⟩,hr1,h⟩:=h
   have hl:LoopM P kn b s r:=by
    refine exec_loop (h1 _ _ _ hr1).1 ?_
    cases x with
    | normal=>exact .inl ⟨rfl,(h1 _ _ _ h).2 b rfl⟩
    | exit i=>cases h; exact .inr ⟨by simp,rfl⟩
    | ret=>cases h; exact .inr ⟨by simp,rfl⟩
   exact⟨hl.exec,fun b' e=>by cases e; exact hl⟩
  | exit id=>cases h; exact plain exec_exit (by simp)
  | ret=>cases h; exact plain exec_ret (by simp)
  | refuse=>cases h
  | still ns c=>exact plain (exec_still (h1 _ _ _ h).1) (by simp)
  | range f ps a b =>
   simp only at h
   split at h
   ·rename_i gf first cap hev
    simp only[Option.bind_eq_bind,Option.bind_eq_some_iff]at h
    obtain⟨r1,hr1,h⟩:=h
    obtain⟨hok,hsim⟩:=h4 _ _ _ _ hr1
    refine plain ?_ (by simp)
    split at h
    ·rename_i hl; cases h; exact exec_range hev hok hsim hl (.inl ⟨rfl,rfl⟩)
    ·rename_i hl; cases h; exact exec_range hev hok hsim hl (.inr rfl)
    ·cases h
   ·cases h
 have key:∀ n c s r,execN X Γ n c s = some r→ExecM P kn c s r∧∀ b,c = .loop b→LoopM P kn b s r:=by
  intro n
  induction n with
  | zero=>intro c s r h; cases h
  | succ n ih=>exact sExec _ ih
 have hE:∀ c s r,exec X Γ c s = some r→ExecM P kn c s r∧∀ b,c = .loop b→LoopM P kn b s r:=fun c s r h=>by
  obtain⟨n,hn⟩:=(exec_lim X Γ c s).ex r h
  exact key n c s r hn
 refine⟨?_,fun c s r h=>(hE c s r h).1,?_⟩
 ·rw[call_h]; exact sCall _ hE
 ·rw[evOps_h]; exact sOps _ hE
theorem sound_all{P:Program}{kn:TypeId→Bool}{X:FuncId→List AV→List Obj→Option (AV×List Obj)}{Γ:FuncId→Option SFunc}(hX:RuleOk P kn X)(hG:∀ f F,Γ f = some F→CodeOk P kn f F)(hdraw:∀ (ops:List DO) (s:St) (r:Tr),TrM P kn ops ⟨[],s.env⟩ s.H r→stables ops r.recs (r.stores++[r.s.H])→DrawM P kn ops s r.s) :
  ∀ f args H r,call X Γ f args H = some r→CallSim P kn f args H r:=(sound_parts hX hG hdraw).1
end Go.Proofs.YtchgldaddcolhaaGreatDoor
namespace Go.Proofs.YtchgldaddcolhaaGreatDoor
open Go
variable[Sub]
section
variable{w w':World}{g g':Gh}{H H':List Obj}
theorem refs_fn{f:Fn}{aZ bs:List AV}(h:refs (.fn f aZ bs) = []):(∀ x ∈ aZ,refs x = [])∧∀ x ∈ bs,refs x = []:=by
 simp only[refs,List.append_eq_nil_iff]at h
 refine⟨fun x hx=>?_,fun x hx=>?_⟩
 ·cases hr:refs x with
  | nil=>rfl
  | cons r rs=>have:r ∈ refsL aZ:=mem_refsL.2 ⟨x,hx,by rw[hr]; exact List.mem_cons_self ..⟩; rw[h.1]at this; cases this
 ·cases hr:refs x with
  | nil=>rfl
  | cons r rs=>have:r ∈ refsL bs:=mem_refsL.2 ⟨x,hx,by rw[hr]; exact List.mem_cons_self ..⟩; rw[h.2]at this; cases this
theorem refsL_nil{aZ:List AV}(h:refsL aZ = []):∀ x ∈ aZ,refs x = []:=fun x hx=>by
 cases hr:refs x with
 | nil=>rfl
 | cons r rs=>have:r ∈ refsL aZ:=mem_refsL.2 ⟨x,hx,by rw[hr]; exact List.mem_cons_self ..⟩; rw[h]at this; cases this
theorem Rep.bare{c:Value}{a:AV}(h:Rep w g H c a):refs a = []→Rep w g H' c a:=by
 induction h with
 | p h=>intro _; exact .p h
 | lit h=>intro _; exact .lit h
 | ar h=>intro hr; simp[refs]at hr
 | ptr h=>intro hr; simp[refs]at hr
 | elp h=>intro hr; simp[refs]at hr
 | imm cs hD hcell hr=>intro _; exact .imm cs hD hcell hr
 | fn ha hb _ _ ih1 ih2 =>
  intro hr
  obtain⟨r1,r2⟩:=refs_fn hr
  exact .fn ha hb (fun i c x hc hx=>ih1 i c x hc hx (r1 x (List.mem_of_getElem? hx))) (fun i c x hc hx=>ih2 i c x hc hx (r2 x (List.mem_of_getElem? hx)))
 | agg ha h1 _ ih=>intro hr; exact .agg ha h1 (fun i c x hc hx=>ih i c x hc hx (refsL_nil (by simpa [refs] using hr) x (List.mem_of_getElem? hx)))
 | tup ha _ ih=>intro hr; exact .tup ha (fun i c x hc hx=>ih i c x hc hx (refsL_nil (by simpa [refs] using hr) x (List.mem_of_getElem? hx)))
 | map h=>intro hr; simp[refs]at hr
 | yld h=>intro hr; simp[refs]at hr
 | emp=>intro _; exact .emp
 | csl h=>intro hr; simp[refs]at hr
 | nk h=>intro _; exact .nk h
 | sk h=>intro hr; simp[refs]at hr
 | skp h=>intro hr; simp[refs]at hr
theorem st_empty(hs:StRel w g H):StRel w g []:=⟨fun l o h=>by simp at h,fun l k h=>by simp at h,fun l o h=>by simp at h,hs.dom,fun l b h=>by simp at h,hs.glob⟩
theorem evo_frame(h:Evo w g [] w' g' [])(hs:StRel w g H)(hs':StRel w' g' []):Evo w g H w' { g with D:=g'.D } H∧StRel w' { g with D:=g'.D } H:=by
 have hno:∀ b i,¬ OwnAny g [] b i:=fun b i ho=>by obtain⟨⟨l,hl,_⟩,_⟩:=ho; simp at hl
 have hheap:∀ b,b < w.heap.size→w'.heap[b]? = w.heap[b]?:=fun b hb=>h.keep.same hb (hno b)
 have hc:∀ b i,g.D b i→cellAt w' b i = cellAt w b i:=fun b i hd=>cellAt_heap (hheap b (hs.dom b i hd)) i
 have hD:∀ b i,g.D b i→({ g with D:=g'.D }:Gh).D b i:=h.D
 have hold:∀ b i,b < w.heap.size→g'.D b i→g.D b i:=fun b i hb hd=>by
  rcases h.newD b i hd with h1 | h1 | h1
  ·exact h1
  ·exact absurd h1 (hno b i)
  ·omega
 have hr:∀ c a,Rep w g H c a→Rep w' { g with D:=g'.D } H c a:=fun c a hr=>hr.step (g':={ g with D:=g'.D }) hD hc (fun l o _=>.same rfl rfl rfl rfl)
 refine⟨⟨hD,hc,hr,h.keep.mono (fun b i ho=>absurd ho (hno b i)),fun b i ho=>?_,fun b i hd=>?_,rfl⟩,⟨fun l o hl=>?_,hs.inj2,fun l o hl=>?_,hs'.dom,fun l b hl hx=>?_,hs'.glob⟩⟩
 ·obtain⟨hb,hd⟩:=ho
  exact .inl ⟨hb,fun h1=>hd (hD _ _ h1)⟩
 ·rcases h.newD b i hd with h1 | h1 | h1
  ·exact .inl h1
  ·exact absurd h1 (hno b i)
  ·exact .inr (.inr h1)
 ·exact (hs.objs l o hl).keep rfl rfl rfl (fun b hb=>hheap _ (hs.has_lt (List.getElem?_eq_some_iff.1 hl).1 hb)) hD hc hr
 ·exact (hs.stand l o hl).keep rfl rfl (fun i hd=>hold _ i (IsBlk.lt hs (List.getElem?_eq_some_iff.1 hl).1) hd)
 ·obtain⟨q1,q2,q3⟩:=hs.ext l b hl hx
  exact⟨Nat.lt_of_lt_of_le q1 h.keep.2.2.2.1,q2,fun i hd=>q3 i (hold b i q1 hd)⟩
end
theorem evOp_free{e:Fr}{op:SOp}{H:List Obj}{v:AV}{H':List Obj}(hk:kind0 op = .free)(h:evOp e H op = some (v,H')):∀ H2,evOp e H2 op = some (v,H2):=by
 intro H2
 cases op <;> first | (simp[kind0]at hk; done) | skip
 case sliceS x lo hi =>
  simp only[evOp,Option.bind_eq_some_iff]at h ⊢
  obtain⟨s,h1,l,h2,h',h3,h4⟩:=h
  refine⟨s,h1,l,h2,h',h3,?_⟩
  split at h4
  ·rename_i hc; rw[if_pos hc]; cases h4; rfl
  ·cases h4
 case slice es x lo hi mx=>cases mx <;> simp[kind0]at hk
 case sliceArr n x lo hi =>
  simp only[evOp,Option.map_eq_some_iff,Option.bind_eq_some_iff,Prod.mk.injEq]at h ⊢
  obtain⟨a,h1,b,h2,c,h3,d,h4,h5,_⟩:=h
  exact⟨a,h1,b,h2,c,h3,d,h4,h5,by first | rfl | trivial⟩
 case eqs ks neg x y =>
  simp only[evOp,Option.bind_eq_some_iff]at h ⊢
  obtain⟨a,h1,b,h2,c,h3,d,h4,h5⟩:=h
  refine⟨a,h1,b,h2,c,h3,d,h4,?_⟩
  split at h5
  ·rename_i hc
   rw[if_pos hc]
   simp only[Option.map_eq_some_iff,Prod.mk.injEq]at h5 ⊢
   obtain⟨t,h6,h7,_⟩:=h5
   exact⟨t,h6,h7,by first | rfl | trivial⟩
  ·cases h5
 all_goals
  simp only[evOp,Option.map_eq_some_iff,Option.bind_eq_some_iff,Prod.mk.injEq]at h ⊢
  first
  | (obtain⟨a,h1,h2,_⟩:=h; exact⟨a,h1,h2,by first | rfl | trivial⟩)
  | (obtain⟨a,h1,b,h2,h3,_⟩:=h; exact⟨a,h1,b,h2,h3,by first | rfl | trivial⟩)
  | (obtain⟨a,h1,b,h2,c,h3,h4,_⟩:=h; exact⟨a,h1,b,h2,c,h3,h4,by first | rfl | trivial⟩)
theorem sliceAV_keep{H H':List Obj}{es l h:Nat}{a v:AV}(hs:sliceAV H es a l h false = some (v,H')):H' = H:=by
 unfold sliceAV at hs
 split at hs
 ·split at hs <;> cases hs; rfl
 ·split at hs <;> cases hs; rfl
 ·split at hs <;> cases hs; rfl
 ·split at hs <;> cases hs; rfl
 ·split at hs
  ·split at hs
   ·simp only[Bool.false_eq_true,if_false,Option.some.injEq,Prod.mk.injEq]at hs; exact hs.2.symm
   ·cases hs
  ·cases hs
 ·split at hs
  ·split at hs
   ·cases hs; rfl
   ·cases hs
  ·cases hs
 ·cases hs
theorem evOp_read{e:Fr}{op:SOp}{H:List Obj}{v:AV}{H':List Obj}(hk:kind0 op = .read)(h:evOp e H op = some (v,H')):H' = H:=by
 cases op <;> first | (simp[kind0]at hk; done) | skip
 case slice es x lo hi mx =>
  cases mx with
  | some m=>simp[kind0]at hk
  | none =>
   simp only[evOp,evIntOO,Option.bind_eq_some_iff,Option.some.injEq]at h
   obtain⟨a,_,n,_,l,_,h',_,m,rfl,hs⟩:=h
   unfold sliceB at hs
   split at hs
   ·exact sliceAV_keep hs
   ·cases hs
 case mapget g ks z ok x k =>
  simp only[evOp,Option.bind_eq_some_iff]at h
  obtain⟨r,_,k',_,es,_,hs⟩:=h
  split at hs
  ·simp only[Option.map_eq_some_iff,Prod.mk.injEq]at hs
   obtain⟨_,_,_,hs⟩:=hs
   exact hs.symm
  ·cases hs
 all_goals
  simp only[evOp,Option.map_eq_some_iff,Option.bind_eq_some_iff,Prod.mk.injEq]at h
  first
  | (obtain⟨a,h1,h2,h3⟩:=h; exact h3.symm)
  | (obtain⟨a,h1,b,h2,h3,h4⟩:=h; exact h4.symm)
  | (obtain⟨a,h1,b,h2,c,h3,h4,h5⟩:=h; exact h5.symm)
end Go.Proofs.YtchgldaddcolhaaGreatDoor
namespace Go.Proofs.YtchgldaddcolhaaGreatDoor
open Go
def bindP{α:Type}(o:Option α)(K:α→Prop):Prop:=o.elim False K
theorem bindP_congr{α:Type}{o o':Option α}{K:α→Prop}{p:Prop}(_h0:((0:Nat) = 0) = p)(h:o = o'):bindP o K↔bindP o' K:=by rw[h]
theorem bindP_some{α:Type}{x:α}{K:α→Prop}:bindP (some x) K↔K x:=Iff.rfl
theorem bindP_none{α:Type}{K:α→Prop}:bindP (none:Option α) K↔False:=Iff.rfl
theorem bindP_ite{α:Type}{c:Prop}[Decidable c]{x:Option α}{K:α→Prop}:bindP (if c then x else none) K↔c∧bindP x K:=by
 split <;> simp[*,bindP]
theorem bindP_map{α β:Type}{o:Option α}{f:α→β}{K:β→Prop}:bindP (o.map f) K↔bindP o fun x=>K (f x):=by cases o <;> rfl
theorem bindP_bind{α β:Type}{o:Option α}{f:α→Option β}{K:β→Prop}:bindP (o.bind f) K↔bindP o fun x=>bindP (f x) K:=by cases o <;> rfl
theorem bindP_mono{α:Type}{o:Option α}{K K':α→Prop}(h:bindP o K)(hk:∀ x,K x→K' x):bindP o K':=by
 cases o with
 | none=>exact h
 | some x=>exact hk x h
section
variable(X:FuncId→List AV→List Obj→Option (AV×List Obj))(Γ:FuncId→Option SFunc)
def W(c:SCode)(s:St)(Q:SExit→St→Prop):Prop:=bindP (exec X Γ c s) fun r=>Q r.1 r.2
def WO:List SO→Fr→List Obj→(Fr→List Obj→Prop)→Prop
 | [],e,H,K=>K e H
 | o::os,e,H,K=>match wanted o e with
  | none=>False
  | some false=>WO os (dstDrop o.dst e) H K
  | some true=>bindP (evOne X Γ o.op e H) fun r=>WO os (dstPut o.dst e r.1) r.2 K
def WY(l:Nat)(args:List AV)(H:List Obj)(K:AV→List Obj→Prop):Prop:=bindP (yieldAt X Γ l args H) fun r=>K r.1 r.2
def WC(g:FuncId)(args:List AV)(H:List Obj)(K:AV→List Obj→Prop):Prop:=bindP (callAt X Γ g args H) fun r=>K r.1 r.2
def andThen(Q1:St→Prop)(Q:SExit→St→Prop):SExit→St→Prop
 | .normal,s=>Q1 s
 | x,s=>Q x s
def outOf(id:Nat)(Q:SExit→St→Prop):SExit→St→Prop
 | .exit i,s=>if i = id then Q .normal s else Q (.exit i) s
 | x,s=>Q x s
def fin(res:List SOp)(Q:AV→List Obj→Prop):SExit→St→Prop
 | .exit _,_=>False
 | _,s=>bindP (evRes ⟨[],s.env⟩ s.H res) fun rs=>Q (tupOf rs) s.H
variable{X Γ}
theorem W_congr{c:SCode}{s s':St}{Q:SExit→St→Prop}{p:Prop}(_h0:((0:Nat) = 0) = p)(h:s = s'):W X Γ c s Q↔W X Γ c s' Q:=by rw[h]
theorem WO_congr{ops:List SO}{e e':Fr}{H H':List Obj}{K:Fr→List Obj→Prop}{p:Prop}(_h0:((0:Nat) = 0) = p)(h:e = e')(h':H = H'):WO X Γ ops e H K↔WO X Γ ops e' H' K:=by rw[h,h']
theorem WC_congr{g:FuncId}{aZ aZ':List AV}{H H':List Obj}{K:AV→List Obj→Prop}{p:Prop}(_h0:((0:Nat) = 0) = p)(h:aZ = aZ')(h':H = H'):WC X Γ g aZ H K↔WC X Γ g aZ' H' K:=by rw[h,h']
theorem andThen_congr{Q1:St→Prop}{Q:SExit→St→Prop}{x x':SExit}{s s':St}{p:Prop}(_h0:((0:Nat) = 0) = p)(h:x = x')(h':s = s'):andThen Q1 Q x s↔andThen Q1 Q x' s':=by rw[h,h']
theorem outOf_congr{id:Nat}{Q:SExit→St→Prop}{x x':SExit}{s s':St}{p:Prop}(_h0:((0:Nat) = 0) = p)(h:x = x')(h':s = s'):outOf id Q x s↔outOf id Q x' s':=by rw[h,h']
theorem fin_congr{res:List SOp}{Q:AV→List Obj→Prop}{x x':SExit}{s s':St}{p:Prop}(_h0:((0:Nat) = 0) = p)(h:x = x')(h':s = s'):fin res Q x s↔fin res Q x' s':=by rw[h,h']
theorem andThen_normal{Q1:St→Prop}{Q:SExit→St→Prop}{s:St}:andThen Q1 Q .normal s↔Q1 s:=Iff.rfl
theorem andThen_exit{Q1:St→Prop}{Q:SExit→St→Prop}{s:St}{n:Nat}:andThen Q1 Q (.exit n) s↔Q (.exit n) s:=Iff.rfl
theorem andThen_ret{Q1:St→Prop}{Q:SExit→St→Prop}{s:St}:andThen Q1 Q .ret s↔Q .ret s:=Iff.rfl
theorem outOf_normal{id:Nat}{Q:SExit→St→Prop}{s:St}:outOf id Q .normal s↔Q .normal s:=Iff.rfl
theorem outOf_ret{id:Nat}{Q:SExit→St→Prop}{s:St}:outOf id Q .ret s↔Q .ret s:=Iff.rfl
theorem outOf_exit{id n:Nat}{Q:SExit→St→Prop}{s:St}:outOf id Q (.exit n) s↔if n = id then Q .normal s else Q (.exit n) s:=Iff.rfl
theorem fin_ret{res:List SOp}{Q:AV→List Obj→Prop}{s:St}:fin res Q .ret s↔bindP (evRes ⟨[],s.env⟩ s.H res) fun rs=>Q (tupOf rs) s.H:=Iff.rfl
theorem fin_normal{res:List SOp}{Q:AV→List Obj→Prop}{s:St}:fin res Q .normal s↔bindP (evRes ⟨[],s.env⟩ s.H res) fun rs=>Q (tupOf rs) s.H:=Iff.rfl
theorem W_mono{c:SCode}{s:St}{Q Q':SExit→St→Prop}(h:W X Γ c s Q)(hq:∀ x s,Q x s→Q' x s):W X Γ c s Q':=bindP_mono h fun r=>hq r.1 r.2
theorem W_skip{s:St}{Q:SExit→St→Prop}:W X Γ .skip s Q↔Q .normal s:=by simp[W,exq_skip,bindP]
theorem W_ret{s:St}{Q:SExit→St→Prop}:W X Γ .ret s Q↔Q .ret s:=by simp[W,exq_ret,bindP]
theorem W_exit{id:Nat}{s:St}{Q:SExit→St→Prop}:W X Γ (.exit id) s Q↔Q (.exit id) s:=by simp[W,exq_exit,bindP]
theorem WO_evOps:∀ {ops:List SO} {e:Fr} {H:List Obj} {K:St→Prop},bindP (evOps X Γ ops e H) K↔WO X Γ ops e H fun e H=>K ⟨e.env,H⟩
 | [],e,H,K=>by rw[opsq_nil]; rfl
 | o::os,e,H,K=>by
  rw[opsq_cons,WO]
  cases wanted o e with
  | none=>rfl
  | some t =>
   cases t with
   | false=>exact WO_evOps
   | true =>
    simp only
    cases evOne X Γ o.op e H with
    | none=>rfl
    | some r=>exact WO_evOps
theorem W_region{ops:List SO}{s:St}{Q:SExit→St→Prop}:W X Γ (.region ops) s Q↔WO X Γ ops ⟨[],s.env⟩ s.H fun e H=>Q .normal ⟨e.env,H⟩:=by
 rw[← WO_evOps (K:=Q .normal)]
 simp only[W,exq_region]
 cases evOps X Γ ops ⟨[],s.env⟩ s.H <;> simp[bindP]
theorem W_seq{a b:SCode}{s:St}{Q:SExit→St→Prop}:W X Γ (.seq a b) s Q↔W X Γ a s (andThen (fun s=>W X Γ b s Q) Q):=by
 simp only[W,exq_seq]
 cases exec X Γ a s with
 | none=>simp[bindP]
 | some r=>obtain⟨x,s'⟩:=r; cases x <;> simp[andThen,bindP]
theorem W_seq_cut{a b:SCode}{s:St}{Q:SExit→St→Prop}(I:St→Prop)(h1:W X Γ a s (andThen I Q))(h2:∀ s,I s→W X Γ b s Q):W X Γ (.seq a b) s Q:=by
 rw[W_seq]
 refine W_mono h1 fun x s hx=>?_
 cases x with
 | normal=>exact h2 s hx
 | exit i=>exact hx
 | ret=>exact hx
theorem W_cond{c:SA}{a b:SCode}{s:St}{Q:SExit→St→Prop}:W X Γ (.cond c a b) s Q↔bindP (evBool ⟨[],s.env⟩ c) fun t=>if t = true then W X Γ a s Q else W X Γ b s Q:=by
 unfold W
 rw[exq_cond]
 unfold evBool
 cases ev ⟨[],s.env⟩ c with
 | none=>simp[bindP]
 | some v =>
  cases v with
  | p x =>
   cases x with
   | v y =>
    cases y with
    | bool t=>cases t <;> simp[bindP,asBoolA]
    | _=>simp[bindP,asBoolA]
   | _=>simp[bindP,asBoolA]
  | _=>simp[bindP,asBoolA]
theorem W_block{id:Nat}{b:SCode}{s:St}{Q:SExit→St→Prop}:W X Γ (.block id b) s Q↔W X Γ b s (outOf id Q):=by
 simp only[W]
 rw[exq_block]
 cases exec X Γ b s with
 | none=>simp[bindP]
 | some r =>
  obtain⟨x,s'⟩:=r
  cases x with
  | exit i=>by_cases h:i = id <;> simp[outOf,bindP,h]
  | _=>simp[outOf,bindP]
theorem W_loop1{b:SCode}{s:St}{Q:SExit→St→Prop}:W X Γ (.loop b) s Q↔W X Γ b s (andThen (fun s=>W X Γ (.loop b) s Q) Q):=by
 unfold W
 conv=>lhs; rw[exq_loop]
 cases exec X Γ b s with
 | none=>simp[bindP]
 | some r=>obtain⟨x,s'⟩:=r; cases x <;> simp[andThen,bindP]
theorem W_loop{b:SCode}{Q:SExit→St→Prop}(I:Nat→St→Prop)(h:∀ n s,I n s→W X Γ b s (andThen (fun s'=>∃ m,m < n∧I m s') Q)):∀ n s,I n s→W X Γ (.loop b) s Q:=by
 intro n
 induction n using Nat.strongRecOn with
 | ind n ih =>
  intro s hs
  rw[W_loop1]
  refine W_mono (h n s hs) fun x s' hx=>?_
  cases x with
  | normal=>obtain⟨m,hm,hI⟩:=hx; exact ih m hm s' hI
  | exit i=>exact hx
  | ret=>exact hx
theorem WO_nil{e:Fr}{H:List Obj}{K:Fr→List Obj→Prop}:WO X Γ [] e H K↔K e H:=Iff.rfl
def wantB(b:Bool):AV→Option Bool
 | .p (.v (.bool t))=>some (t == b)
 | .tup []=>some false
 | _=>none
theorem WO_g{d:SD}{op:SOp}{a:SA}{b:Bool}{os:List SO}{e:Fr}{H:List Obj}{K:Fr→List Obj→Prop} :
  WO X Γ (⟨d,op,some (a,b)⟩::os) e H K↔bindP ((ev e a).bind (wantB b)) fun t=>if t = true then WO X Γ (⟨d,op,none⟩::os) e H K else WO X Γ os (dstPut d e (.tup [])) H K:=by
 have key:wanted ⟨d,op,some (a,b)⟩ e = (ev e a).bind (wantB b):=by
  simp only[wanted]
  cases ev e a with
  | none=>rfl
  | some v =>
   cases v with
   | p x=>cases x with
    | v y=>cases y <;> rfl
    | _=>rfl
   | tup l=>cases l <;> rfl
   | _=>rfl
 rw[WO,key]
 cases (ev e a).bind (wantB b) with
 | none=>simp[bindP]
 | some t=>cases t <;> simp[bindP,WO,wanted,dstDrop]
theorem WO_cons{d:SD}{op:SOp}{os:List SO}{e:Fr}{H:List Obj}{K:Fr→List Obj→Prop} :
  WO X Γ (⟨d,op,none⟩::os) e H K↔bindP (evOne X Γ op e H) fun r=>WO X Γ os (dstPut d e r.1) r.2 K:=by
 rw[WO]
 simp only[wanted]
theorem WO_op{d:SD}{op:SOp}{os:List SO}{e:Fr}{H:List Obj}{K:Fr→List Obj→Prop}(h:isCall op = none) :
  WO X Γ (⟨d,op,none⟩::os) e H K↔bindP (evOp e H op) fun r=>WO X Γ os (dstPut d e r.1) r.2 K:=by
 rw[WO_cons,oneq]
 simp only[h]
theorem WO_call{d:SD}{f:SA}{aZ:List SA}{os:List SO}{e:Fr}{H:List Obj}{K:Fr→List Obj→Prop} :
  WO X Γ (⟨d,.call f aZ,none⟩::os) e H K↔bindP (ev e f) fun fv=>bindP (evs e aZ) fun args=>match fv with
   | .fn (.func g) first cap=>WC X Γ g (first++args++cap) H fun v H'=>WO X Γ os (dstPut d e v) H' K
   | .yld l=>WY X Γ l args H fun v H'=>WO X Γ os (dstPut d e v) H' K
   | _=>False:=by
 rw[WO_cons,oneq]
 simp only[isCall]
 cases ev e f with
 | none=>simp[bindP]
 | some fv =>
  cases evs e aZ with
  | none=>cases fv <;> simp[bindP]
  | some args =>
   cases fv with
   | fn g a b=>cases g <;> simp[bindP,WC]
   | yld l=>simp[bindP,WY]
   | _=>simp[bindP]
section
variable{d:SD}{os:List SO}{e:Fr}{H:List Obj}{K:Fr→List Obj→Prop}
theorem WO_mov{x:SA}:WO X Γ (⟨d,.mov x,none⟩::os) e H K↔bindP (ev e x) fun v=>WO X Γ os (dstPut d e v) H K:=by
 rw[WO_op rfl,evOp,bindP_map]
theorem WO_pick{c a b:SA}:WO X Γ (⟨d,.pick c a b,none⟩::os) e H K↔bindP (evBool e c) fun t=>if t = true then WO X Γ (⟨d,.mov a,none⟩::os) e H K else WO X Γ (⟨d,.mov b,none⟩::os) e H K:=by
 rw[WO_op rfl,evOp,bindP_bind]
 cases evBool e c with
 | none=>exact Iff.rfl
 | some t=>cases t <;> simp[bindP_some,bindP_map,WO_mov]
theorem WO_alloc{z:List AV}:WO X Γ (⟨d,.alloc z,none⟩::os) e H K↔WO X Γ os (dstPut d e (.ptr H.length 0)) (H++[.cells z]) K:=by
 rw[WO_op rfl,evOp,bindP_some]
theorem WO_box{x:SA}:WO X Γ (⟨d,.box x,none⟩::os) e H K↔bindP (ev e x) fun v=>bindP (cellsOf v) fun cs=>WO X Γ os (dstPut d e (.ptr H.length 0)) (H++[.cells cs]) K:=by
 rw[WO_op rfl,evOp]; simp only[bindP_bind,bindP_map]
theorem WO_build{z:List AV}{ps:List (Nat×Nat×SA)}:WO X Γ (⟨d,.build z ps,none⟩::os) e H K↔bindP (fill e z ps) fun cs=>WO X Γ os (dstPut d e (.agg cs)) H K:=by
 rw[WO_op rfl,evOp,bindP_map]
theorem WO_slit{z:List PV}{n:Nat}{ps:List (Nat×SA)}:WO X Γ (⟨d,.slit z n ps,none⟩::os) e H K↔bindP (fillRows H e z.length (List.replicate n z) ps) fun rows=>WO X Γ os (dstPut d e (.lit rows)) (freeze H (partArs e ps)) K:=by
 rw[WO_op rfl,evOp,bindP_map]
theorem WO_load1{a:SA}:WO X Γ (⟨d,.load1 a,none⟩::os) e H K↔bindP (ev e a) fun p=>bindP (load1V H p) fun v=>WO X Γ os (dstPut d e v) H K:=by
 rw[WO_op rfl,evOp]; simp only[bindP_bind,bindP_map]
theorem WO_loadn{n:Nat}{a:SA}:WO X Γ (⟨d,.loadn n a,none⟩::os) e H K↔bindP (ev e a) fun p=>bindP (loadC H n p) fun cs=>WO X Γ os (dstPut d e (.agg cs)) H K:=by
 rw[WO_op rfl,evOp]; simp only[bindP_bind,bindP_map]
theorem WO_store{n:Nat}{a x:SA}:WO X Γ (⟨d,.store n a x,none⟩::os) e H K↔bindP (ev e a) fun p=>bindP (ev e x) fun v=>bindP (cellsOf v) fun cs=>cs.length = n∧bindP (storeC H p cs) fun H'=>WO X Γ os (dstPut d e (.p .nsl)) H' K:=by
 rw[WO_op rfl,evOp]; simp only[bindP_bind,bindP_map,bindP_ite]
theorem WO_nilck{x:SA}:WO X Γ (⟨d,.nilck x,none⟩::os) e H K↔bindP (ev e x) fun a=>bindP (nilckV a) fun v=>WO X Γ os (dstPut d e v) H K:=by
 rw[WO_op rfl,evOp]; simp only[bindP_bind,bindP_map]
theorem WO_bin{op:BinOp}{x y:SA}:WO X Γ (⟨d,.bin op x y,none⟩::os) e H K↔bindP (evVal e x) fun a=>bindP (evVal e y) fun b=>bindP (binV op a b) fun r=>WO X Γ os (dstPut d e (.p (.v r))) H K:=by
 rw[WO_op rfl,evOp]; simp only[bindP_bind,bindP_map]
theorem WO_binB{op:BinOp}{x y:SA}:WO X Γ (⟨d,.binB op x y,none⟩::os) e H K↔bindP (evVal e x) fun a=>bindP (evVal e y) fun b=>bindP (binB op a b) fun r=>WO X Γ os (dstPut d e (.p (.v r))) H K:=by
 rw[WO_op rfl,evOp]; simp only[bindP_bind,bindP_map]
theorem WO_isnil{neg:Bool}{x:SA}:WO X Γ (⟨d,.isnil neg x,none⟩::os) e H K↔bindP (ev e x) fun a=>bindP (isNil a) fun t=>WO X Γ os (dstPut d e (.p (.v (.bool (if neg then !t else t))))) H K:=by
 rw[WO_op rfl,evOp]; simp only[bindP_bind,bindP_map]
theorem WO_un{op:UnOp}{x:SA}:WO X Γ (⟨d,.un op x,none⟩::os) e H K↔bindP (evVal e x) fun a=>bindP (un op a) fun r=>WO X Γ os (dstPut d e (.p (.v r))) H K:=by
 rw[WO_op rfl,evOp]; simp only[bindP_bind,bindP_map]
theorem WO_conv{k:IntKind}{x:SA}:WO X Γ (⟨d,.conv k x,none⟩::os) e H K↔bindP (evInt e x) fun n=>WO X Γ os (dstPut d e (.p (.v (.int k (k.wrap n))))) H K:=by
 rw[WO_op rfl,evOp,bindP_map]
theorem WO_mkfn{f:Fn}{a b:List SA}:WO X Γ (⟨d,.mkfn f a b,none⟩::os) e H K↔bindP (evs e a) fun aZ=>bindP (evs e b) fun bs=>WO X Γ os (dstPut d e (.fn f aZ bs)) H K:=by
 rw[WO_op rfl,evOp]; simp only[bindP_bind,bindP_map]
theorem WO_mkmap:WO X Γ (⟨d,.mkmap,none⟩::os) e H K↔WO X Γ os (dstPut d e (.map H.length)) (H++[.map []]) K:=by
 rw[WO_op rfl,evOp,bindP_some]
theorem WO_mkslice{b:Nat}{z:List PV}{l c:SA}:WO X Γ (⟨d,.mkslice b z l c,none⟩::os) e H K↔bindP (evInt e l) fun n=>bindP (evInt e c) fun m=>(0 ≤ n∧n ≤ m∧b * m ≤ 281474976710656∧m ≤ 9223372036854775807) ∧
  WO X Γ os (dstPut d e (.ar H.length 0 0 n.toNat)) (H++[.arr z.length none 0 (List.replicate n.toNat z)]) K:=by
 rw[WO_op rfl,evOp]; simp only[bindP_bind,mkSlice,bindP_ite,bindP_some]
theorem WO_slice{es:Nat}{x:SA}{lo hi mx:Option SA}:WO X Γ (⟨d,.slice es x lo hi mx,none⟩::os) e H K↔bindP (ev e x) fun a=>bindP (lenOf a) fun n=>bindP (evIntO e 0 lo) fun l=>bindP (evIntO e n hi) fun h=>bindP (evIntOO e mx) fun m =>
  bindP (sliceB H es a l h m) fun r=>WO X Γ os (dstPut d e r.1) r.2 K:=by
 rw[WO_op rfl,evOp]; simp only[bindP_bind]
theorem WO_sliceS{x:SA}{lo hi:Option SA}:WO X Γ (⟨d,.sliceS x lo hi,none⟩::os) e H K↔bindP (evStr e x) fun s=>bindP (evIntO e 0 lo) fun l=>bindP (evIntO e s.size hi) fun h=>(0 ≤ l∧l ≤ h∧h ≤ s.size) ∧
  WO X Γ os (dstPut d e (.p (.v (.string (s.extract l.toNat h.toNat))))) H K:=by
 rw[WO_op rfl,evOp]; simp only[bindP_bind,bindP_ite,bindP_some]
theorem WO_fadr{n:Nat}{x:SA}:WO X Γ (⟨d,.fadr n x,none⟩::os) e H K↔bindP (ev e x) fun a=>bindP (fadrV n a) fun v=>WO X Γ os (dstPut d e v) H K:=by
 rw[WO_op rfl,evOp]; simp only[bindP_bind,bindP_map]
theorem WO_idx{es:Nat}{x i:SA}:WO X Γ (⟨d,.idx es x i,none⟩::os) e H K↔bindP (ev e x) fun a=>bindP (evInt e i) fun n=>bindP (idxSl H es a n) fun v=>WO X Γ os (dstPut d e v) H K:=by
 rw[WO_op rfl,evOp]; simp only[bindP_bind,bindP_map]
theorem WO_idxA{len es:Nat}{x i:SA}:WO X Γ (⟨d,.idxA len es x i,none⟩::os) e H K↔bindP (ev e x) fun a=>bindP (evInt e i) fun n=>bindP (idxArr len es a n) fun v=>WO X Γ os (dstPut d e v) H K:=by
 rw[WO_op rfl,evOp]; simp only[bindP_bind,bindP_map]
theorem WO_idxS{x i:SA}:WO X Γ (⟨d,.idxS x i,none⟩::os) e H K↔bindP (evStr e x) fun s=>bindP (evInt e i) fun n=>bindP (idxStr s n) fun v=>WO X Γ os (dstPut d e v) H K:=by
 rw[WO_op rfl,evOp]; simp only[bindP_bind,bindP_map]
theorem WO_idxV{len es:Nat}{g:Bool}{x i:SA}:WO X Γ (⟨d,.idxV len g es x i,none⟩::os) e H K↔bindP (ev e x) fun a=>bindP (evInt e i) fun n=>bindP (idxAgg len g es a n) fun v=>WO X Γ os (dstPut d e v) H K:=by
 rw[WO_op rfl,evOp]; simp only[bindP_bind,bindP_map]
theorem WO_b2s{x:SA}:WO X Γ (⟨d,.b2s x,none⟩::os) e H K↔bindP (ev e x) fun a=>bindP (rowsOf H a) fun rows=>bindP (bytesOf rows) fun l=>WO X Γ os (dstPut d e (.p (.v (.string ⟨l.toArray⟩)))) H K:=by
 rw[WO_op rfl,evOp]; simp only[bindP_bind,bindP_map]
theorem WO_extract{x:SA}{n:Nat}:WO X Γ (⟨d,.extract x n,none⟩::os) e H K↔bindP (ev e x) fun a=>bindP (extractV n a) fun v=>WO X Γ os (dstPut d e v) H K:=by
 rw[WO_op rfl,evOp]; simp only[bindP_bind,bindP_map]
theorem WO_len{x:SA}:WO X Γ (⟨d,.len x,none⟩::os) e H K↔bindP (ev e x) fun a=>bindP (lenOf a) fun (n:Nat)=>WO X Γ os (dstPut d e (.p (.v (.int .i64 (n:Int))))) H K:=by
 rw[WO_op rfl,evOp]; simp only[bindP_bind,bindP_map]
theorem WO_lenS{x:SA}:WO X Γ (⟨d,.lenS x,none⟩::os) e H K↔bindP (evStr e x) fun s=>WO X Γ os (dstPut d e (.p (.v (.int .i64 s.size)))) H K:=by
 rw[WO_op rfl,evOp,bindP_map]
theorem WO_append{b es:Nat}{x y:SA}:WO X Γ (⟨d,.append b es x y,none⟩::os) e H K↔bindP (ev e x) fun u=>bindP (ev e y) fun v=>bindP (appendV H b es u v) fun r=>WO X Γ os (dstPut d e r.1) r.2 K:=by
 rw[WO_op rfl,evOp]; simp only[bindP_bind]
theorem WO_copy{es:Nat}{x y:SA}:WO X Γ (⟨d,.copy es x y,none⟩::os) e H K↔bindP (ev e x) fun u=>bindP (ev e y) fun v=>bindP (copyV H es u v) fun r=>WO X Γ os (dstPut d e r.1) r.2 K:=by
 rw[WO_op rfl,evOp]; simp only[bindP_bind]
theorem WO_maxmin{m:Bool}{x y:SA}:WO X Γ (⟨d,.maxmin m x y,none⟩::os) e H K↔bindP (evVal e x) fun a=>bindP (evVal e y) fun b=>bindP (maxmin m a b) fun r=>WO X Γ os (dstPut d e (.p (.v r))) H K:=by
 rw[WO_op rfl,evOp]; simp only[bindP_bind,bindP_map]
theorem WO_mapget{g:Bool}{ks:List LK}{z:AV}{ok:Bool}{x k:SA}:WO X Γ (⟨d,.mapget g ks z ok x k,none⟩::os) e H K↔bindP (evOp e H (.mapget g ks z ok x k)) fun r=>WO X Γ os (dstPut d e r.1) r.2 K:=WO_op rfl
theorem WO_mapset{g:Bool}{ks:List LK}{x k v:SA}:WO X Γ (⟨d,.mapset g ks x k v,none⟩::os) e H K↔bindP (evOp e H (.mapset g ks x k v)) fun r=>WO X Γ os (dstPut d e r.1) r.2 K:=WO_op rfl
end
structure Ck where
 op:SOp
 e:Fr
 x:AV
 lo:Nat
 hi:Nat
def ckAll:List Ck→List (List Obj)→Prop
 | [],_=>True
 | c::cs,F=>stable c.op c.e c.x ((F.drop c.lo).take (c.hi + 1 - c.lo))∧ckAll cs F
def WL(X:FuncId→List AV→List Obj→Option (AV×List Obj))(Γ:FuncId→Option SFunc):List DO→Fr→List Obj→List (List Obj)→List Ck→(St→Prop)→Prop
 | [],e,H,Hs,cs,K=>ckAll cs (Hs++[H])∧K ⟨e.env,H⟩
 | d::ds,e,H,Hs,cs,K=>match wanted d.o e with
  | none=>False
  | some false=>WL X Γ ds (dstDrop d.o.dst e) H (if d.k.seq then Hs++[H] else Hs) cs K
  | some true=>match d.k with
   | .write=>bindP (evOne X Γ d.o.op e H) fun v=>WL X Γ ds (dstPut d.o.dst e v.1) v.2 (Hs++[H]) cs K
   | .fresh=>bindP (evOp e H d.o.op) fun v=>WL X Γ ds (dstPut d.o.dst e v.1) v.2 (Hs++[H]) cs K
   | .lone=>bindP (evOne X Γ d.o.op e []) fun u=>bindP (loneV u) fun v=>(v.2 = []∧noRefs e d.o.op = true)∧WL X Γ ds (dstPut d.o.dst e v.1) H Hs cs K
   | .read=>bindP (evOp e H d.o.op) fun v=>WL X Γ ds (dstPut d.o.dst e v.1) H Hs (⟨d.o.op,e,v.1,d.lo,d.hi⟩::cs) K
   | _=>bindP (evOp e H d.o.op) fun v=>WL X Γ ds (dstPut d.o.dst e v.1) H Hs cs K
theorem WL_evDraw:∀ {ds:List DO} {e:Fr} {H:List Obj} {Hs:List (List Obj)} {cs:List Ck} {K:St→Prop},
  WL X Γ ds e H Hs cs K↔bindP (evDraw X Γ ds e H) fun r=>(ckAll cs (Hs++(r.stores++[r.s.H]))∧stables ds r.recs (Hs++(r.stores++[r.s.H])))∧K r.s
 | [],e,H,Hs,cs,K=>by rw[WL,drq_nil]; simp[bindP,stables]
 | d::ds,e,H,Hs,cs,K=>by
  rw[WL,drq_cons]
  cases wanted d.o e with
  | none=>simp[bindP]
  | some t =>
   cases t with
   | false =>
    simp only
    rw[WL_evDraw]
    cases evDraw X Γ ds (dstDrop d.o.dst e) H with
    | none=>simp[bindP]
    | some r=>cases hk:d.k.seq <;> simp[bindP,stables,hk]
   | true =>
    simp only
    cases hk:d.k with
    | write =>
     simp only
     cases evOne X Γ d.o.op e H with
     | none=>simp[bindP]
     | some v =>
      simp only[bindP_some,Option.bind_eq_bind,Option.bind_some]
      rw[WL_evDraw]
      cases evDraw X Γ ds (dstPut d.o.dst e v.1) v.2 <;> simp[bindP,stables,hk]
    | fresh =>
     simp only
     cases evOp e H d.o.op with
     | none=>simp[bindP]
     | some v =>
      simp only[bindP_some,Option.bind_eq_bind,Option.bind_some]
      rw[WL_evDraw]
      cases evDraw X Γ ds (dstPut d.o.dst e v.1) v.2 <;> simp[bindP,stables,hk]
    | lone =>
     simp only
     cases evOne X Γ d.o.op e [] with
     | none=>simp[bindP]
     | some u =>
      simp only[bindP_some,Option.bind_eq_bind,Option.bind_some]
      cases loneV u with
      | none=>simp[bindP]
      | some v =>
      simp only[bindP_some,Option.bind_some]
      rw[WL_evDraw]
      by_cases hc:v.2.isEmpty = true∧noRefs e d.o.op = true
      ·rw[if_pos (by simpa using hc)]
       have h2:v.2 = []:=List.isEmpty_iff.1 hc.1
       cases evDraw X Γ ds (dstPut d.o.dst e v.1) H <;> simp[bindP,stables,hk,h2,hc.2]
      ·rw[if_neg (by simpa using hc)]
       simp only[List.isEmpty_iff]at hc
       simp[bindP,hc]
    | read =>
     simp only
     cases evOp e H d.o.op with
     | none=>simp[bindP]
     | some v =>
      simp only[bindP_some,Option.bind_eq_bind,Option.bind_some]
      rw[WL_evDraw]
      cases evDraw X Γ ds (dstPut d.o.dst e v.1) H with
      | none=>simp[bindP]
      | some r =>
       simp[bindP,stables,hk,ckAll]
       intro _
       constructor
       ·rintro⟨⟨h1,h2⟩,h3⟩; exact⟨h2,h1,h3⟩
       ·rintro⟨h2,h1,h3⟩; exact⟨⟨h1,h2⟩,h3⟩
    | free =>
     simp only
     cases evOp e H d.o.op with
     | none=>simp[bindP]
     | some v =>
      simp only[bindP_some,Option.bind_eq_bind,Option.bind_some]
      rw[WL_evDraw]
      cases evDraw X Γ ds (dstPut d.o.dst e v.1) H <;> simp[bindP,stables,hk]
    | here =>
     simp only
     cases evOp e H d.o.op with
     | none=>simp[bindP]
     | some v =>
      simp only[bindP_some,Option.bind_eq_bind,Option.bind_some]
      rw[WL_evDraw]
      cases evDraw X Γ ds (dstPut d.o.dst e v.1) H <;> simp[bindP,stables,hk]
theorem W_draw{ds:List DO}{s:St}{Q:SExit→St→Prop}:W X Γ (.draw ds) s Q↔WL X Γ ds ⟨[],s.env⟩ s.H [] [] (Q .normal):=by
 rw[WL_evDraw]
 unfold W
 rw[exq_draw]
 cases evDraw X Γ ds ⟨[],s.env⟩ s.H with
 | none=>simp[bindP]
 | some r =>
  by_cases h:stables ds r.recs (r.stores++[r.s.H])
  ·simp[bindP,checked,h,ckAll]
  ·simp[bindP,checked,h,ckAll]
section
variable{e:Fr}{H:List Obj}{Hs:List (List Obj)}{cs:List Ck}{K:St→Prop}{ds:List DO}{d:SD}{op:SOp}{lo hi:Nat}
theorem ckAll_nil{F:List (List Obj)}:ckAll [] F↔True:=Iff.rfl
theorem ckAll_cons{c:Ck}{F:List (List Obj)}:ckAll (c::cs) F↔stable c.op c.e c.x ((F.drop c.lo).take (c.hi + 1 - c.lo))∧ckAll cs F:=Iff.rfl
theorem stable_nil{x:AV}:stable op e x []↔True:=Iff.rfl
theorem stable_cons{x:AV}{F:List (List Obj)}:stable op e x (H::F)↔evOp e H op = some (x,H)∧stable op e x F:=Iff.rfl
theorem WL_nil:WL X Γ [] e H Hs cs K↔ckAll cs (Hs++[H])∧K ⟨e.env,H⟩:=Iff.rfl
theorem WL_write{o:SO}:WL X Γ (⟨o,.write,lo,hi⟩::ds) e H Hs cs K↔WO X Γ [o] e H fun e' H'=>WL X Γ ds e' H' (Hs++[H]) cs K:=by
 rw[WL,WO]
 simp only[WO,DK.seq,if_true]
theorem WL_fresh:WL X Γ (⟨⟨d,op,none⟩,.fresh,lo,hi⟩::ds) e H Hs cs K↔bindP (evOp e H op) fun v=>WL X Γ ds (dstPut d e v.1) v.2 (Hs++[H]) cs K:=by
 rw[WL]; simp only[wanted]
theorem WL_free:WL X Γ (⟨⟨d,op,none⟩,.free,lo,hi⟩::ds) e H Hs cs K↔bindP (evOp e H op) fun v=>WL X Γ ds (dstPut d e v.1) H Hs cs K:=by
 rw[WL]; simp only[wanted]
theorem WL_here:WL X Γ (⟨⟨d,op,none⟩,.here,lo,hi⟩::ds) e H Hs cs K↔bindP (evOp e H op) fun v=>WL X Γ ds (dstPut d e v.1) H Hs cs K:=by
 rw[WL]; simp only[wanted]
theorem WL_read:WL X Γ (⟨⟨d,op,none⟩,.read,lo,hi⟩::ds) e H Hs cs K↔bindP (evOp e H op) fun v=>WL X Γ ds (dstPut d e v.1) H Hs (⟨op,e,v.1,lo,hi⟩::cs) K:=by
 rw[WL]; simp only[wanted]
theorem WL_g{a:SA}{b:Bool}{k:DK}:WL X Γ (⟨⟨d,op,some (a,b)⟩,k,lo,hi⟩::ds) e H Hs cs K↔bindP ((ev e a).bind (wantB b)) fun t=>if t = true then WL X Γ (⟨⟨d,op,none⟩,k,lo,hi⟩::ds) e H Hs cs K else WL X Γ ds (dstPut d e (.tup [])) H (if k.seq = true then Hs++[H] else Hs) cs K:=by
 have key:wanted ⟨d,op,some (a,b)⟩ e = (ev e a).bind (wantB b):=by
  simp only[wanted]
  cases ev e a with
  | none=>rfl
  | some v =>
   cases v with
   | p x=>cases x with
    | v y=>cases y <;> rfl
    | _=>rfl
   | tup l=>cases l <;> rfl
   | _=>rfl
 rw[WL,key]
 cases (ev e a).bind (wantB b) with
 | none=>simp[bindP]
 | some t =>
  cases t with
  | false=>simp[bindP,dstDrop]
  | true =>
   simp only[bindP_some,if_true]
   rw[WL]
   simp only[wanted]
theorem yieldAt_nil{l:Nat}{args:List AV}:yieldAt X Γ l args [] = none:=by
 rw[yq]; rfl
theorem WL_lone_call{f:SA}{aZ:List SA}:WL X Γ (⟨⟨d,.call f aZ,none⟩,.lone,lo,hi⟩::ds) e H Hs cs K↔bindP (ev e f) fun fv=>bindP (evs e aZ) fun args=>match fv with
   | .fn (.func g) first cap=>WC X Γ g (first++args++cap) [] fun v H'=>bindP (loneV (v,H')) fun v=>(v.2 = []∧noRefs e (.call f aZ) = true)∧WL X Γ ds (dstPut d e v.1) H Hs cs K
   | _=>False:=by
 rw[WL]
 simp only[wanted]
 rw[oneq]
 simp only[isCall]
 cases ev e f with
 | none=>simp[bindP]
 | some fv =>
  cases evs e aZ with
  | none=>cases fv <;> simp[bindP]
  | some args =>
   cases fv with
   | fn g a b=>cases g <;> simp[bindP,WC]
   | yld l=>simp[bindP,yieldAt_nil]
   | _=>simp[bindP]
theorem loneV_nil{a:AV}:loneV (a,[]) = some (a,[]):=rfl
theorem freeze_none:∀ ls:List Nat,freeze [] ls = []
 | []=>rfl
 | l::ls=>freeze_none ls
theorem WL_lone_op(h:isCall op = none)(h2:∀ v,evOp e [] op = some v→v.2 = []):WL X Γ (⟨⟨d,op,none⟩,.lone,lo,hi⟩::ds) e H Hs cs K↔bindP (evOp e [] op) fun v=>(v.2 = []∧noRefs e op = true)∧WL X Γ ds (dstPut d e v.1) H Hs cs K:=by
 rw[WL]
 simp only[wanted]
 rw[oneq]
 simp only[h]
 cases hv:evOp e [] op with
 | none=>simp[bindP]
 | some v =>
  have:=h2 v hv
  simp[bindP,loneV,this]
theorem WL_lone_slit{z:List PV}{n:Nat}{ps:List (Nat×SA)}:WL X Γ (⟨⟨d,.slit z n ps,none⟩,.lone,lo,hi⟩::ds) e H Hs cs K↔bindP (evOp e [] (.slit z n ps)) fun v=>(v.2 = []∧noRefs e (.slit z n ps) = true)∧WL X Γ ds (dstPut d e v.1) H Hs cs K:=WL_lone_op rfl (fun v hv=>by
 simp only[evOp,Option.map_eq_some_iff]at hv
 obtain⟨_,_,rfl⟩:=hv
 exact freeze_none _)
theorem WL_lone_slice{es:Nat}{x:SA}{l h m:Option SA}:WL X Γ (⟨⟨d,.slice es x l h m,none⟩,.lone,lo,hi⟩::ds) e H Hs cs K↔bindP (evOp e [] (.slice es x l h m)) fun v=>(v.2 = []∧noRefs e (.slice es x l h m) = true)∧WL X Γ ds (dstPut d e v.1) H Hs cs K:=WL_lone_op rfl (fun v hv=>by
 simp only[evOp,Option.bind_eq_some_iff]at hv
 obtain⟨a,_,n,_,l,_,m,_,k,_,hv⟩:=hv
 have key:∀ {l h:Nat} {t:Bool},sliceAV [] es a l h t = some v→v.2 = []:=fun {l h t} hv=>by
  unfold sliceAV at hv
  split at hv
  ·split at hv <;> cases hv; rfl
  ·split at hv <;> cases hv; rfl
  ·split at hv <;> cases hv; rfl
  ·split at hv <;> cases hv; rfl
  ·cases hv
  ·cases hv
  ·cases hv
 unfold sliceB at hv
 split at hv
 ·split at hv
  ·exact key hv
  ·split at hv
   ·exact key hv
   ·cases hv
 ·cases hv)
theorem WL_congr{e':Fr}{H':List Obj}{Hs':List (List Obj)}{p:Prop}(_h0:((0:Nat) = 0) = p)(h:e = e')(h':H = H')(h2:Hs = Hs'):WL X Γ ds e H Hs cs K↔WL X Γ ds e' H' Hs' cs K:=by rw[h,h',h2]
end
end
attribute [congr] WL_congr bindP_congr W_congr WO_congr WC_congr andThen_congr outOf_congr fin_congr
end Go.Proofs.YtchgldaddcolhaaGreatDoor
namespace Go.Proofs.YtchgldaddcolhaaGreatDoor
def val:List Nat→Nat
 | []=>0
 | a::l=>a + 4294967296 * val l
def Dig(l:List Nat):Prop:=∀ a ∈ l,a < 4294967296
def trim:List Nat→List Nat
 | []=>[]
 | a::l=>if trim l = [] then (if a = 0 then [] else [a]) else a::trim l
theorem Dig.nil:Dig []:=fun _ h=>by cases h
theorem Dig.cons{a:Nat}{l:List Nat}(ha:a < 4294967296)(h:Dig l):Dig (a::l):=fun b hb=>by
 rcases List.mem_cons.1 hb with rfl | hb
 ·exact ha
 ·exact h b hb
theorem Dig.tail{a:Nat}{l:List Nat}(h:Dig (a::l)):Dig l:=fun b hb=>h b (by simp[hb])
theorem Dig.append{l m:List Nat}(h:Dig l)(k:Dig m):Dig (l++m):=fun b hb=>by
 rcases List.mem_append.1 hb with hb | hb
 ·exact h b hb
 ·exact k b hb
theorem Dig.take{l:List Nat}(h:Dig l)(n:Nat):Dig (l.take n):=fun b hb=>h b (List.mem_of_mem_take hb)
theorem Dig.drop{l:List Nat}(h:Dig l)(n:Nat):Dig (l.drop n):=fun b hb=>h b (List.mem_of_mem_drop hb)
theorem Dig.get{l:List Nat}(h:Dig l){i a:Nat}(hi:l[i]? = some a):a < 4294967296:=h a (List.mem_of_getElem? hi)
theorem Dig.set{l:List Nat}(h:Dig l){i a:Nat}(ha:a < 4294967296):Dig (l.set i a):=fun b hb=>by
 rcases List.mem_or_eq_of_mem_set hb with hb | rfl
 ·exact h b hb
 ·exact ha
theorem Dig.replicate{n:Nat}:Dig (List.replicate n 0):=fun b hb=>by
 have:=(List.mem_replicate.1 hb).2; omega
theorem val_replicate{n:Nat}:val (List.replicate n 0) = 0:=by
 induction n with
 | zero=>rfl
 | succ n ih=>simp[List.replicate_succ,val,ih]
theorem trim_nil_of_val{l:List Nat}:val l = 0→trim l = []:=by
 induction l with
 | nil=>intro _; rfl
 | cons a l ih =>
  intro h
  simp only[val]at h
  have h1:a = 0:=by omega
  have h2:val l = 0:=by omega
  simp[trim,ih h2,h1]
theorem trim_of_last{l:List Nat}(h:∀ a,l[l.length - 1]? = some a→a ≠ 0):trim l = l:=by
 induction l with
 | nil=>rfl
 | cons b l ih =>
  by_cases hl:l = []
  ·subst hl
   have:=h b (by simp)
   simp[trim,this]
  ·have hlen:0 < l.length:=List.length_pos_iff.2 hl
   have ht:trim l = l:=ih fun a ha=>h a (by rw[List.length_cons,Nat.add_sub_cancel,List.getElem?_cons,if_neg (by omega)]; exact ha)
   simp[trim,ht,hl]
theorem trim_take{l:List Nat}:trim l = l.take (trim l).length:=by
 induction l with
 | nil=>rfl
 | cons a l ih =>
  simp only[trim]
  split
  ·split <;> simp
  ·rw[List.length_cons,List.take_succ_cons,← ih]
theorem trim_append_zero{l:List Nat}{n:Nat}:trim (l++List.replicate n 0) = trim l:=by
 induction l with
 | nil=>rw[List.nil_append]; exact trim_nil_of_val val_replicate
 | cons a l ih=>simp only[List.cons_append,trim,ih]
theorem trim_take_zero{l:List Nat}{m:Nat}(h:l[m]? = some 0):trim (l.take (m + 1)) = trim (l.take m):=by
 rw[List.take_add_one,h]
 have:=trim_append_zero (l:=l.take m) (n:=1)
 simpa using this
theorem trim_take_full{l:List Nat}{m a:Nat}(h:l[m]? = some a)(ha:a ≠ 0):trim (l.take (m + 1)) = l.take (m + 1):=by
 have hlt:=(List.getElem?_eq_some_iff.1 h).1
 refine trim_of_last fun b hb=>?_
 rw[List.length_take,Nat.min_eq_left (by omega),Nat.add_sub_cancel,List.getElem?_take,if_pos (by omega),h]at hb
 cases hb; exact ha
end Go.Proofs.YtchgldaddcolhaaGreatDoor
namespace Go.Proofs.YtchgldaddcolhaaGreatDoor
open Go
abbrev int(n:Int):AV:=.p (.v (.int .i64 n))
abbrev u64(n:Nat):AV:=.p (.v (.int .u64 n))
abbrev u32(n:Nat):AV:=.p (.v (.int .u32 n))
abbrev boo(b:Bool):AV:=.p (.v (.bool b))
def limb(n:Nat):List PV:=[.v (.int .u32 n)]
abbrev mag(l:List Nat):PV:=.sl (l.map limb)
section
variable{X:FuncId→List AV→List Obj→Option (AV×List Obj)}{Γ:FuncId→Option SFunc}
def WF(X:FuncId→List AV→List Obj→Option (AV×List Obj))(Γ:FuncId→Option SFunc)(g:FuncId)(args:List AV)(H:List Obj)(Q:AV→List Obj→Prop):Prop:=bindP (call X Γ g args H) fun r=>Q r.1 r.2
theorem WF_intro{g:FuncId}{body:SCode}{res:List SOp}{raw:List Nat}{own:Bool}{ar:Nat}{args:List AV}{H:List Obj}{Q:AV→List Obj→Prop}(hg:Γ g = some ⟨body,res,raw,own,ar⟩)(ha:args.length = ar)(h:W X Γ body ⟨begin0 0 args,H⟩ (fin res Q))(hX:X g args H = none:=by rfl):WF X Γ g args H Q:=by
 unfold W at h
 unfold WF
 rw[cq]
 simp only[hX,hg,ha,ne_eq,not_true_eq_false,if_false]
 cases he:exec X Γ body ⟨begin0 0 args,H⟩ with
 | none=>rw[he]at h; exact h.elim
 | some r =>
  obtain⟨x,s⟩:=r
  rw[he]at h
  have h:fin res Q x s:=h
  have key:∀ {o:Option (List AV)},bindP o (fun rs=>Q (tupOf rs) s.H)→bindP (o.map (fun rs=>(tupOf rs,s.H))) fun r=>Q r.1 r.2:=fun {o} h=>by
   cases o with
   | none=>exact h.elim
   | some rs=>exact h
  cases x with
  | exit i=>exact h.elim
  | normal=>exact key h
  | ret=>exact key h
theorem bindP_some'{α:Type}{x:α}{K:α→Prop}:bindP (some x) K↔K x:=by simp[bindP]
theorem bindP_none'{α:Type}{K:α→Prop}:bindP (none:Option α) K↔False:=by simp[bindP]
theorem want_true{t:Bool}:wantB true (.p (.v (.bool t))) = some t:=by simp[wantB]
theorem want_false{t:Bool}:wantB false (.p (.v (.bool t))) = some !t:=by simp[wantB]
theorem want_tup{b:Bool}:wantB b (.tup []) = some false:=by simp[wantB]
theorem ev_t{l:Env}{e:Env}{n:Nat}:ev ⟨l,e⟩ (.t n) = lk l n:=by simp[ev]
theorem ev_x{l:Env}{e:Env}{n:Nat}:ev ⟨l,e⟩ (.x n) = lk e n:=by simp[ev]
theorem ev_c{e:Fr}{a:AV}:ev e (.c a) = some a:=by simp[ev]
theorem ev_f{e:Fr}{g:FuncId}:ev e (.f g) = some (.fn (.func g) [] []):=by simp[ev]
theorem lk_cons{m n:Nat}{v:AV}{e:Env}:lk ((m,v)::e) n = if m = n then some v else lk e n:=by simp[lk]
theorem put_t{n:Nat}{l e:Env}{v:AV}:dstPut (.t n) ⟨l,e⟩ v = ⟨(n,v)::l,e⟩:=by simp[dstPut]
theorem put_x{n:Nat}{l e:Env}{v:AV}:dstPut (.x n) ⟨l,e⟩ v = ⟨l,upd e n v⟩:=by simp[dstPut]
theorem put_no{e:Fr}{v:AV}:dstPut .no e v = e:=by simp[dstPut]
theorem evInt_int{e:Fr}{x:SA}:evInt e x = (ev e x).bind asInt:=by simp[evInt]
theorem evVal_val{e:Fr}{x:SA}:evVal e x = (ev e x).bind asVal:=by simp[evVal]
theorem evBool_bool{e:Fr}{x:SA}:evBool e x = (ev e x).bind asBoolA:=by simp[evBool]
theorem asInt_int{k:IntKind}{n:Int}:asInt (.p (.v (.int k n))) = some n:=by simp[asInt]
theorem asVal_val{v:Value}:asVal (.p (.v v)) = some v:=by simp[asVal]
theorem asBool_bool{t:Bool}:asBoolA (.p (.v (.bool t))) = some t:=by simp[asBoolA]
theorem evIntO_none{e:Fr}{d:Int}:evIntO e d none = some d:=by simp[evIntO]
theorem evIntO_some{e:Fr}{d:Int}{x:SA}:evIntO e d (some x) = evInt e x:=by simp[evIntO]
theorem evIntOO_none{e:Fr}:evIntOO e none = some none:=by simp[evIntOO]
theorem evIntOO_some{e:Fr}{x:SA}:evIntOO e (some x) = (evInt e x).map some:=by simp[evIntOO]
theorem evs_nil{e:Fr}:evs e [] = some []:=by simp[evs]
theorem evs_cons{e:Fr}{x:SA}{xs:List SA}:evs e (x::xs) = (ev e x).bind fun v=>(evs e xs).bind fun vs=>some (v::vs):=by simp[evs]
theorem evRes_nil{e:Fr}{H:List Obj}:evRes e H [] = some []:=by simp[evRes]
theorem evRes_mov{e:Fr}{H:List Obj}{x:SA}{os:List SOp}:evRes e H (.mov x::os) = (ev e x).bind fun v=>(evRes e H os).map fun rs=>v::rs:=by
 simp only[evRes,evOp]; cases ev e x <;> simp
theorem evRes_load1{e:Fr}{H:List Obj}{x:SA}{os:List SOp}:evRes e H (.load1 x::os) = (ev e x).bind fun p=>(load1V H p).bind fun v=>(evRes e H os).map fun rs=>v::rs:=by
 simp only[evRes,evOp]
 cases ev e x with
 | none=>simp
 | some p=>simp; cases load1V H p <;> simp
theorem evRes_loadn{e:Fr}{H:List Obj}{n:Nat}{x:SA}{os:List SOp}:evRes e H (.loadn n x::os) = (ev e x).bind fun p=>(loadC H n p).bind fun v=>(evRes e H os).map fun rs=>.agg v::rs:=by
 simp only[evRes,evOp]
 cases ev e x with
 | none=>simp
 | some p=>simp; cases loadC H n p <;> simp
theorem tup_one{r:AV}:tupOf [r] = r:=by simp[tupOf]
theorem tup_two{r s:AV}{l:List AV}:tupOf (r::s::l) = .tup (r::s::l):=by simp[tupOf]
theorem begin0_nil{n:Nat}:begin0 n [] = []:=by simp[begin0]
theorem begin0_cons{n:Nat}{a:AV}{aZ:List AV}:begin0 n (a::aZ) = (n,a)::begin0 (n + 1) aZ:=by simp[begin0]
theorem len_nsl:lenOf (.p .nsl) = some 0:=by simp[lenOf]
theorem len_sl{r:List (List PV)}:lenOf (.p (.sl r)) = some r.length:=by simp[lenOf]
theorem len_lit{r:List (List PV)}:lenOf (.lit r) = some r.length:=by simp[lenOf]
theorem len_ar{l v o n:Nat}:lenOf (.ar l v o n) = some n:=by simp[lenOf]
section
variable{k:IntKind}{a b:Int}
theorem bin_add:binV .add (.int k a) (.int k b) = some (.int k (k.wrap (a + b))):=by simp[binV,binInt]
theorem bin_sub:binV .sub (.int k a) (.int k b) = some (.int k (k.wrap (a - b))):=by simp[binV,binInt]
theorem bin_mul:binV .mul (.int k a) (.int k b) = some (.int k (k.wrap (a * b))):=by simp[binV,binInt]
theorem bin_quo:binV .quo (.int k a) (.int k b) = if b ≠ 0 then some (.int k (k.wrap (a.tdiv b))) else none:=by by_cases b = 0 <;> simp[binV,binInt, *]
theorem bin_rem:binV .rem (.int k a) (.int k b) = if b ≠ 0 then some (.int k (a.tmod b)) else none:=by by_cases b = 0 <;> simp[binV,binInt, *]
theorem bin_eql:binV .eql (.int k a) (.int k b) = some (.bool (decide (a = b))):=by simp[binV,binInt]; rfl
theorem bin_neq:binV .neq (.int k a) (.int k b) = some (.bool (decide (a ≠ b))):=by
 simp only[binV,binInt,if_true,bne]
 by_cases h:a = b <;> simp[h]
theorem bin_lss:binV .lss (.int k a) (.int k b) = some (.bool (decide (a < b))):=by simp[binV,binInt]
theorem bin_leq:binV .leq (.int k a) (.int k b) = some (.bool (decide (a ≤ b))):=by simp[binV,binInt]
theorem bin_gtr:binV .gtr (.int k a) (.int k b) = some (.bool (decide (b < a))):=by simp[binV,binInt]
theorem bin_geq:binV .geq (.int k a) (.int k b) = some (.bool (decide (b ≤ a))):=by simp[binV,binInt]
theorem bin_shl{j:IntKind}:binV .shl (.int k a) (.int j b) = if 0 ≤ b then some (.int k (k.wrap (a * 2 ^ (min b.toNat k.bits)))) else none:=by
 simp only[binV,shift]; by_cases h:b < 0
 ·rw[if_pos h,if_neg (by omega)]
 ·rw[if_neg h,if_pos (by omega)]
theorem bin_shr{j:IntKind}:binV .shr (.int k a) (.int j b) = if 0 ≤ b then some (.int k (a.fdiv (2 ^ (min b.toNat k.bits)))) else none:=by
 simp only[binV,shift]; by_cases h:b < 0
 ·rw[if_pos h,if_neg (by omega)]
 ·rw[if_neg h,if_pos (by omega)]
theorem un_not{t:Bool}:un .not (.bool t) = some (.bool !t):=by simp[un]
theorem un_neg:un .neg (.int k a) = some (.int k (k.wrap (0 - a))):=by simp[un]
end
theorem cells_agg{cs:List AV}:cellsOf (.agg cs) = some cs:=by simp[cellsOf]
theorem cells_p{x:PV}:cellsOf (.p x) = some [.p x]:=by simp[cellsOf]
theorem cells_lit{x:List (List PV)}:cellsOf (.lit x) = some [.lit x]:=by simp[cellsOf]
theorem cells_ar{l v o n:Nat}:cellsOf (.ar l v o n) = some [.ar l v o n]:=by simp[cellsOf]
theorem cells_ptr{l o:Nat}:cellsOf (.ptr l o) = some [.ptr l o]:=by simp[cellsOf]
theorem cells_fn{f:Fn}{a b:List AV}:cellsOf (.fn f a b) = some [.fn f a b]:=by simp[cellsOf]
theorem fadr_ptr{n r o:Nat}:fadrV n (.ptr r o) = some (.ptr r (o + n)):=by simp[fadrV]
theorem fadr_elp{n l v i k:Nat}:fadrV n (.elp l v i k) = some (.elp l v i (k + n)):=by simp[fadrV]
theorem fadr_imm{n o:Nat}{c:List PV}:fadrV n (.imm c o) = some (.imm c (o + n)):=by simp[fadrV]
theorem nilck_ptr{r o:Nat}:nilckV (.ptr r o) = some (.ptr r o):=by simp[nilckV]
theorem nilck_fn{f:FuncId}{a b:List AV}:nilckV (.fn (.func f) a b) = some (.fn (.func f) a b):=by simp[nilckV]
theorem load1_eq{H:List Obj}{a:AV}:load1V H a = (loadC H 1 a).bind fun | [c]=>some c | _=>none:=by
 unfold load1V; cases loadC H 1 a with
 | none=>rfl
 | some l=>cases l with
  | nil=>rfl
  | cons x l=>cases l <;> rfl
def cellsAt(H:List Obj)(r:Nat):Option (List AV):=match H[r]? with | some (.cells c)=>some c | _=>none
structure ArrV where
 es:Nat
 fz:Option Nat
 ver:Nat
 rows:List (List PV)
def arrAt(H:List Obj)(l:Nat):Option ArrV:=match H[l]? with | some (.arr es fz ver rows)=>some ⟨es,fz,ver,rows⟩ | _=>none
theorem loadC_ptr{H:List Obj}{n r o:Nat}:loadC H n (.ptr r o) = (cellsAt H r).bind fun c=>if o + n ≤ c.length then some ((c.drop o).take n) else none:=by
 simp only[loadC,cellsAt]
 generalize H[r]? = o
 cases o with
 | none=>rfl
 | some o=>cases o <;> rfl
theorem loadC_imm{H:List Obj}{n o:Nat}{c:List PV}:loadC H n (.imm c o) = if o + n ≤ c.length then some (((c.drop o).take n).map .p) else none:=by simp[loadC]
theorem loadC_elp{H:List Obj}{n l v i k:Nat}:loadC H n (.elp l v i k) = (arrAt H l).bind fun a=>if seen a.fz a.ver v then (a.rows[i]?).bind fun row=>if k + n ≤ row.length then some (((row.drop k).take n).map .p) else none else none:=by
 simp only[loadC,arrAt]
 generalize H[l]? = o
 cases o with
 | none=>rfl
 | some o=>cases o <;> rfl
theorem idx_sl{H:List Obj}{es:Nat}{rows:List (List PV)}{n:Int}:idxSl H es (.p (.sl rows)) n = if 0 ≤ n then (rows[n.toNat]?).bind fun r=>if r.length = es then some (.imm r 0) else none else none:=by simp[idxSl]
theorem idx_lit{H:List Obj}{es:Nat}{rows:List (List PV)}{n:Int}:idxSl H es (.lit rows) n = if 0 ≤ n then (rows[n.toNat]?).bind fun r=>if r.length = es then some (.imm r 0) else none else none:=by simp[idxSl]
theorem idx_ar{H:List Obj}{es l v off len:Nat}{n:Int}:idxSl H es (.ar l v off len) n = if 0 ≤ n then (arrAt H l).bind fun a=>if seen a.fz a.ver v∧a.es = es∧n.toNat < len then some (.elp l v (off + n.toNat) 0) else none else none:=by
 simp only[idxSl,arrAt]
 split
 ·generalize H[l]? = o
  cases o with
  | none=>rfl
  | some o=>cases o <;> rfl
 ·rfl
theorem extract_tup{i:Nat}{vs:List AV}:extractV i (.tup vs) = vs[i]?:=by simp[extractV]
theorem sliceB_eq{H:List Obj}{es:Nat}{a:AV}{l h:Int}{m:Option Int}:sliceB H es a l h m = if 0 ≤ l∧0 ≤ h then (match m with
  | none=>sliceAV H es a l.toNat h.toNat false
  | some m=>if m = h then sliceAV H es a l.toNat h.toNat true else none) else none:=by cases m <;> simp[sliceB]
theorem slice_nsl{H:List Obj}{es l h:Nat}{m:Bool}:sliceAV H es (.p .nsl) l h m = if l = 0∧h = 0 then some (.p .nsl,H) else none:=by simp[sliceAV]
theorem slice_sl{H:List Obj}{es l h:Nat}{m:Bool}{rows:List (List PV)}:sliceAV H es (.p (.sl rows)) l h m = if l ≤ h∧h ≤ rows.length∧rows.all (fun r=>r.length == es) then some (if m then .lit ((rows.drop l).take (h - l)) else .p (.sl ((rows.drop l).take (h - l))),H) else none:=by simp[sliceAV]
theorem slice_lit{H:List Obj}{es l h:Nat}{m:Bool}{rows:List (List PV)}:sliceAV H es (.lit rows) l h m = if l ≤ h∧h ≤ rows.length∧rows.all (fun r=>r.length == es) then some (if m || rows.isEmpty then .lit ((rows.drop l).take (h - l)) else .p (.sl ((rows.drop l).take (h - l))),H) else none:=by
 cases rows with
 | nil=>simp[sliceAV]; split <;> split <;> first | rfl | omega
 | cons r rows=>simp[sliceAV]
theorem slice_ar{H:List Obj}{es l h r v off len:Nat}{m:Bool}:sliceAV H es (.ar r v off len) l h m = (arrAt H r).bind fun a=>if a.es = es∧l ≤ h∧h ≤ len∧off + len ≤ a.rows.length then
   (if m then (if seen a.fz a.ver v then some (.lit ((a.rows.drop (off + l)).take (h - l)),freeze H [r]) else none) else some (.ar r v (off + l) (h - l),H)) else none:=by
 simp only[sliceAV,arrAt]
 generalize H[r]? = o
 cases o with
 | none=>rfl
 | some o=>cases o <;> rfl
theorem rows_nsl{H:List Obj}:rowsOf H (.p .nsl) = some []:=by simp[rowsOf]
theorem rows_sl{H:List Obj}{r:List (List PV)}:rowsOf H (.p (.sl r)) = some r:=by simp[rowsOf]
theorem rows_lit{H:List Obj}{r:List (List PV)}:rowsOf H (.lit r) = some r:=by simp[rowsOf]
theorem rows_ar{H:List Obj}{l v off len:Nat}:rowsOf H (.ar l v off len) = (arrAt H l).bind fun a=>if seen a.fz a.ver v∧off + len ≤ a.rows.length then some ((a.rows.drop off).take len) else none:=by
 simp only[rowsOf,arrAt]
 generalize H[l]? = o
 cases o with
 | none=>rfl
 | some o=>cases o <;> rfl
theorem wrap_i64{n:Int}(h:-9223372036854775808 ≤ n∧n ≤ 9223372036854775807):IntKind.i64.wrap n = n:=by
 simp[IntKind.wrap,IntKind.bits,IntKind.signed]; split <;> omega
theorem arrAt_zero{es ver:Nat}{fz:Option Nat}{rows:List (List PV)}{H:List Obj}:arrAt (.arr es fz ver rows::H) 0 = some ⟨es,fz,ver,rows⟩:=by simp[arrAt]
theorem arrAt_succ{o:Obj}{H:List Obj}{n:Nat}:arrAt (o::H) (n + 1) = arrAt H n:=by simp[arrAt]
theorem cellsAt_zero{c:List AV}{H:List Obj}:cellsAt (.cells c::H) 0 = some c:=by simp[cellsAt]
theorem cellsAt_succ{o:Obj}{H:List Obj}{n:Nat}:cellsAt (o::H) (n + 1) = cellsAt H n:=by simp[cellsAt]
theorem seen_none{v:Nat}:seen none v v = true:=by simp[seen]
theorem seen_some{f ver v:Nat}:seen (some f) ver v = decide (f ≤ v):=by simp[seen]
theorem canon_p{H:List Obj}{x:PV}:canon H (.p x) = some (.p x):=by simp[canon]
theorem canon_lit{H:List Obj}{r:List (List PV)}:canon H (.lit r) = some (.p (.sl r)):=by simp[canon]
theorem canon_ar{H:List Obj}{l v o n:Nat}:canon H (.ar l v o n) = (rowsOf H (.ar l v o n)).map fun r=>.p (.sl r):=by rw[canon]
theorem canon_agg{H:List Obj}{cs:List AV}:canon H (.agg cs) = (canons H cs).map .agg:=by rw[canon]
theorem canon_tup{H:List Obj}{cs:List AV}:canon H (.tup cs) = (canons H cs).map .tup:=by rw[canon]
theorem canons_nil{H:List Obj}:canons H [] = some []:=by rw[canons]
theorem canons_cons{H:List Obj}{a:AV}{aZ:List AV}:canons H (a::aZ) = (canon H a).bind fun b=>(canons H aZ).map fun bs=>b::bs:=by rw[canons]
theorem refs_p{x:PV}:refs (.p x) = []:=by simp[refs]
theorem refs_agg{cs:List AV}:refs (.agg cs) = refsL cs:=by rw[refs]
theorem refs_tup{cs:List AV}:refs (.tup cs) = refsL cs:=by rw[refs]
theorem refsL_nil':refsL [] = []:=by rw[refsL]
theorem refsL_cons'{a:AV}{aZ:List AV}:refsL (a::aZ) = refs a++refsL aZ:=by rw[refsL]
theorem take_limb{l:List Nat}:(l.map limb).take l.length = l.map limb:=List.take_of_length_le (by simp)
def bareO:Option AV→Bool
 | some a=>(refs a).isEmpty
 | none=>true
theorem bareO_some{a:AV}:bareO (some a) = (refs a).isEmpty:=by simp[bareO]
theorem noRefs_call{e:Fr}{f:SA}{aZ:List SA}:noRefs e (.call f aZ) = (bareO (ev e f) && aZ.all fun x=>bareO (ev e x)):=by
 simp only[noRefs,opKeys,List.all_cons]; rfl
theorem noRefs_slit{e:Fr}{z:List PV}{n:Nat}{ps:List (Nat×SA)}:noRefs e (.slit z n ps) = ps.all fun p=>bareO (ev e p.2):=by
 simp only[noRefs,opKeys,List.all_map]; rfl
theorem noRefs_slice{e:Fr}{n:Nat}{x:SA}{l h m:Option SA}:noRefs e (.slice n x l h m) = (bareO (ev e x) && (l.toList++h.toList++m.toList).all fun x=>bareO (ev e x)):=by
 simp only[noRefs,opKeys,List.all_cons]; rfl
theorem refs_fn'{g:Fn}{a b:List AV}:refs (.fn g a b) = refsL a++refsL b:=by rw[refs]
theorem refs_ptr{r o:Nat}:refs (.ptr r o) = [r]:=by simp[refs]
theorem refs_ar{l v o n:Nat}:refs (.ar l v o n) = [l]:=by simp[refs]
theorem refs_lit{r:List (List PV)}:refs (.lit r) = []:=by simp[refs]
theorem refs_imm{c:List PV}{o:Nat}:refs (.imm c o) = []:=by simp[refs]
theorem storeC_ptr{H:List Obj}{r o:Nat}{xs:List AV}:storeC H (.ptr r o) xs = (cellsAt H r).bind fun c=>(splice c o xs).map fun c=>H.set r (.cells c):=by
 simp only[storeC,cellsAt]
 generalize H[r]? = o
 cases o with
 | none=>rfl
 | some o=>cases o <;> rfl
theorem cellsAt_last{H:List Obj}{c:List AV}:cellsAt (H++[.cells c]) H.length = some c:=by simp[cellsAt]
theorem set_last{H:List Obj}{o o':Obj}:(H++[o]).set H.length o' = H++[o']:=by simp
theorem limb_len{n:Nat}:(limb n).length = 1:=by simp[limb]
theorem all_limb{l:List Nat}:(l.map limb).all (fun r=>r.length == 1) = true:=by simp[limb]
theorem passArgs_nil{H:List Obj}:∀ {n:Nat} {args:List AV},passArgs H [] n args = canons H args
 | n,[]=>rfl
 | n,a::aZ=>by simp[passArgs,canons,passArgs_nil]
theorem arsOf_cons{a:AV}{aZ:List AV}:arsOf (a::aZ) = arsA a++arsOf aZ:=by rw[arsOf]
theorem arsOf_one{a:AV}:arsOf [a] = arsA a:=by rw[arsOf_cons,arsOf]; simp
theorem passFrz_nil:∀ {n:Nat} {args:List AV},passFrz [] n args = arsOf args
 | n,[]=>by rw[passFrz,arsOf]
 | n,a::aZ=>by
  have:passFrz [] n (a::aZ) = arsOf [a]++passFrz [] (n + 1) aZ:=rfl
  rw[this,passFrz_nil,arsOf_one,← arsOf_cons]
mutual
theorem ren_bare (f:Nat→Nat):∀ a:AV,refs a = []→ren f a = a
 | .p x,_=>rfl
 | .lit r,_=>rfl
 | .imm c o,_=>rfl
 | .ar l v o n,h=>by simp[refs]at h
 | .ptr r o,h=>by simp[refs]at h
 | .elp l v i k,h=>by simp[refs]at h
 | .map r,h=>by simp[refs]at h
 | .emp,_=>rfl
 | .nk,_=>rfl
 | .sk l v n,h=>by simp[refs]at h
 | .skp l v i k,h=>by simp[refs]at h
 | .csl r o n,h=>by simp[refs]at h
 | .fn g a b,h=>by
  simp only[refs,List.append_eq_nil_iff]at h
  rw[ren,renL_bare f a h.1,renL_bare f b h.2]
 | .agg cs,h=>by rw[ren,renL_bare f cs (by simpa [refs] using h)]
 | .tup cs,h=>by rw[ren,renL_bare f cs (by simpa [refs] using h)]
theorem renL_bare (f:Nat→Nat):∀ aZ:List AV,refsL aZ = []→renL f aZ = aZ
 | [],_=>rfl
 | a::aZ,h=>by
  simp only[refsL,List.append_eq_nil_iff]at h
  rw[renL,ren_bare f a h.1,renL_bare f aZ h.2]
end
def WP(X:FuncId→List AV→List Obj→Option (AV×List Obj))(Γ:FuncId→Option SFunc)(g:FuncId)(own:Bool)(args:List AV)(H H1:List Obj)(K:AV→List Obj→Prop):Prop :=
 bindP (call X Γ g args []) fun r=>bindP (comeBack H H1 [] own r.1 r.2) fun r=>K r.1 r.2
@[congr] theorem WP_congr {g:FuncId} {own:Bool} {aZ aZ':List AV} {H H' H1 H1':List Obj} {K:AV→List Obj→Prop} {p:Prop} (_h0:((0:Nat) = 0) = p) (h:aZ = aZ') (h':H = H') (h1:H1 = H1'):WP X Γ g own aZ H H1 K↔WP X Γ g own aZ' H' H1' K:=by rw[h,h',h1]
theorem WC_plain{g:FuncId}{fn:SFunc}{args args':List AV}{H:List Obj}{K:AV→List Obj→Prop}(_hX:True = True)(hG:Γ g = some fn)(hraw:fn.raw = [])(hc:canons H args = some args')(hr:refsL args' = []) :
  WC X Γ g args H K↔WP X Γ g fn.own args' H (freeze H (arsOf args)) K:=by
 unfold WC WP
 rw[caq]
 simp only[hG,hraw,passArgs_nil,passFrz_nil,hc,hr,List.contains_nil,Bool.false_and,Bool.false_eq_true,if_false]
 have hreach:∀ H' n,reach H' (n + 1) [] [] = []:=fun _ _=>rfl
 simp only[Nat.add_succ,Nat.add_zero,hreach,pickObjs,within,List.all_nil,nodupB,Bool.and_self,if_true,List.map_nil,renL_bare _ _ hr]
 cases call X Γ g args' [] <;> simp[bindP]
def WCx(X:FuncId→List AV→List Obj→Option (AV×List Obj))(Γ:FuncId→Option SFunc)(g:FuncId)(args:List AV)(H:List Obj)(K:AV→List Obj→Prop):Prop:=WC X Γ g args H K
theorem WC_go{g:FuncId}{fn:SFunc}{own:Bool}{args:List AV}{H:List Obj}{K:AV→List Obj→Prop}(_hX:True = True)(hG:Γ g = some fn)(hraw:fn.raw = [])(hown:fn.own = own) :
  WC X Γ g args H K↔bindP (canons H args) fun aZ=>bif (refsL aZ).isEmpty then WP X Γ g own aZ H (freeze H (arsOf args)) K else WCx X Γ g args H K:=by
 subst hown
 cases hc:canons H args with
 | none =>
  simp only[bindP_none,iff_false]
  unfold WC
  rw[caq]
  simp[hG,hraw,passArgs_nil,hc,bindP]
 | some aZ =>
  simp only[bindP_some]
  cases hr:(refsL aZ).isEmpty with
  | false=>exact Iff.rfl
  | true=>simp only[cond_true]; exact WC_plain rfl hG hraw hc (List.isEmpty_iff.1 hr)
theorem arsOf_nil:arsOf [] = []:=by rw[arsOf]
theorem arsA_p{x:PV}:arsA (.p x) = []:=by simp[arsA]
theorem arsA_lit{x:List (List PV)}:arsA (.lit x) = []:=by simp[arsA]
theorem arsA_ar{l v o n:Nat}:arsA (.ar l v o n) = [l]:=by simp[arsA]
theorem arsA_agg{cs:List AV}:arsA (.agg cs) = arsOf cs:=by rw[arsA]
theorem arsA_ptr{r o:Nat}:arsA (.ptr r o) = []:=by simp[arsA]
theorem freeze_nil{H:List Obj}:freeze H [] = H:=rfl
theorem freeze_cons{H:List Obj}{l:Nat}{ls:List Nat}:freeze H (l::ls) = freeze (match H[l]? with
  | some (.arr es none ver rows)=>H.set l (.arr es (some ver) ver rows)
  | _=>H) ls:=rfl
def PF(X:FuncId→List AV→List Obj→Option (AV×List Obj))(Γ:FuncId→Option SFunc)(g:FuncId)(args:List AV)(r':AV):Prop :=
 WF X Γ g args [] fun r H=>canon H r = some r'∧refs r' = []
theorem WP_flat{g:FuncId}{args:List AV}{r':AV}{H H1:List Obj}{K:AV→List Obj→Prop}(h:PF X Γ g args r')(hf:flat r' = true):WP X Γ g false args H H1 K↔K r' H:=by
 unfold PF WF at h
 unfold WP
 cases hc:call X Γ g args [] with
 | none=>rw[hc]at h; exact h.elim
 | some r =>
  rw[hc]at h
  obtain⟨h2,h3⟩:=h
  simp[bindP,comeBack,h2,hf]
theorem WP_slice{g:FuncId}{args:List AV}{r':AV}{H H1:List Obj}{K:AV→List Obj→Prop}(h:PF X Γ g args r')(hf:flat r' = false):WP X Γ g false args H H1 K↔K r' H1:=by
 unfold PF WF at h
 unfold WP
 cases hc:call X Γ g args [] with
 | none=>rw[hc]at h; exact h.elim
 | some r =>
  rw[hc]at h
  obtain⟨h2,h3⟩:=h
  simp[bindP,comeBack,h2,hf,h3,reach,within,nodupB,pickObjs,putBack,ren_bare _ _ h3]
end
def EV:=And.intro @W_skip <| And.intro @W_ret <| And.intro @W_exit <| And.intro @W_region <| And.intro @W_seq <| And.intro @W_cond <| And.intro @W_block <| And.intro @W_draw <| And.intro @WL_nil <| And.intro @WL_g <| And.intro @WL_write <| And.intro @WL_fresh <| And.intro @WL_free <| And.intro @WL_here <| And.intro @WL_read <| And.intro @WL_lone_call <| And.intro @loneV_nil <| And.intro @WL_lone_slit <| And.intro @WL_lone_slice <| And.intro @ckAll_nil <| And.intro @ckAll_cons <| And.intro @stable_nil <| And.intro @stable_cons <| And.intro @andThen_normal <| And.intro @andThen_exit <| And.intro @andThen_ret <| And.intro @outOf_normal <| And.intro @outOf_ret <| And.intro @outOf_exit <| And.intro @fin_ret <| And.intro @fin_normal <| And.intro @WO_nil <| And.intro @set_last <| And.intro @cellsAt_last <| And.intro @storeC_ptr <| And.intro @refs_imm <| And.intro @refs_lit <| And.intro @refs_ar <| And.intro @refs_ptr <| And.intro @refs_fn' <| And.intro @noRefs_slice <| And.intro @noRefs_slit <| And.intro @noRefs_call <| And.intro @bareO_some <| And.intro @take_limb <| And.intro @arsOf_nil <| And.intro @arsOf_cons <| And.intro @arsA_p <| And.intro @arsA_lit <| And.intro @arsA_ar <| And.intro @arsA_agg <| And.intro @arsA_ptr <| And.intro @freeze_nil <| And.intro @freeze_cons <| And.intro @arrAt_zero <| And.intro @arrAt_succ <| And.intro @cellsAt_zero <| And.intro @cellsAt_succ <| And.intro @seen_none <| And.intro @seen_some <| And.intro @canon_p <| And.intro @canon_lit <| And.intro @canon_ar <| And.intro @canon_agg <| And.intro @canon_tup <| And.intro @canons_nil <| And.intro @canons_cons <| And.intro @refs_p <| And.intro @refs_agg <| And.intro @refs_tup <| And.intro @refsL_nil' <| And.intro @refsL_cons' <| And.intro @WO_g <| And.intro @want_true <| And.intro @want_false <| And.intro @lk_upd <| And.intro @want_tup <| And.intro @WO_call <| And.intro @WO_mov <| And.intro @WO_pick <| And.intro @WO_alloc <| And.intro @WO_box <| And.intro @WO_build <| And.intro @WO_slit <| And.intro @WO_load1 <| And.intro @WO_loadn <| And.intro @WO_store <| And.intro @WO_nilck <| And.intro @WO_bin <| And.intro @WO_binB <| And.intro @WO_isnil <| And.intro @WO_un <| And.intro @WO_conv <| And.intro @WO_mkfn <| And.intro @WO_mkmap <| And.intro @WO_mkslice <| And.intro @WO_slice <| And.intro @WO_sliceS <| And.intro @WO_fadr <| And.intro @WO_idx <| And.intro @WO_idxA <| And.intro @WO_idxS <| And.intro @WO_idxV <| And.intro @WO_b2s <| And.intro @WO_extract <| And.intro @WO_len <| And.intro @WO_lenS <| And.intro @WO_append <| And.intro @WO_copy <| And.intro @WO_maxmin <| And.intro @WO_mapget <| And.intro @WO_mapset <| And.intro @bindP_ite <| And.intro @bindP_map <| And.intro @bindP_bind <| And.intro @bindP_some' <| And.intro @bindP_none' <| And.intro @ev_t <| And.intro @ev_x <| And.intro @ev_c <| And.intro @ev_f <| And.intro @lk_cons <| And.intro @put_t <| And.intro @put_x <| And.intro @put_no <| And.intro @evInt_int <| And.intro @evVal_val <| And.intro @evBool_bool <| And.intro @asInt_int <| And.intro @asVal_val <| And.intro @asBool_bool <| And.intro @evIntO_none <| And.intro @evIntO_some <| And.intro @evIntOO_none <| And.intro @evIntOO_some <| And.intro @evs_nil <| And.intro @evs_cons <| And.intro @evRes_nil <| And.intro @evRes_mov <| And.intro @evRes_load1 <| And.intro @evRes_loadn <| And.intro @tup_one <| And.intro @tup_two <| And.intro @begin0_nil <| And.intro @begin0_cons <| And.intro @len_nsl <| And.intro @len_sl <| And.intro @len_lit <| And.intro @len_ar <| And.intro @bin_add <| And.intro @bin_sub <| And.intro @bin_mul <| And.intro @bin_quo <| And.intro @bin_rem <| And.intro @bin_eql <| And.intro @bin_neq <| And.intro @bin_lss <| And.intro @bin_leq <| And.intro @bin_gtr <| And.intro @bin_geq <| And.intro @bin_shl <| And.intro @bin_shr <| And.intro @un_not <| And.intro @un_neg <| And.intro @cells_agg <| And.intro @cells_p <| And.intro @cells_lit <| And.intro @cells_ar <| And.intro @cells_ptr <| And.intro @cells_fn <| And.intro @fadr_ptr <| And.intro @fadr_elp <| And.intro @fadr_imm <| And.intro @nilck_ptr <| And.intro @nilck_fn <| And.intro @load1_eq <| And.intro @loadC_ptr <| And.intro @loadC_imm <| And.intro @loadC_elp <| And.intro @idx_sl <| And.intro @idx_lit <| And.intro @idx_ar <| And.intro @extract_tup <| And.intro @sliceB_eq <| And.intro @slice_nsl <| And.intro @slice_sl <| And.intro @slice_lit <| And.intro @slice_ar <| And.intro @rows_nsl <| And.intro @rows_sl <| And.intro @rows_lit <| And.intro @rows_ar <| And.intro @limb_len @all_limb
end Go.Proofs.YtchgldaddcolhaaGreatDoor
namespace Go.Proofs.YtchgldaddcolhaaGreatDoor
open Go
def Gam(n:FuncId):Option SFunc:=(cond (Nat.ble n 136)
 (cond (Nat.ble n 63)
 (cond (Nat.ble n 32)
 (cond (Nat.ble n 17)
 (cond (Nat.ble n 9)
 (cond (Nat.ble n 5)
 (cond (Nat.ble n 3)
 (cond (Nat.beq n 3) (some K3) none)
 (cond (Nat.ble n 4)
 (cond (Nat.beq n 4) (some K4) none)
 (cond (Nat.beq n 5) (some K5) none)))
 (cond (Nat.ble n 7)
 (cond (Nat.ble n 6)
 (cond (Nat.beq n 6) (some K6) none)
 (cond (Nat.beq n 7) (some K7) none))
 (cond (Nat.ble n 8)
 (cond (Nat.beq n 8) (some K8) none)
 (cond (Nat.beq n 9) (some K9) none))))
 (cond (Nat.ble n 13)
 (cond (Nat.ble n 11)
 (cond (Nat.ble n 10)
 (cond (Nat.beq n 10) (some K10) none)
 (cond (Nat.beq n 11) (some K11) none))
 (cond (Nat.ble n 12)
 (cond (Nat.beq n 12) (some K12) none)
 (cond (Nat.beq n 13) (some K13) none)))
 (cond (Nat.ble n 15)
 (cond (Nat.ble n 14)
 (cond (Nat.beq n 14) (some K14) none)
 (cond (Nat.beq n 15) (some K15) none))
 (cond (Nat.ble n 16)
 (cond (Nat.beq n 16) (some K16) none)
 (cond (Nat.beq n 17) (some K17) none)))))
 (cond (Nat.ble n 24)
 (cond (Nat.ble n 20)
 (cond (Nat.ble n 18)
 (cond (Nat.beq n 18) (some K18) none)
 (cond (Nat.ble n 19)
 (cond (Nat.beq n 19) (some K19) none)
 (cond (Nat.beq n 20) (some K20) none)))
 (cond (Nat.ble n 22)
 (cond (Nat.ble n 21)
 (cond (Nat.beq n 21) (some K21) none)
 (cond (Nat.beq n 22) (some K22) none))
 (cond (Nat.ble n 23)
 (cond (Nat.beq n 23) (some K23) none)
 (cond (Nat.beq n 24) (some K24) none))))
 (cond (Nat.ble n 28)
 (cond (Nat.ble n 26)
 (cond (Nat.ble n 25)
 (cond (Nat.beq n 25) (some K25) none)
 (cond (Nat.beq n 26) (some K26) none))
 (cond (Nat.ble n 27)
 (cond (Nat.beq n 27) (some K27) none)
 (cond (Nat.beq n 28) (some K28) none)))
 (cond (Nat.ble n 30)
 (cond (Nat.ble n 29)
 (cond (Nat.beq n 29) (some K29) none)
 (cond (Nat.beq n 30) (some K30) none))
 (cond (Nat.ble n 31)
 (cond (Nat.beq n 31) (some K31) none)
 (cond (Nat.beq n 32) (some K32) none))))))
 (cond (Nat.ble n 47)
 (cond (Nat.ble n 39)
 (cond (Nat.ble n 35)
 (cond (Nat.ble n 33)
 (cond (Nat.beq n 33) (some K33) none)
 (cond (Nat.ble n 34)
 (cond (Nat.beq n 34) (some K34) none)
 (cond (Nat.beq n 35) (some K35) none)))
 (cond (Nat.ble n 37)
 (cond (Nat.ble n 36)
 (cond (Nat.beq n 36) (some K36) none)
 (cond (Nat.beq n 37) (some K37) none))
 (cond (Nat.ble n 38)
 (cond (Nat.beq n 38) (some K38) none)
 (cond (Nat.beq n 39) (some K39) none))))
 (cond (Nat.ble n 43)
 (cond (Nat.ble n 41)
 (cond (Nat.ble n 40)
 (cond (Nat.beq n 40) (some K40) none)
 (cond (Nat.beq n 41) (some K41) none))
 (cond (Nat.ble n 42)
 (cond (Nat.beq n 42) (some K42) none)
 (cond (Nat.beq n 43) (some K43) none)))
 (cond (Nat.ble n 45)
 (cond (Nat.ble n 44)
 (cond (Nat.beq n 44) (some K44) none)
 (cond (Nat.beq n 45) (some K45) none))
 (cond (Nat.ble n 46)
 (cond (Nat.beq n 46) (some K46) none)
 (cond (Nat.beq n 47) (some K47) none)))))
 (cond (Nat.ble n 55)
 (cond (Nat.ble n 51)
 (cond (Nat.ble n 49)
 (cond (Nat.beq n 49) (some K49) none)
 (cond (Nat.ble n 50)
 (cond (Nat.beq n 50) (some K50) none)
 (cond (Nat.beq n 51) (some K51) none)))
 (cond (Nat.ble n 53)
 (cond (Nat.ble n 52)
 (cond (Nat.beq n 52) (some K52) none)
 (cond (Nat.beq n 53) (some K53) none))
 (cond (Nat.ble n 54)
 (cond (Nat.beq n 54) (some K54) none)
 (cond (Nat.beq n 55) (some K55) none))))
 (cond (Nat.ble n 59)
 (cond (Nat.ble n 57)
 (cond (Nat.ble n 56)
 (cond (Nat.beq n 56) (some K56) none)
 (cond (Nat.beq n 57) (some K57) none))
 (cond (Nat.ble n 58)
 (cond (Nat.beq n 58) (some K58) none)
 (cond (Nat.beq n 59) (some K59) none)))
 (cond (Nat.ble n 61)
 (cond (Nat.ble n 60)
 (cond (Nat.beq n 60) (some K60) none)
 (cond (Nat.beq n 61) (some K61) none))
 (cond (Nat.ble n 62)
 (cond (Nat.beq n 62) (some K62) none)
 (cond (Nat.beq n 63) (some K63) none)))))))
 (cond (Nat.ble n 100)
 (cond (Nat.ble n 84)
 (cond (Nat.ble n 76)
 (cond (Nat.ble n 69)
 (cond (Nat.ble n 64)
 (cond (Nat.beq n 64) (some K64) none)
 (cond (Nat.ble n 65)
 (cond (Nat.beq n 65) (some K65) none)
 (cond (Nat.beq n 69) (some K69) none)))
 (cond (Nat.ble n 74)
 (cond (Nat.ble n 70)
 (cond (Nat.beq n 70) (some K70) none)
 (cond (Nat.beq n 74) (some K74) none))
 (cond (Nat.ble n 75)
 (cond (Nat.beq n 75) (some K75) none)
 (cond (Nat.beq n 76) (some K76) none))))
 (cond (Nat.ble n 80)
 (cond (Nat.ble n 78)
 (cond (Nat.ble n 77)
 (cond (Nat.beq n 77) (some K77) none)
 (cond (Nat.beq n 78) (some K78) none))
 (cond (Nat.ble n 79)
 (cond (Nat.beq n 79) (some K79) none)
 (cond (Nat.beq n 80) (some K80) none)))
 (cond (Nat.ble n 82)
 (cond (Nat.ble n 81)
 (cond (Nat.beq n 81) (some K81) none)
 (cond (Nat.beq n 82) (some K82) none))
 (cond (Nat.ble n 83)
 (cond (Nat.beq n 83) (some K83) none)
 (cond (Nat.beq n 84) (some K84) none)))))
 (cond (Nat.ble n 91)
 (cond (Nat.ble n 87)
 (cond (Nat.ble n 85)
 (cond (Nat.beq n 85) (some K85) none)
 (cond (Nat.ble n 86)
 (cond (Nat.beq n 86) (some K86) none)
 (cond (Nat.beq n 87) (some K87) none)))
 (cond (Nat.ble n 89)
 (cond (Nat.ble n 88)
 (cond (Nat.beq n 88) (some K88) none)
 (cond (Nat.beq n 89) (some K89) none))
 (cond (Nat.ble n 90)
 (cond (Nat.beq n 90) (some K90) none)
 (cond (Nat.beq n 91) (some K91) none))))
 (cond (Nat.ble n 96)
 (cond (Nat.ble n 94)
 (cond (Nat.ble n 92)
 (cond (Nat.beq n 92) (some K92) none)
 (cond (Nat.beq n 94) (some K94) none))
 (cond (Nat.ble n 95)
 (cond (Nat.beq n 95) (some K95) none)
 (cond (Nat.beq n 96) (some K96) none)))
 (cond (Nat.ble n 98)
 (cond (Nat.ble n 97)
 (cond (Nat.beq n 97) (some K97) none)
 (cond (Nat.beq n 98) (some K98) none))
 (cond (Nat.ble n 99)
 (cond (Nat.beq n 99) (some K99) none)
 (cond (Nat.beq n 100) (some K100) none))))))
 (cond (Nat.ble n 117)
 (cond (Nat.ble n 109)
 (cond (Nat.ble n 105)
 (cond (Nat.ble n 101)
 (cond (Nat.beq n 101) (some K101) none)
 (cond (Nat.ble n 102)
 (cond (Nat.beq n 102) (some K102) none)
 (cond (Nat.beq n 105) (some K105) none)))
 (cond (Nat.ble n 107)
 (cond (Nat.ble n 106)
 (cond (Nat.beq n 106) (some K106) none)
 (cond (Nat.beq n 107) (some K107) none))
 (cond (Nat.ble n 108)
 (cond (Nat.beq n 108) (some K108) none)
 (cond (Nat.beq n 109) (some K109) none))))
 (cond (Nat.ble n 113)
 (cond (Nat.ble n 111)
 (cond (Nat.ble n 110)
 (cond (Nat.beq n 110) (some K110) none)
 (cond (Nat.beq n 111) (some K111) none))
 (cond (Nat.ble n 112)
 (cond (Nat.beq n 112) (some K112) none)
 (cond (Nat.beq n 113) (some K113) none)))
 (cond (Nat.ble n 115)
 (cond (Nat.ble n 114)
 (cond (Nat.beq n 114) (some K114) none)
 (cond (Nat.beq n 115) (some K115) none))
 (cond (Nat.ble n 116)
 (cond (Nat.beq n 116) (some K116) none)
 (cond (Nat.beq n 117) (some K117) none)))))
 (cond (Nat.ble n 124)
 (cond (Nat.ble n 120)
 (cond (Nat.ble n 118)
 (cond (Nat.beq n 118) (some K118) none)
 (cond (Nat.ble n 119)
 (cond (Nat.beq n 119) (some K119) none)
 (cond (Nat.beq n 120) (some K120) none)))
 (cond (Nat.ble n 122)
 (cond (Nat.ble n 121)
 (cond (Nat.beq n 121) (some K121) none)
 (cond (Nat.beq n 122) (some K122) none))
 (cond (Nat.ble n 123)
 (cond (Nat.beq n 123) (some K123) none)
 (cond (Nat.beq n 124) (some K124) none))))
 (cond (Nat.ble n 131)
 (cond (Nat.ble n 128)
 (cond (Nat.ble n 127)
 (cond (Nat.beq n 127) (some K127) none)
 (cond (Nat.beq n 128) (some K128) none))
 (cond (Nat.ble n 130)
 (cond (Nat.beq n 130) (some K130) none)
 (cond (Nat.beq n 131) (some K131) none)))
 (cond (Nat.ble n 134)
 (cond (Nat.ble n 133)
 (cond (Nat.beq n 133) (some K133) none)
 (cond (Nat.beq n 134) (some K134) none))
 (cond (Nat.ble n 135)
 (cond (Nat.beq n 135) (some K135) none)
 (cond (Nat.beq n 136) (some K136) none))))))))
 (cond (Nat.ble n 218)
 (cond (Nat.ble n 178)
 (cond (Nat.ble n 151)
 (cond (Nat.ble n 143)
 (cond (Nat.ble n 139)
 (cond (Nat.ble n 137)
 (cond (Nat.beq n 137) (some K137) none)
 (cond (Nat.ble n 138)
 (cond (Nat.beq n 138) (some K138) none)
 (cond (Nat.beq n 139) (some K139) none)))
 (cond (Nat.ble n 141)
 (cond (Nat.ble n 140)
 (cond (Nat.beq n 140) (some K140) none)
 (cond (Nat.beq n 141) (some K141) none))
 (cond (Nat.ble n 142)
 (cond (Nat.beq n 142) (some K142) none)
 (cond (Nat.beq n 143) (some K143) none))))
 (cond (Nat.ble n 147)
 (cond (Nat.ble n 145)
 (cond (Nat.ble n 144)
 (cond (Nat.beq n 144) (some K144) none)
 (cond (Nat.beq n 145) (some K145) none))
 (cond (Nat.ble n 146)
 (cond (Nat.beq n 146) (some K146) none)
 (cond (Nat.beq n 147) (some K147) none)))
 (cond (Nat.ble n 149)
 (cond (Nat.ble n 148)
 (cond (Nat.beq n 148) (some K148) none)
 (cond (Nat.beq n 149) (some K149) none))
 (cond (Nat.ble n 150)
 (cond (Nat.beq n 150) (some K150) none)
 (cond (Nat.beq n 151) (some K151) none)))))
 (cond (Nat.ble n 160)
 (cond (Nat.ble n 156)
 (cond (Nat.ble n 152)
 (cond (Nat.beq n 152) (some K152) none)
 (cond (Nat.ble n 153)
 (cond (Nat.beq n 153) (some K153) none)
 (cond (Nat.beq n 156) (some K156) none)))
 (cond (Nat.ble n 158)
 (cond (Nat.ble n 157)
 (cond (Nat.beq n 157) (some K157) none)
 (cond (Nat.beq n 158) (some K158) none))
 (cond (Nat.ble n 159)
 (cond (Nat.beq n 159) (some K159) none)
 (cond (Nat.beq n 160) (some K160) none))))
 (cond (Nat.ble n 168)
 (cond (Nat.ble n 164)
 (cond (Nat.ble n 161)
 (cond (Nat.beq n 161) (some K161) none)
 (cond (Nat.beq n 164) (some K164) none))
 (cond (Nat.ble n 165)
 (cond (Nat.beq n 165) (some K165) none)
 (cond (Nat.beq n 168) (some K168) none)))
 (cond (Nat.ble n 176)
 (cond (Nat.ble n 175)
 (cond (Nat.beq n 175) (some K175) none)
 (cond (Nat.beq n 176) (some K176) none))
 (cond (Nat.ble n 177)
 (cond (Nat.beq n 177) (some K177) none)
 (cond (Nat.beq n 178) (some K178) none))))))
 (cond (Nat.ble n 200)
 (cond (Nat.ble n 185)
 (cond (Nat.ble n 181)
 (cond (Nat.ble n 179)
 (cond (Nat.beq n 179) (some K179) none)
 (cond (Nat.ble n 180)
 (cond (Nat.beq n 180) (some K180) none)
 (cond (Nat.beq n 181) (some K181) none)))
 (cond (Nat.ble n 183)
 (cond (Nat.ble n 182)
 (cond (Nat.beq n 182) (some K182) none)
 (cond (Nat.beq n 183) (some K183) none))
 (cond (Nat.ble n 184)
 (cond (Nat.beq n 184) (some K184) none)
 (cond (Nat.beq n 185) (some K185) none))))
 (cond (Nat.ble n 190)
 (cond (Nat.ble n 188)
 (cond (Nat.ble n 186)
 (cond (Nat.beq n 186) (some K186) none)
 (cond (Nat.beq n 188) (some K188) none))
 (cond (Nat.ble n 189)
 (cond (Nat.beq n 189) (some K189) none)
 (cond (Nat.beq n 190) (some K190) none)))
 (cond (Nat.ble n 192)
 (cond (Nat.ble n 191)
 (cond (Nat.beq n 191) (some K191) none)
 (cond (Nat.beq n 192) (some K192) none))
 (cond (Nat.ble n 199)
 (cond (Nat.beq n 199) (some K199) none)
 (cond (Nat.beq n 200) (some K200) none)))))
 (cond (Nat.ble n 208)
 (cond (Nat.ble n 203)
 (cond (Nat.ble n 201)
 (cond (Nat.beq n 201) (some K201) none)
 (cond (Nat.ble n 202)
 (cond (Nat.beq n 202) (some K202) none)
 (cond (Nat.beq n 203) (some K203) none)))
 (cond (Nat.ble n 205)
 (cond (Nat.ble n 204)
 (cond (Nat.beq n 204) (some K204) none)
 (cond (Nat.beq n 205) (some K205) none))
 (cond (Nat.ble n 207)
 (cond (Nat.beq n 207) (some K207) none)
 (cond (Nat.beq n 208) (some K208) none))))
 (cond (Nat.ble n 214)
 (cond (Nat.ble n 212)
 (cond (Nat.ble n 210)
 (cond (Nat.beq n 210) (some K210) none)
 (cond (Nat.beq n 212) (some K212) none))
 (cond (Nat.ble n 213)
 (cond (Nat.beq n 213) (some K213) none)
 (cond (Nat.beq n 214) (some K214) none)))
 (cond (Nat.ble n 216)
 (cond (Nat.ble n 215)
 (cond (Nat.beq n 215) (some K215) none)
 (cond (Nat.beq n 216) (some K216) none))
 (cond (Nat.ble n 217)
 (cond (Nat.beq n 217) (some K217) none)
 (cond (Nat.beq n 218) (some K218) none)))))))
 (cond (Nat.ble n 294)
 (cond (Nat.ble n 255)
 (cond (Nat.ble n 226)
 (cond (Nat.ble n 222)
 (cond (Nat.ble n 219)
 (cond (Nat.beq n 219) (some K219) none)
 (cond (Nat.ble n 220)
 (cond (Nat.beq n 220) (some K220) none)
 (cond (Nat.beq n 222) (some K222) none)))
 (cond (Nat.ble n 224)
 (cond (Nat.ble n 223)
 (cond (Nat.beq n 223) (some K223) none)
 (cond (Nat.beq n 224) (some K224) none))
 (cond (Nat.ble n 225)
 (cond (Nat.beq n 225) (some K225) none)
 (cond (Nat.beq n 226) (some K226) none))))
 (cond (Nat.ble n 237)
 (cond (Nat.ble n 229)
 (cond (Nat.ble n 227)
 (cond (Nat.beq n 227) (some K227) none)
 (cond (Nat.beq n 229) (some K229) none))
 (cond (Nat.ble n 233)
 (cond (Nat.beq n 233) (some K233) none)
 (cond (Nat.beq n 237) (some K237) none)))
 (cond (Nat.ble n 248)
 (cond (Nat.ble n 238)
 (cond (Nat.beq n 238) (some K238) none)
 (cond (Nat.beq n 248) (some K248) none))
 (cond (Nat.ble n 249)
 (cond (Nat.beq n 249) (some K249) none)
 (cond (Nat.beq n 255) (some K255) none)))))
 (cond (Nat.ble n 265)
 (cond (Nat.ble n 261)
 (cond (Nat.ble n 259)
 (cond (Nat.beq n 259) (some K259) none)
 (cond (Nat.ble n 260)
 (cond (Nat.beq n 260) (some K260) none)
 (cond (Nat.beq n 261) (some K261) none)))
 (cond (Nat.ble n 263)
 (cond (Nat.ble n 262)
 (cond (Nat.beq n 262) (some K262) none)
 (cond (Nat.beq n 263) (some K263) none))
 (cond (Nat.ble n 264)
 (cond (Nat.beq n 264) (some K264) none)
 (cond (Nat.beq n 265) (some K265) none))))
 (cond (Nat.ble n 272)
 (cond (Nat.ble n 267)
 (cond (Nat.ble n 266)
 (cond (Nat.beq n 266) (some K266) none)
 (cond (Nat.beq n 267) (some K267) none))
 (cond (Nat.ble n 270)
 (cond (Nat.beq n 270) (some K270) none)
 (cond (Nat.beq n 272) (some K272) none)))
 (cond (Nat.ble n 275)
 (cond (Nat.ble n 273)
 (cond (Nat.beq n 273) (some K273) none)
 (cond (Nat.beq n 275) (some K275) none))
 (cond (Nat.ble n 276)
 (cond (Nat.beq n 276) (some K276) none)
 (cond (Nat.beq n 294) (some K294) none))))))
 (cond (Nat.ble n 343)
 (cond (Nat.ble n 301)
 (cond (Nat.ble n 297)
 (cond (Nat.ble n 295)
 (cond (Nat.beq n 295) (some K295) none)
 (cond (Nat.ble n 296)
 (cond (Nat.beq n 296) (some K296) none)
 (cond (Nat.beq n 297) (some K297) none)))
 (cond (Nat.ble n 299)
 (cond (Nat.ble n 298)
 (cond (Nat.beq n 298) (some K298) none)
 (cond (Nat.beq n 299) (some K299) none))
 (cond (Nat.ble n 300)
 (cond (Nat.beq n 300) (some K300) none)
 (cond (Nat.beq n 301) (some K301) none))))
 (cond (Nat.ble n 308)
 (cond (Nat.ble n 303)
 (cond (Nat.ble n 302)
 (cond (Nat.beq n 302) (some K302) none)
 (cond (Nat.beq n 303) (some K303) none))
 (cond (Nat.ble n 305)
 (cond (Nat.beq n 305) (some K305) none)
 (cond (Nat.beq n 308) (some K308) none)))
 (cond (Nat.ble n 341)
 (cond (Nat.ble n 319)
 (cond (Nat.beq n 319) (some K319) none)
 (cond (Nat.beq n 341) (some K341) none))
 (cond (Nat.ble n 342)
 (cond (Nat.beq n 342) (some K342) none)
 (cond (Nat.beq n 343) (some K343) none)))))
 (cond (Nat.ble n 372)
 (cond (Nat.ble n 347)
 (cond (Nat.ble n 345)
 (cond (Nat.ble n 344)
 (cond (Nat.beq n 344) (some K344) none)
 (cond (Nat.beq n 345) (some K345) none))
 (cond (Nat.ble n 346)
 (cond (Nat.beq n 346) (some K346) none)
 (cond (Nat.beq n 347) (some K347) none)))
 (cond (Nat.ble n 349)
 (cond (Nat.ble n 348)
 (cond (Nat.beq n 348) (some K348) none)
 (cond (Nat.beq n 349) (some K349) none))
 (cond (Nat.ble n 350)
 (cond (Nat.beq n 350) (some K350) none)
 (cond (Nat.beq n 372) (some K372) none))))
 (cond (Nat.ble n 396)
 (cond (Nat.ble n 374)
 (cond (Nat.ble n 373)
 (cond (Nat.beq n 373) (some K373) none)
 (cond (Nat.beq n 374) (some K374) none))
 (cond (Nat.ble n 395)
 (cond (Nat.beq n 395) (some K395) none)
 (cond (Nat.beq n 396) (some K396) none)))
 (cond (Nat.ble n 403)
 (cond (Nat.ble n 402)
 (cond (Nat.beq n 402) (some K402) none)
 (cond (Nat.beq n 403) (some K403) none))
 (cond (Nat.ble n 405)
 (cond (Nat.beq n 405) (some K405) none)
 (cond (Nat.beq n 406) (some K406) none)))))))))
def X0:FuncId→List AV→List Obj→Option (AV×List Obj):=fun _ _ _=>none
end Go.Proofs.YtchgldaddcolhaaGreatDoor

/- Part of the proof of Rows.FinderAltitudesCardSaid: EvO7, EvO8, EvO9, EvOm, EvP, EvS. -/
import Derived.DeepKeys
import Derived.Laws.IdiomStrings
import Derived.Orders
import Derived.OrdersIn
import Derived.RangeFuncNested
import Derived.RangeFuncCalls
import Derived.Test.YtchgldaddcolhaaGreatDoorP02
set_option linter.all false
namespace Go.Proofs.YtchgldaddcolhaaGreatDoor
open Go
variable[Sub]
section
variable{P:Program}{w:World}{g:Gh}{H:List Obj}
variable{a:Act}{dst:Option Tmp}{ty:TypeId}{pos:String}{after:Array Edge}{gd:Option (Nat×Bool)}
theorem sim_append{c:Call}{x y:Operand}{t e:TypeId}{i:TypeInfo}{z:Value}{u v r:AV}{H':List Obj}(hs:StRel w g H)(hc:c.callee = .builtin .append)(ha:c.args.toList = [x,y])(hat:c.argTypes.toList = [t,t])(ht:P.underlying t = some (.slice e))(hi:P.info? e = some i)(hz:i.zero = some z)(hzs:z.cells.size = i.size)(hb:i.bytes ≠ 0)(hx:Rep w g H (a.eval x) u)(hy:Rep w g H (a.eval y) v)(h:appendV H i.bytes i.size u v = some (r,H')):OpSim P a w g H ⟨dst,.call c,ty,pos,after,gd⟩ r H':=by
 have hcall:=run_append_call (P:=P) (a:=a) (dst:=dst) (ty:=ty) (pos:=pos) (after:=after) (gd:=gd) (w:=w) hc ha hat
 unfold appendV at h
 by_cases hK:isK H u v = true
 ·rw[if_pos hK]at h
  exact sim_appendK hs hc ha hat ht hi hz hzs hb hx hy h
 rw[if_neg hK]at h
 clear hK
 simp only[Option.bind_eq_some_iff]at h
 obtain⟨ys,hys,h⟩:=h
 split at h
 case isFalse=>cases h
 rename_i hall
 have hes:=all_rows hall
 obtain⟨py,cy,news,hcy,hnews,harg⟩:=news_arg hs hy hys hes
 have h63:∀ n:Nat,n * i.bytes ≤ 140737488355328→(n:Int) ≤ 9223372036854775807:=fun n hn=>by
  have:n * 1 ≤ n * i.bytes:=Nat.mul_le_mul_left _ (by omega)
  omega
 have fromNil:a.eval x = .slice none 0 0→ys.isEmpty = false→ys.length * i.bytes ≤ 140737488355328 →
   OpSim P a w g H ⟨dst,.call c,ty,pos,after,gd⟩ (.ar H.length 0 0 ys.length) (H++[.arr i.size none 0 ys]):=fun hxv hne hbd=>by
  rcases harg with ⟨rfl,_⟩ | ⟨ad,rfl,hcell⟩
  ·simp at hne
  have hpos:0 < ys.length:=by cases ys <;> simp at hne ⊢
  have hr:=run_append_nil (P:=P) w t ty e i z ht hi hz ad ys.length cy news hnews.1 hcell hpos (h63 _ hbd) (by omega)
  have hge:=grownCap_ge w ys.length 0 e
  obtain⟨q1,q2⟩:=grown_rows (cap:=grownCap w ys.length 0 e) hnews hzs hge
  exact sim_newArr (w':=w.drew.alloc (.cells (news.toArray++Builtin.zeroCells z.cells (grownCap w ys.length 0 e - ys.length)) e)) (cap:=grownCap w ys.length 0 e) hs (by rw[hcall,hxv,hcy,hr]; rfl) ⟨rfl,rfl,rfl,⟨rfl,by first | exact Nat.le_refl _ | exact Nat.le_succ _⟩⟩ hge hes q1 q2
 have fromSome:∀ (b:Addr) (n cap:Nat) (xs:List (List PV)) (olds:List Value),a.eval x = .slice (some b) n cap→xs.length = n→News w g.D i.size xs olds→(∀ k u,olds[k]? = some u→w.cell? (b.add k) = some u) →
   cap < n + ys.length→(n + ys.length) * i.bytes ≤ 140737488355328→∃ w',Pushed w w' (.cells ((olds++news).toArray++Builtin.zeroCells z.cells (grownCap w (n + ys.length) cap e - (n + ys.length))) e (0,0)) ∧
    (execOp a.eval ⟨dst,.call c,ty,pos,after,gd⟩).run P w = .ok (.value (.slice (some ⟨w.heap.size,0,none⟩) (n + ys.length) (grownCap w (n + ys.length) cap e))) w':=fun b n cap xs olds hxv hxl hol holc hlt hbd=>by
  rcases harg with ⟨rfl,_⟩ | ⟨ad,rfl,hcell⟩
  ·obtain⟨p,cap',hcx,hle⟩:∃ p cap',a.eval x = .slice p n cap'∧n ≤ cap':=by
    cases hu:lenOf u with
    | some m =>
     obtain⟨p,cap',q,hle⟩:=len_rep hx hu
     rw[hxv]at q
     cases q
     exact⟨_,_,hxv,hle⟩
    | none=>cases u <;> simp[lenOf]at hu <;> first | (simp at h; done) | (rename_i pv; cases pv <;> simp[lenOf]at hu <;> first | (simp at h; done) | cases h)
   rw[hxv]at hcx
   cases hcx
   simp at hlt
   omega
  have hr:=run_append_grow (P:=P) w t ty e i z ht hi hz b n cap olds (by rw[hol.1,hxl]) holc ad ys.length cy news hnews.1 hcell hlt (h63 _ hbd) (growslice_fits (by omega) hbd)
  refine⟨w.drew.alloc (.cells ((olds++news).toArray++Builtin.zeroCells z.cells (grownCap w (n + ys.length) cap e - (n + ys.length))) e),⟨rfl,rfl,rfl,⟨rfl,Nat.le_succ _⟩⟩,?_⟩
  rw[hcall,hxv,hcy,hr]
  simp
 cases u with
 | p pv =>
  cases pv with
  | nsl =>
   simp only at h
   have hxv:a.eval x = .slice none 0 0:=by
    generalize hxv:a.eval x = cv at hx
    cases hx with
    | p hp=>cases hp; rfl
   split at h
   ·rename_i hemp
    cases h
    have:ys = []:=by simpa using hemp
    subst this
    refine .quiet hs (cv:=.slice none 0 0) ?_ (.p .nsl)
    rw[hcall,hxv,hcy,List.length_nil,run_append_empty ht hi (Nat.le_refl _)]; rfl
   ·rename_i hemp
    split at h
    ·rename_i hbd
     cases h
     exact fromNil hxv (by simpa using hemp) hbd
    ·cases h
  | v=>cases h
  | h=>cases h
  | sl=>cases h
 | lit xs =>
  simp only at h
  split at h
  ·rename_i hemp
   cases h
   have:ys = []:=by simpa using hemp
   subst this
   generalize hxv:a.eval x = cv at hx
   cases hx with
   | lit hp =>
    refine .quiet hs (cv:=_) ?_ (.lit hp)
    rw[hcall,hxv,hcy,List.length_nil,run_append_empty ht hi (Nat.le_refl _)]; rfl
  ·rename_i hemp
   split at h
   ·rename_i hcond
    obtain⟨hbd,hallx⟩:=hcond
    cases h
    have hesx:=all_rows hallx
    have hpos:0 < ys.length:=by cases ys <;> simp at hemp ⊢
    generalize hxv:a.eval x = cv at hx
    cases hx with
    | lit hp =>
     rename_i p n
     obtain⟨q1,q2,q3,q4⟩:=hp.rows hesx
     rcases q3 with ⟨rfl,rfl⟩ | ⟨b,o,rfl⟩
     ·have:xs = []:=List.eq_nil_of_length_eq_zero q1
      subst this
      have:=fromNil hxv (by cases ys <;> simp at hpos ⊢) (by simpa using hbd)
      simpa using this
     ·have hold:∃ olds,News w g.D i.size xs olds∧∀ k u,olds[k]? = some u→w.cell? ((⟨b,o,none⟩:Addr).add k) = some u:=by
       rcases Nat.eq_zero_or_pos n with h0 | h0
       ·have:xs = []:=List.eq_nil_of_length_eq_zero (by omega)
        subst this
        exact⟨[],⟨by simp,by simp,fun i j row x h=>by simp at h⟩,fun k u h=>by simp at h⟩
       ·obtain⟨b',o',e1,q5⟩:=q4 h0
        cases e1
        exact news_of hesx (fun i j row x hi hj=>(q5 i j row x hi hj).2)
      obtain⟨olds,ho1,ho2⟩:=hold
      obtain⟨w',hp',hrun⟩:=fromSome _ n n xs olds hxv q1 ho1 ho2 (by omega) (by rw[← q1]; exact hbd)
      have hge:=grownCap_ge w (n + ys.length) n e
      have hlen:(xs++ys).length = n + ys.length:=by rw[List.length_append,q1]
      obtain⟨r1,r2⟩:=grown_rows (cap:=grownCap w (n + ys.length) n e) (ho1.append hnews) hzs (by rw[hlen]; exact hge)
      rw[hlen]at r1 r2
      have:=sim_newArr (rows:=xs++ys) (cap:=grownCap w (n + ys.length) n e) hs (by rw[hlen]; exact hrun) hp' (by rw[hlen]; exact hge) (fun r hr=>by
       rcases List.mem_append.1 hr with h | h
       ·exact hesx r h
       ·exact hes r h) r1 r2
      rwa [hlen,← q1]at this
   ·cases h
 | ar l v' off len =>
  cases off with
  | succ off=>cases h
  | zero =>
   simp only at h
   split at h
   ·rename_i es' fz ver rows hH
    split at h
    ·rename_i hcond
     obtain⟨rfl,hrl,rfl,hbd⟩:=hcond
     cases h
     subst hrl
     obtain⟨p,cap,hxv,hA⟩:=hx.ar_inv
     obtain⟨h1,h2,es2,fz2,ver2,rows2,hH2,_,_,hf⟩:=hA
     rw[hH]at hH2
     cases hH2
     have hsn:seen fz v' v' = true:=by
      have:=hs.stand l _ hH
      cases fz with
      | none=>simp[seen]
      | some f=>simpa [seen] using this.1
     obtain⟨_,hf2,_⟩:=hf hsn
     obtain⟨rfl,rfl⟩:=hf2 rfl rfl
     have hlt:l < H.length:=(List.getElem?_eq_some_iff.1 hH).1
     have hself:(H.set l (.arr i.size fz (v' + 1) (rows++ys)))[l]? = some (.arr i.size fz (v' + 1) (rows++ys)):=List.getElem?_set_self hlt
     have hlen:(rows++ys).length = rows.length + ys.length:=List.length_append
     by_cases hroom:rows.length + ys.length ≤ g.cap l
     ·obtain⟨vs,te,g',b1,b2,b3,b4,b5,b6,b7⟩:=evo_room hs hH hes hnews hroom
      have hfc:=firstCells_news (P:=P) (w:=w) (es:=i.size) (m:=ys.length) (c:=cy) hnews.1 (by
       rcases harg with ⟨e1,e2⟩ | h
       ·exact .inl ⟨by rw[e1]; rfl,e2⟩
       ·exact .inr h)
      have hr:=run_append_room' (P:=P) (ty:=ty) ht hi b1 hfc hnews.2.1 hroom b2
      refine⟨.slice (some ⟨g.blk l,g.base l,none⟩) (rows.length + ys.length) (g.cap l),_,g',.inl (by rw[hcall,hxv,hcy,hr]; rfl),b3,b4,.inr ?_⟩
      have:=ar_whole b4 hself
      rwa [b5,b6,b7,hlen]at this
     ·obtain⟨_,hesx,_,h5,_⟩:=hs.objs _ _ hH
      obtain⟨olds,ho1,ho2⟩:=news_of hesx h5
      obtain⟨w',hp',hrun⟩:=fromSome _ rows.length (g.cap l) rows olds hxv rfl ho1 ho2 (by omega) hbd
      have hge:=grownCap_ge w (rows.length + ys.length) (g.cap l) e
      obtain⟨r1,r2⟩:=grown_rows (cap:=grownCap w (rows.length + ys.length) (g.cap l) e) (ho1.append hnews) hzs (by rw[hlen]; exact hge)
      rw[hlen]at r1 r2
      obtain⟨g',b3,b4,b5,b6,b7,_⟩:=evo_grow hs hH hp' hes hge r1 r2
      refine⟨_,w',g',.inl hrun,b3,b4,.inr ?_⟩
      have:=ar_whole b4 hself
      rwa [b5,b6,b7,hlen]at this
    ·split at h
     ·rename_i hcond
      obtain⟨rfl,rfl,rfl,hle,hbd⟩:=hcond
      cases h
      obtain⟨p,cap,hxv,hA⟩:=hx.ar_inv
      obtain⟨h1,h2,es2,fz2,ver2,rows2,hH2,hv2,hoff2,hf⟩:=hA
      rw[hH]at hH2
      cases hH2
      obtain⟨f1,f2,f3⟩:=hf (by simp[seen])
      have hroom:=f3 rfl
      have hlt:l < H.length:=(List.getElem?_eq_some_iff.1 hH).1
      have hlen:(rows.take len++ys++rows.drop (len + ys.length)).length = rows.length:=by simp; omega
      obtain⟨vs,te,b1,b2,b3,b4⟩:=evo_rows (off:=len) hs hH hes hnews hle
      have hself:(H.set l (.arr i.size none v' (rows.take len++ys++rows.drop (len + ys.length))))[l]? = some (.arr i.size none v' (rows.take len++ys++rows.drop (len + ys.length))):=List.getElem?_set_self hlt
      obtain⟨rfl,rfl⟩:=f2 rfl rfl
      have hcl:len + ys.length ≤ g.cap l:=by omega
      have hfc:=firstCells_news (P:=P) (w:=w) (es:=i.size) (m:=ys.length) (c:=cy) hnews.1 (by
       rcases harg with ⟨e1,e2⟩ | h
       ·exact .inl ⟨by rw[e1]; rfl,e2⟩
       ·exact .inr h)
      have hr:=run_append_room' (P:=P) (ty:=ty) ht hi b1 hfc hnews.2.1 hcl b2
      refine⟨.slice (some ⟨g.blk l,g.base l,none⟩) (len + ys.length) (g.cap l),_,g,.inl (by rw[hcall,hxv,hcy,hr]; rfl),b3,b4,.inr ?_⟩
      exact .ar ⟨hcl,.inr ⟨_,_,rfl⟩,i.size,none,v',_,hself,Nat.le_refl _,by rw[hlen]; omega,fun _=>⟨fun _=>by simp,fun _ _=>⟨rfl,rfl⟩,fun _=>by rw[hlen]; omega⟩⟩
     ·cases h
   ·cases h
 | _=>cases h
end
end Go.Proofs.YtchgldaddcolhaaGreatDoor
namespace Go.Proofs.YtchgldaddcolhaaGreatDoor
open Go
variable[Sub]
section
variable{P:Program}{w:World}{g:Gh}{H:List Obj}
variable{a:Act}{dst:Option Tmp}{ty:TypeId}{pos:String}{after:Array Edge}{gd:Option (Nat×Bool)}
theorem heads_get:∀ {ys:List (List PV)} {xs:List PV},heads ys = some xs→xs.length = ys.length∧(∀ r ∈ ys,r.length = 1)∧∀ (i:Nat) (x:PV),xs[i]? = some x→ys[i]? = some [x]
 | [],xs,h=>by cases h; exact⟨rfl,by simp,by simp⟩
 | []::r,xs,h=>by simp[heads]at h
 | [x]::r,xs,h=>by
  simp only[heads,Option.map_eq_some_iff]at h
  obtain⟨ys,h,rfl⟩:=h
  obtain⟨h1,h2,h3⟩:=heads_get h
  refine⟨by simp[h1],by simpa using h2,fun i z hz=>?_⟩
  cases i with
  | zero=>simp at hz; subst hz; rfl
  | succ i=>simp only[List.getElem?_cons_succ]at hz ⊢; exact h3 i z hz
 | (x::y::l)::r,xs,h=>by simp[heads]at h
theorem sim_copy{c:Call}{x y:Operand}{t e:TypeId}{i:TypeInfo}{u v r:AV}{H':List Obj}(hs:StRel w g H)(hc:c.callee = .builtin .copy)(ha:c.args.toList = [x,y])(hat:c.argTypes[0]? = some t)(ht:P.underlying t = some (.slice e))(hi:P.info? e = some i)(hx:Rep w g H (a.eval x) u)(hy:Rep w g H (a.eval y) v)(h:copyV H i.size u v = some (r,H')):OpSim P a w g H ⟨dst,.call c,ty,pos,after,gd⟩ r H':=by
 have ha':c.args = #[x,y]:=by rw[← Array.toList_inj]; exact ha
 unfold copyV at h
 simp only[Option.bind_eq_some_iff]at h
 obtain⟨ys,hys,n,hn,h⟩:=h
 obtain⟨p,cap,hxv,hcap⟩:=len_rep hx hn
 have hcall:(execOp a.eval ⟨dst,.call c,ty,pos,after,gd⟩).run P w = ((Builtin.copy_ c.argTypes ty #[a.eval x,a.eval y]).run P w).andThen fun r w=>.ok (.value r) w:=by
  simp[execOp,resolve,hc,ha',Go.invoke,Go.builtin]
 split at h
 ·rename_i h0
  cases h
  obtain⟨q,cq,hyv⟩:∃ q cq,a.eval y = .slice q ys.length cq:=by
   have:∃ m,lenOf v = some m∧m = ys.length:=by
    cases v with
    | p pv=>cases pv <;> simp[rowsOf]at hys <;> subst hys <;> simp[lenOf]
    | emp=>simp[rowsOf]at hys; subst hys; simp[lenOf]
    | lit rows=>simp[rowsOf]at hys; subst hys; simp[lenOf]
    | ar l v o n =>
     simp only[rowsOf]at hys
     split at hys
     ·split at hys
      ·rename_i hcond; cases hys; exact⟨_,rfl,by simp; omega⟩
      ·cases hys
     ·cases hys
    | nk=>simp[rowsOf]at hys; subst hys; simp[lenOf]
    | sk l v m =>
     simp only[rowsOf]at hys
     split at hys
     ·rename_i hH
      split at hys
      ·rename_i hl
       obtain⟨_,_,h3⟩:=hs.objs _ _ hH
       obtain⟨_,hnr,_⟩:=h3 _ _ (lvl_mem hl)
       have:=congrArg List.length (plainR_eq hys)
       refine⟨_,rfl,?_⟩
       simp at this
       omega
      ·cases hys
     ·cases hys
    | _=>simp[rowsOf]at hys
   obtain⟨m,hm,rfl⟩:=this
   obtain⟨q,cq,hq,_⟩:=len_rep hy hm
   exact⟨q,cq,hq⟩
  have h0':Nat.min ys.length n = 0:=by rw[← h0]; exact Nat.min_comm ..
  refine .quiet hs (cv:=goInt 0) ?_ (.v rfl)
  rw[hcall,hxv,hyv]
  cases q <;> cases p <;> simp[Builtin.copy_,hat,run_underlying ht,Builtin.lenOf,sizeOf,typeInfo,hi,h0',Builtin.firstCells,loadCells,loadCellsFrom,storeCells]
 ·rename_i h0
  split at h
  ·rename_i l v' off len
   split at h
   ·rename_i es' ver rows hH
    split at h
    ·rename_i hcond
     obtain⟨rfl,rfl,hle,hall⟩:=hcond
     cases h
     have hln:len = n:=by simpa [lenOf] using hn
     subst hln
     have hes:=all_len hall
     obtain⟨q,cq,news,hyv,hnews,harg⟩:=news_arg hs hy hys hes
     have hes':∀ r ∈ ys.take len,r.length = i.size:=fun r hr=>hes r (List.mem_of_mem_take hr)
     have hlt:(ys.take len).length = Nat.min ys.length len:=by rw[List.length_take]; exact Nat.min_comm ..
     have hmul:(ys.take len).length * i.size ≤ ys.length * i.size:=Nat.mul_le_mul_right _ (by simp; omega)
     have hn2:News w g.D i.size (ys.take len) (news.take ((ys.take len).length * i.size)):=by
      obtain⟨n1,n2,n3⟩:=hnews
      refine⟨by rw[List.length_take]; omega,fun u hu=>n2 u (List.mem_of_mem_take hu),fun k j row x hk hj=>?_⟩
      have hk':ys[k]? = some row:=by
       rw[List.getElem?_take]at hk
       split at hk
       ·exact hk
       ·cases hk
      obtain⟨u,e1,e2⟩:=n3 k j row x hk' hj
      have hkl:k < (ys.take len).length:=(List.getElem?_eq_some_iff.1 hk).1
      have hjl:j < i.size:=by rw[← hes row (List.mem_of_getElem? hk')]; exact (List.getElem?_eq_some_iff.1 hj).1
      have:=row_fit (es:=i.size) hkl
      exact⟨u,by rw[List.getElem?_take,if_pos (by omega)]; exact e1,e2⟩
     have hfc:(Builtin.firstCells i.size (Nat.min ys.length len) (.slice q ys.length cq)).run P w = .ok (news.take ((ys.take len).length * i.size)).toArray w:=by
      rcases harg with ⟨rfl,rfl⟩ | ⟨ad,rfl,hcell⟩
      ·simp at h0
      ·exact run_firstCells_some (P:=P) w i.size _ ad ys.length cq _ (by rw[hn2.1,hlt]) (fun k u hk=>by
        rw[List.getElem?_take]at hk
        split at hk
        ·exact hcell k u hk
        ·cases hk)
     obtain⟨p',cap',hxv',hA⟩:=hx.ar_inv
     rw[hxv]at hxv'
     cases hxv'
     obtain⟨hlc,_,es2,fz2,ver2,rows2,hH2,_,_,hf⟩:=hA
     rw[hH]at hH2
     cases hH2
     have hpos:0 < len:=by omega
     have hp:=(hf (by simp[seen])).1 (by omega)
     subst hp
     obtain⟨vs,te,b1,b2,b3,b4⟩:=evo_rows (off:=off) hs hH hes' hn2 (by rw[List.length_take]; omega)
     have hst:=run_storeCells_at P (g.blk l) (g.base l + off * i.size) te (news.take ((ys.take len).length * i.size)) 0 vs w b1 (by simpa using b2) hn2.2.1
     simp only[Nat.add_zero]at hst
     have hmin:off + min len ys.length = off + (ys.take len).length:=by rw[List.length_take]
     generalize news.take ((ys.take len).length * i.size) = nt at hfc hst b2 b3 b4
     refine⟨goInt (Nat.min ys.length len),w.setRow (g.blk l) (vs.toList.take (g.base l + off * i.size)++nt++vs.toList.drop (g.base l + off * i.size + nt.length)).toArray,g,.inl ?_,?_,?_,.inr ?_⟩
     ·rw[hcall,hxv,hyv]
      simp[Builtin.copy_,hat,run_underlying ht,Builtin.lenOf,sizeOf,typeInfo,hi,hfc,hst]
     ·rw[hmin]; exact b3
     ·rw[hmin]; exact b4
     ·have:Nat.min ys.length len = min len ys.length:=Nat.min_comm ..
      rw[this]
      exact .v rfl
    ·cases h
   ·cases h
  ·rename_i r off len
   split at h
   ·rename_i cc hH
    split at h
    ·rename_i hes1
     simp only[Option.bind_eq_some_iff,Option.map_eq_some_iff]at h
     obtain⟨xs,hxs,c',hsp,h⟩:=h
     cases h
     have hln:len = n:=by simpa [lenOf] using hn
     subst hln
     obtain⟨k1,k2,k3⟩:=heads_get hxs
     obtain⟨q,cq,news,hyv,hnews,harg⟩:=news_arg (es:=i.size) hs hy hys (fun r hr=>by rw[hes1]; exact k2 r hr)
     obtain⟨m1,m2,m3⟩:=hnews
     have hmin:Nat.min ys.length len = min len ys.length:=Nat.min_comm ..
     have m1':news.length = ys.length:=by rw[m1,hes1,Nat.mul_one]
     have hnl:(news.take (Nat.min ys.length len)).length = min len ys.length:=by
      rw[List.length_take,m1',hmin]; omega
     have hml:(news.take (Nat.min ys.length len)).length = ((xs.take len).map AV.p).length:=by
      rw[hnl,List.length_map,List.length_take,k1]
     have hfc:(Builtin.firstCells i.size (Nat.min ys.length len) (.slice q ys.length cq)).run P w = .ok (news.take (Nat.min ys.length len)).toArray w:=by
      rcases harg with ⟨rfl,rfl⟩ | ⟨ad,rfl,hcell⟩
      ·simp at h0
      ·exact run_firstCells_some (P:=P) w i.size _ ad ys.length cq _ (by rw[hnl,hes1,hmin,Nat.mul_one]) (fun k u hk=>by
        rw[List.getElem?_take]at hk
        split at hk
        ·exact hcell k u hk
        ·cases hk)
     generalize hxv':a.eval x = cx at hx
     rw[hxv]at hxv'
     subst hxv'
     cases hx with
     | csl hH2 hcap2 =>
     rename_i c0
     obtain⟨vs,te,b1,b2,b3,b4⟩:=evo_cells (vals:=news.take (Nat.min ys.length len)) hs hH hsp hml (fun j u z hu hz=>by
      rw[List.getElem?_take]at hu
      split at hu
      ·simp only[List.getElem?_map,Option.map_eq_some_iff]at hz
       obtain⟨pz,hz,rfl⟩:=hz
       rw[List.getElem?_take]at hz
       split at hz
       ·obtain⟨u',e1,e2⟩:=m3 j 0 [pz] pz (k3 _ _ hz) rfl
        rw[hes1,Nat.mul_one,Nat.add_zero,hu]at e1
        cases e1
        exact⟨.p e2,e2.one⟩
       ·cases hz
      ·cases hu)
     have hst:=run_storeCells_at P (g.blk r) off te (news.take (Nat.min ys.length len)) 0 vs w b1 (by simpa using b2) (fun u hu=>m2 u (List.mem_of_mem_take hu))
     simp only[Nat.add_zero]at hst
     generalize news.take (Nat.min ys.length len) = nt at hfc hst b2 b3 b4
     refine⟨goInt (Nat.min ys.length len),w.setRow (g.blk r) (vs.toList.take off++nt++vs.toList.drop (off + nt.length)).toArray,g,.inl ?_,b3,b4,.inr ?_⟩
     ·rw[hcall,hxv,hyv]
      simp[Builtin.copy_,hat,run_underlying ht,Builtin.lenOf,sizeOf,typeInfo,hi,hfc,hst]
     ·rw[hmin]
      exact .v rfl
    ·cases h
   ·cases h
  ·cases h
end
end Go.Proofs.YtchgldaddcolhaaGreatDoor
namespace Go.Proofs.YtchgldaddcolhaaGreatDoor
open Go
variable[Sub]
theorem sameCells_split:∀ {ks ks2:List LK} {xs ys:List Value} {r:Bool},sameCells (ks++ks2) xs ys = some r →
  (sameCells ks xs ys = some false∧r = false)∨(sameCells ks xs ys = some true∧sameCells ks2 (xs.drop ks.length) (ys.drop ks.length) = some r)
 | [],ks2,xs,ys,r,h=>.inr ⟨rfl,by simpa using h⟩
 | k::ks,ks2,xs,ys,r,h=>by
  rw[List.cons_append]at h
  unfold sameCells at h
  split at h
  ·rename_i h0; cases h0
  ·rename_i h0; cases h0
   split at h
   ·rename_i hk
    split at h
    ·rename_i hab
     rcases sameCells_split h with ⟨e1,e2⟩ | ⟨e1,e2⟩
     ·exact .inl ⟨by simp only[sameCells,if_pos hk,if_pos hab,e1],e2⟩
     ·exact .inr ⟨by simp only[sameCells,if_pos hk,if_pos hab,e1],by simpa using e2⟩
    ·rename_i hab
     cases h
     exact .inl ⟨by simp only[sameCells,if_pos hk,if_neg hab],rfl⟩
   ·cases h
  ·rename_i h0; cases h0
   split at h
   ·rename_i hab
    rcases sameCells_split h with ⟨e1,e2⟩ | ⟨e1,e2⟩
    ·exact .inl ⟨by simp only[sameCells,if_pos hab,e1],e2⟩
    ·exact .inr ⟨by simp only[sameCells,if_pos hab,e1],by simpa using e2⟩
   ·rename_i hab
    cases h
    exact .inl ⟨by simp only[sameCells,if_neg hab],rfl⟩
  ·rename_i h0; cases h0
   split at h
   ·rename_i hab
    rcases sameCells_split h with ⟨e1,e2⟩ | ⟨e1,e2⟩
    ·exact .inl ⟨by simp only[sameCells,if_pos hab,e1],e2⟩
    ·exact .inr ⟨by simp only[sameCells,if_pos hab,e1],by simpa using e2⟩
   ·rename_i hab
    cases h
    exact .inl ⟨by simp only[sameCells,if_neg hab],rfl⟩
  ·cases h
theorem sameCells_take:∀ {ks:List LK} {xs ys:List Value} {r:Bool} (n:Nat),ks.length ≤ n→sameCells ks xs ys = some r→sameCells ks (xs.take n) (ys.take n) = some r
 | [],xs,ys,r,n,_,h=>by simpa [sameCells] using h
 | k::ks,xs,ys,r,0,hn,h=>by simp at hn
 | k::ks,xs,ys,r,n + 1,hn,h=>by
  simp only[List.length_cons]at hn
  unfold sameCells at h
  split at h
  ·rename_i h0; cases h0
  ·rename_i h0; cases h0
   split at h
   ·rename_i hk
    split at h
    ·rename_i hab
     simp only[List.take_succ_cons,sameCells,if_pos hk,if_pos hab,sameCells_take n (by omega) h]
    ·rename_i hab
     simp only[List.take_succ_cons,sameCells,if_pos hk,if_neg hab,h]
   ·cases h
  ·rename_i h0; cases h0
   split at h
   ·rename_i hab
    simp only[List.take_succ_cons,sameCells,if_pos hab,sameCells_take n (by omega) h]
   ·rename_i hab
    simp only[List.take_succ_cons,sameCells,if_neg hab,h]
  ·rename_i h0; cases h0
   split at h
   ·rename_i hab
    simp only[List.take_succ_cons,sameCells,if_pos hab,sameCells_take n (by omega) h]
   ·rename_i hab
    simp only[List.take_succ_cons,sameCells,if_neg hab,h]
  ·cases h
theorem sameCells_one{b:Bool}{xs ys:List Value}:(if b = true then sameCells [] xs ys else some false) = some b:=by cases b <;> rfl
theorem sizeT_cellsOf{P:Program}{t:TypeId}{n:Nat}(h:sizeT P t = some n):∃ i,P.info? t = some i∧i.size = n∧P.cellsOf t = n:=by
 simp only[sizeT,Option.map_eq_some_iff]at h
 obtain⟨i,hi,rfl⟩:=h
 exact⟨i,hi,rfl,by simp[Program.cellsOf,hi]⟩
section
variable{P:Program}{w:World}
theorem extract_toList(xs:Array Value)(off n:Nat):(xs.extract off (off + n)).toList = (xs.toList.drop off).take n:=by
 rw[Array.toList_extract]
 simp[List.extract]
theorem run_part_agg{t:TypeId}{d:TypeDesc}{n off:Nat}{xs:Array Value}(hu:P.underlying t = some d)(hd:aggT d = true)(hn:sizeT P t = some n) :
  (part t xs off).run P w = .ok (.agg (xs.extract off (off + n))) w:=by
 obtain⟨i,hi,hs,_⟩:=sizeT_cellsOf hn
 simp[part,run_isAgg hu,hd,sizeOf,typeInfo,hi,hs]
theorem run_part_one{t:TypeId}{d:TypeDesc}{off:Nat}{xs:Array Value}{v:Value}(hu:P.underlying t = some d)(hd:aggT d = false)(hv:xs[off]? = some v) :
  (part t xs off).run P w = .ok v w:=by
 simp[part,run_isAgg hu,hd,hv]
def EqLeaf(P:Program)(w:World)(D:Nat)(t:TypeId)(ks:List LK):Prop :=
 ∀ (xs ys:Array Value) (off:Nat) (r:Bool),sameCells ks (xs.toList.drop off) (ys.toList.drop off) = some r →
  ∃ a b,(part t xs off).run P w = .ok a w∧(part t ys off).run P w = .ok b w∧(Op.equalIn D t a b).run P w = .ok r w
theorem eqLeaf_fields{D:Nat}{lv:TypeId→Option (List LK)}(ih:∀ t ks,lv t = some ks→EqLeaf P w D t ks)(xs ys:Array Value):∀ (fs:List Field) (n:Nat) (ks:List LK) (r:Bool),leavesFs lv fs n = some ks →
  sameCells ks (xs.toList.drop n) (ys.toList.drop n) = some r→(Op.eqFields D xs ys fs).run P w = .ok r w
 | [],n,ks,r,h,hr=>by
  cases h
  simp only[sameCells,Option.some.injEq]at hr
  subst hr
  simp[Op.eqFields]
 | f::fs,n,ks,r,h,hr=>by
  simp only[leavesFs]at h
  split at h
  ·cases h
  ·rename_i hc
   rw[not_or,Decidable.not_not]at hc
   obtain⟨hn,ho⟩:=hc
   simp only[Option.bind_eq_some_iff,Option.map_eq_some_iff]at h
   obtain⟨l,hl,m,hm,rfl⟩:=h
   rcases sameCells_split hr with ⟨e1,rfl⟩ | ⟨e1,e2⟩
   ·obtain⟨a,b,p1,p2,p3⟩:=ih _ _ hl xs ys n false e1
    rw[← ho]at p1 p2
    simp only[Op.eqFields,hn,ne_eq,not_false_eq_true,if_true,Sem.run_bind,p1,p2,p3,Result.andThen_ok]
    simp
   ·rw[List.drop_drop,List.drop_drop]at e2
    obtain⟨a,b,p1,p2,p3⟩:=ih _ _ hl xs ys n true e1
    have h2:=eqLeaf_fields ih xs ys fs _ m r hm e2
    rw[← ho]at p1 p2
    simp only[Op.eqFields,hn,ne_eq,not_false_eq_true,if_true,Sem.run_bind,p1,p2,p3,Result.andThen_ok]
    simpa using h2
theorem eqLeaf_items{D:Nat}{e:TypeId}{l:List LK}{c:Nat}(ih:EqLeaf P w D e l)(hc:c = l.length)(xs ys:Array Value):∀ (len i:Nat) (r:Bool),
  sameCells (List.replicate len l).flatten (xs.toList.drop (i * c)) (ys.toList.drop (i * c)) = some r→(Op.eqItems D e c xs ys (List.range' i len)).run P w = .ok r w
 | 0,i,r,hr=>by
  simp only[List.replicate_zero,List.flatten_nil,sameCells,Option.some.injEq]at hr
  subst hr
  simp[Op.eqItems]
 | len + 1,i,r,hr=>by
  rw[List.replicate_succ,List.flatten_cons]at hr
  rcases sameCells_split hr with ⟨e1,rfl⟩ | ⟨e1,e2⟩
  ·obtain⟨a,b,p1,p2,p3⟩:=ih xs ys _ false e1
   rw[List.range'_succ]
   simp only[Op.eqItems,Sem.run_bind,p1,p2,p3,Result.andThen_ok]
   simp
  ·rw[List.drop_drop,List.drop_drop,← hc,show i * c + c = (i + 1) * c by rw[Nat.add_mul,Nat.one_mul]]at e2
   obtain⟨a,b,p1,p2,p3⟩:=ih xs ys _ true e1
   have h2:=eqLeaf_items ih hc xs ys len (i + 1) r e2
   rw[List.range'_succ]
   simp only[Op.eqItems,Sem.run_bind,p1,p2,p3,Result.andThen_ok]
   simpa using h2
theorem drop_cons{α:Type}{l:List α}{n:Nat}{x:α}{xs:List α}(h:l.drop n = x::xs):l[n]? = some x:=by
 have:=congrArg (·[0]?) h
 simpa [List.getElem?_drop] using this
mutual
theorem eqLeaf_all:∀ (d:Nat) (t:TypeId) (ks:List LK) (D:Nat),leaves P d t = some ks→EqLeaf P w (D + d) t ks
 | 0,t,ks,D,h=>by simp[leaves]at h
 | d + 1,t,ks,D,h=>by
  intro xs ys off r hr
  have h':=h
  simp only[leaves,Option.bind_eq_some_iff,under]at h
  obtain⟨td,htd,h⟩:=h
  cases td with
  | int k0 =>
   simp only at h
   split at h
   ·cases h
    generalize hx:xs.toList.drop off = lx at hr
    generalize hy:ys.toList.drop off = ly at hr
    unfold sameCells at hr
    split at hr
    ·rename_i h0; cases h0
    ·rename_i h0; cases h0
     split at hr
     ·rename_i hk
      subst hk
      rw[sameCells_one]at hr; simp only[Option.some.injEq]at hr
      subst hr
      have e1:=drop_cons hx
      have e2:=drop_cons hy
      exact⟨_,_,run_part_one htd rfl (by simpa using e1),run_part_one htd rfl (by simpa using e2),run_equalIn_int w _ t _ _ _ _ htd⟩
     ·cases hr
    ·rename_i h0; cases h0
    ·rename_i h0; cases h0
    ·cases hr
   ·cases h
  | bool =>
   simp only at h
   split at h
   ·cases h
    generalize hx:xs.toList.drop off = lx at hr
    generalize hy:ys.toList.drop off = ly at hr
    unfold sameCells at hr
    split at hr
    ·rename_i h0; cases h0
    ·rename_i h0; cases h0
    ·rename_i h0; cases h0
     rw[sameCells_one]at hr; simp only[Option.some.injEq]at hr
     subst hr
     have e1:=drop_cons hx
     have e2:=drop_cons hy
     exact⟨_,_,run_part_one htd rfl (by simpa using e1),run_part_one htd rfl (by simpa using e2),run_equalIn_bool' w _ t _ _ htd⟩
    ·rename_i h0; cases h0
    ·cases hr
   ·cases h
  | string =>
   simp only at h
   split at h
   ·cases h
    generalize hx:xs.toList.drop off = lx at hr
    generalize hy:ys.toList.drop off = ly at hr
    unfold sameCells at hr
    split at hr
    ·rename_i h0; cases h0
    ·rename_i h0; cases h0
    ·rename_i h0; cases h0
    ·rename_i h0; cases h0
     rw[sameCells_one]at hr; simp only[Option.some.injEq]at hr
     subst hr
     have e1:=drop_cons hx
     have e2:=drop_cons hy
     exact⟨_,_,run_part_one htd rfl (by simpa using e1),run_part_one htd rfl (by simpa using e2),run_equalIn_string w _ t _ _ htd⟩
    ·cases hr
   ·cases h
  | struct fs =>
   simp only at h
   split at h
   ·cases h
   ·rename_i hst
    simp only[Option.bind_eq_some_iff]at h
    obtain⟨l,hl,h⟩:=h
    split at h
    ·rename_i hsz
     cases h
     refine⟨_,_,run_part_agg htd rfl hsz,run_part_agg htd rfl hsz,?_⟩
     have hfs:P.fieldsOf t = fs:=by simp[Program.fieldsOf,htd]
     rw[show D + (d + 1) = (D + d) + 1 from rfl,run_equalIn_struct w (D + d) t _ _ (by rw[hfs]; exact htd) (by simpa using hst),hfs]
     refine eqLeaf_fields (lv:=leaves P d) (fun t ks h=>eqLeaf_all d t ks D h) _ _ fs.toList 0 ks r hl ?_
     rw[extract_toList,extract_toList,List.drop_zero,List.drop_zero]
     exact sameCells_take _ (Nat.le_refl _) hr
    ·cases h
  | array len e =>
   simp only[Option.bind_eq_some_iff]at h
   obtain⟨l,hl,h⟩:=h
   split at h
   ·rename_i hsz
    cases h
    obtain⟨i,hi,_,hc⟩:=sizeT_cellsOf hsz.1
    refine⟨_,_,run_part_agg htd rfl hsz.2,run_part_agg htd rfl hsz.2,?_⟩
    rw[show D + (d + 1) = (D + d) + 1 from rfl,run_equalIn_array w (D + d) _ _ htd hi,List.range_eq_range',hc]
    refine eqLeaf_items (eqLeaf_all d e l D hl) rfl _ _ len 0 r ?_
    rw[extract_toList,extract_toList,Nat.zero_mul,List.drop_zero,List.drop_zero]
    exact sameCells_take _ (by simp) hr
   ·cases h
  | _=>cases h
end
end
section
variable{P:Program}{w:World}{g:Gh}{H:List Obj}
variable{a:Act}{dst:Option Tmp}{ty:TypeId}{pos:String}{after:Array Edge}{gd:Option (Nat×Bool)}
theorem cellVals_get:∀ {cs:List AV} {vs:List Value},cellVals cs = some vs→cs = vs.map fun v=>.p (.v v)
 | [],vs,h=>by cases h; rfl
 | c::cs,vs,h=>by
  unfold cellVals at h
  split at h
  ·rename_i h0; cases h0
  ·rename_i h0; cases h0
   simp only[Option.map_eq_some_iff]at h
   obtain⟨r,hr,rfl⟩:=h
   rw[cellVals_get hr]; rfl
  ·cases h
theorem aggVals_rep{c:Value}{u:AV}{l:List Value}(hx:Rep w g H c u)(h:aggVals u = some l):∃ A:Array Value,c = .agg A∧A.toList = l:=by
 cases u with
 | agg cs =>
  have hcs:=cellVals_get (cs:=cs) h
  generalize hu:AV.agg cs = u at hx
  cases hx with
  | agg ha h1 hra =>
   cases hu
   rename_i A
   refine⟨A,rfl,?_⟩
   subst hcs
   refine List.ext_getElem? fun i=>?_
   simp only[List.length_map]at ha
   rcases Nat.lt_or_ge i A.size with hi | hi
   ·have hil:i < l.length:=by omega
    have:=hra i A[i] (.p (.v l[i])) (by simp[hi]) (by simp[hil])
    rw[Array.getElem?_toList,Array.getElem?_eq_getElem hi,this.val.1,List.getElem?_eq_getElem hil]
   ·rw[Array.getElem?_toList,Array.getElem?_eq_none hi,List.getElem?_eq_none (by omega)]
  | _=>cases hu
 | _=>simp[aggVals]at h
theorem leaves_size{d:Nat}{t:TypeId}{fs:Array Field}{ks:List LK}(ht:P.underlying t = some (.struct fs))(hk:leaves P (d + 1) t = some ks):sizeT P t = some ks.length:=by
 simp only[leaves,Option.bind_eq_some_iff,under,ht]at hk
 obtain⟨td,e,hk⟩:=hk
 cases e
 simp only at hk
 split at hk
 ·cases hk
 ·simp only[Option.bind_eq_some_iff]at hk
  obtain⟨l,hl,hk⟩:=hk
  split at hk
  ·rename_i h; cases hk; exact h
  ·cases hk
theorem run_eqs{t:TypeId}{x y:Operand}{yt:TypeId}{op:BinOp}{neg:Bool}{u v:AV}{l m:List Value}{ks:List LK}{r:Bool}{fs:Array Field}(ht:P.underlying t = some (.struct fs))(hg:P.eqGuardType P.depth t = false)(hk:leaves P 10 t = some ks)(hop:op = if neg then .neq else .eql)(hx:Rep w g H (a.eval x) u)(hy:Rep w g H (a.eval y) v)(hl:aggVals u = some l)(hm:aggVals v = some m)(hll:l.length = ks.length)(hml:m.length = ks.length)(h:sameCells ks l m = some r):RunV P a w g H ⟨dst,.binOp op t x y yt,ty,pos,after,gd⟩ (.p (.v (.bool (if neg then !r else r)))):=by
 obtain⟨A,hA,rfl⟩:=aggVals_rep hx hl
 obtain⟨B,hB,rfl⟩:=aggVals_rep hy hm
 have hn:=leaves_size ht hk
 obtain⟨p,q,h1,h2,h3⟩:=eqLeaf_all (P:=P) (w:=w) 10 t ks 9990 hk A B 0 r (by simpa using h)
 rw[run_part_agg ht rfl hn]at h1 h2
 cases h1
 cases h2
 have eA:A.extract 0 (0 + ks.length) = A:=by
  rw[Nat.zero_add,← hll,Array.length_toList]; simp
 have eB:B.extract 0 (0 + ks.length) = B:=by
  rw[Nat.zero_add,← hml,Array.length_toList]; simp
 rw[eA,eB]at h3
 have gd:=run_eqGuard_agg (P:=P) w op t x y A B hg
 subst hop
 cases neg
 ·refine⟨.bool r,?_,.v rfl⟩
  simp only[Bool.false_eq_true,if_false]at gd ⊢
  simp[execOp,hA,hB,gd,run_eql_struct,h3]
 ·refine⟨.bool (!r),?_,.v rfl⟩
  simp only[if_true]at gd ⊢
  simp[execOp,hA,hB,gd,run_neq_struct,h3]
theorem run_isnilI{t:TypeId}{ms:Array (String×TypeId)}{x:Operand}{yt:TypeId}{op:BinOp}{neg:Bool}{v:Value}{r:Bool}(ht:P.underlying t = some (.interface ms))(hop:op = if neg then .neq else .eql)(hx:Rep w g H (a.eval x) (.p (.v v)))(h:isNilI v = some r):RunV P a w g H ⟨dst,.binOp op t x (.const .nilIface) yt,ty,pos,after,gd⟩ (.p (.v (.bool (if neg then !r else r)))):=by
 obtain⟨hv,_⟩:=hx.val
 have he:a.eval (.const .nilIface) = .nilIface:=rfl
 cases v <;> simp[isNilI]at h
 subst h
 have key:∀ d,(Op.equalIn (d + 1) t .nilIface .nilIface).run P w = .ok true w:=fun d=>by
  simp[Op.equalIn,run_underlying ht]
 have hq:(Op.equal t .nilIface .nilIface).run P w = .ok true w:=key 9999
 subst hop
 cases neg
 ·refine⟨.bool true,?_,.v rfl⟩
  simp[execOp,hv,he,eqGuard,Go.binOp,hq]
 ·refine⟨.bool false,?_,.v rfl⟩
  simp[execOp,hv,he,eqGuard,Go.binOp,hq]
def NilKind(k:Nat)(td:TypeDesc)(z:Value):Prop :=
 (k = 0∧(∃ e,td = .pointer e)∧z = .pointer none)∨(k = 1∧(∃ a b c,td = .func a b c)∧z = .nilFunc)∨(k = 2∧(∃ a b,td = .map a b)∧z = .map none)
theorem run_isnilG{k:Nat}{t:TypeId}{td:TypeDesc}{z:Value}{x:Operand}{yt:TypeId}{op:BinOp}{neg:Bool}{u:AV}{r:Bool}(ht:P.underlying t = some td)(hz:NilKind k td z)(hop:op = if neg then .neq else .eql)(hx:Rep w g H (a.eval x) u)(h:isNilG k u = some r):RunV P a w g H ⟨dst,.binOp op t x (.const z) yt,ty,pos,after,gd⟩ (.p (.v (.bool (if neg then !r else r)))):=by
 have he:a.eval (.const z) = z:=rfl
 have fin:∀ c:Value,a.eval x = c→(∀ n,(Op.equalIn (n + 1) t c z).run P w = .ok r w)→(∀ b:Bool,(execOp a.eval ⟨dst,.binOp (if b then .neq else .eql) t x (.const z) yt,ty,pos,after,gd⟩).run P w = ((Op.equal t c z).run P w).andThen fun q w'=>.ok (.value (.bool (if b then !q else q))) w') →
   RunV P a w g H ⟨dst,.binOp op t x (.const z) yt,ty,pos,after,gd⟩ (.p (.v (.bool (if neg then !r else r)))):=fun c hc h1 h2=>by
  have hq:(Op.equal t c z).run P w = .ok r w:=h1 9999
  refine⟨.bool (if neg then !r else r),?_,.p (.v rfl)⟩
  rw[hop,h2,hq]
  rfl
 unfold isNilG at h
 rcases hz with ⟨rfl,⟨e,rfl⟩,rfl⟩ | ⟨rfl,⟨a1,b1,c1,rfl⟩,rfl⟩ | ⟨rfl,⟨a1,b1,rfl⟩,rfl⟩
 ·split at h <;> first | (cases h; done) | skip
  all_goals first | (rename_i h0; cases h0; done) | skip
  all_goals cases h
  all_goals generalize hc:a.eval x = c at hx
  ·have:=hx.val.1; subst this
   exact fin _ hc (fun n=>by simp[Op.equalIn,run_underlying ht]) (fun b=>by cases b <;> simp[execOp,hc,he,eqGuard,Go.binOp])
  ·cases hx
   exact fin _ hc (fun n=>by simp[Op.equalIn,run_underlying ht]) (fun b=>by cases b <;> simp[execOp,hc,he,eqGuard,Go.binOp])
  ·cases hx
   exact fin _ hc (fun n=>by simp[Op.equalIn,run_underlying ht]) (fun b=>by cases b <;> simp[execOp,hc,he,eqGuard,Go.binOp])
  ·cases hx
   exact fin _ hc (fun n=>by simp[Op.equalIn,run_underlying ht]) (fun b=>by cases b <;> simp[execOp,hc,he,eqGuard,Go.binOp])
  ·cases hx
   exact fin _ hc (fun n=>by simp[Op.equalIn,run_underlying ht]) (fun b=>by cases b <;> simp[execOp,hc,he,eqGuard,Go.binOp])
 ·split at h <;> first | (cases h; done) | skip
  all_goals first | (rename_i h0; cases h0; done) | skip
  all_goals cases h
  all_goals generalize hc:a.eval x = c at hx
  ·have:=hx.val.1; subst this
   exact fin _ hc (fun n=>by simp[Op.equalIn,run_underlying ht]) (fun b=>by cases b <;> simp[execOp,hc,he,eqGuard,Go.binOp])
  ·cases hx
   exact fin _ hc (fun n=>by simp[Op.equalIn,run_underlying ht]) (fun b=>by cases b <;> simp[execOp,hc,he,eqGuard,Go.binOp])
 ·split at h <;> first | (cases h; done) | skip
  all_goals first | (rename_i h0; cases h0; done) | skip
  all_goals cases h
  all_goals generalize hc:a.eval x = c at hx
  ·have:=hx.val.1; subst this
   exact fin _ hc (fun n=>by simp[Op.equalIn,run_underlying ht]) (fun b=>by cases b <;> simp[execOp,hc,he,eqGuard,Go.binOp])
  ·cases hx
   exact fin _ hc (fun n=>by simp[Op.equalIn,run_underlying ht]) (fun b=>by cases b <;> simp[execOp,hc,he,eqGuard,Go.binOp])
theorem capNil_rep{c:Value}{u:AV}{n:Nat}(hx:Rep w g H c u)(h:capNil u = some n):∃ p len,c = .slice p len n:=by
 cases u with
 | p pv =>
  cases pv with
  | nsl=>cases h; generalize hu:AV.p .nsl = u at hx; cases hx with
   | p hp=>cases hu; cases hp; exact⟨_,_,rfl⟩
   | _=>cases hu
  | v=>cases h
  | h=>cases h
  | sl=>cases h
 | lit rows =>
  simp only[capNil,Option.some.injEq]at h
  subst h
  generalize hu:AV.lit rows = u at hx
  cases hx with
  | lit hp =>
   cases hu
   cases hp with
   | nil=>exact⟨_,_,rfl⟩
   | sl cs hn _ _ _ _ _=>rw[← hn]; exact⟨_,_,rfl⟩
  | _=>cases hu
 | _=>cases h
theorem run_cap{c:Call}{x:Operand}{t e:TypeId}{v:AV}{n:Nat}(hc:c.callee = .builtin .cap)(ha:c.args.toList = [x])(ht:c.argTypes[0]? = some t)(hu:P.underlying t = some (.slice e))(hx:Rep w g H (a.eval x) v)(hn:capNil v = some n):RunV P a w g H ⟨dst,.call c,ty,pos,after,gd⟩ (.p (.v (.int .i64 n))):=by
 obtain⟨p,len,hv⟩:=capNil_rep hx hn
 have ha':c.args = #[x]:=by rw[← Array.toList_inj]; exact ha
 exact⟨.int .i64 n,by simp[execOp,resolve,hc,ha',Go.invoke,Go.builtin,Builtin.cap_,ht,run_underlying hu,hv,goInt],.v rfl⟩
theorem run_sliceArr{t e:TypeId}{len:Nat}{ti:TypeInfo}{x:Operand}{lo hi:Option Operand}{u v:AV}{l h:Int}(ht:P.underlying t = some (.array len e))(hi':P.info? e = some ti)(hsz:ti.size = 1)(hx:Rep w g H (a.eval x) u)(hl:BdA a lo 0 l)(hh:BdA a hi len h)(hv:sliceArrV len u l h = some v):RunV P a w g H ⟨dst,.slice t x lo hi none,ty,pos,after,gd⟩ v:=by
 cases u with
 | ptr r off =>
  simp only[sliceArrV]at hv
  split at hv
  ·rename_i hc
   obtain⟨c1,c2,c3,c4⟩:=hc
   cases hv
   generalize hcx:a.eval x = cx at hx
   cases hx with
   | ptr hH =>
    rename_i c
    have hb:=run_bounds (P:=P) (w:=w) (isSlice:=false) (len:=len) (cap:=len) (mx:=none) (m:=len) (hl.ok (d:=0) c1) (hh.ok (d:=len) (by omega)) (.inl ⟨rfl,rfl⟩) (by simp) (by omega) (by omega) (Nat.le_refl _)
    have hne:¬ len = l.toNat:=by omega
    refine⟨.slice (some ⟨g.blk r,off + l.toNat,none⟩) (h.toNat - l.toNat) (len - l.toNat),?_,.csl hH (by omega)⟩
    simp[execOp,hcx,Instr.sliceAt,run_underlying ht,Instr.sureAddr,hb,sizeOf,typeInfo,hi',hne,hsz,addr_add]
  ·cases hv
 | _=>simp[sliceArrV]at hv
theorem sim_s2b{s d e:TypeId}{x:Operand}{t:ByteArray}(hs0:StRel w g H)(hs:P.underlying s = some .string)(hd:P.underlying d = some (.slice e))(he:P.underlying e = some (.int .u8))(hx:Rep w g H (a.eval x) (.p (.v (.string t)))) :
  OpSim P a w g H ⟨dst,.convert s d x,ty,pos,after,gd⟩ (.p (.sl (strRows t))) H:=by
 have hr:=run_bytes_of_string (P:=P) w s d e t hs hd he
 have hge:=grownCap_ge w t.size 0 e
 have hp:Pushed w (w.drew.alloc (.cells (bytesRow t (grownCap w t.size 0 e)) e ((bytesRow t (grownCap w t.size 0 e)).size,(bytesRow t (grownCap w t.size 0 e)).size + 1))) (.cells (bytesRow t (grownCap w t.size 0 e)) e ((bytesRow t (grownCap w t.size 0 e)).size,(bytesRow t (grownCap w t.size 0 e)).size + 1)):=⟨rfl,rfl,rfl,⟨rfl,by first | exact Nat.le_refl _ | exact Nat.le_succ _⟩⟩
 obtain⟨e1,e2⟩:=evo_lit hp hs0
 refine⟨.slice (some ⟨w.heap.size,0,none⟩) t.size (grownCap w t.size 0 e),_,_,.inl (by simp[execOp,hx.val.1,hr]),e1,e2,.inr (.p (RepP.of_rows (es:=1) (by simp[strRows]) hge (by simp[strRows]) (fun i j row v hi hj=>⟨.inr rfl,?_⟩)))⟩
 simp only[strRows,List.getElem?_map,Option.map_eq_some_iff,Array.getElem?_toList]at hi
 obtain⟨b,hb,rfl⟩:=hi
 cases j with
 | succ j=>simp at hj
 | zero =>
  simp at hj
  subst hj
  obtain⟨hlt,rfl⟩:=Array.getElem?_eq_some_iff.1 hb
  refine⟨_,?_,.v rfl⟩
  rw[cellAt_cells hp.new]
  simpa using bytesRow_at t _ i hlt
theorem run_append_zeros{t tn ty e:TypeId}{i:TypeInfo}{z:Value}{k j:IntKind}(ht:P.underlying t = some (.slice e))(htn:P.underlying tn = some (.int k))(hi:P.info? e = some i)(hz:i.zero = some z)(q:Option Addr)(n:Nat)(h0:0 < n)(h48:n * i.bytes ≤ 140737488355328)(hb:i.bytes ≠ 0)(hzs:z.cells.size = i.size)(hs0:i.size ≠ 0) :
  (Builtin.append_ #[t,tn] ty #[.slice q 0 0,.int j n]).run P w =
   .ok (.slice (some ⟨w.heap.size,0,none⟩) n (grownCap w n 0 e)) (w.drew.alloc (.cells (Builtin.zeroCells z.cells n++Builtin.zeroCells z.cells (grownCap w n 0 e - n)) e)):=by
 have hle:n ≤ n * i.bytes:=by
  have:n * 1 ≤ n * i.bytes:=Nat.mul_le_mul_left _ (by omega)
  omega
 have hw:IntKind.i64.wrap (n:Int) = n:=by
  rw[show IntKind.i64.wrap (n:Int) = ((n:Int) + 9223372036854775808) % 18446744073709551616 - 9223372036854775808 by simp[IntKind.wrap,IntKind.bits,IntKind.signed]; split <;> omega]
  omega
 have hn:n ≠ 0:=by omega
 have h63':¬ (9223372036854775807 < (n:Int)):=by omega
 have h48':¬ (281474976710656 < Builtin.nextslicecap n 0 * i.bytes):=by rw[nextslicecap_zero h0]; omega
 have h48'':¬ (281474976710656 < (n:Int) * (i.bytes:Int)):=by
  have h1:=Int.ofNat_le.2 h48
  rw[Int.natCast_mul]at h1
  omega
 have hnn:¬ ((n:Int) < 0):=by omega
 have hnn2:¬ (n:Int) ≤ -1:=by omega
 have hfo:∀ w':World,(Builtin.firstCells i.size 0 (.slice q 0 0)).run P w' = .ok #[] w':=fun w'=>by
  cases q <;> simp[Builtin.firstCells,loadCells,loadCellsFrom]
 have hai:∀ w':World,(Go.asInt (.int j (n:Int))).run P w' = .ok (n:Int) w':=fun _=>rfl
 simp[Builtin.append_,run_underlying ht,run_underlying htn,sizeOf,typeInfo,zeroValue,hi,hz,hai,hw,hnn,hn,h63',h48',h48'',Question.forced,hfo,newRow,grownCap,hs0]
 intro h
 rcases Nat.mul_eq_zero.1 h with h | h
 ·omega
 ·exact absurd h hs0
theorem zeroCells_get{z:Array Value}{n size i j:Nat}(hz:z.size = size)(hi:i < n)(hj:j < size):(Builtin.zeroCells z n)[i * size + j]? = z[j]?:=by
 subst hz
 exact madeCells_get rfl hi hj
theorem sim_append_ar{o:Oper}{l es ver:Nat}{fz:Option Nat}{rows ys:List (List PV)}{xv:Value}{news:List Value}{e:TypeId}{z:Value}(hs:StRel w g H)(hH:H[l]? = some (.arr es fz ver rows))(hx:Rep w g H xv (.ar l ver 0 rows.length))(hes:∀ r ∈ ys,r.length = es)(hnews:News w g.D es ys news)(hzs:z.cells.size = es)(hroom:∀ (b of cap:Nat) (cur:Array Value) (te:TypeId),xv = .slice (some ⟨b,of,none⟩) rows.length cap→w.heap[b]? = some (.cells cur te (0,0))→rows.length + ys.length ≤ cap→of + rows.length * es + news.length ≤ cur.size →
   (execOp a.eval o).run P w = .ok (.value (.slice (some ⟨b,of,none⟩) (rows.length + ys.length) cap)) (w.setRow b (cur.toList.take (of + rows.length * es)++news++cur.toList.drop (of + rows.length * es + news.length)).toArray))(hgrow:∀ (b:Addr) (cap:Nat) (olds:List Value),xv = .slice (some b) rows.length cap→olds.length = rows.length * es→(∀ k u,olds[k]? = some u→w.cell? (b.add k) = some u)→cap < rows.length + ys.length →
   (execOp a.eval o).run P w = .ok (.value (.slice (some ⟨w.heap.size,0,none⟩) (rows.length + ys.length) (grownCap w (rows.length + ys.length) cap e)))
    (w.drew.alloc (.cells ((olds++news).toArray++Builtin.zeroCells z.cells (grownCap w (rows.length + ys.length) cap e - (rows.length + ys.length))) e))) :
  OpSim P a w g H o (.ar l (ver + 1) 0 (rows.length + ys.length)) (H.set l (.arr es fz (ver + 1) (rows++ys))):=by
 obtain⟨p,cap,hxv,hA⟩:=hx.ar_inv
 obtain⟨h1,h2,es2,fz2,ver2,rows2,hH2,_,_,hf⟩:=hA
 rw[hH]at hH2
 cases hH2
 have hsn:seen fz ver ver = true:=by
  have:=hs.stand l _ hH
  cases fz with
  | none=>simp[seen]
  | some f=>simpa [seen] using this.1
 obtain⟨_,hf2,_⟩:=hf hsn
 obtain⟨rfl,rfl⟩:=hf2 rfl rfl
 have hlt:l < H.length:=(List.getElem?_eq_some_iff.1 hH).1
 have hself:(H.set l (.arr es fz (ver + 1) (rows++ys)))[l]? = some (.arr es fz (ver + 1) (rows++ys)):=List.getElem?_set_self hlt
 have hlen:(rows++ys).length = rows.length + ys.length:=List.length_append
 by_cases hr:rows.length + ys.length ≤ g.cap l
 ·obtain⟨vs,te,g',b1,b2,b3,b4,b5,b6,b7⟩:=evo_room hs hH hes hnews hr
  refine⟨.slice (some ⟨g.blk l,g.base l,none⟩) (rows.length + ys.length) (g.cap l),_,g',.inl (hroom _ _ _ _ _ hxv b1 hr b2),b3,b4,.inr ?_⟩
  have:=ar_whole b4 hself
  rwa [b5,b6,b7,hlen]at this
 ·obtain⟨_,hesx,_,h5,_⟩:=hs.objs _ _ hH
  obtain⟨olds,ho1,ho2⟩:=news_of hesx h5
  have hrun:=hgrow _ _ olds hxv ho1.1 ho2 (by omega)
  have hge:=grownCap_ge w (rows.length + ys.length) (g.cap l) e
  obtain⟨r1,r2⟩:=grown_rows (cap:=grownCap w (rows.length + ys.length) (g.cap l) e) (ho1.append hnews) hzs (by rw[hlen]; exact hge)
  rw[hlen]at r1 r2
  obtain⟨g',b3,b4,b5,b6,b7,_⟩:=evo_grow hs hH (w':=w.drew.alloc (.cells ((olds++news).toArray++Builtin.zeroCells z.cells (grownCap w (rows.length + ys.length) (g.cap l) e - (rows.length + ys.length))) e)) ⟨rfl,rfl,rfl,⟨rfl,Nat.le_succ _⟩⟩ hes hge r1 r2
  refine⟨_,_,g',.inl hrun,b3,b4,.inr ?_⟩
  have:=ar_whole b4 hself
  rwa [b5,b6,b7,hlen]at this
section
variable{t tn ty e:TypeId}{i:TypeInfo}{z:Value}{k j:IntKind}(ht:P.underlying t = some (.slice e))(htn:P.underlying tn = some (.int k))(hi:P.info? e = some i)(hz:i.zero = some z)(m:Nat)(h0:0 < m)(h48:m * i.bytes ≤ 140737488355328)(hb:i.bytes ≠ 0)(hs0:i.size ≠ 0)
include ht htn hi hz h0 h48 hb hs0
theorem run_appendZ_room{b o sLen sCap:Nat}{cur:Array Value}{te:TypeId}(hg:w.heap[b]? = some (.cells cur te (0,0)))(h1:∀ u ∈ (Builtin.zeroCells z.cells m).toList,u.oneCell' = true)(hroom:sLen + m ≤ sCap)(hfit:o + sLen * i.size + (Builtin.zeroCells z.cells m).toList.length ≤ cur.size) :
  (Builtin.append_ #[t,tn] ty #[.slice (some ⟨b,o,none⟩) sLen sCap,.int j m]).run P w =
   .ok (.slice (some ⟨b,o,none⟩) (sLen + m) sCap) (w.setRow b (cur.toList.take (o + sLen * i.size)++(Builtin.zeroCells z.cells m).toList++cur.toList.drop (o + sLen * i.size + (Builtin.zeroCells z.cells m).toList.length)).toArray):=by
 have hle:m ≤ m * i.bytes:=by
  have:m * 1 ≤ m * i.bytes:=Nat.mul_le_mul_left _ (by omega)
  omega
 have hw:IntKind.i64.wrap (m:Int) = m:=by
  rw[show IntKind.i64.wrap (m:Int) = ((m:Int) + 9223372036854775808) % 18446744073709551616 - 9223372036854775808 by simp[IntKind.wrap,IntKind.bits,IntKind.signed]; split <;> omega]
  omega
 have h48'':¬ (281474976710656 < (m:Int) * (i.bytes:Int)):=by
  have h1:=Int.ofNat_le.2 h48
  rw[Int.natCast_mul]at h1
  omega
 have hnn:¬ ((m:Int) < 0):=by omega
 have hai:∀ w':World,(Go.asInt (.int j (m:Int))).run P w' = .ok (m:Int) w':=fun _=>rfl
 have hm0:¬ (m = 0∨i.size = 0):=by omega
 have hm1:¬ (m * i.size = 0):=Nat.mul_ne_zero (by omega) hs0
 have hst:=run_storeCells_at P b (o + sLen * i.size) te (Builtin.zeroCells z.cells m).toList 0 cur w hg (by simpa using hfit) h1
 simp only[Nat.add_zero]at hst
 simp[Builtin.append_,run_underlying ht,run_underlying htn,sizeOf,typeInfo,zeroValue,hi,hz,hai,hw,hnn,h48'',hroom,hm0,hm1,addr_add,hst]
theorem run_appendZ_grow{b:Addr}{sLen sCap:Nat}{olds:List Value}(hlo:olds.length = sLen * i.size)(holds:∀ j v,olds[j]? = some v→w.cell? (b.add j) = some v)(hg:sCap < sLen + m)(h63:((sLen + m:Nat):Int) ≤ 9223372036854775807)(hfit:Builtin.nextslicecap (sLen + m) sCap * i.bytes ≤ 281474976710656) :
  (Builtin.append_ #[t,tn] ty #[.slice (some b) sLen sCap,.int j m]).run P w =
   .ok (.slice (some ⟨w.heap.size,0,none⟩) (sLen + m) (grownCap w (sLen + m) sCap e))
    (w.drew.alloc (.cells ((olds++(Builtin.zeroCells z.cells m).toList).toArray++Builtin.zeroCells z.cells (grownCap w (sLen + m) sCap e - (sLen + m))) e)):=by
 have hle:m ≤ m * i.bytes:=by
  have:m * 1 ≤ m * i.bytes:=Nat.mul_le_mul_left _ (by omega)
  omega
 have hw:IntKind.i64.wrap (m:Int) = m:=by
  rw[show IntKind.i64.wrap (m:Int) = ((m:Int) + 9223372036854775808) % 18446744073709551616 - 9223372036854775808 by simp[IntKind.wrap,IntKind.bits,IntKind.signed]; split <;> omega]
  omega
 have h48'':¬ (281474976710656 < (m:Int) * (i.bytes:Int)):=by
  have h1:=Int.ofNat_le.2 h48
  rw[Int.natCast_mul]at h1
  omega
 have hnn:¬ ((m:Int) < 0):=by omega
 have hai:∀ w':World,(Go.asInt (.int j (m:Int))).run P w' = .ok (m:Int) w':=fun _=>rfl
 have hm0:¬ (m = 0∨i.size = 0):=by omega
 have hm1:¬ (m * i.size = 0):=Nat.mul_ne_zero (by omega) hs0
 have hn:¬ (sLen + m ≤ sCap):=by omega
 have h63':¬ (9223372036854775807 < ((sLen:Int) + (m:Int))):=by omega
 have h48':¬ (281474976710656 < Builtin.nextslicecap (sLen + m) sCap * i.bytes):=by omega
 have hfo:=run_firstCells_some (P:=P) w.drew i.size sLen b sLen sCap olds hlo (by simpa using holds)
 simp[Builtin.append_,run_underlying ht,run_underlying htn,sizeOf,typeInfo,zeroValue,hi,hz,hai,hw,hnn,h48'',hn,h63',h48',hm0,hm1,Question.forced,hfo,newRow,grownCap]
 congr 2
 apply Array.ext'
 simp[List.append_assoc]
end
theorem news_zeros{z:Value}{zero:List PV}{m:Nat}(hzl:z.cells.size = zero.length)(hzr:∀ (D:Nat→Nat→Prop) (j:Nat) (c:Value) (x:PV),z.cells[j]? = some c→zero[j]? = some x→RepP w D c x)(h1:∀ (j:Nat) (c:Value),z.cells[j]? = some c→c.oneCell' = true) :
  News w g.D zero.length (List.replicate m zero) (Builtin.zeroCells z.cells m).toList:=by
 refine⟨by rw[Array.length_toList,size_zeroCells,hzl]; simp,fun u hu=>?_,fun i j row x hrow hx=>?_⟩
 ·obtain⟨q,hq,rfl⟩:=List.mem_iff_getElem.1 hu
  have hq':q < m * z.cells.size:=by simpa [size_zeroCells] using hq
  have hpos:0 < z.cells.size:=by
   rcases Nat.eq_zero_or_pos z.cells.size with h | h
   ·rw[h]at hq'; simp at hq'
   ·exact h
  have hlt:q % z.cells.size < z.cells.size:=Nat.mod_lt _ hpos
  have:(Builtin.zeroCells z.cells m)[q]? = some (z.cells[q % z.cells.size]):=by
   simp[Builtin.zeroCells,hq',hlt]
  rw[Array.getElem_toList]
  have e:=Array.getElem?_eq_getElem (xs:=Builtin.zeroCells z.cells m) (i:=q) (by simpa using hq)
  rw[e]at this
  rw[Option.some.inj this]
  exact h1 (q % z.cells.size) _ (by simp[hlt])
 ·rw[List.getElem?_replicate]at hrow
  split at hrow
  ·rename_i hin
   cases hrow
   have hj:j < zero.length:=(List.getElem?_eq_some_iff.1 hx).1
   have hjz:j < z.cells.size:=by omega
   refine⟨z.cells[j],?_,hzr _ j _ _ (by simp[hjz]) hx⟩
   rw[Array.getElem?_toList,zeroCells_get hzl hin hj]
   simp[hjz]
  ·cases hrow
theorem sim_appendZ{kn:TypeId→Bool}{c:Call}{x y:Operand}{t tn e:TypeId}{ti:TypeInfo}{zero:List PV}{k j:IntKind}{u v:AV}{n:Int}{H':List Obj}(hs:StRel w g H)(hc:c.callee = .builtin .append)(ha:c.args.toList = [x,y])(hat:c.argTypes.toList = [t,tn])(ht:P.underlying t = some (.slice e))(htn:P.underlying tn = some (.int k))(hi:P.info? e = some ti)(hz:zeroP P kn e = some zero)(hl:zero.length = ti.size)(hb:ti.bytes ≠ 0)(hs0:ti.size ≠ 0)(hx:Rep w g H (a.eval x) u)(hy:Rep w g H (a.eval y) (.p (.v (.int j n))))(h:appendZV H ti.bytes zero u n = some (v,H')):OpSim P a w g H ⟨dst,.call c,ty,pos,after,gd⟩ v H':=by
 unfold appendZV at h
 split at h
 ·rename_i hcond
  obtain⟨c1,c2,c3⟩:=hcond
  cases h
  obtain⟨i,z,hi',hz',hzl,hzr⟩:=zeroP_rep (w:=w) hz
  rw[hi]at hi'
  cases hi'
  obtain⟨q,hq⟩:∃ q,a.eval x = .slice q 0 0:=by
   generalize hcx:a.eval x = cx at hx
   cases hx with
   | p hp =>
    cases hp with
    | nsl=>exact⟨_,rfl⟩
    | v=>simp[emptyNow]at c1
    | h=>simp[emptyNow]at c1
    | nil=>simp[emptyNow]at c1
    | sl=>simp[emptyNow]at c1
   | lit hp =>
    rename_i q m rows
    cases rows with
    | nil =>
     cases hp with
     | nil=>exact⟨_,rfl⟩
     | sl cs hn=>cases hn; exact⟨_,rfl⟩
    | cons=>simp[emptyNow]at c1
   | _=>simp[emptyNow]at c1
  obtain⟨m,rfl⟩:∃ m:Nat,n = m:=⟨n.toNat,by omega⟩
  simp only[Int.toNat_natCast]at c3 ⊢
  have hr:=run_append_zeros (P:=P) (w:=w) (ty:=ty) (j:=j) ht htn hi hz' q m (by omega) c3 hb (by omega) hs0
  have hge:=grownCap_ge w m 0 e
  have ha':c.args = #[x,y]:=by rw[← Array.toList_inj]; exact ha
  have hat':c.argTypes = #[t,tn]:=by rw[← Array.toList_inj]; exact hat
  have hlen:(List.replicate m zero).length = m:=by simp
  have:=sim_newArr (P:=P) (a:=a) (o:=⟨dst,.call c,ty,pos,after,gd⟩) (rows:=List.replicate m zero) (es:=zero.length) (cap:=grownCap w m 0 e)
   (w':=w.drew.alloc (.cells (Builtin.zeroCells z.cells m++Builtin.zeroCells z.cells (grownCap w m 0 e - m)) e)) hs
   (by rw[hlen]; simp[execOp,resolve,hc,ha',hat',Go.invoke,Go.builtin,hq,hy.val.1,hr]) ⟨rfl,rfl,rfl,⟨rfl,by first | exact Nat.le_refl _ | exact Nat.le_succ _⟩⟩ (by rw[hlen]; exact hge) (fun r hr=>by simp at hr; rw[hr.2])
   (by rw[Array.size_append,size_zeroCells,size_zeroCells,← Nat.add_mul,hzl]; exact Nat.mul_le_mul_right _ (by omega)) (fun i j row x hrow hx'=>by
    rw[List.getElem?_replicate]at hrow
    split at hrow
    ·rename_i hin
     cases hrow
     have hj:j < zero.length:=(List.getElem?_eq_some_iff.1 hx').1
     have hjz:j < z.cells.size:=by omega
     have hlt:i * zero.length + j < (Builtin.zeroCells z.cells m).size:=by
      rw[size_zeroCells,hzl]
      have:=row_fit (es:=zero.length) hin
      omega
     refine⟨z.cells[j],?_,hzr _ j _ _ (by simp[hjz]) hx'⟩
     rw[Array.getElem?_append_left hlt,zeroCells_get hzl hin hj]
     simp[hjz]
    ·cases hrow)
  rwa [hlen]at this
 ·split at h
  ·rename_i l v' len
   split at h
   ·rename_i es fz ver rows hH
    split at h
    ·rename_i hcond
     obtain⟨rfl,rfl,rfl,c2,c3⟩:=hcond
     cases h
     obtain⟨i,z,hi',hz',hzl,hzr⟩:=zeroP_rep (w:=w) hz
     rw[hi]at hi'
     cases hi'
     obtain⟨m,rfl⟩:∃ m:Nat,n = m:=⟨n.toNat,by omega⟩
     simp only[Int.toNat_natCast]at c3 ⊢
     have hm:0 < m:=by omega
     have ha':c.args = #[x,y]:=by rw[← Array.toList_inj]; exact ha
     have hat':c.argTypes = #[t,tn]:=by rw[← Array.toList_inj]; exact hat
     have hone:∀ (j:Nat) (c:Value),z.cells[j]? = some c→c.oneCell' = true:=fun j c hc=>by
      unfold zeroP at hz
      rw[hi]at hz
      simp only[Option.bind_some,hz']at hz
      obtain⟨q1,q2⟩:=mapM_some hz
      have hj:j < z.cells.size:=(Array.getElem?_eq_some_iff.1 hc).1
      have:=q2 j c (zero[j]'(by simp at q1; omega)) (by simpa using hc) (by simp)
      unfold cvtP at this
      split at this <;> first | rfl | (cases this; done) | skip
      cases c <;> first | rfl | simp_all
     have hn:=news_zeros (w:=w) (g:=g) (m:=m) hzl hzr hone
     have hb1:m * ti.bytes ≤ (rows.length + m) * ti.bytes:=Nat.mul_le_mul_right _ (by omega)
     have hb2:(rows.length + m) * 1 ≤ (rows.length + m) * ti.bytes:=Nat.mul_le_mul_left _ (by omega)
     have hrl:(List.replicate m zero).length = m:=by simp
     have:=sim_append_ar (P:=P) (a:=a) (o:=⟨dst,.call c,ty,pos,after,gd⟩) (xv:=a.eval x) (e:=e) (z:=z) (ys:=List.replicate m zero) hs hH hx (fun r hr=>by simp at hr; rw[hr.2]) hn hzl
      (fun b of cap cur te hxv hcur hroom hfit=>by
       rw[hl]at hfit ⊢
       rw[hrl]at hroom ⊢
       have hr:=run_appendZ_room (P:=P) (ty:=ty) (j:=j) ht htn hi hz' m hm (by omega) hb hs0 hcur hn.2.1 hroom hfit
       simp only[execOp,resolve,hc,ha',hat',Go.invoke,Go.builtin]
       simp[hxv,hy.val.1,hr])
      (fun b cap olds hxv hlo holds hlt=>by
       rw[hl]at hlo
       rw[hrl]at hlt ⊢
       have hr:=run_appendZ_grow (P:=P) (w:=w) (ty:=ty) (j:=j) ht htn hi hz' m hm (by omega) hb hs0 hlo holds hlt (by omega) (growslice_fits (by omega) c3)
       simp only[execOp,resolve,hc,ha',hat',Go.invoke,Go.builtin]
       simp[hxv,hy.val.1,hr])
     rwa [hrl]at this
    ·cases h
   ·cases h
  ·cases h
end
end Go.Proofs.YtchgldaddcolhaaGreatDoor
namespace Go.Proofs.YtchgldaddcolhaaGreatDoor
open Go
variable[Sub]
section
variable{P:Program}{w:World}
def ChkLeaf(P:Program)(w:World)(em:Bool)(dd:Nat)(t:TypeId)(n:Nat):Prop :=
 ∀ (xs:Array Value) (off:Nat),off + n ≤ xs.size→∃ a,(part t xs off).run P w = .ok a w∧(Instr.checkKey em dd t a).run P w = .ok () w
theorem chk_plain{t:TypeId}{d:TypeDesc}(em:Bool)(n:Nat)(v:Value)(ht:P.underlying t = some d)(hd:(∃ q,d = .int q)∨d = .bool∨d = .string):(Instr.checkKey em (n + 1) t v).run P w = .ok () w:=by
 rcases hd with ⟨q,rfl⟩ | rfl | rfl <;> (simp only[Instr.checkKey,Sem.run_bind,run_underlying ht,Result.andThen_ok]; rfl)
mutual
theorem chk_all (em:Bool):∀ (d:Nat) (t:TypeId) (ks:List LK) (D:Nat),leaves P d t = some ks→ChkLeaf P w em (D + d) t ks.length
 | 0,t,ks,D,h=>by simp[leaves]at h
 | d + 1,t,ks,D,h=>by
  intro xs off hoff
  simp only[leaves,Option.bind_eq_some_iff,under]at h
  obtain⟨td,htd,h⟩:=h
  have one:aggT td = false→ks.length = 1→((∃ q,td = .int q)∨td = .bool∨td = .string)→∃ a,(part t xs off).run P w = .ok a w∧(Instr.checkKey em (D + (d + 1)) t a).run P w = .ok () w:=fun h1 h2 h3 =>
   ⟨_,run_part_one (v:=xs[off]'(by omega)) htd h1 (by simp),chk_plain em (D + d) _ htd h3⟩
  cases td with
  | int k0 =>
   simp only at h
   split at h
   ·cases h; exact one rfl rfl (.inl ⟨_,rfl⟩)
   ·cases h
  | bool =>
   simp only at h
   split at h
   ·cases h; exact one rfl rfl (.inr (.inl rfl))
   ·cases h
  | string =>
   simp only at h
   split at h
   ·cases h; exact one rfl rfl (.inr (.inr rfl))
   ·cases h
  | struct fs =>
   simp only at h
   split at h
   ·cases h
   ·simp only[Option.bind_eq_some_iff]at h
    obtain⟨l,hl,h⟩:=h
    split at h
    ·rename_i hsz
     cases h
     refine⟨_,run_part_agg htd rfl hsz,?_⟩
     rw[show D + (d + 1) = (D + d) + 1 from rfl,Instr.checkKey]
     simp only[Sem.run_bind,run_underlying htd,Result.andThen_ok]
     rw[← Array.forIn_toList]
     have hsz':0 + ks.length ≤ (xs.extract off (off + ks.length)).size:=by simp; omega
     revert hl hsz'
     generalize xs.extract off (off + ks.length) = ys
     generalize (0:Nat) = n
     generalize fs.toList = L
     clear hoff hsz one
     induction L generalizing n ks with
     | nil=>intro _ _; simp
     | cons f L ih =>
      intro hl hs
      simp only[leavesFs]at hl
      split at hl
      ·cases hl
      ·rename_i hc
       rw[not_or,Decidable.not_not]at hc
       obtain⟨hn,ho⟩:=hc
       simp only[Option.bind_eq_some_iff,Option.map_eq_some_iff]at hl
       obtain⟨l,hl,m,hm,rfl⟩:=hl
       simp only[List.length_append]at hs
       obtain⟨a,p1,p2⟩:=chk_all em d f.type l D hl ys n (by omega)
       rw[← ho]at p1
       simp only[List.forIn_cons,Sem.run_bind,hn,ne_eq,not_false_eq_true,if_true,Result.andThen_ok,p1,p2,Sem.run_pure]
       exact ih m (n + l.length) hm (by omega)
    ·cases h
  | array len e =>
   simp only[Option.bind_eq_some_iff]at h
   obtain⟨l,hl,h⟩:=h
   split at h
   ·rename_i hsz
    cases h
    obtain⟨i,hi,hi2,hc⟩:=sizeT_cellsOf hsz.1
    refine⟨_,run_part_agg htd rfl hsz.2,?_⟩
    have IH:=chk_all em d e l D hl
    rw[show D + (d + 1) = (D + d) + 1 from rfl,Instr.checkKey]
    simp only[Sem.run_bind,run_underlying htd,Result.andThen_ok]
    simp only[Std.Legacy.Range.forIn_eq_forIn_range',Std.Legacy.Range.size,Nat.sub_zero,Nat.add_one_sub_one,Nat.div_one]
    have hlen:(List.replicate len l).flatten.length = len * l.length:=by simp
    have hys:(xs.extract off (off + len * l.length)).size = len * l.length:=by
     rw[hlen]at hoff
     simp; omega
    have each:∀ j ∈ List.range' 0 len,j < len:=fun j hj=>by simp at hj; omega
    revert hys
    generalize xs.extract off (off + len * l.length) = ys
    intro hys
    generalize List.range' 0 len = is at each
    induction is with
    | nil=>simp
    | cons j is ih =>
     have hj:=each j (by simp)
     have hm:j * l.length + l.length ≤ len * l.length:=by
      have:=Nat.mul_le_mul_right l.length (show j + 1 ≤ len by omega); rw[Nat.add_mul,Nat.one_mul]at this; exact this
     obtain⟨a,p1,p2⟩:=IH ys (j * l.length) (by omega)
     simp only[List.forIn_cons,Sem.run_bind,run_sizeOf w hi,Result.andThen_ok,hc,p1,p2,Sem.run_pure]
     exact ih (fun y hy=>each y (by simp[hy]))
   ·cases h
  | _=>cases h
end
theorem chk_key{em:Bool}{t:TypeId}{d:TypeDesc}{ks:List LK}{k:Value}(h:leaves P 10 t = some ks)(ht:P.underlying t = some d)(hk:keyOk (aggT d) ks k = true):(Instr.checkKey em 10000 t k).run P w = .ok () w:=by
 simp only[keyOk,Bool.and_eq_true,beq_iff_eq]at hk
 cases hd:aggT d with
 | false =>
  refine chk_plain em 9999 _ ht ?_
  rw[show (10:Nat) = 9 + 1 from rfl,leaves,under,ht,Option.bind_some]at h
  cases d <;> first | (cases h; done) | (exact .inl ⟨_,rfl⟩) | (exact .inr (.inl rfl)) | (exact .inr (.inr rfl)) | (simp[aggT]at hd)
 | true =>
  rw[hd]at hk
  cases k <;> first | (simp[isAggV]at hk; done) | skip
  rename_i xs
  obtain⟨a,p1,p2⟩:=chk_all (w:=w) em 10 t ks 9990 h xs 0 (by have h2:=hk.2; rw[show (keyCells (.agg xs)).length = xs.size from Array.length_toList]at h2; omega)
  have hs:sizeT P t = some ks.length:=by
   rw[show (10:Nat) = 9 + 1 from rfl,leaves,under,ht,Option.bind_some]at h
   cases d <;> first | (simp[aggT]at hd; done) | skip
   ·simp only[Option.bind_eq_some_iff]at h
    obtain⟨l,_,h⟩:=h
    split at h
    ·rename_i hsz; cases h; simpa using hsz.2
    ·cases h
   ·simp only at h
    split at h
    ·cases h
    ·simp only[Option.bind_eq_some_iff]at h
     obtain⟨l,_,h⟩:=h
     split at h
     ·rename_i hsz; cases h; exact hsz
     ·cases h
  rw[run_part_agg ht hd hs]at p1
  have e:xs.extract 0 (0 + ks.length) = xs:=by
   rw[Nat.zero_add,← hk.2]; simp[keyCells]
  rw[e]at p1
  cases p1
  exact p2
end
section
variable{P:Program}{w:World}{g:Gh}{H:List Obj}
variable{a:Act}{dst:Option Tmp}{ty:TypeId}{pos:String}{after:Array Edge}{gd:Option (Nat×Bool)}
structure KeyTy (P:Program) (t key el:TypeId) (q:Bool) (ks:List LK) (d:TypeDesc):Prop where
 map:P.underlying t = some (.map key el)
 und:P.underlying key = some d
 lv:leaves P 10 key = some ks
 agg:aggT d = q
theorem keyTy_some{t el:TypeId}{q:Bool×List LK}(h:keyT P t = some q)(he:elemT P t = some el):∃ key d,KeyTy P t key el q.1 q.2 d:=by
 unfold keyT under at h
 unfold elemT under at he
 split at h
 ·rename_i k e hm
  rw[hm]at he
  simp only[Option.some.injEq]at he
  subst he
  simp only[Option.bind_eq_some_iff,Option.some.injEq]at h
  obtain⟨d,hd,ks,hk,rfl⟩:=h
  exact⟨k,d,hm,hd,hk,rfl⟩
 ·cases h
theorem sameNow_of{key:TypeId}{ks:List LK}{d:TypeDesc}{k j:Value}{t:Bool}(hd:P.underlying key = some d)(hl:leaves P 10 key = some ks)(hg:aggT d = false)(hk:keyOk false ks k = true)(h:sameKey false ks (keyCells k) j = some t):Instr.sameNow d k j = some t:=by
 simp only[keyOk,Bool.and_eq_true,beq_iff_eq]at hk
 have hkc:keyCells k = [k]:=by cases k <;> first | rfl | (simp[isAggV]at hk)
 unfold sameKey at h
 split at h
 ·rename_i hj
  have hjc:keyCells j = [j]:=by cases j <;> first | rfl | (simp[isAggV]at hj)
  rw[hkc,hjc]at h
  generalize hx:[k] = lx at h
  generalize hy:[j] = ly at h
  rw[show (10:Nat) = 9 + 1 from rfl,leaves,under,hd,Option.bind_some]at hl
  cases d with
  | int q =>
   simp only at hl
   split at hl
   ·cases hl
    unfold sameCells at h
    split at h
    ·rename_i h0; cases h0
    ·rename_i h0; cases h0
     cases hx; cases hy
     split at h
     ·rename_i hq
      rw[sameCells_one]at h
      simp only[Instr.sameNow,if_pos hq,h]
     ·cases h
    ·rename_i h0; cases h0
    ·rename_i h0; cases h0
    ·cases h
   ·cases hl
  | bool =>
   simp only at hl
   split at hl
   ·cases hl
    unfold sameCells at h
    split at h
    ·rename_i h0; cases h0
    ·rename_i h0; cases h0
    ·rename_i h0; cases h0
     cases hx; cases hy
     rw[sameCells_one]at h
     simp only[Instr.sameNow,h]
    ·rename_i h0; cases h0
    ·cases h
   ·cases hl
  | string =>
   simp only at hl
   split at hl
   ·cases hl
    unfold sameCells at h
    split at h
    ·rename_i h0; cases h0
    ·rename_i h0; cases h0
    ·rename_i h0; cases h0
    ·rename_i h0; cases h0
     cases hx; cases hy
     rw[sameCells_one]at h
     simp only[Instr.sameNow,beq_toListBytes,h]
    ·cases h
   ·cases hl
  | struct fs=>simp[aggT]at hg
  | array n e=>simp[aggT]at hg
  | _=>cases hl
 ·cases h
theorem equal_of{key:TypeId}{ks:List LK}{d:TypeDesc}{k j:Value}{t:Bool}(hd:P.underlying key = some d)(hl:leaves P 10 key = some ks)(hg:aggT d = true)(hk:keyOk true ks k = true)(h:sameKey true ks (keyCells k) j = some t):(Op.equal key k j).run P w = .ok t w:=by
 simp only[keyOk,Bool.and_eq_true,beq_iff_eq]at hk
 unfold sameKey at h
 split at h
 ·rename_i hja
  cases k <;> first | (simp[isAggV]at hk; done) | skip
  cases j <;> first | (simp[isAggV]at hja; done) | skip
  rename_i xs ys
  simp only[keyCells]at h hk
  rw[show (10:Nat) = 9 + 1 from rfl,leaves,under,hd,Option.bind_some]at hl
  cases d with
  | struct fs =>
   simp only at hl
   split at hl
   ·cases hl
   ·rename_i hst
    simp only[Option.bind_eq_some_iff]at hl
    obtain⟨l,hl,h'⟩:=hl
    split at h'
    ·rename_i hsz
     cases h'
     have hfs:P.fieldsOf key = fs:=by simp[Program.fieldsOf,hd]
     rw[show Op.equal key (.agg xs) (.agg ys) = Op.equalIn ((9990 + 9) + 1) key (.agg xs) (.agg ys) from rfl]
     rw[run_equalIn_struct w _ key _ _ (by rw[hfs]; exact hd) (by simpa using hst),hfs]
     exact eqLeaf_fields (lv:=leaves P 9) (fun t ks h=>eqLeaf_all 9 t ks _ h) _ _ fs.toList 0 ks t hl (by simpa using h)
    ·cases h'
  | array len e =>
   simp only[Option.bind_eq_some_iff]at hl
   obtain⟨l,hl,h'⟩:=hl
   split at h'
   ·rename_i hsz
    cases h'
    obtain⟨i,hi,_,hc⟩:=sizeT_cellsOf hsz.1
    rw[show Op.equal key (.agg xs) (.agg ys) = Op.equalIn ((9990 + 9) + 1) key (.agg xs) (.agg ys) from rfl]
    rw[run_equalIn_array w _ _ _ hd hi,List.range_eq_range',hc]
    exact eqLeaf_items (eqLeaf_all 9 e l _ hl) rfl _ _ len 0 t (by simpa using h)
   ·cases h'
  | _=>simp[aggT]at hg
 ·cases h
def keysEq(ents:List MapEntry)(es:List (Value×AV)):Prop:=ents.map (·.key) = es.map (·.1)
def NoneAt(q:Bool)(ks:List LK)(kc:List Value)(es:List (Value×AV)):Prop:=∀ p ∈ es,sameKey q ks kc p.1 = some false
def FirstAt(q:Bool)(ks:List LK)(kc:List Value)(es:List (Value×AV))(j:Nat)(p:Value×AV):Prop :=
 es[j]? = some p∧sameKey q ks kc p.1 = some true∧∀ (i:Nat) (p':Value×AV),i < j→es[i]? = some p'→sameKey q ks kc p'.1 = some false
theorem mapFind_at{q:Bool}{ks:List LK}{kc:List Value}:∀ {es:List (Value×AV)} {r:Option AV},mapFind q ks kc es = some r→(r = none∧NoneAt q ks kc es)∨∃ j p,FirstAt q ks kc es j p∧r = some p.2
 | [],r,h=>by cases h; exact .inl ⟨rfl,fun p hp=>by cases hp⟩
 | (j,u)::es,r,h=>by
  simp only[mapFind,Option.bind_eq_some_iff]at h
  obtain⟨t,ht,h⟩:=h
  cases t with
  | true =>
   simp only[if_true,Option.some.injEq]at h
   exact .inr ⟨0,(j,u),⟨rfl,ht,fun i p' hi=>by omega⟩,h.symm⟩
  | false =>
   simp only[Bool.false_eq_true,if_false]at h
   rcases mapFind_at h with ⟨h1,h2⟩ | ⟨j',p,⟨h1,h2,h3⟩,h4⟩
   ·refine .inl ⟨h1,fun p hp=>?_⟩
    rcases List.mem_cons.1 hp with rfl | hp
    ·exact ht
    ·exact h2 p hp
   ·refine .inr ⟨j' + 1,p,⟨by simpa using h1,h2,fun i p' hi hp=>?_⟩,h4⟩
    cases i with
    | zero=>simp at hp; subst hp; exact ht
    | succ i=>exact h3 i p' (by omega) (by simpa using hp)
theorem mapSet_at{q:Bool}{ks:List LK}{k:Value}{v:AV}:∀ {es es':List (Value×AV)},mapSet q ks k v es = some es'→(NoneAt q ks (keyCells k) es∧es' = es++[(k,v)]) ∨
  ∃ j p,FirstAt q ks (keyCells k) es j p∧(keyCells p.1).length = ks.length∧es' = es.set j (k,v)
 | [],es',h=>by cases h; exact .inl ⟨fun p hp=>(by cases hp),rfl⟩
 | (j,u)::es,es',h=>by
  simp only[mapSet,Option.bind_eq_some_iff]at h
  obtain⟨t,ht,h⟩:=h
  cases t with
  | true =>
   simp only[if_true]at h
   split at h
   ·rename_i hl
    cases h
    exact .inr ⟨0,(j,u),⟨rfl,ht,fun i p' hi=>by omega⟩,hl,rfl⟩
   ·cases h
  | false =>
   simp only[Bool.false_eq_true,if_false,Option.map_eq_some_iff]at h
   obtain⟨es1,h,rfl⟩:=h
   rcases mapSet_at h with ⟨h1,rfl⟩ | ⟨j',p,⟨h1,h2,h3⟩,h4,rfl⟩
   ·refine .inl ⟨fun p hp=>?_,rfl⟩
    rcases List.mem_cons.1 hp with rfl | hp
    ·exact ht
    ·exact h1 p hp
   ·refine .inr ⟨j' + 1,p,⟨by simpa using h1,h2,fun i p' hi hp=>?_⟩,h4,rfl⟩
    cases i with
    | zero=>simp at hp; subst hp; exact ht
    | succ i=>exact h3 i p' (by omega) (by simpa using hp)
theorem search_none{q:Bool}{ks:List LK}{kc:List Value}{α:Type}(F:List MapEntry→Nat→α)(z:α)(hz:∀ i,F [] i = z)(hF:∀ e es i,sameKey q ks kc e.key = some false→F (e::es) i = F es (i + 1)) :
  ∀ {ents:List MapEntry} {es:List (Value×AV)} (i:Nat),keysEq ents es→NoneAt q ks kc es→F ents i = z
 | [],_,i,_,_=>hz i
 | e::ents,[],i,he,_=>by simp[keysEq]at he
 | e::ents,p::es,i,he,h=>by
  simp only[keysEq,List.map_cons,List.cons.injEq]at he
  rw[hF e ents i (by rw[he.1]; exact h p (by simp))]
  exact search_none F z hz hF (i + 1) he.2 (fun p' hp=>h p' (by simp[hp]))
theorem search_first{q:Bool}{ks:List LK}{kc:List Value}{α:Type}(F:List MapEntry→Nat→α)(z:Nat→Value→α)(hF:∀ e es i,sameKey q ks kc e.key = some false→F (e::es) i = F es (i + 1))(hT:∀ e es i,sameKey q ks kc e.key = some true→F (e::es) i = z i e.val) :
  ∀ {ents:List MapEntry} {es:List (Value×AV)} (i:Nat) {j:Nat} {p:Value×AV},keysEq ents es→FirstAt q ks kc es j p→∃ e,ents[j]? = some e∧F ents i = z (i + j) e.val
 | [],[],i,j,p,_,h=>by simp[FirstAt]at h
 | [],p::es,i,j,_,he,_=>by simp[keysEq]at he
 | e::ents,[],i,j,p,he,_=>by simp[keysEq]at he
 | e::ents,p0::es,i,j,p,he,⟨h1,h2,h3⟩=>by
  simp only[keysEq,List.map_cons,List.cons.injEq]at he
  cases j with
  | zero =>
   simp at h1
   subst h1
   exact⟨e,rfl,hT e ents i (by rw[he.1]; exact h2)⟩
  | succ j =>
   obtain⟨e',k1,k2⟩:=search_first F z hF hT (i + 1) (j:=j) (p:=p) he.2 ⟨by simpa using h1,h2,fun i' p' hi hp=>h3 (i' + 1) p' (by omega) (by simpa using hp)⟩
   refine⟨e',by simpa using k1,?_⟩
   rw[hF e ents i (by rw[he.1]; exact h3 0 p0 (by omega) rfl),k2]
   congr 1
   omega
theorem now_parts{d:TypeDesc}{k:Value}(hg:aggT d = true)(e:MapEntry)(ents:List MapEntry)(i:Nat):Instr.findNow d k (e::ents) i = none:=by
 have:Instr.sameNow d k e.key = none:=by
  cases d <;> first | rfl | (simp[aggT]at hg)
 simp[Instr.findNow,this]
section
variable{key:TypeId}{q:Bool}{ks:List LK}{d:TypeDesc}{k:Value}(hd:P.underlying key = some d)(hl:leaves P 10 key = some ks)(hg:aggT d = q)(hk:keyOk q ks k = true){ents:List MapEntry}{es:List (Value×AV)}(he:keysEq ents es)
include hd hl hg hk he
theorem run_find_none(h:NoneAt q ks (keyCells k) es):(Instr.findKey key k ents).run P w = .ok none w:=by
 cases q with
 | false =>
  have:=search_none (fun l i=>Instr.findNow d k l i) (some none) (fun i=>rfl) (fun e es i hs=>by simp[Instr.findNow,sameNow_of hd hl hg hk hs]) 0 he h
  simp[Instr.findKey,run_underlying hd,this]
 | true =>
  have:=search_none (fun l i=>(Instr.findAsking key k l i).run P w) (.ok none w) (fun i=>rfl) (fun e es i hs=>by simp[Instr.findAsking,equal_of hd hl hg hk hs]) 0 he h
  cases ents with
  | nil=>simp[Instr.findKey,run_underlying hd,Instr.findNow]
  | cons e ents=>simp[Instr.findKey,run_underlying hd,now_parts hg,this]
theorem run_find_first{j:Nat}{p:Value×AV}(h:FirstAt q ks (keyCells k) es j p):∃ e,ents[j]? = some e∧(Instr.findKey key k ents).run P w = .ok (some (j,e.val)) w:=by
 cases q with
 | false =>
  obtain⟨e,h1,h2⟩:=search_first (fun l i=>Instr.findNow d k l i) (fun j v=>some (some (j,v))) (fun e es i hs=>by simp[Instr.findNow,sameNow_of hd hl hg hk hs]) (fun e es i hs=>by simp[Instr.findNow,sameNow_of hd hl hg hk hs]) 0 he h
  exact⟨e,h1,by simp only[Nat.zero_add]at h2; simp[Instr.findKey,run_underlying hd,h2]⟩
 | true =>
  obtain⟨e,h1,h2⟩:=search_first (fun l i=>(Instr.findAsking key k l i).run P w) (fun j v=>.ok (some (j,v)) w) (fun e es i hs=>by simp[Instr.findAsking,equal_of hd hl hg hk hs]) (fun e es i hs=>by simp[Instr.findAsking,equal_of hd hl hg hk hs]) 0 he h
  simp only[Nat.zero_add]at h2
  cases ents with
  | nil=>simp at h1
  | cons e0 ents=>exact⟨e,h1,by simp[Instr.findKey,run_underlying hd,now_parts hg,h2]⟩
end
theorem map_rep'{c:Value}{r:Option Nat}{es:List (Value×AV)}{u:AV}(hs:StRel w g H)(h:Rep w g H c u)(hu:asMap u = some r)(hm:mapAt H r = some es) :
  (r = none∧c = .map none∧es = [])∨∃ l,r = some l∧c = .map (some (g.blk l))∧H[l]? = some (.map es)∧∃ ents ck,(w.heap[g.blk l]? = some (.map ents ck)∧BornOk ents ck)∧ents.size = es.length ∧
   (∀ (i:Nat) (e:MapEntry) (p:Value×AV),ents[i]? = some e→es[i]? = some p→e.key = p.1∧Rep w g H e.val p.2)∧keysEq ents.toList es:=by
 cases h with
 | @map l es' h =>
  simp only[asMap,Option.some.injEq]at hu
  subst hu
  simp only[mapAt,h,Option.some.injEq]at hm
  subst hm
  obtain⟨ents,ck,h1,h2,h3⟩:=hs.objs _ _ h
  refine .inr ⟨l,rfl,rfl,h,ents,ck,h1,h2,h3,?_⟩
  apply List.ext_getElem?
  intro i
  rw[List.getElem?_map,List.getElem?_map,Array.getElem?_toList]
  by_cases hi:i < es'.length
  ·have hi':i < ents.size:=by omega
   have:=(h3 i ents[i] es'[i] (by simp[hi']) (by simp[hi])).1
   simp[hi,hi',this]
  ·rw[Array.getElem?_eq_none (by omega),List.getElem?_eq_none (by omega)]
   rfl
 | p h =>
  cases h with
  | v hv =>
   simp only[asMap]at hu
   split at hu
   ·rename_i h0; cases h0
   ·rename_i h0
    cases h0
    cases hu
    simp only[mapAt,Option.some.injEq]at hm
    exact .inl ⟨rfl,rfl,hm.symm⟩
   ·cases hu
  | _=>cases hu
 | _=>cases hu
theorem zeroE_rep{kn:TypeId→Bool}{el:TypeId}{z:AV}(h:zeroE P kn el = some z):∃ c,(zeroValue el).run P w = .ok c w∧Rep w g H c z:=by
 unfold zeroE at h
 simp only[Option.bind_eq_some_iff]at h
 obtain⟨c,⟨i,hi,hz⟩,h⟩:=h
 refine⟨c,by simp[zeroValue,run_typeInfo w hi,hz],?_⟩
 split at h
 ·rename_i cs
  simp only[Option.map_eq_some_iff]at h
  obtain⟨zs,hm,rfl⟩:=h
  obtain⟨h1,h2⟩:=mapM_some hm
  exact .agg (by simpa using h1) (fun i c hc=>by
   have hi:i < cs.size:=(Array.getElem?_eq_some_iff.1 hc).1
   exact cvt_one (h2 i c (zs[i]'(by simp at h1; omega)) (by simpa using hc) (by simp))) (fun i c x hc hx=>cvt_rep (h2 i c x (by simpa using hc) hx))
 ·exact cvt_rep h
theorem run_mapget{t key el:TypeId}{q ok:Bool}{ks:List LK}{d:TypeDesc}{x y:Operand}{u:AV}{r:Option Nat}{k:Value}{uk z:AV}{es:List (Value×AV)}{o:Option AV}(hs:StRel w g H)(hT:KeyTy P t key el q ks d)(hz:∃ c,(zeroValue el).run P w = .ok c w∧Rep w g H c z)(hx:Rep w g H (a.eval x) u)(hu:asMap u = some r)(hy:a.eval y = k)(hm:mapAt H r = some es)(hk:keyOk q ks k = true)(hf:mapFind q ks (keyCells k) es = some o) :
  RunV P a w g H ⟨dst,.lookup t x y ok,ty,pos,after,gd⟩ (if ok then .tup [o.getD z,.p (.v (.bool o.isSome))] else o.getD z):=by
 obtain⟨zc,hz1,hz2⟩:=hz
 have fin:∀ {c:Value} {v:AV} {b:Bool},Rep w g H c v→(Instr.lookup t (a.eval x) (a.eval y) ok).run P w = .ok (if ok then .tuple #[c,.bool b] else c) w →
   RunV P a w g H ⟨dst,.lookup t x y ok,ty,pos,after,gd⟩ (if ok then .tup [v,.p (.v (.bool b))] else v):=fun {c v b} hr hrun=>by
  refine⟨if ok then .tuple #[c,.bool b] else c,by simp[execOp,hrun],?_⟩
  cases ok with
  | false=>exact hr
  | true =>
   refine .tup rfl (fun i c' x' hc hx'=>?_)
   match i with
   | 0=>simp at hc hx'; subst hc; subst hx'; exact hr
   | 1=>simp at hc hx'; subst hc; subst hx'; exact .p (.v rfl)
   | i + 2=>simp at hc
 have hck:∀ em,(Instr.checkKey em 10000 key k).run P w = .ok () w:=fun em=>chk_key hT.lv hT.und (by rw[hT.agg]; exact hk)
 rcases map_rep' hs hx hu hm with ⟨rfl,hc,rfl⟩ | ⟨l,rfl,hc,_,ents,ck,⟨hh,hbo⟩,hsz,hrep,hke⟩
 ·cases hf
  refine fin hz2 ?_
  have h2:=run_find_none (w:=w) (ents:=[]) (es:=[]) hT.und hT.lv hT.agg hk rfl (fun p hp=>by cases hp)
  simp[Instr.lookup,run_underlying hT.map,hc,hy,hck,h2,hz1]
 ·have hgo:(getObj (g.blk l)).run P w = .ok (.map ents ck) w:=by simp[getObj,Sem.run,hh]
  rcases mapFind_at hf with ⟨rfl,hn⟩ | ⟨j,p,hfa,rfl⟩
  ·refine fin hz2 ?_
   have h2:=run_find_none (w:=w) hT.und hT.lv hT.agg hk hke hn
   simp[Instr.lookup,run_underlying hT.map,hc,hy,hgo,hck,h2,hz1]
  ·obtain⟨e,h1,h4⟩:=run_find_first (w:=w) hT.und hT.lv hT.agg hk hke hfa
   refine fin (hrep j e p (by simpa using h1) hfa.1).2 ?_
   simp[Instr.lookup,run_underlying hT.map,hc,hy,hgo,hck,h4]
theorem sameBits_of:∀ {ks:List LK} {xs ys:List Value} (n:Nat),sameCells ks xs ys = some true→xs.length = ks.length→ys.length = ks.length→(ys.zip xs).all (fun p=>Instr.sameBits (n + 1) p.1 p.2) = true
 | [],xs,ys,n,_,h1,h2=>by
  cases xs <;> cases ys <;> simp_all
 | l::ks,xs,ys,n,h,h1,h2=>by
  unfold sameCells at h
  split at h
  ·rename_i h0; cases h0
  ·rename_i h0; cases h0
   split at h
   ·rename_i hk
    split at h
    ·rename_i hab
     simp only[List.length_cons,Nat.add_right_cancel_iff]at h1 h2
     have:=sameBits_of n h h1 h2
     simp only[beq_iff_eq]at hab
     simp[Instr.sameBits,hk,hab]
     simpa using this
    ·cases h
   ·cases h
  ·rename_i h0; cases h0
   split at h
   ·rename_i hab
    simp only[List.length_cons,Nat.add_right_cancel_iff]at h1 h2
    have:=sameBits_of n h h1 h2
    simp only[beq_iff_eq]at hab
    simp[Instr.sameBits,hab]
    simpa using this
   ·cases h
  ·rename_i h0; cases h0
   split at h
   ·rename_i hab
    simp only[List.length_cons,Nat.add_right_cancel_iff]at h1 h2
    have:=sameBits_of n h h1 h2
    rw[← beq_toListBytes]at hab
    have hab:=byteArray_beq hab
    subst hab
    simp[Instr.sameBits,byteArray_beq_self]
    simpa using this
   ·cases h
  ·cases h
theorem sameBits_key{q:Bool}{ks:List LK}{k j:Value}(hk:keyOk q ks k = true)(h:sameKey q ks (keyCells k) j = some true)(hj:(keyCells j).length = ks.length):Instr.sameBits 10000 j k = true:=by
 simp only[keyOk,Bool.and_eq_true,beq_iff_eq]at hk
 unfold sameKey at h
 split at h
 ·rename_i hja
  have hc9:=sameBits_of 9999 h hk.2 hj
  have hc:=sameBits_of 9998 h hk.2 hj
  cases k with
  | agg xs =>
   have hq:true = q:=hk.1
   subst hq
   cases j <;> first | (simp[isAggV]at hja; done) | skip
   rename_i ys
   simp only[keyCells]at hc hk hj
   have:ys.size == xs.size:=by simp at hk hj ⊢; omega
   simp only[Instr.sameBits,this,Bool.true_and]
   exact hc
  | _ =>
   have hq:false = q:=hk.1
   subst hq
   cases j <;> first | (simp[isAggV]at hja; done) | skip
   all_goals
    simp only[keyCells,List.zip_cons_cons,List.zip_nil_right,List.all_cons,List.all_nil,Bool.and_true]at hc9
    exact hc9
 ·cases h
theorem sim_mapset{t key el:TypeId}{q:Bool}{ks:List LK}{d:TypeDesc}{x y z:Operand}{u:AV}{l:Nat}{k:Value}{v:AV}{es es':List (Value×AV)}(hs:StRel w g H)(hT:KeyTy P t key el q ks d)(hx:Rep w g H (a.eval x) u)(hu:asMap u = some (some l))(hy:a.eval y = k)(hz:Rep w g H (a.eval z) v)(hm:mapAt H (some l) = some es)(hk:keyOk q ks k = true)(hf:mapSet q ks k v es = some es') :
  OpSim P a w g H ⟨none,.mapUpdate t x y z,ty,pos,after,gd⟩ (.p .nsl) (H.set l (.map es')):=by
 rcases map_rep' hs hx hu hm with ⟨h0,_⟩ | ⟨l',h0,hc,hH,ents,ck,⟨hh,hbo⟩,hsz,hrep,hke⟩
 ·cases h0
 ·cases h0
  have hck:∀ em,(Instr.checkKey em 10000 key k).run P w = .ok () w:=fun em=>chk_key hT.lv hT.und (by rw[hT.agg]; exact hk)
  have hgo:(getObj (g.blk l)).run P w = .ok (.map ents ck) w:=by simp[getObj,Sem.run,hh]
  have hso:∀ o,(setObj (g.blk l) o).run P w = .ok () { w with heap:=w.heap.setIfInBounds (g.blk l) o }:=fun o=>by simp[setObj,Sem.run,hh]
  have hlt:g.blk l < w.heap.size:=(Array.getElem?_eq_some_iff.1 hh).1
  have hll:l < H.length:=(List.getElem?_eq_some_iff.1 hH).1
  have key:∃ ents' ck',(execOp a.eval ⟨none,.mapUpdate t x y z,ty,pos,after,gd⟩).run P w = .ok .skip { w with heap:=w.heap.setIfInBounds (g.blk l) (.map ents' ck') }∧(BornOk ents' ck'∧ents'.size = es'.length) ∧
    ∀ (i:Nat) (e:MapEntry) (p:Value×AV),ents'[i]? = some e→es'[i]? = some p→(e.key = p.1∧((∃ e0,ents[i]? = some e0∧es[i]? = some p∧e = e0)∨(e.val = a.eval z∧p.2 = v))):=by
   rcases mapSet_at hf with ⟨hn,rfl⟩ | ⟨j,p,hfa,hl,rfl⟩
   ·have h2:=run_find_none (w:=w) hT.und hT.lv hT.agg hk hke hn
    refine⟨ents.push { key:=k,val:=a.eval z,born:=ck },ck + 1,?_,⟨⟨?_,?_⟩,by simp[hsz]⟩,fun i e p h1 h2=>?_⟩
    ·simp[execOp,hc,hy,Instr.mapUpdate,run_underlying hT.map,hgo,hck,h2,hso]
    ·rw[Array.toList_push,List.pairwise_append]
     exact⟨hbo.1,List.pairwise_singleton _ _,fun e he e' he'=>by simp at he'; rw[he']; exact hbo.2 e he⟩
    ·intro e he
     rw[Array.toList_push,List.mem_append]at he
     rcases he with he | he
     ·exact Nat.lt_succ_of_lt (hbo.2 e he)
     ·simp at he; rw[he]; exact Nat.lt_succ_self _
    ·by_cases hi:i < ents.size
     ·rw[Array.getElem?_push_lt hi]at h1
      rw[List.getElem?_append_left (by omega)]at h2
      have h1':ents[i]? = some e:=by rw[← h1]; simp[hi]
      exact⟨(hrep i e p h1' h2).1,.inl ⟨e,h1',h2,rfl⟩⟩
     ·have hi':i = ents.size:=by
       have:=(Array.getElem?_eq_some_iff.1 h1).1; simp at this; omega
      subst hi'
      simp at h1
      rw[hsz]at h2
      simp at h2
      subst h1; subst h2
      exact⟨rfl,.inr ⟨rfl,rfl⟩⟩
   ·obtain⟨e,h1,h4⟩:=run_find_first (w:=w) hT.und hT.lv hT.agg hk hke hfa
    have h1':ents[j]? = some e:=by simpa using h1
    have hjl:j < es.length:=(List.getElem?_eq_some_iff.1 hfa.1).1
    have hbits:Instr.sameBits 10000 e.key k = true:=by rw[(hrep j e p h1' hfa.1).1]; exact sameBits_key hk hfa.2.1 hl
    have hmb:(ents.modify j fun e=>{ e with key:=k,val:=a.eval z }).toList.map (·.born) = ents.toList.map (·.born):=by
     apply List.ext_getElem?
     intro i
     rw[List.getElem?_map,List.getElem?_map,Array.getElem?_toList,Array.getElem?_toList,Array.getElem?_modify]
     by_cases hij:j = i
     ·subst hij; simp[h1']
     ·simp[hij]
    refine⟨ents.modify j fun e=>{ e with key:=k,val:=a.eval z },ck,?_,⟨⟨?_,?_⟩,by simp[hsz]⟩,fun i e' p' h2 h3=>?_⟩
    ·simp[execOp,hc,hy,Instr.mapUpdate,run_underlying hT.map,hgo,hck,h4,hso,h1',Instr.keyThatStays,hbits]
    ·have:=(List.pairwise_map (f:=fun e:MapEntry=>e.born) (R:=(· < ·))).2 hbo.1
     rw[← hmb]at this
     exact List.pairwise_map.1 this
    ·intro e' he'
     have:=List.mem_map_of_mem (f:=fun e:MapEntry=>e.born) he'
     rw[hmb,List.mem_map]at this
     obtain⟨e2,he2,hb2⟩:=this
     rw[← hb2]
     exact hbo.2 e2 he2
    ·rw[Array.getElem?_modify]at h2
     rw[List.getElem?_set]at h3
     by_cases hij:j = i
     ·subst hij
      simp[h1']at h2
      simp[hjl]at h3
      subst h2; subst h3
      exact⟨rfl,.inr ⟨rfl,rfl⟩⟩
     ·simp only[hij,if_false]at h2 h3
      exact⟨(hrep i e' p' h2 h3).1,.inl ⟨e',h2,h3,rfl⟩⟩
  obtain⟨ents',ck',hrun,⟨hbo',hsz'⟩,hrep'⟩:=key
  have hnoD:∀ i,¬ g.D (g.blk l) i:=hs.stand l _ hH
  obtain⟨e1,e2⟩:=evo_obj (w':={ w with heap:=w.heap.setIfInBounds (g.blk l) (.map ents' ck') }) (g':=g) (o':=.map es') (Q:=fun _=>False) hs hH rfl rfl rfl (fun b i=>by simp)
   ⟨fun b hb=>by simp[Array.getElem?_setIfInBounds,Ne.symm hb],by simp,rfl,rfl,⟨rfl,Nat.le_refl _⟩,fun vs e f h=>(by rw[hh]at h; cases h),fun _=>hnoD⟩
   (.map hH (List.getElem?_set_self hll) rfl)
   (fun hr=>⟨ents',ck',⟨by simp[Array.getElem?_setIfInBounds,hlt],hbo'⟩,hsz',fun i e p h1 h2=>by
    obtain⟨k1,k2⟩:=hrep' i e p h1 h2
    refine⟨k1,?_⟩
    rcases k2 with ⟨e0,q1,q2,rfl⟩ | ⟨q1,q2⟩
    ·exact hr _ _ (hrep i e p q1 q2).2
    ·rw[q1,q2]; exact hr _ _ hz⟩) hnoD
  exact⟨undef,_,g,.inr ⟨hrun,rfl⟩,e1,e2,.inl rfl⟩
theorem run_lenM{c:Call}{x:Operand}{t key el:TypeId}{u:AV}{r:Option Nat}{es:List (Value×AV)}(hs:StRel w g H)(hc:c.callee = .builtin .len)(ha:c.args.toList = [x])(ht:c.argTypes[0]? = some t)(hu:P.underlying t = some (.map key el))(hx:Rep w g H (a.eval x) u)(hr:asMap u = some r)(hm:mapAt H r = some es):RunV P a w g H ⟨dst,.call c,ty,pos,after,gd⟩ (.p (.v (.int .i64 (es.length:Int)))):=by
 have ha':c.args = #[x]:=by rw[← Array.toList_inj]; exact ha
 refine⟨.int .i64 (es.length:Int),?_,.p (.v rfl)⟩
 rcases map_rep' hs hx hr hm with ⟨rfl,hcx,rfl⟩ | ⟨l,rfl,hcx,_,ents,ck,⟨hh,_⟩,hsz,_⟩
 ·simp[execOp,resolve,hc,ha',Go.invoke,Go.builtin,Builtin.len_,ht,run_underlying hu,hcx,goInt]
 ·have hgo:(getObj (g.blk l)).run P w = .ok (.map ents ck) w:=by simp[getObj,Sem.run,hh]
  simp[execOp,resolve,hc,ha',Go.invoke,Go.builtin,Builtin.len_,ht,run_underlying hu,hcx,hgo,hsz,goInt]
end
end Go.Proofs.YtchgldaddcolhaaGreatDoor
namespace Go.Proofs.YtchgldaddcolhaaGreatDoor
open Go
variable[Sub]
section
variable{P:Program}{kn:TypeId→Bool}{w:World}{g:Gh}{H:List Obj}{a:Act}{e:Fr}{own:List Nat}
theorem int_rep(he:EnvRel w g H a.tmps e){keep:Bool}{x:Operand}{sa:SA}{n:Int}(hc:compArg own keep x = some sa)(hv:evInt e sa = some n):∃ k,Rep w g H (a.eval x) (.p (.v (.int k n))) :=
 let ⟨k,h⟩:=evInt_some hv; ⟨k,arg_rep he hc h⟩
theorem val_rep(he:EnvRel w g H a.tmps e){keep:Bool}{x:Operand}{sa:SA}{v:Value}(hc:compArg own keep x = some sa)(hv:evVal e sa = some v):Rep w g H (a.eval x) (.p (.v v)):=arg_rep he hc (evVal_some hv)
theorem str_rep(he:EnvRel w g H a.tmps e){keep:Bool}{x:Operand}{sa:SA}{s:ByteArray}(hc:compArg own keep x = some sa)(hv:evStr e sa = some s):Rep w g H (a.eval x) (.p (.v (.string s))):=arg_rep he hc (evStr_some hv)
theorem bd_rep(he:EnvRel w g H a.tmps e){x:Option Operand}{sa:Option SA}{d n:Int}(hc:compOpt own x = some sa)(hv:evIntO e d sa = some n):BdA a x d n:=by
 cases x with
 | none =>
  simp only[compOpt,Option.some.injEq]at hc
  subst hc
  simp only[evIntO,Option.some.injEq]at hv
  exact .inl ⟨rfl,hv.symm⟩
 | some y =>
  simp only[compOpt,Option.map_eq_some_iff]at hc
  obtain⟨s,hs,rfl⟩:=hc
  obtain⟨k,hk⟩:=int_rep he hs hv
  exact .inr ⟨y,k,rfl,hk.val.1⟩
theorem mx_rep(he:EnvRel w g H a.tmps e){x:Option Operand}{sa:Option SA}{m:Option Int}(hc:compOpt own x = some sa)(hv:evIntOO e sa = some m) :
  (x = none∧m = none)∨∃ y k m',x = some y∧m = some m'∧a.eval y = .int k m':=by
 cases x with
 | none =>
  simp only[compOpt,Option.some.injEq]at hc
  subst hc
  simp only[evIntOO,Option.some.injEq]at hv
  exact .inl ⟨rfl,hv.symm⟩
 | some y =>
  simp only[compOpt,Option.map_eq_some_iff]at hc
  obtain⟨s,hs,rfl⟩:=hc
  simp only[evIntOO,Option.map_eq_some_iff]at hv
  obtain⟨n,hn,rfl⟩:=hv
  obtain⟨k,hk⟩:=int_rep he hs hn
  exact .inr ⟨y,k,n,rfl,rfl,hk.val.1⟩
theorem size_some{t:TypeId}{n:Nat}(h:sizeT P t = some n):∃ i,P.info? t = some i∧i.size = n:=by
 simpa only [sizeT,Option.map_eq_some_iff] using h
theorem agg_some{t:TypeId}{b:Bool}(h:isAggT P t = some b):∃ d,P.underlying t = some d∧aggT d = b:=by
 simpa only [isAggT,under,Option.map_eq_some_iff] using h
theorem key_rep{c:Value}{u:AV}{k:Value}(h:Rep w g H c u)(hk:asKey u = some k):c = k:=by
 unfold asKey at hk
 split at hk
 ·cases hk; exact h.val.1
 ·simp only[Option.map_eq_some_iff]at hk
  obtain⟨l,hl,rfl⟩:=hk
  obtain⟨A,rfl,rfl⟩:=aggVals_rep h (show aggVals (.agg _) = some l from hl)
  simp
 ·cases hk
theorem op_sim{o:Oper}{sop:SOp}{v:AV}{H':List Obj}(he:EnvRel w g H a.tmps e)(hs:StRel w g H)(hc:compOp P kn own o = some sop)(hr:evOp e H sop = some (v,H')) :
  OpSim P a w g H o v H':=by
 obtain⟨dst,op,ty,pos,after,gd⟩:=o
 cases op with
 | move x =>
  simp only[compOp,Option.map_eq_some_iff]at hc
  obtain⟨sa,hsa,rfl⟩:=hc
  simp only[evOp,Option.map_eq_some_iff,Prod.mk.injEq]at hr
  obtain⟨u,hu,rfl,rfl⟩:=hr
  exact (run_move (arg_rep he hsa hu)).sim hs
 | assign x =>
  simp only[compOp,Option.map_eq_some_iff]at hc
  obtain⟨sa,hsa,rfl⟩:=hc
  simp only[evOp,Option.map_eq_some_iff,Prod.mk.injEq]at hr
  obtain⟨u,hu,rfl,rfl⟩:=hr
  exact (run_assign (arg_rep he hsa hu)).sim hs
 | pick c x y =>
  simp only[compOp,Option.map_eq_some_iff,Option.bind_eq_some_iff]at hc
  obtain⟨sc,hsc,sx,hsx,sy,hsy,rfl⟩:=hc
  simp only[evOp,Option.map_eq_some_iff,Option.bind_eq_some_iff,Prod.mk.injEq]at hr
  obtain⟨t,ht,u,hu,rfl,rfl⟩:=hr
  refine (run_pick (arg_rep he hsc (evBool_some ht)) ?_).sim hs
  cases t
  ·exact arg_rep he hsy hu
  ·exact arg_rep he hsx hu
 | alloc t =>
  simp only[compOp,Option.map_eq_some_iff]at hc
  obtain⟨z,hz,rfl⟩:=hc
  simp only[evOp,Option.some.injEq,Prod.mk.injEq]at hr
  obtain⟨rfl,rfl⟩:=hr
  exact sim_alloc hs hz
 | box t x =>
  simp only[compOp,Option.map_eq_some_iff]at hc
  obtain⟨sa,hsa,rfl⟩:=hc
  simp only[evOp,Option.map_eq_some_iff,Option.bind_eq_some_iff,Prod.mk.injEq]at hr
  obtain⟨u,hu,cs,hcs,rfl,rfl⟩:=hr
  exact sim_box hs (arg_rep he hsa hu) hcs
 | build t ps =>
  simp only[compOp,Option.bind_eq_some_iff,under]at hc
  obtain⟨z,hz,d,hd,hc⟩:=hc
  obtain⟨it,zv,hit,hzv,hzl,hzr⟩:=zeroT_rep (w:=w) (g:=g) (H:=H) hz
  cases d with
  | struct fs =>
   simp only at hc
   split at hc
   ·cases hc
   ·rename_i hpl
    simp only[Option.map_eq_some_iff]at hc
    obtain⟨sps,hsps,rfl⟩:=hc
    simp only[evOp,Option.map_eq_some_iff,Prod.mk.injEq]at hr
    obtain⟨cs,hcs,rfl,rfl⟩:=hr
    cases hpl':fs.toList.mapM fun f=>(P.info? f.type).map fun i=>(f.offset,i.size) with
    | none=>rw[hpl']at hpl; exact absurd rfl hpl
    | some places =>
     obtain⟨m1,m2⟩:=mapM_some hpl'
     obtain⟨A',hA',hrep⟩:=fill_rep (mplace:=(places.toArray[·]?)) he (fun i off t n h1 h2=>by
      simp only[Option.map_eq_some_iff,Prod.mk.injEq]at h1
      obtain⟨f,hf,rfl,rfl⟩:=h1
      obtain⟨ti,hti,rfl⟩:=size_some h2
      have hlt:i < places.length:=by rw[← m1]; simpa using (Array.getElem?_eq_some_iff.1 hf).1
      have:=m2 i f places[i] (by simpa using hf) (by simp[hlt])
      rw[hti]at this
      simp only[Option.map_some,Option.some.injEq]at this
      simp[hlt,this]) hsps hcs ⟨hzl,hzr⟩
     exact (run_build' (by simp only[Program.built,hit,hd,hzv,hpl']; exact hA') hrep).sim hs
  | array len el =>
   simp only[Option.bind_eq_some_iff,Option.map_eq_some_iff]at hc
   obtain⟨n,hn,sps,hsps,rfl⟩:=hc
   obtain⟨ti,hti,rfl⟩:=size_some hn
   simp only[evOp,Option.map_eq_some_iff,Prod.mk.injEq]at hr
   obtain⟨cs,hcs,rfl,rfl⟩:=hr
   obtain⟨A',hA',hrep⟩:=fill_rep (mplace:=fun i=>some (i * ti.size,ti.size)) he (fun i off t n h1 h2=>by
    simp only[Option.some.injEq,Prod.mk.injEq]at h1
    obtain⟨rfl,rfl⟩:=h1
    rw[hn]at h2
    cases h2
    rfl) hsps hcs ⟨hzl,hzr⟩
   exact (run_build' (by simp only[Program.built,hit,hd,hzv,hti]; exact hA') hrep).sim hs
  | _=>cases hc
 | buildSlice t n ps =>
  simp only[compOp,Option.bind_eq_some_iff,under]at hc
  obtain⟨d,hd,hc⟩:=hc
  cases d with
  | slice el =>
   simp only[Option.bind_eq_some_iff]at hc
   obtain⟨sz,hsz,z,hz,hc⟩:=hc
   split at hc
   ·cases hc
   ·rename_i hcond
    simp only[Option.map_eq_some_iff]at hc
    obtain⟨sps,hsps,hc⟩:=hc
    obtain⟨ti,hti,rfl⟩:=size_some hsz
    split at hc
    ·subst hc
     simp only[evOp,Option.map_eq_some_iff,Prod.mk.injEq]at hr
     obtain⟨rows,hrows,rfl,rfl⟩:=hr
     exact sim_slitA he hs hd hti hz (by omega) (by omega) hsps hrows
    ·subst hc
     simp only[evOp,Option.map_eq_some_iff,Prod.mk.injEq]at hr
     obtain⟨rows,hrows,rfl,rfl⟩:=hr
     exact sim_slit he hs hd hti hz (by omega) (by omega) hsps hrows
  | _=>cases hc
 | load t x =>
  simp only[compOp,Option.bind_eq_some_iff]at hc
  obtain⟨sa,hsa,gg,hgg,hc⟩:=hc
  obtain⟨d,hd,hda⟩:=agg_some hgg
  cases gg with
  | true =>
   simp only[if_true,Option.map_eq_some_iff]at hc
   obtain⟨n,hn,rfl⟩:=hc
   obtain⟨ti,hti,rfl⟩:=size_some hn
   simp only[evOp,Option.bind_eq_some_iff,Option.map_eq_some_iff,Prod.mk.injEq]at hr
   obtain⟨u,hu,cs,hcs,rfl,rfl⟩:=hr
   exact (run_loadn hs hd hda hti (arg_rep he hsa hu) hcs).sim hs
  | false =>
   simp only[Bool.false_eq_true,if_false,Option.some.injEq]at hc
   subst hc
   simp only[evOp,Option.bind_eq_some_iff,Option.map_eq_some_iff,Prod.mk.injEq]at hr
   obtain⟨u,hu,c,hcv,rfl,rfl⟩:=hr
   exact (run_load1 hs hd hda (arg_rep he hsa hu) hcv).sim hs
 | store t x y =>
  simp only[compOp]at hc
  split at hc
  ·cases hc
  ·rename_i hdst
   have:dst = none:=by cases dst <;> simp at hdst ⊢
   subst this
   simp only[Option.bind_eq_some_iff,Option.map_eq_some_iff]at hc
   obtain⟨sx,hsx,sy,hsy,n,hn,rfl⟩:=hc
   obtain⟨ti,hti,rfl⟩:=size_some hn
   simp only[evOp,Option.bind_eq_some_iff]at hr
   obtain⟨u,hu,v',hv',cs,hcs,hr⟩:=hr
   split at hr
   ·rename_i hlen
    simp only[Option.map_eq_some_iff,Prod.mk.injEq]at hr
    obtain⟨H2,hH2,rfl,rfl⟩:=hr
    exact sim_store hs hti (arg_rep he hsx hu) (arg_rep he hsy hv') hcs hlen hH2
   ·cases hr
 | nilCheck x =>
  simp only[compOp,Option.map_eq_some_iff]at hc
  obtain⟨sa,hsa,rfl⟩:=hc
  simp only[evOp,Option.map_eq_some_iff,Option.bind_eq_some_iff,Prod.mk.injEq]at hr
  obtain⟨u,hu,r,hr',rfl,rfl⟩:=hr
  exact (run_nilck (arg_rep he hsa hu) hr').sim hs
 | binOp op t x y yt =>
  simp only[compOp,Option.bind_eq_some_iff,under]at hc
  obtain⟨d,hd,hc⟩:=hc
  have plain:(compArg own false x).bind (fun x=>(compArg own false y).map fun y=>SOp.bin op x y) = some sop→OpSim P a w g H ⟨dst,.binOp op t x y yt,ty,pos,after,gd⟩ v H':=fun hc=>by
   simp only[Option.bind_eq_some_iff,Option.map_eq_some_iff]at hc
   obtain⟨sx,hsx,sy,hsy,rfl⟩:=hc
   simp only[evOp,Option.map_eq_some_iff,Option.bind_eq_some_iff,Prod.mk.injEq]at hr
   obtain⟨u,hu,v',hv',r,hr',rfl,rfl⟩:=hr
   exact (run_bin (val_rep he hsx hu) (val_rep he hsy hv') hr').sim hs
  cases d with
  | bool =>
   simp only[Option.bind_eq_some_iff,Option.map_eq_some_iff]at hc
   obtain⟨sx,hsx,sy,hsy,rfl⟩:=hc
   simp only[evOp,Option.map_eq_some_iff,Option.bind_eq_some_iff,Prod.mk.injEq]at hr
   obtain⟨u,hu,v',hv',r,hr',rfl,rfl⟩:=hr
   exact (run_binBool hd (val_rep he hsx hu) (val_rep he hsy hv') hr').sim hs
  | slice el =>
   simp only at hc
   split at hc
   ·simp only[Option.map_eq_some_iff]at hc
    obtain⟨sx,hsx,rfl⟩:=hc
    simp only[evOp,Option.map_eq_some_iff,Option.bind_eq_some_iff,Prod.mk.injEq]at hr
    obtain⟨u,hu,r,hr',rfl,rfl⟩:=hr
    exact (run_isnil (neg:=false) hd rfl (arg_rep he hsx hu) hr').sim hs
   ·simp only[Option.map_eq_some_iff]at hc
    obtain⟨sx,hsx,rfl⟩:=hc
    simp only[evOp,Option.map_eq_some_iff,Option.bind_eq_some_iff,Prod.mk.injEq]at hr
    obtain⟨u,hu,r,hr',rfl,rfl⟩:=hr
    exact (run_isnil (neg:=true) hd rfl (arg_rep he hsx hu) hr').sim hs
   ·cases hc
  | interface ms =>
   simp only at hc
   split at hc
   ·simp only[Option.map_eq_some_iff]at hc
    obtain⟨sx,hsx,rfl⟩:=hc
    simp only[evOp,Option.map_eq_some_iff,Option.bind_eq_some_iff,Prod.mk.injEq]at hr
    obtain⟨u,hu,r,hr',rfl,rfl⟩:=hr
    exact (run_isnilI (neg:=false) hd rfl (val_rep he hsx hu) hr').sim hs
   ·simp only[Option.map_eq_some_iff]at hc
    obtain⟨sx,hsx,rfl⟩:=hc
    simp only[evOp,Option.map_eq_some_iff,Option.bind_eq_some_iff,Prod.mk.injEq]at hr
    obtain⟨u,hu,r,hr',rfl,rfl⟩:=hr
    exact (run_isnilI (neg:=true) hd rfl (val_rep he hsx hu) hr').sim hs
   ·cases hc
  | pointer el =>
   simp only at hc
   split at hc
   ·simp only[Option.map_eq_some_iff]at hc
    obtain⟨sx,hsx,rfl⟩:=hc
    simp only[evOp,Option.map_eq_some_iff,Option.bind_eq_some_iff,Prod.mk.injEq]at hr
    obtain⟨u,hu,r,hr',rfl,rfl⟩:=hr
    exact (run_isnilG (neg:=false) hd (.inl ⟨rfl,⟨_,rfl⟩,rfl⟩) rfl (arg_rep he hsx hu) hr').sim hs
   ·simp only[Option.map_eq_some_iff]at hc
    obtain⟨sx,hsx,rfl⟩:=hc
    simp only[evOp,Option.map_eq_some_iff,Option.bind_eq_some_iff,Prod.mk.injEq]at hr
    obtain⟨u,hu,r,hr',rfl,rfl⟩:=hr
    exact (run_isnilG (neg:=true) hd (.inl ⟨rfl,⟨_,rfl⟩,rfl⟩) rfl (arg_rep he hsx hu) hr').sim hs
   ·cases hc
  | func a1 b1 c1 =>
   simp only at hc
   split at hc
   ·simp only[Option.map_eq_some_iff]at hc
    obtain⟨sx,hsx,rfl⟩:=hc
    simp only[evOp,Option.map_eq_some_iff,Option.bind_eq_some_iff,Prod.mk.injEq]at hr
    obtain⟨u,hu,r,hr',rfl,rfl⟩:=hr
    exact (run_isnilG (neg:=false) hd (.inr (.inl ⟨rfl,⟨_,_,_,rfl⟩,rfl⟩)) rfl (arg_rep he hsx hu) hr').sim hs
   ·simp only[Option.map_eq_some_iff]at hc
    obtain⟨sx,hsx,rfl⟩:=hc
    simp only[evOp,Option.map_eq_some_iff,Option.bind_eq_some_iff,Prod.mk.injEq]at hr
    obtain⟨u,hu,r,hr',rfl,rfl⟩:=hr
    exact (run_isnilG (neg:=true) hd (.inr (.inl ⟨rfl,⟨_,_,_,rfl⟩,rfl⟩)) rfl (arg_rep he hsx hu) hr').sim hs
   ·cases hc
  | map a1 b1 =>
   simp only at hc
   split at hc
   ·simp only[Option.map_eq_some_iff]at hc
    obtain⟨sx,hsx,rfl⟩:=hc
    simp only[evOp,Option.map_eq_some_iff,Option.bind_eq_some_iff,Prod.mk.injEq]at hr
    obtain⟨u,hu,r,hr',rfl,rfl⟩:=hr
    exact (run_isnilG (neg:=false) hd (.inr (.inr ⟨rfl,⟨_,_,rfl⟩,rfl⟩)) rfl (arg_rep he hsx hu) hr').sim hs
   ·simp only[Option.map_eq_some_iff]at hc
    obtain⟨sx,hsx,rfl⟩:=hc
    simp only[evOp,Option.map_eq_some_iff,Option.bind_eq_some_iff,Prod.mk.injEq]at hr
    obtain⟨u,hu,r,hr',rfl,rfl⟩:=hr
    exact (run_isnilG (neg:=true) hd (.inr (.inr ⟨rfl,⟨_,_,rfl⟩,rfl⟩)) rfl (arg_rep he hsx hu) hr').sim hs
   ·cases hc
  | struct fs =>
   simp only at hc
   split at hc
   ·cases hc
   ·rename_i hgd
    split at hc
    ·rename_i ks hks
     simp only[Option.bind_eq_some_iff,Option.map_eq_some_iff]at hc
     obtain⟨sx,hsx,sy,hsy,rfl⟩:=hc
     simp only[evOp,Option.bind_eq_some_iff]at hr
     obtain⟨u,hu,v',hv',l,hl,m,hm,hr⟩:=hr
     split at hr
     ·rename_i hlen
      simp only[Option.map_eq_some_iff,Prod.mk.injEq]at hr
      obtain⟨r,hr',rfl,rfl⟩:=hr
      exact (run_eqs (neg:=false) hd (by simpa using hgd) hks rfl (arg_rep he hsx hu) (arg_rep he hsy hv') hl hm hlen.1 hlen.2 hr').sim hs
     ·cases hr
    ·rename_i ks hks
     simp only[Option.bind_eq_some_iff,Option.map_eq_some_iff]at hc
     obtain⟨sx,hsx,sy,hsy,rfl⟩:=hc
     simp only[evOp,Option.bind_eq_some_iff]at hr
     obtain⟨u,hu,v',hv',l,hl,m,hm,hr⟩:=hr
     split at hr
     ·rename_i hlen
      simp only[Option.map_eq_some_iff,Prod.mk.injEq]at hr
      obtain⟨r,hr',rfl,rfl⟩:=hr
      exact (run_eqs (neg:=true) hd (by simpa using hgd) hks rfl (arg_rep he hsx hu) (arg_rep he hsy hv') hl hm hlen.1 hlen.2 hr').sim hs
     ·cases hr
    ·cases hc
  | _=>exact plain hc
 | unOp op t x =>
  simp only[compOp,Option.map_eq_some_iff]at hc
  obtain⟨sa,hsa,rfl⟩:=hc
  simp only[evOp,Option.map_eq_some_iff,Option.bind_eq_some_iff,Prod.mk.injEq]at hr
  obtain⟨u,hu,r,hr',rfl,rfl⟩:=hr
  exact (run_un (val_rep he hsa hu) hr').sim hs
 | convert s d x =>
  simp only[compOp,Option.bind_eq_some_iff,under]at hc
  obtain⟨sa,hsa,sd,hsd,hc⟩:=hc
  cases sd with
  | int k0 =>
   simp only[Option.bind_eq_some_iff]at hc
   obtain⟨dd,hdd,hc⟩:=hc
   cases dd with
   | int k =>
    simp only[Option.some.injEq]at hc
    subst hc
    simp only[evOp,Option.map_eq_some_iff,Prod.mk.injEq]at hr
    obtain⟨n,hn,rfl,rfl⟩:=hr
    obtain⟨j,hj⟩:=int_rep he hsa hn
    exact (run_conv hsd hdd hj).sim hs
   | _=>cases hc
  | slice el =>
   simp only[Option.bind_eq_some_iff]at hc
   obtain⟨te,hte,td,htd,hc⟩:=hc
   split at hc
   ·cases hc
    simp only[evOp,Option.map_eq_some_iff,Option.bind_eq_some_iff,Prod.mk.injEq]at hr
    obtain⟨u,hu,rows,hrows,l,hl,rfl,rfl⟩:=hr
    exact (run_b2s hs hsd hte htd (arg_rep he hsa hu) hrows hl).sim hs
   ·cases hc
  | string =>
   simp only[Option.bind_eq_some_iff]at hc
   obtain⟨td,htd,hc⟩:=hc
   cases td with
   | slice el =>
    simp only[Option.bind_eq_some_iff]at hc
    obtain⟨te,hte,hc⟩:=hc
    split at hc
    ·cases hc
     simp only[evOp,Option.bind_eq_some_iff]at hr
     obtain⟨t,ht,hr⟩:=hr
     split at hr
     ·cases hr
      exact sim_s2b hs hsd htd hte (str_rep he hsa ht)
     ·cases hr
    ·cases hc
   | _=>cases hc
  | _=>cases hc
 | makeFunc fn x y =>
  simp only[compOp,Option.bind_eq_some_iff,Option.map_eq_some_iff]at hc
  obtain⟨sx,hsx,sy,hsy,rfl⟩:=hc
  simp only[evOp,Option.map_eq_some_iff,Option.bind_eq_some_iff,Prod.mk.injEq]at hr
  obtain⟨us,hus,vs,hvs,rfl,rfl⟩:=hr
  obtain⟨a1,a2⟩:=args_rep he hsx hus
  obtain⟨b1,b2⟩:=args_rep he hsy hvs
  exact (run_mkfn a1 a2 b1 b2).sim hs
 | makeMap t r =>
  cases r with
  | some r=>cases hc
  | none =>
   simp only[compOp,Option.some.injEq]at hc
   subst hc
   simp only[evOp,Option.some.injEq,Prod.mk.injEq]at hr
   obtain⟨rfl,rfl⟩:=hr
   exact sim_mkmap hs
 | makeSlice t n m =>
  simp only[compOp,Option.bind_eq_some_iff,under]at hc
  obtain⟨d,hd,hc⟩:=hc
  cases d with
  | slice el =>
   simp only[Option.bind_eq_some_iff]at hc
   obtain⟨b,hb,sz,hsz,z,hz,hc⟩:=hc
   split at hc
   ·cases hc
   ·rename_i hcond
    simp only[Option.bind_eq_some_iff,Option.map_eq_some_iff]at hc
    obtain⟨sn,hsn,sm,hsm,rfl⟩:=hc
    obtain⟨ti,hti,rfl⟩:=size_some hsz
    simp only[bytesT,hti,Option.map_some,Option.some.injEq]at hb
    subst hb
    simp only[evOp,Option.bind_eq_some_iff]at hr
    obtain⟨n',hn',m',hm',hr⟩:=hr
    obtain⟨j,hj⟩:=int_rep he hsn hn'
    obtain⟨k,hk⟩:=int_rep he hsm hm'
    exact sim_mkslice hs hd hti hz (by omega) hj hk hr
  | _=>cases hc
 | slice t x lo hi mx =>
  simp only[compOp,Option.bind_eq_some_iff,under]at hc
  obtain⟨sx,hsx,sl,hsl,sh,hsh,sm,hsm,hc⟩:=hc
  split at hc
  ·cases hc
  ·rename_i hcond
   simp only[Option.bind_eq_some_iff]at hc
   obtain⟨d,hd,hc⟩:=hc
   cases d with
   | slice el =>
    simp only[Option.map_eq_some_iff]at hc
    obtain⟨n,hn,rfl⟩:=hc
    obtain⟨ti,hti,rfl⟩:=size_some hn
    simp only[evOp,Option.bind_eq_some_iff]at hr
    obtain⟨u,hu,m,hm,l,hl,h,hh,mm,hmm,hr⟩:=hr
    refine sim_slice hs hd hti (arg_rep he hsx hu) hm (bd_rep he hsl hl) (bd_rep he hsh hh) (mx_rep he hsm hmm) (fun h1=>?_) hr
    cases mx with
    | none=>cases h1
    | some mx =>
     simp only[compOpt,Option.map_eq_some_iff]at hsm
     obtain⟨_,_,rfl⟩:=hsm
     cases hi with
     | none =>
      simp only[compOpt,Option.some.injEq]at hsh
      subst hsh
      simp at hcond
     | some hi=>rfl
   | string =>
    simp only at hc
    split at hc
    ·cases hc
     simp only[evOp,Option.bind_eq_some_iff]at hr
     obtain⟨s,hs',l,hl,h,hh,hr⟩:=hr
     split at hr
     ·rename_i hb
      cases hr
      cases mx with
      | none=>exact (run_sliceS hd (str_rep he hsx hs') (bd_rep he hsl hl) (bd_rep he hsh hh) hb.1 hb.2.1 hb.2.2).sim hs
      | some mx =>
       simp only[compOpt,Option.map_eq_some_iff]at hsm
       obtain⟨_,_,h0⟩:=hsm
       cases h0
     ·cases hr
    ·cases hc
   | array len el =>
    simp only[Option.bind_eq_some_iff]at hc
    obtain⟨n,hn,hc⟩:=hc
    split at hc
    ·rename_i hcond2
     cases hc
     obtain⟨ti,hti,rfl⟩:=size_some hn
     simp only[evOp,Option.map_eq_some_iff,Option.bind_eq_some_iff,Prod.mk.injEq]at hr
     obtain⟨u,hu,l,hl,h,hh,r,hr',rfl,rfl⟩:=hr
     cases mx with
     | none=>exact (run_sliceArr hd hti hcond2.1 (arg_rep he hsx hu) (bd_rep he hsl hl) (bd_rep he hsh hh) hr').sim hs
     | some mx =>
      simp only[compOpt,Option.map_eq_some_iff]at hsm
      obtain⟨_,_,rfl⟩:=hsm
      simp at hcond2
    ·cases hc
   | _=>cases hc
 | fieldAddr t x i =>
  simp only[compOp,Option.bind_eq_some_iff,under]at hc
  obtain⟨sx,hsx,d,hd,hc⟩:=hc
  cases d with
  | struct fs =>
   simp only[Option.bind_eq_some_iff]at hc
   obtain⟨f,hf,n,hn,hc⟩:=hc
   obtain⟨ti,hti,rfl⟩:=size_some hn
   split at hc
   ·cases hc
   ·rename_i hne
    cases hc
    simp only[evOp,Option.map_eq_some_iff,Option.bind_eq_some_iff,Prod.mk.injEq]at hr
    obtain⟨u,hu,r,hr',rfl,rfl⟩:=hr
    exact (run_fadr hd hf hti hne (arg_rep he hsx hu) hr').sim hs
  | _=>cases hc
 | indexAddr t x y =>
  simp only[compOp,Option.bind_eq_some_iff,under]at hc
  obtain⟨sx,hsx,sy,hsy,d,hd,hc⟩:=hc
  cases d with
  | slice el =>
   simp only[Option.map_eq_some_iff]at hc
   obtain⟨n,hn,rfl⟩:=hc
   obtain⟨ti,hti,rfl⟩:=size_some hn
   simp only[evOp,Option.map_eq_some_iff,Option.bind_eq_some_iff,Prod.mk.injEq]at hr
   obtain⟨u,hu,m,hm,r,hr',rfl,rfl⟩:=hr
   obtain⟨k,hk⟩:=int_rep he hsy hm
   exact (run_idx hs hd hti (arg_rep he hsx hu) hk hr').sim hs
  | array len el =>
   simp only[Option.map_eq_some_iff]at hc
   obtain⟨n,hn,rfl⟩:=hc
   obtain⟨ti,hti,rfl⟩:=size_some hn
   simp only[evOp,Option.map_eq_some_iff,Option.bind_eq_some_iff,Prod.mk.injEq]at hr
   obtain⟨u,hu,m,hm,r,hr',rfl,rfl⟩:=hr
   obtain⟨k,hk⟩:=int_rep he hsy hm
   exact (run_idxA hd hti (arg_rep he hsx hu) hk hr').sim hs
  | _=>cases hc
 | index t x y =>
  simp only[compOp,Option.bind_eq_some_iff,under]at hc
  obtain⟨sx,hsx,sy,hsy,d,hd,hc⟩:=hc
  cases d with
  | string =>
   simp only[Option.some.injEq]at hc
   subst hc
   simp only[evOp,Option.map_eq_some_iff,Option.bind_eq_some_iff,Prod.mk.injEq]at hr
   obtain⟨s,hs',m,hm,r,hr',rfl,rfl⟩:=hr
   obtain⟨k,hk⟩:=int_rep he hsy hm
   exact (run_idxS hd (str_rep he hsx hs') hk hr').sim hs
  | array len el =>
   simp only[Option.bind_eq_some_iff,Option.map_eq_some_iff]at hc
   obtain⟨gg,hgg,n,hn,rfl⟩:=hc
   obtain⟨ti,hti,rfl⟩:=size_some hn
   obtain⟨d,hd',rfl⟩:=agg_some hgg
   simp only[evOp,Option.map_eq_some_iff,Option.bind_eq_some_iff,Prod.mk.injEq]at hr
   obtain⟨u,hu,m,hm,r,hr',rfl,rfl⟩:=hr
   obtain⟨k,hk⟩:=int_rep he hsy hm
   exact (run_idxV hd hti hd' (arg_rep he hsx hu) hk hr').sim hs
  | _=>cases hc
 | lookup t x y ok =>
  simp only[compOp,Option.bind_eq_some_iff,Option.map_eq_some_iff]at hc
  obtain⟨q,hq,el,hel,z,hz,sx,hsx,sy,hsy,rfl⟩:=hc
  simp only[evOp,evMap,evKey,Option.bind_eq_some_iff]at hr
  obtain⟨r,⟨u,hu,hr1⟩,k,⟨uk,huk,hk1⟩,es,hes,hr⟩:=hr
  split at hr
  ·rename_i hok
   simp only[Option.map_eq_some_iff,Prod.mk.injEq]at hr
   obtain⟨o,ho,rfl,rfl⟩:=hr
   obtain⟨key,d,hT⟩:=keyTy_some hq hel
   exact (run_mapget (uk:=uk) hs hT (zeroE_rep hz) (arg_rep he hsx hu) hr1 (key_rep (arg_rep he hsy huk) hk1) hes hok ho).sim hs
  ·cases hr
 | mapUpdate t x y z =>
  simp only[compOp]at hc
  split at hc
  ·cases hc
  ·rename_i hk
   have:dst = none:=by cases dst <;> simp at hk ⊢
   subst this
   simp only[Option.bind_eq_some_iff,Option.map_eq_some_iff]at hc
   obtain⟨q,hq,el,hel,sx,hsx,sy,hsy,sz,hsz,rfl⟩:=hc
   simp only[evOp,evMap,evKey,Option.bind_eq_some_iff]at hr
   obtain⟨r,⟨u,hu,hr1⟩,k,⟨uk,huk,hk1⟩,v',hv1,l,rfl,es,hes,hr⟩:=hr
   split at hr
   ·rename_i hok
    simp only[Option.map_eq_some_iff,Prod.mk.injEq]at hr
    obtain⟨es',hes',rfl,rfl⟩:=hr
    obtain⟨key,d,hT⟩:=keyTy_some hq hel
    exact sim_mapset hs hT (arg_rep he hsx hu) hr1 (key_rep (arg_rep he hsy huk) hk1) (arg_rep he hsz hv1) hes hok hes'
   ·cases hr
 | extract x i =>
  simp only[compOp,Option.map_eq_some_iff]at hc
  obtain⟨sa,hsa,rfl⟩:=hc
  simp only[evOp,Option.map_eq_some_iff,Option.bind_eq_some_iff,Prod.mk.injEq]at hr
  obtain⟨u,hu,r,hr',rfl,rfl⟩:=hr
  exact (run_extract (arg_rep he hsa hu) hr').sim hs
 | call c =>
  simp only[compOp]at hc
  split at hc
  ·simp only[Option.bind_eq_some_iff,Option.map_eq_some_iff]at hc
   obtain⟨_,_,_,_,rfl⟩:=hc
   simp[evOp]at hr
  ·rename_i hcal
   split at hc
   ·rename_i x t ts hargs hts
    simp only[Option.bind_eq_some_iff,under]at hc
    obtain⟨sx,hsx,d,hd,hc⟩:=hc
    have h0:c.argTypes[0]? = some t:=by rw[← Array.getElem?_toList,hts]; rfl
    cases d with
    | slice el =>
     cases hc
     simp only[evOp,Option.map_eq_some_iff,Option.bind_eq_some_iff,Prod.mk.injEq]at hr
     obtain⟨u,hu,n,hn,rfl,rfl⟩:=hr
     exact (run_len hcal hargs h0 hd (arg_rep he hsx hu) hn).sim hs
    | string =>
     cases hc
     simp only[evOp,Option.map_eq_some_iff,Prod.mk.injEq]at hr
     obtain⟨s,hs',rfl,rfl⟩:=hr
     exact (run_lenS hcal hargs h0 hd (str_rep he hsx hs')).sim hs
    | map key el =>
     cases hc
     simp only[evOp,evMap,Option.map_eq_some_iff,Option.bind_eq_some_iff,Prod.mk.injEq]at hr
     obtain⟨r,⟨u,hu,hr1⟩,es,hes,rfl,rfl⟩:=hr
     exact (run_lenM hs hcal hargs h0 hd (arg_rep he hsx hu) hr1 hes).sim hs
    | _=>cases hc
   ·cases hc
  ·rename_i hcal
   split at hc
   ·rename_i x t ts hargs hts
    simp only[Option.bind_eq_some_iff,under]at hc
    obtain⟨sx,hsx,d,hd,hc⟩:=hc
    have h0:c.argTypes[0]? = some t:=by rw[← Array.getElem?_toList,hts]; rfl
    cases d with
    | slice el =>
     cases hc
     simp only[evOp,Option.map_eq_some_iff,Option.bind_eq_some_iff,Prod.mk.injEq]at hr
     obtain⟨u,hu,n,hn,rfl,rfl⟩:=hr
     exact (run_cap hcal hargs h0 hd (arg_rep he hsx hu) hn).sim hs
    | _=>cases hc
   ·cases hc
  ·rename_i hcal
   split at hc
   ·rename_i x y t t' hargs hts
    split at hc
    ·simp only[Option.bind_eq_some_iff,under]at hc
     obtain⟨d,hd,hc⟩:=hc
     cases d with
     | slice el =>
      simp only[Option.bind_eq_some_iff]at hc
      obtain⟨d',hd',hc⟩:=hc
      cases d' with
      | int k =>
       simp only[Option.bind_eq_some_iff]at hc
       obtain⟨b,hb,n,hn,z,hz,hc⟩:=hc
       split at hc
       ·cases hc
       ·rename_i hcond
        simp only[Option.bind_eq_some_iff,Option.map_eq_some_iff]at hc
        obtain⟨sx,hsx,sy,hsy,rfl⟩:=hc
        obtain⟨ti,hti,rfl⟩:=size_some hn
        simp only[bytesT,hti,Option.map_some,Option.some.injEq]at hb
        subst hb
        rw[not_or,not_or,Decidable.not_not]at hcond
        simp only[evOp,Option.bind_eq_some_iff]at hr
        obtain⟨u,hu,m,hm,hr⟩:=hr
        obtain⟨j,hj⟩:=int_rep he hsy hm
        exact sim_appendZ hs hcal hargs hts hd hd' hti hz hcond.2.2 hcond.1 hcond.2.1 (arg_rep he hsx hu) hj hr
      | _=>cases hc
     | _=>cases hc
    ·rename_i htt
     have htt':t = t':=Classical.byContradiction htt
     subst htt'
     simp only[Option.bind_eq_some_iff,under]at hc
     obtain⟨sx,hsx,sy,hsy,d,hd,hc⟩:=hc
     cases d with
     | slice el =>
      simp only[Option.bind_eq_some_iff]at hc
      obtain⟨b,hb,n,hn,hc⟩:=hc
      split at hc
      ·cases hc
      ·rename_i hcond
       cases hc
       obtain⟨ti,hti,rfl⟩:=size_some hn
       simp only[bytesT,hti,Option.map_some,Option.some.injEq]at hb
       subst hb
       rw[not_or]at hcond
       obtain⟨hb0,hzc⟩:=hcond
       rw[hti]at hzc
       simp only[Option.bind_some,Decidable.not_not,Option.map_eq_some_iff]at hzc
       obtain⟨z,hz,hzs⟩:=hzc
       simp only[evOp,Option.bind_eq_some_iff]at hr
       obtain⟨u,hu,v',hv',hr⟩:=hr
       exact sim_append hs hcal hargs hts hd hti hz hzs hb0 (arg_rep he hsx hu) (arg_rep he hsy hv') hr
     | _=>cases hc
   ·cases hc
  ·rename_i hcal
   split at hc
   ·rename_i x y t ts hargs hts
    have h0:c.argTypes[0]? = some t:=by rw[← Array.getElem?_toList,hts]; rfl
    simp only[Option.bind_eq_some_iff,under]at hc
    obtain⟨sx,hsx,sy,hsy,d,hd,hc⟩:=hc
    cases d with
    | slice el =>
     simp only[Option.map_eq_some_iff]at hc
     obtain⟨n,hn,rfl⟩:=hc
     obtain⟨ti,hti,rfl⟩:=size_some hn
     simp only[evOp,Option.bind_eq_some_iff]at hr
     obtain⟨u,hu,v',hv',hr⟩:=hr
     exact sim_copy hs hcal hargs h0 hd hti (arg_rep he hsx hu) (arg_rep he hsy hv') hr
    | _=>cases hc
   ·cases hc
  ·rename_i hcal
   split at hc
   ·rename_i x y hargs
    simp only[Option.bind_eq_some_iff,Option.map_eq_some_iff]at hc
    obtain⟨sx,hsx,sy,hsy,rfl⟩:=hc
    simp only[evOp,Option.map_eq_some_iff,Option.bind_eq_some_iff,Prod.mk.injEq]at hr
    obtain⟨u,hu,v',hv',r,hr',rfl,rfl⟩:=hr
    exact (run_maxmin (mx:=true) hcal hargs (val_rep he hsx hu) (val_rep he hsy hv') hr').sim hs
   ·cases hc
  ·rename_i hcal
   split at hc
   ·rename_i x y hargs
    simp only[Option.bind_eq_some_iff,Option.map_eq_some_iff]at hc
    obtain⟨sx,hsx,sy,hsy,rfl⟩:=hc
    simp only[evOp,Option.map_eq_some_iff,Option.bind_eq_some_iff,Prod.mk.injEq]at hr
    obtain⟨u,hu,v',hv',r,hr',rfl,rfl⟩:=hr
    exact (run_maxmin (mx:=false) hcal hargs (val_rep he hsx hu) (val_rep he hsy hv') hr').sim hs
   ·cases hc
  ·cases hc
 | _=>cases hc
end
end Go.Proofs.YtchgldaddcolhaaGreatDoor
namespace Go.Proofs.YtchgldaddcolhaaGreatDoor
open Go
variable[Sub]
theorem lk_upd:∀ (e:Env) (n m:Nat) (v:AV),lk (upd e n v) m = if n = m then some v else lk e m
 | [],n,m,v=>by simp[upd,lk]
 | (k,u)::e,n,m,v=>by
  simp only[upd]
  split
  ·rename_i h; subst h; simp only[lk]; split <;> rfl
  ·rename_i h
   simp only[lk,lk_upd e n m v]
   by_cases h1:k = m
   ·subst h1; simp[Ne.symm h]
   ·simp[h1]
structure FrOk (vars:List Nat) (e:Fr):Prop where
 loc:∀ n v,lk e.loc n = some v→n ∉ vars
 env:∀ n v,lk e.env n = some v→n ∈ vars
def DstOk(nt:Nat)(vars:List Nat)(d:Option Tmp)(sd:SD):Prop :=
 (d = none∧sd = .no)∨∃ n,d = some n∧n < nt∧((n ∈ vars∧sd = .x n)∨(n ∉ vars∧sd = .t n))
def ArgsRep(w:World)(g:Gh)(H:List Obj)(cs:Array Value)(aZ:List AV):Prop :=
 cs.size = aZ.length∧∀ (i:Nat) (c:Value) (x:AV),cs[i]? = some c→aZ[i]? = some x→Rep w g H c x
def CD(P:Program)(kn:TypeId→Bool):Code→SCode→Nat→List Nat→Prop:=fun c s nt vars=>1000002 ∉ vars∧∃ lone,comp P kn lone nt vars c = some s
def CallSim(P:Program)(kn:TypeId→Bool)(f:FuncId)(args:List AV)(H:List Obj)(r:AV×List Obj):Prop :=
 ∀ w g cs,g.cd = CD P kn→StRel w g H→ArgsRep w g H cs args →
  Calls P f cs w fun e w'=>∃ v g',e = .returned v∧Evo w g H w' g' r.2∧StRel w' g' r.2∧Rep w' g' r.2 v r.1
def FR(r:Option Nat):Fence:={ fn:=fun _=>True,depth:=none,alive:=false,round:=r }
theorem callsIn_FR{r:Option Nat}{n:Nat}{P:Program}{f:FuncId}{args:Array Value}{w:World}{R:Ending→World→Prop}(h:Calls P f args w R):CallsIn (FR r) n P f args w R:=by
 have h0:CallsIn Fence.wide n P f args w R:=callsIn_wide.2 h
 cases r with
 | none=>exact h0
 | some l=>exact h0.inRound l
def YieldSim(P:Program)(kn:TypeId→Bool)(l:Nat)(args:List AV)(H:List Obj)(r:AV×List Obj):Prop :=
 ∀ w g cs,g.cd = CD P kn→StRel w g H→ArgsRep w g H cs args→∀ r0:Option Nat,
  ∃ fn tmps assign body,(Instr.yield (g.blk l) cs).run P w = .ok (.round (g.blk l) fn tmps assign body) w ∧
   RoundIn (FR r0) 0 P (g.blk l) fn tmps assign body w fun e w'=>∃ v g',e = .returned v∧Evo w g H w' g' r.2∧StRel w' g' r.2∧Rep w' g' r.2 v r.1
section
variable{P:Program}{kn:TypeId→Bool}{w w':World}{g g':Gh}{H H':List Obj}{a:Act}{e:Fr}{vars:List Nat}{nt:Nat}
theorem EnvRel.evo(he:EnvRel w g H a.tmps e)(hv:Evo w g H w' g' H'):EnvRel w' g' H' a.tmps e :=
 ⟨fun t v h=>hv.rep _ _ (he.loc t v h),fun t v h=>hv.rep _ _ (he.env t v h),he.glob.step hv.D hv.cells⟩
theorem put_rel{d:Option Tmp}{sd:SD}{cv:Value}{v:AV}(he:EnvRel w g H a.tmps e)(hf:FrOk vars e)(hd:DstOk nt vars d sd)(hn:nt ≤ a.tmps.size)(hr:d = none∨Rep w g H cv v) :
  EnvRel w g H (a.put d cv).tmps (dstPut sd e v)∧FrOk vars (dstPut sd e v)∧(a.put d cv).tmps.size = a.tmps.size∧(a.put d cv).defers = a.defers:=by
 rcases hd with ⟨rfl,rfl⟩ | ⟨n,rfl,hlt,hd⟩
 ·exact⟨he,hf,rfl,rfl⟩
 ·have hr':Rep w g H cv v:=hr.resolve_left (by simp)
  have hget:∀ t,(a.put (some n) cv).tmps.getD t undef = if n = t then cv else a.tmps.getD t undef:=fun t=>by
   simp only[Act.put,Array.getD_eq_getD_getElem?,Array.getElem?_setIfInBounds]
   by_cases h:n = t
   ·subst h; simp[Nat.lt_of_lt_of_le hlt hn]
   ·simp[h]
  rcases hd with ⟨hin,rfl⟩ | ⟨hin,rfl⟩
  ·refine⟨⟨fun t u h=>?_,fun t u h=>?_,he.glob⟩,⟨hf.loc,fun t u h=>?_⟩,by simp[Act.put],rfl⟩
   ·rw[hget,if_neg (fun e1:n = t=>hf.loc t u h (by rw[← e1]; exact hin))]; exact he.loc t u h
   ·simp only[dstPut,lk_upd]at h
    rw[hget]
    split at h
    ·rename_i e1; cases h; rw[if_pos e1]; exact hr'
    ·rename_i e1; rw[if_neg e1]; exact he.env t u h
   ·simp only[dstPut,lk_upd]at h
    split at h
    ·rename_i e1; exact e1 ▸ hin
    ·exact hf.env t u h
  ·refine⟨⟨fun t u h=>?_,fun t u h=>?_,he.glob⟩,⟨fun t u h=>?_,hf.env⟩,by simp[Act.put],rfl⟩
   ·simp only[dstPut,lk]at h
    rw[hget]
    split at h
    ·rename_i e1; cases h; rw[if_pos e1]; exact hr'
    ·rename_i e1; rw[if_neg e1]; exact he.loc t u h
   ·rw[hget,if_neg (fun e1:n = t=>hin (by rw[e1]; exact hf.env t u h))]; exact he.env t u h
   ·simp only[dstPut,lk]at h
    split at h
    ·rename_i e1; exact e1 ▸ hin
    ·exact hf.loc t u h
theorem undef_rep:Rep w g H undef (.tup []):=.tup (a:=#[]) rfl (fun i c x h=>by simp at h)
def OneSim(P:Program)(a:Act)(w:World)(g:Gh)(H:List Obj)(o:Oper)(v:AV)(H':List Obj):Prop :=
 ∀ (r0:Option Nat) (K:Act→World→Prop) (Q:Exit→Act→World→Prop),(∀ cv w' g',Evo w g H w' g' H'→StRel w' g' H'→(o.dst = none∨Rep w' g' H' cv v)→K (a.put o.dst cv) w')→o.wpIn (FR r0) 0 P a w K Q
theorem OpSim.one{o:Oper}{v:AV}(h:OpSim P a w g H o v H'):OneSim P a w g H o v H':=fun r0 K Q hK=>by
 obtain⟨cv,w',g',hr,h1,h2,h3⟩:=h
 have hnd:∀ c,o.op ≠ .defer c:=fun c hc=>by
  obtain⟨dst,op,ty,pos,after,gd⟩:=o
  cases hc
  simp only[execOp,Sem.run_bind,Sem.run_pure]at hr
  generalize (resolve a.eval c ty).run P w = x at hr
  cases x <;> simp[Result.andThen]at hr
 refine⟨fun _ _=>trivial,?_⟩
 rw[Oper.semAt_eq _ _ _ hnd]
 rcases hr with hr | ⟨hr,rfl⟩
 ·rw[hr]; exact hK cv w' g' h1 h2 h3
 ·rw[hr]; exact hK undef w' g' h1 h2 h3
def FnOk (P:Program) (f:FuncId):Prop:=∃ fn c,P.funcs[f]? = some fn∧(fn.name == "runtime.NumGoroutine") = false∧fn.body = some c
theorem args_append{c1 c2:Array Value}{l1 l2:List AV}(h1:ArgsRep w g H c1 l1)(h2:ArgsRep w g H c2 l2):ArgsRep w g H (c1++c2) (l1++l2):=by
 refine⟨by simp[h1.1,h2.1],fun i c x hc hx=>?_⟩
 rw[Array.getElem?_append]at hc
 rw[List.getElem?_append]at hx
 split at hc
 ·rename_i hlt
  rw[if_pos (by rw[← h1.1]; exact hlt)]at hx
  exact h1.2 i c x hc hx
 ·rename_i hlt
  rw[if_neg (by rw[← h1.1]; exact hlt),← h1.1]at hx
  exact h2.2 _ c x hc hx
theorem one_call{o:Oper}{c:Call}{f:Operand}{fid:FuncId}{first args cap:List AV}{v:AV}(ho:o.op = .call c)(hcal:c.callee = .value f)(hok:FnOk P fid)(hs:StRel w g H)(hf:Rep w g H (a.eval f) (.fn (.func fid) first cap))(ha:c.args.toList.length = args.length∧∀ (i:Nat) (x:Operand) (u:AV),c.args.toList[i]? = some x→args[i]? = some u→Rep w g H (a.eval x) u)(hcd:g.cd = CD P kn)(hsim:CallSim P kn fid (first++args++cap) H (v,H')):OneSim P a w g H o v H':=fun r0 K Q hK=>by
 obtain⟨fn,code,h1,h2,h3⟩:=hok
 generalize hfv:a.eval f = fv at hf
 cases hf with
 | @fn _ cf cc _ _ e1 e2 r1 r2 =>
  obtain⟨e3,r3⟩:=map_rep ha.1 ha.2
  have hargs:ArgsRep w g H (cf++c.args.map a.eval++cc) (first++args++cap):=args_append (args_append ⟨e1,r1⟩ ⟨e3,r3⟩) ⟨e2,r2⟩
  have hrun:(execOp a.eval o).run P w = .ok (.enter fid (cf++c.args.map a.eval++cc)) w:=by
   obtain⟨dst,op,ty,pos,after,gd⟩:=o
   cases ho
   simp[execOp,resolve,hcal,hfv,Deferred.ofValue,Go.invoke,callFunc,h1,h3]
   simp at h2
   simp[h2]
  refine⟨fun _ _=>trivial,?_⟩
  rw[Oper.semAt_eq _ _ _ (fun c' hc'=>by rw[ho]at hc'; cases hc'),hrun,Oper.uponIn_enter]
  refine⟨fun h=>(by cases h),callsIn_FR ((hsim w g _ hcd hs hargs).mono fun e w'' he=>?_)⟩
  obtain⟨cv,g',rfl,k1,k2,k3⟩:=he
  exact hK cv w'' g' k1 k2 (.inr k3)
theorem one_yield{o:Oper}{c:Call}{f:Operand}{l:Nat}{args:List AV}{v:AV}(ho:o.op = .call c)(hcal:c.callee = .value f)(hs:StRel w g H)(hf:Rep w g H (a.eval f) (.yld l))(ha:c.args.toList.length = args.length∧∀ (i:Nat) (x:Operand) (u:AV),c.args.toList[i]? = some x→args[i]? = some u→Rep w g H (a.eval x) u)(hcd:g.cd = CD P kn)(hsim:YieldSim P kn l args H (v,H')):OneSim P a w g H o v H':=fun r0 K Q hK=>by
 generalize hfv:a.eval f = fv at hf
 cases hf with
 | yld hl =>
  obtain⟨e3,r3⟩:=map_rep ha.1 ha.2
  obtain⟨fn,tmps,assign,body,h1,h2⟩:=hsim w g (c.args.map a.eval) hcd hs ⟨e3,r3⟩ r0
  have hrun:(execOp a.eval o).run P w = .ok (.round (g.blk l) fn tmps assign body) w:=by
   obtain⟨dst,op,ty,pos,after,gd⟩:=o
   cases ho
   simp[execOp,resolve,hcal,hfv,Deferred.ofValue,Go.invoke,h1]
  refine⟨fun _ _=>trivial,?_⟩
  rw[Oper.semAt_eq _ _ _ (fun c' hc'=>by rw[ho]at hc'; cases hc'),hrun,Oper.uponIn_round]
  refine⟨fun h=>(by cases h),h2.mono fun e w'' he=>?_⟩
  obtain⟨cv,g',rfl,k1,k2,k3⟩:=he
  exact hK cv w'' g' k1 k2 (.inr k3)
theorem wanted_rep{ops:Array Oper}{o:Oper}{so:SO}{own:List Nat}{t:Bool}(he:EnvRel w g H a.tmps e)(hg:(match o.guard with
   | none=>some none
   | some (j,b)=>((ops[j]?).bind (·.dst)).map fun t=>some (if own.contains t then SA.t t else SA.x t,b)) = some so.guard)(hw:wanted so e = some t) :
  Region.wanted o (yielded ops a.tmps) = t:=by
 unfold Region.wanted
 cases ho:o.guard with
 | none =>
  rw[ho]at hg
  simp only[Option.some.injEq]at hg
  simp only[wanted,← hg,Option.some.injEq]at hw
  exact hw
 | some jb =>
  obtain⟨j,b⟩:=jb
  rw[ho]at hg
  simp only[Option.map_eq_some_iff]at hg
  obtain⟨d,hd,hg⟩:=hg
  simp only[wanted,← hg]at hw
  have key:∀ v,ev e (if own.contains d then SA.t d else SA.x d) = some v→Rep w g H (a.tmps.getD d undef) v:=fun v hv=>by
   split at hv
   ·exact he.loc d v hv
   ·exact he.env d v hv
  have hy:∀ c,a.tmps.getD d undef = c→c ≠ undef→yielded ops a.tmps j = (match c with | .bool b=>some b | _=>none):=fun c hc hne=>by
   unfold yielded
   rw[hd,Option.bind_some]
   rw[Array.getD_eq_getD_getElem?]at hc
   cases ht:a.tmps[d]? with
   | none=>rw[ht]at hc; exact absurd hc.symm hne
   | some c'=>rw[ht]at hc; simp only[Option.getD_some]at hc; subst hc; cases c' <;> rfl
  split at hw
  ·rename_i t' hev
   have:=(key _ hev).val.1
   cases hw
   show (yielded ops a.tmps j == some b) = (t' == b)
   rw[hy _ this (by intro h; cases h)]
   cases t' <;> cases b <;> rfl
  ·rename_i hev
   have hr:=key _ hev
   cases hw
   have hn:yielded ops a.tmps j = none:=by
    unfold yielded
    rw[hd,Option.bind_some]
    generalize hc:a.tmps.getD d undef = c at hr
    cases hr with
    | tup h0 _ =>
     rw[Array.getD_eq_getD_getElem?]at hc
     cases ht:a.tmps[d]? with
     | none=>rfl
     | some c'=>rw[ht]at hc; simp only[Option.getD_some]at hc; subst hc; rfl
   show (yielded ops a.tmps j == some b) = false
   rw[hn]; rfl
  ·cases hw
theorem compOps_cons{ops:Array Oper}{o:Oper}{os:List Oper}{own:List Nat}{sos:List SO}(h:compOps P kn nt vars ops (o::os) own = some sos) :
  ∃ so rest own',sos = so::rest∧compOp P kn own o = some so.op∧DstOk nt vars o.dst so.dst∧compOps P kn nt vars ops os own' = some rest ∧
   (match o.guard with
   | none=>some none
   | some (j,b)=>((ops[j]?).bind (·.dst)).map fun t=>some (if own.contains t then SA.t t else SA.x t,b)) = some so.guard:=by
 simp only[compOps,Option.bind_eq_some_iff]at h
 obtain⟨op,hop,g,hg,h⟩:=h
 cases hd:o.dst with
 | none =>
  simp only[hd,Option.map_eq_some_iff]at h
  obtain⟨rest,hrest,rfl⟩:=h
  exact⟨_,rest,own,rfl,hop,.inl ⟨rfl,rfl⟩,hrest,hg⟩
 | some d =>
  simp only[hd]at h
  split at h
  ·rename_i hlt
   split at h
   ·rename_i hin
    simp only[Option.map_eq_some_iff]at h
    obtain⟨rest,hrest,rfl⟩:=h
    exact⟨_,rest,own,rfl,hop,.inr ⟨d,rfl,hlt,.inl ⟨by simpa using hin,rfl⟩⟩,hrest,hg⟩
   ·rename_i hin
    simp only[Option.map_eq_some_iff]at h
    obtain⟨rest,hrest,rfl⟩:=h
    exact⟨_,rest,d::own,rfl,hop,.inr ⟨d,rfl,hlt,.inr ⟨by simpa using hin,rfl⟩⟩,hrest,hg⟩
  ·cases h
theorem evs_congr{e e':Fr}:∀ {xs:List SA},(∀ x ∈ xs,ev e' x = ev e x)→evs e' xs = evs e xs
 | [],_=>rfl
 | x::xs,h=>by simp only[evs,h x (List.mem_cons_self ..),evs_congr (fun y hy=>h y (List.mem_cons_of_mem _ hy))]
theorem fill_congr{e e':Fr}:∀ {ps:List (Nat×Nat×SA)} {z:List AV},(∀ x ∈ ps.map (·.2.2),ev e' x = ev e x)→fill e' z ps = fill e z ps
 | [],z,_=>rfl
 | (off,n,x)::ps,z,h=>by
  simp only[fill,h x (by simp)]
  congr 1; funext a; congr 1; funext cs; split
  ·congr 1; funext z'; exact fill_congr (fun y hy=>h y (by simp at hy ⊢; exact .inr hy))
  ·rfl
theorem fillRows_congr{e e':Fr}{H:List Obj}{n:Nat}:∀ {ps:List (Nat×SA)} {z:List (List PV)},(∀ x ∈ ps.map (·.2),ev e' x = ev e x)→fillRows H e' n z ps = fillRows H e n z ps
 | [],z,_=>rfl
 | (off,x)::ps,z,h=>by
  simp only[fillRows,h x (by simp)]
  congr 1; funext a; congr 1; funext cs; congr 1; funext r; split
  ·congr 1; funext z'; exact fillRows_congr (fun y hy=>h y (by simp at hy ⊢; exact .inr hy))
  ·rfl
theorem partArs_congr{e e':Fr}:∀ {ps:List (Nat×SA)},(∀ x ∈ ps.map (·.2),ev e' x = ev e x)→partArs e' ps = partArs e ps
 | [],_=>rfl
 | (off,x)::ps,h=>by
  simp only[partArs,h x (by simp)]
  rw[partArs_congr (fun y hy=>h y (by simp at hy ⊢; exact .inr hy))]
theorem evOp_congr{e e':Fr}{op:SOp}{H:List Obj}(h:∀ x ∈ opKeys op,ev e' x = ev e x):evOp e' H op = evOp e H op:=by
 cases op with
 | build z ps=>simp only[evOp,fill_congr (e:=e) (e':=e') h]
 | slit z n ps=>simp only[evOp,fillRows_congr (e:=e) (e':=e') h,partArs_congr (e:=e) (e':=e') h]
 | slitA z n ps=>simp only[evOp,fillRows_congr (e:=e) (e':=e') h,partArs_congr (e:=e) (e':=e') h]
 | mkfn fn a b =>
  simp only[evOp,evs_congr (e:=e) (e':=e') (xs:=a) (fun x hx=>h x (by simp[opKeys,hx])),evs_congr (e:=e) (e':=e') (xs:=b) (fun x hx=>h x (by simp[opKeys,hx]))]
 | slice es x l hi m =>
  have hx:=h x (by simp[opKeys])
  have hl:∀ d,evIntO e' d l = evIntO e d l:=fun d=>by
   cases l with
   | none=>rfl
   | some y=>simp only[evIntO,evInt,h y (by simp[opKeys])]
  have hh:∀ d,evIntO e' d hi = evIntO e d hi:=fun d=>by
   cases hi with
   | none=>rfl
   | some y=>simp only[evIntO,evInt,h y (by simp[opKeys])]
  have hm:evIntOO e' m = evIntOO e m:=by
   cases m with
   | none=>rfl
   | some y=>simp only[evIntOO,evInt,h y (by simp[opKeys])]
  simp only[evOp,hx,hl,hh,hm]
 | sliceS x l hi =>
  have hx:=h x (by simp[opKeys])
  have hl:∀ d,evIntO e' d l = evIntO e d l:=fun d=>by
   cases l with
   | none=>rfl
   | some y=>simp only[evIntO,evInt,h y (by simp[opKeys])]
  have hh:∀ d,evIntO e' d hi = evIntO e d hi:=fun d=>by
   cases hi with
   | none=>rfl
   | some y=>simp only[evIntO,evInt,h y (by simp[opKeys])]
  simp only[evOp,evStr,hx,hl,hh]
 | sliceArr n x l hi =>
  have hx:=h x (by simp[opKeys])
  have hl:∀ d,evIntO e' d l = evIntO e d l:=fun d=>by
   cases l with
   | none=>rfl
   | some y=>simp only[evIntO,evInt,h y (by simp[opKeys])]
  have hh:∀ d,evIntO e' d hi = evIntO e d hi:=fun d=>by
   cases hi with
   | none=>rfl
   | some y=>simp only[evIntO,evInt,h y (by simp[opKeys])]
  simp only[evOp,hx,hl,hh]
 | _=>simp only[opKeys,List.mem_cons,List.not_mem_nil,or_false,forall_eq_or_imp,forall_eq]at h <;> simp[evOp,evVal,evInt,evBool,evStr,evMap,evKey,h]
end
def OneM(P:Program)(kn:TypeId→Bool)(op:SOp)(e:Fr)(H:List Obj)(r:AV×List Obj):Prop :=
 ∀ (e':Fr),(∀ x ∈ opKeys op,ev e' x = ev e x)→∀ (o:Oper) (own:List Nat) (a:Act) (w:World) (g:Gh),compOp P kn own o = some op→EnvRel w g H a.tmps e'→g.cd = CD P kn→StRel w g H→OneSim P a w g H o r.1 r.2
def OpsM(P:Program)(kn:TypeId→Bool)(sos:List SO)(e:Fr)(H:List Obj)(r:St):Prop :=
 ∀ (nt:Nat) (vars:List Nat) (ops:Array Oper) (l:List Oper) (own:List Nat) (k:Nat),compOps P kn nt vars ops l own = some sos→(∀ j,j < l.length→ops[k + j]? = l[j]?) →
 ∀ (a:Act) (w:World) (g:Gh) (r0:Option Nat) (Q:Exit→Act→World→Prop),EnvRel w g H a.tmps e→FrOk vars e→nt ≤ a.tmps.size→g.cd = CD P kn→StRel w g H →
  (∀ a' w' g',Evo w g H w' g' r.H→StRel w' g' r.H→EnvRel w' g' r.H a'.tmps ⟨[],r.env⟩→FrOk vars ⟨[],r.env⟩→a'.defers = a.defers→a'.tmps.size = a.tmps.size→Q .normal a' w') →
  wpOpsIn (FR r0) 0 P ops Q (List.range' k l.length) a w
theorem opsM_nil{P:Program}{kn:TypeId→Bool}{e:Fr}{H:List Obj}:OpsM P kn [] e H ⟨e.env,H⟩:=by
 intro nt vars ops l own k hc _ a w g r0 Q he hf hn hcd hs hQ
 cases l with
 | nil =>
  simp only[List.length_nil,List.range'_zero,wpOpsIn]
  exact hQ a w g (.refl _ _ _) hs ⟨fun t v h=>(by cases h),he.env,he.glob⟩ ⟨fun t v h=>(by cases h),hf.env⟩ rfl rfl
 | cons o os =>
  obtain⟨_,_,_,h,_⟩:=compOps_cons hc
  cases h
theorem opsM_cons{P:Program}{kn:TypeId→Bool}{so:SO}{sos:List SO}{e:Fr}{H:List Obj}{t:Bool}{r:St}(hw:wanted so e = some t)(h:if t then ∃ v,OneM P kn so.op e H v∧OpsM P kn sos (dstPut so.dst e v.1) v.2 r else OpsM P kn sos (dstDrop so.dst e) H r):OpsM P kn (so::sos) e H r:=by
 intro nt vars ops l own k hc hl a w g r0 Q he hf hn hcd hs hQ
 cases l with
 | nil=>simp[compOps]at hc
 | cons o os =>
  obtain⟨so',rest,own',heq,hop,hdst,hrest,hg⟩:=compOps_cons hc
  cases heq
  have ho:ops[k]? = some o:=by have:=hl 0 (by simp); simpa using this
  have hl':∀ j,j < os.length→ops[k + 1 + j]? = os[j]?:=fun j hj=>by
   have:=hl (j + 1) (by simpa using hj)
   rw[List.getElem?_cons_succ]at this
   rw[← this]; congr 1; omega
  rw[List.length_cons,List.range'_succ]
  simp only[wpOpsIn,ho]
  have hwr:=wanted_rep (ops:=ops) he hg hw
  rw[hwr]
  cases t with
  | false =>
   simp only[Bool.false_eq_true,if_false]at h ⊢
   obtain⟨p1,p2,p3,p4⟩:=put_rel (d:=o.dst) (sd:=so.dst) (cv:=undef) (v:=.tup []) he hf hdst hn (.inr undef_rep)
   exact⟨fun _ _=>trivial,h nt vars ops os own' (k + 1) hrest hl' _ w g r0 Q p1 p2 (by rw[p3]; exact hn) hcd hs (fun a' w' g' q1 q2 q3 q4 q5 q6=>hQ a' w' g' q1 q2 q3 q4 (q5.trans p4) (q6.trans p3))⟩
  | true =>
   simp only[if_true]at h ⊢
   obtain⟨v,h1,h2⟩:=h
   refine h1 e (fun _ _=>rfl) o own a w g hop he hcd hs _ _ _ fun cv w' g' e1 s1 hr=>?_
   obtain⟨p1,p2,p3,p4⟩:=put_rel (d:=o.dst) (sd:=so.dst) (cv:=cv) (v:=v.1) (he.evo e1) hf hdst hn hr
   exact h2 nt vars ops os own' (k + 1) hrest hl' _ w' g' r0 Q p1 p2 (by rw[p3]; exact hn) (e1.cd.trans hcd) s1 (fun a' w'' g'' q1 q2 q3 q4 q5 q6=>hQ a' w'' g'' (e1.trans q1) q2 q3 q4 (q5.trans p4) (q6.trans p3))
end Go.Proofs.YtchgldaddcolhaaGreatDoor

/- Part of the proof of Rows.ProverMiddlesCardSaid: EvZ2, EvZ3, EvA, EvD. -/
import Derived.Test.YtepbfecmageleaaGreatDoorP11
set_option linter.all false
namespace Go.Proofs.YtepbfecmageleaaGreatDoor
open Go
variable [Sub]
theorem putBack_len:∀ (sub:List Nat) (os H:List Obj),(putBack H sub os).length = H.length
  | [],_,H=>by simp [putBack]
  | _::_,[],H=>by simp [putBack]
  | r::rs,o::os,H=>by simp [putBack,putBack_len rs os]
theorem putBack_ne:∀ (sub:List Nat) (os H:List Obj) {l:Nat},l ∉ sub→(putBack H sub os)[l]? = H[l]?
  | [],_,H,l,_=>by simp [putBack]
  | _::_,[],H,l,_=>by simp [putBack]
  | r::rs,o::os,H,l,h=>by
    simp only [List.mem_cons,not_or] at h
    simp only [putBack]
    rw [putBack_ne rs os _ h.2,List.getElem?_set_ne (Ne.symm h.1)]
theorem putBack_get:∀ (sub:List Nat) (os H:List Obj),sub.Nodup→∀ (i l:Nat) (o:Obj),sub[i]? = some l→os[i]? = some o→l < H.length→(putBack H sub os)[l]? = some o
  | [],_,H,_,i,l,o,h,_,_=>by simp at h
  | _::_,[],H,_,i,l,o,_,h,_=>by simp at h
  | r::rs,o::os,H,hn,i,l,o',h1,h2,h3=>by
    obtain ⟨n1,n2⟩:=List.nodup_cons.1 hn
    simp only [putBack]
    cases i with
    | zero =>
      simp at h1 h2
      subst h1
      subst h2
      rw [putBack_ne rs os _ n1,List.getElem?_set_self h3]
    | succ i =>
      simp at h1 h2
      exact putBack_get rs os _ n2 i l o' h1 h2 (by simpa using h3)
section
variable {w w':World} {g gs:Gh} {H H3 os osn:List Obj} {sub news:List Nat}
def Gh.back (g gs:Gh) (n:Nat) (sub news:List Nat):Gh where
  blk l:=if l ∈ sub then gs.blk (sub.idxOf l) else if l < n then g.blk l else gs.blk (news.getD (l - n) 0)
  base l:=if l ∈ sub then gs.base (sub.idxOf l) else if l < n then g.base l else gs.base (news.getD (l - n) 0)
  cap l:=if l ∈ sub then gs.cap (sub.idxOf l) else if l < n then g.cap l else gs.cap (news.getD (l - n) 0)
  D:=gs.D
  cd:=gs.cd
def backH (H H3:List Obj) (sub news:List Nat) (osn:List Obj):List Obj :=
  putBack H sub ((H3.take sub.length).map (renO (backTo H.length sub news)))++osn.map (renO (backTo H.length sub news))
structure Back (w w':World) (g gs:Gh) (H H3:List Obj) (sub news:List Nat) (os osn:List Obj):Prop where
  st:StRel w g H
  pick:pickObjs H sub = some os
  nd:sub.Nodup
  cl:∀ o ∈ os,∀ r ∈ objRefs o,r ∈ sub
  evo:Evo w (g.part sub) (os.map (renO sub.idxOf)) w' gs H3
  st3:StRel w' gs H3
  len:sub.length ≤ H3.length
  pickn:pickObjs H3 news = some osn
  ndn:news.Nodup
  big:∀ i ∈ news,sub.length ≤ i
  cl3:∀ i o,(i < sub.length∨i ∈ news)→H3[i]? = some o→∀ r ∈ objRefs o,r < sub.length∨r ∈ news
theorem Back.lt (h:Back w w' g gs H H3 sub news os osn) {l:Nat} (hl:l ∈ sub):l < H.length:=by
  obtain ⟨_,h2⟩:=pick_get h.pick
  have hlt:=List.idxOf_lt_length_of_mem hl
  obtain ⟨o,e1,_⟩:=h2 (sub.idxOf l) l (by rw [List.getElem?_eq_getElem hlt,List.getElem_idxOf])
  exact (List.getElem?_eq_some_iff.1 e1).1
theorem Back.to_sub (h:Back w w' g gs H H3 sub news os osn) {i:Nat} (hi:i < sub.length):backTo H.length sub news i = sub[i]∧sub[i] ∈ sub∧sub.idxOf sub[i] = i :=
  ⟨by simp [backTo,hi,List.getD_eq_getElem?_getD],List.getElem_mem hi,List.Nodup.idxOf_getElem h.nd i hi⟩
theorem Back.to_idx (h:Back w w' g gs H H3 sub news os osn) {l:Nat} (hl:l ∈ sub):backTo H.length sub news (sub.idxOf l) = l∧sub.idxOf l < sub.length:=by
  have hlt:=List.idxOf_lt_length_of_mem hl
  exact ⟨by rw [(h.to_sub hlt).1,List.getElem_idxOf],hlt⟩
theorem Back.to_new (h:Back w w' g gs H H3 sub news os osn) {i:Nat} (hi:i ∈ news):backTo H.length sub news i = H.length + news.idxOf i:=by
  have:=h.big i hi
  simp [backTo,Nat.not_lt.2 this]
theorem Back.corr (h:Back w w' g gs H H3 sub news os osn):Corr (fun i=>i < sub.length∨i ∈ news) (backTo H.length sub news) gs H3 (g.back gs H.length sub news) (backH H H3 sub news osn):=by
  obtain ⟨p1,p2⟩:=pick_get h.pickn
  have key:∀ (fs fg:Nat→Nat) (i:Nat),(i < sub.length∨i ∈ news) →
      (if backTo H.length sub news i ∈ sub then fs (sub.idxOf (backTo H.length sub news i)) else if backTo H.length sub news i < H.length then fg (backTo H.length sub news i) else fs (news.getD (backTo H.length sub news i - H.length) 0)) = fs i:=fun fs fg i hi=>by
    by_cases h1:i < sub.length
    · obtain ⟨e1,e2,e3⟩:=h.to_sub h1
      rw [e1,if_pos e2,e3]
    · have hn:=hi.resolve_left h1
      have e1:=h.to_new hn
      have hns:backTo H.length sub news i ∉ sub:=fun hm=>by have:=h.lt hm; omega
      rw [if_neg hns,if_neg (by omega),e1]
      have hlt:=List.idxOf_lt_length_of_mem hn
      rw [Nat.add_sub_cancel_left,getD_idx hn]
  refine ⟨rfl,rfl,fun i o hi ho=>?_,fun i hi=>key gs.blk g.blk i hi,fun i hi=>key gs.base g.base i hi,fun i hi=>key gs.cap g.cap i hi⟩
  by_cases h1:i < sub.length
  · obtain ⟨e1,e2,e3⟩:=h.to_sub h1
    rw [e1,backH,List.getElem?_append_left (by rw [putBack_len]; exact h.lt e2)]
    refine putBack_get _ _ _ h.nd i _ _ (by simp [h1]) ?_ (h.lt e2)
    rw [List.getElem?_map,List.getElem?_take,if_pos h1,ho]; rfl
  · have hn:=hi.resolve_left h1
    rw [h.to_new hn,backH,List.getElem?_append_right (by rw [putBack_len]; omega),putBack_len,Nat.add_sub_cancel_left,List.getElem?_map]
    have hlt:=List.idxOf_lt_length_of_mem hn
    obtain ⟨o',e1,e2⟩:=p2 (news.idxOf i) i (by rw [List.getElem?_eq_getElem hlt,List.getElem_idxOf])
    rw [ho] at e1
    cases e1
    rw [e2]; rfl
theorem Back.cases (h:Back w w' g gs H H3 sub news os osn) {l:Nat} {o:Obj} (hl:(backH H H3 sub news osn)[l]? = some o) :
    (∃ i o3,(i < sub.length∨i ∈ news)∧H3[i]? = some o3∧l = backTo H.length sub news i∧o = renO (backTo H.length sub news) o3)∨(l ∉ sub∧l < H.length∧H[l]? = some o):=by
  obtain ⟨p1,p2⟩:=pick_get h.pickn
  by_cases hs:l ∈ sub
  · obtain ⟨e1,e2⟩:=h.to_idx hs
    have hi:sub.idxOf l < H3.length:=Nat.lt_of_lt_of_le e2 h.len
    have:=h.corr.get (sub.idxOf l) H3[sub.idxOf l] (.inl e2) (by simp [hi])
    rw [e1,hl] at this
    cases this
    exact .inl ⟨_,_,.inl e2,by simp [hi],e1.symm,rfl⟩
  · by_cases hlt:l < H.length
    · rw [backH,List.getElem?_append_left (by rw [putBack_len]; exact hlt),putBack_ne _ _ _ hs] at hl
      exact .inr ⟨hs,hlt,hl⟩
    · rw [backH,List.getElem?_append_right (by rw [putBack_len]; omega),putBack_len,List.getElem?_map,Option.map_eq_some_iff] at hl
      obtain ⟨o3,ho3,rfl⟩:=hl
      have hk:l - H.length < news.length:=by rw [← p1]; exact (List.getElem?_eq_some_iff.1 ho3).1
      obtain ⟨o',e1,e2⟩:=p2 (l - H.length) news[l - H.length] (by simp [hk])
      rw [ho3] at e2
      cases e2
      have hm:news[l - H.length] ∈ news:=List.getElem_mem hk
      exact .inl ⟨_,_,.inr hm,e1,by rw [h.to_new hm,List.Nodup.idxOf_getElem h.ndn]; omega,rfl⟩
theorem Back.far (h:Back w w' g gs H H3 sub news os osn) {l:Nat} (hs:l ∉ sub) (hl:l < H.length) (i:Nat):¬ OwnAny (g.part sub) (os.map (renO sub.idxOf)) (g.blk l) i:=by
  rintro ⟨⟨m,hm,he⟩,_⟩
  have hm':m < sub.length:=by rw [List.length_map,(pick_get h.pick).1] at hm; exact hm
  have he':g.blk (sub.getD m 0) = g.blk l:=he
  have hmem:sub[m] ∈ sub:=List.getElem_mem hm'
  have:sub.getD m 0 = sub[m]:=by simp [List.getD_eq_getElem?_getD,hm']
  rw [this] at he'
  have:=h.st.inj _ _ (h.lt hmem) hl he'
  exact hs (this ▸ hmem)
theorem Back.own (h:Back w w' g gs H H3 sub news os osn) {b i:Nat} (ho:OwnAny (g.part sub) (os.map (renO sub.idxOf)) b i):OwnAny g H b i:=by
  obtain ⟨⟨m,hm,he⟩,hd⟩:=ho
  have hm':m < sub.length:=by rw [List.length_map,(pick_get h.pick).1] at hm; exact hm
  have:sub.getD m 0 = sub[m]:=by simp [List.getD_eq_getElem?_getD,hm']
  exact ⟨⟨sub[m],h.lt (List.getElem_mem hm'),by rw [← he]; show g.blk sub[m] = g.blk (sub.getD m 0); rw [this]⟩,hd⟩
theorem Back.apart (h:Back w w' g gs H H3 sub news os osn) {l i:Nat} {o3:Obj} (hs:l ∉ sub) (hl:l < H.length) (ho:H3[i]? = some o3):gs.blk i ≠ g.blk l:=fun he=>by
  obtain ⟨j,hj⟩:=free_cell (h.st3.stand i o3 ho)
  rcases h.evo.own (gs.blk i) j ⟨⟨i,(List.getElem?_eq_some_iff.1 ho).1,rfl⟩,hj⟩ with h1 | h1
  · rw [he] at h1; exact h.far hs hl j h1
  · rw [he] at h1
    have:=IsBlk.lt h.st hl
    omega
theorem Gh.back_other {n l:Nat} (hs:l ∉ sub) (hl:l < n) :
    (g.back gs n sub news).blk l = g.blk l∧(g.back gs n sub news).base l = g.base l∧(g.back gs n sub news).cap l = g.cap l:=by
  simp [Gh.back,hs,hl]
theorem Back.sound (h:Back w w' g gs H H3 sub news os osn):Evo w g H w' (g.back gs H.length sub news) (backH H H3 sub news osn)∧StRel w' (g.back gs H.length sub news) (backH H H3 sub news osn):=by
  have hc:=h.corr
  have hcs:=corr_sub (g:=g) h.pick
  have hheap:∀ l,l ∉ sub→l < H.length→w'.heap[g.blk l]? = w.heap[g.blk l]?:=fun l hs hl=>h.evo.keep.same (IsBlk.lt h.st hl) (h.far hs hl)
  have hD:∀ b i,g.D b i→gs.D b i:=h.evo.D
  have hsame:∀ l o,l ∉ sub→H[l]? = some o→OStep w g H w' (g.back gs H.length sub news) (backH H H3 sub news osn) l:=fun l o hs ho=>by
    have hl:=(List.getElem?_eq_some_iff.1 ho).1
    obtain ⟨b1,b2,b3⟩:=Gh.back_other (g:=g) (gs:=gs) (news:=news) hs hl
    refine .same ?_ b1 b2 b3
    rw [backH,List.getElem?_append_left (by rw [putBack_len]; exact hl),putBack_ne _ _ _ hs]
  have atom:∀ c a l,refs a = [l]→refs (ren sub.idxOf a) = [sub.idxOf l]→l ∈ sub→Rep w g H c a→Rep w' (g.back gs H.length sub news) (backH H H3 sub news osn) c (ren (backTo H.length sub news) (ren sub.idxOf a)):=fun c a l hr hr2 hl hrep=>by
    have r1:=hrep.ren hcs (fun r hm=>by rw [hr,List.mem_singleton] at hm; subst hm; exact hl)
    have r2:=h.evo.rep _ _ r1
    refine r2.ren hc (fun r hm=>.inl ?_)
    rw [hr2,List.mem_singleton] at hm
    subst hm
    exact (h.to_idx hl).2
  have hrep:∀ c a,Rep w g H c a→Rep w' (g.back gs H.length sub news) (backH H H3 sub news osn) c a:=fun c a hr=>by
    induction hr with
    | p h'=>exact .p (h'.mono hD h.evo.cells)
    | lit h'=>exact .lit (h'.mono hD h.evo.cells)
    | @ar l v off len p cap hA =>
      obtain ⟨_,_,es,fz,ver,rows,hH,_⟩:=id hA
      by_cases hl:l ∈ sub
      · have:=atom _ (.ar l v off len) l (by simp [refs]) (by simp [refs,Go.Proofs.YtepbfecmageleaaGreatDoor.ren]) hl (.ar hA)
        simpa [Go.Proofs.YtepbfecmageleaaGreatDoor.ren,(h.to_idx hl).1] using this
      · exact .ar ((hsame l _ hl hH).ar hD h.evo.cells hA)
    | @ptr r off c h' =>
      by_cases hl:r ∈ sub
      · have:=atom _ (.ptr r off) r (by simp [refs]) (by simp [refs,Go.Proofs.YtepbfecmageleaaGreatDoor.ren]) hl (.ptr h')
        simpa [Go.Proofs.YtepbfecmageleaaGreatDoor.ren,(h.to_idx hl).1] using this
      · obtain ⟨hb,c',h2⟩:=(hsame r _ hl h').ptr h'
        rw [← hb]; exact .ptr h2
    | @elp l v i k b o hE =>
      obtain ⟨es,fz,ver,rows,hH,_⟩:=id hE
      by_cases hl:l ∈ sub
      · have:=atom _ (.elp l v i k) l (by simp [refs]) (by simp [refs,Go.Proofs.YtepbfecmageleaaGreatDoor.ren]) hl (.elp hE)
        simpa [Go.Proofs.YtepbfecmageleaaGreatDoor.ren,(h.to_idx hl).1] using this
      · exact .elp ((hsame l _ hl hH).elp hD h.evo.cells hE)
    | imm cs hDD hcell hr=>exact .imm cs (fun j hj=>hD _ _ (hDD j hj)) (fun j hj=>by rw [h.evo.cells _ _ (hDD j hj)]; exact hcell j hj) (fun j x hx=>(hr j x hx).mono hD h.evo.cells)
    | fn ha hb _ _ ih1 ih2=>exact .fn ha hb ih1 ih2
    | agg ha h1 _ ih=>exact .agg ha h1 ih
    | tup ha _ ih=>exact .tup ha ih
    | @map r es h' =>
      by_cases hl:r ∈ sub
      · have:=atom _ (.map r) r (by simp [refs]) (by simp [refs,Go.Proofs.YtepbfecmageleaaGreatDoor.ren]) hl (.map h')
        simpa [Go.Proofs.YtepbfecmageleaaGreatDoor.ren,(h.to_idx hl).1] using this
      · obtain ⟨hb,c',h2⟩:=(hsame r _ hl h').mp h'
        rw [← hb]; exact .map h2
    | emp=>exact .emp
    | @csl r off n cap c h' hn =>
      by_cases hl:r ∈ sub
      · have:=atom _ (.csl r off n) r (by simp [refs]) (by simp [refs,Go.Proofs.YtepbfecmageleaaGreatDoor.ren]) hl (.csl h' hn)
        simpa [Go.Proofs.YtepbfecmageleaaGreatDoor.ren,(h.to_idx hl).1] using this
      · obtain ⟨hb,c',h2⟩:=(hsame r _ hl h').ptr h'
        rw [← hb]; exact .csl h2 hn
    | @yld r st env ps ca cb h' =>
      by_cases hl:r ∈ sub
      · have:=atom _ (.yld r) r (by simp [refs]) (by simp [refs,Go.Proofs.YtepbfecmageleaaGreatDoor.ren]) hl (.yld h')
        simpa [Go.Proofs.YtepbfecmageleaaGreatDoor.ren,(h.to_idx hl).1] using this
      · obtain ⟨hb,_,_,_,_,_,h2⟩:=(hsame r _ hl h').lp h'
        rw [← hb]; exact .yld h2
  have hnot:∀ l i,l ∉ sub→l < H.length→gs.D (g.blk l) i→g.D (g.blk l) i:=fun l i hs hl hd=>by
    rcases h.evo.newD _ _ hd with h1 | h1 | h1
    · exact h1
    · exact absurd h1 (h.far hs hl i)
    · have:=IsBlk.lt h.st hl; omega
  refine ⟨⟨hD,h.evo.cells,hrep,h.evo.keep.mono (fun b i ho=>h.own ho),fun b i ho=>?_,fun b i hd=>?_,h.evo.cd⟩,⟨fun l o hl=>?_,fun l k hl hk e=>?_,fun l o hl=>?_,h.st3.dom⟩⟩
  · obtain ⟨⟨l,hl,he⟩,hd⟩:=ho
    rcases h.cases (List.getElem?_eq_getElem hl) with ⟨j,o3,hj,ho3,hlj,_⟩ | ⟨hs,hlt,_⟩
    · have hb:gs.blk j = b:=by rw [← hc.blk j hj,← hlj]; exact he
      rcases h.evo.own b i ⟨⟨j,(List.getElem?_eq_some_iff.1 ho3).1,hb⟩,hd⟩ with h1 | h1
      · exact .inl (h.own h1)
      · exact .inr h1
    · refine .inl ⟨⟨l,hlt,?_⟩,fun h1=>hd (hD _ _ h1)⟩
      rw [← (Gh.back_other (g:=g) (gs:=gs) (news:=news) hs hlt).1]; exact he
  · rcases h.evo.newD b i hd with h1 | h1 | h1
    · exact .inl h1
    · exact .inr (.inl (h.own h1))
    · exact .inr (.inr h1)
  · rcases h.cases hl with ⟨j,o3,hj,ho3,rfl,rfl⟩ | ⟨hs,hlt,hl0⟩
    · exact (h.st3.objs j o3 ho3).ren hc hj (fun r hr=>h.cl3 j o3 hj ho3 r hr)
    · obtain ⟨b1,b2,b3⟩:=Gh.back_other (g:=g) (gs:=gs) (news:=news) hs hlt
      exact (h.st.objs l o hl0).keep b1 b2 b3 (hheap l hs hlt) hD h.evo.cells hrep h.evo.cd
  · rcases h.cases (List.getElem?_eq_getElem hl) with ⟨i,o3,hi,ho3,hli,_⟩ | ⟨hs,hlt,_⟩
    · have e1:(g.back gs H.length sub news).blk l = gs.blk i:=by rw [hli]; exact hc.blk i hi
      rcases h.cases (List.getElem?_eq_getElem hk) with ⟨j,o4,hj,ho4,hkj,_⟩ | ⟨hs',hlt',_⟩
      · have e2:(g.back gs H.length sub news).blk k = gs.blk j:=by rw [hkj]; exact hc.blk j hj
        have:=h.st3.inj i j (List.getElem?_eq_some_iff.1 ho3).1 (List.getElem?_eq_some_iff.1 ho4).1 (by rw [← e1,← e2,e])
        rw [hli,hkj,this]
      · have e2:=(Gh.back_other (g:=g) (gs:=gs) (news:=news) hs' hlt').1
        exact absurd (by rw [← e1,← e2,e]) (h.apart hs' hlt' ho3)
    · have e1:=(Gh.back_other (g:=g) (gs:=gs) (news:=news) hs hlt).1
      rcases h.cases (List.getElem?_eq_getElem hk) with ⟨j,o4,hj,ho4,hkj,_⟩ | ⟨hs',hlt',_⟩
      · have e2:(g.back gs H.length sub news).blk k = gs.blk j:=by rw [hkj]; exact hc.blk j hj
        exact absurd (by rw [← e1,← e2,e]) (h.apart hs hlt ho4)
      · have e2:=(Gh.back_other (g:=g) (gs:=gs) (news:=news) hs' hlt').1
        exact h.st.inj l k hlt hlt' (by rw [← e1,← e2,e])
  · rcases h.cases hl with ⟨j,o3,hj,ho3,rfl,rfl⟩ | ⟨hs,hlt,hl0⟩
    · exact (h.st3.stand j o3 ho3).ren hc hj
    · obtain ⟨b1,b2,b3⟩:=Gh.back_other (g:=g) (gs:=gs) (news:=news) hs hlt
      exact (h.st.stand l o hl0).keep b1 b2 (fun i hd=>hnot l i hs hlt hd)
end
end Go.Proofs.YtepbfecmageleaaGreatDoor
namespace Go.Proofs.YtepbfecmageleaaGreatDoor
open Go
variable [Sub]
section
variable {P:Program} {kn:TypeId→Bool} {w w':World} {g g':Gh} {H H':List Obj}
theorem canons_get:∀ {aZ bs:List AV},canons H aZ = some bs→aZ.length = bs.length∧∀ (i:Nat) (a b:AV),aZ[i]? = some a→bs[i]? = some b→canon H a = some b
  | [],bs,h=>by simp only [canons,Option.some.injEq] at h; subst h; exact ⟨rfl,fun i a b h=>by simp at h⟩
  | a::aZ,bs,h=>by
    simp only [canons,Option.bind_eq_some_iff,Option.map_eq_some_iff] at h
    obtain ⟨b,hb,bs',hbs,rfl⟩:=h
    obtain ⟨h1,h2⟩:=canons_get hbs
    refine ⟨by simp [h1],fun i x y hx hy=>?_⟩
    cases i with
    | zero=>simp at hx hy; subst hx; subst hy; exact hb
    | succ i=>simp at hx hy; exact h2 i x y hx hy
theorem canon_rep {ls:List Nat} (he:Evo w g H w g' (freeze H ls)) {c:Value} {a:AV} (h:Rep w g H c a):∀ {b:AV},canon H a = some b→(∀ l ∈ arsA a,l ∈ ls)→Rep w g' (freeze H ls) c b:=by
  induction h with
  | p h=>intro b hb _; simp only [canon,Option.some.injEq] at hb; subst hb; exact he.rep _ _ (.p h)
  | lit h=>intro b hb _; simp only [canon,Option.some.injEq] at hb; subst hb; exact .p (h.mono he.D (fun _ _ _=>rfl))
  | @ar l v off n p cap hA =>
    intro b hb hl
    simp only [canon,Option.map_eq_some_iff] at hb
    obtain ⟨rows,hr,rfl⟩:=hb
    refine .p (toPV_rep (v:=.ar l v off n) he (.ar hA) ?_ (fun l' v' o' n' e=>?_))
    · simp only [toPV,canon,hr,Option.map_some]
    · cases e; exact hl _ (by simp [arsA])
  | ptr h=>intro b hb _; simp only [canon,Option.some.injEq] at hb; subst hb; exact he.rep _ _ (.ptr h)
  | elp h=>intro b hb _; simp only [canon,Option.some.injEq] at hb; subst hb; exact he.rep _ _ (.elp h)
  | imm cs hD hcell hr=>intro b hb _; simp only [canon,Option.some.injEq] at hb; subst hb; exact he.rep _ _ (.imm cs hD hcell hr)
  | fn ha hb' h1 h2 _ _=>intro b hb _; simp only [canon,Option.some.injEq] at hb; subst hb; exact he.rep _ _ (.fn ha hb' h1 h2)
  | map h=>intro b hb _; simp only [canon,Option.some.injEq] at hb; subst hb; exact he.rep _ _ (.map h)
  | emp=>intro b hb _; simp only [canon,Option.some.injEq] at hb; subst hb; exact .emp
  | csl h hn=>intro b hb _; simp only [canon,Option.some.injEq] at hb; subst hb; exact he.rep _ _ (.csl h hn)
  | yld h=>intro b hb _; simp only [canon,Option.some.injEq] at hb; subst hb; exact he.rep _ _ (.yld h)
  | agg ha h1 _ ih =>
    intro b hb hl
    simp only [canon,Option.map_eq_some_iff] at hb
    obtain ⟨bs,hbs,rfl⟩:=hb
    obtain ⟨c1,c2⟩:=canons_get hbs
    refine .agg (ha.trans c1) h1 (fun i c x hc hx=>?_)
    rename_i aZ _
    have hi:i < aZ.length:=by rw [c1]; exact (List.getElem?_eq_some_iff.1 hx).1
    exact ih i c aZ[i] hc (by simp [hi]) (c2 i aZ[i] x (by simp [hi]) hx) (fun l hm=>hl l (by simp only [arsA]; exact mem_arsOf.2 ⟨aZ[i],List.getElem_mem hi,hm⟩))
  | tup ha _ ih =>
    intro b hb hl
    simp only [canon,Option.map_eq_some_iff] at hb
    obtain ⟨bs,hbs,rfl⟩:=hb
    obtain ⟨c1,c2⟩:=canons_get hbs
    refine .tup (ha.trans c1) (fun i c x hc hx=>?_)
    rename_i aZ _
    have hi:i < aZ.length:=by rw [c1]; exact (List.getElem?_eq_some_iff.1 hx).1
    exact ih i c aZ[i] hc (by simp [hi]) (c2 i aZ[i] x (by simp [hi]) hx) (fun l hm=>hl l (by simp only [arsA]; exact mem_arsOf.2 ⟨aZ[i],List.getElem_mem hi,hm⟩))
theorem passArgs_rep {raw ls:List Nat} (he:Evo w g H w g' (freeze H ls)):∀ {aZ bs:List AV} {n:Nat},passArgs H raw n aZ = some bs→(∀ l ∈ passFrz raw n aZ,l ∈ ls) →
    aZ.length = bs.length∧∀ (i:Nat) (c:Value) (a b:AV),aZ[i]? = some a→bs[i]? = some b→Rep w g H c a→Rep w g' (freeze H ls) c b
  | [],bs,n,h,_=>by simp only [passArgs,Option.some.injEq] at h; subst h; exact ⟨rfl,fun i c a b h=>by simp at h⟩
  | a::aZ,bs,n,h,hl=>by
    simp only [passArgs,Option.bind_eq_some_iff,Option.map_eq_some_iff] at h
    obtain ⟨b,hb,bs',hbs,rfl⟩:=h
    simp only [passFrz,List.mem_append] at hl
    obtain ⟨h1,h2⟩:=passArgs_rep he hbs (fun l hm=>hl l (.inr hm))
    refine ⟨by simp [h1],fun i c x y hx hy hr=>?_⟩
    cases i with
    | zero =>
      simp at hx hy
      subst hx
      subst hy
      split at hb
      · cases hb; exact he.rep _ _ hr
      · rename_i hraw
        exact canon_rep he hr hb (fun l hm=>hl l (.inl (by rw [if_neg hraw]; simpa [arsOf] using hm)))
    | succ i=>simp at hx hy; exact h2 i c x y hx hy hr
theorem Rep.ptr_inv {c:Value} {r off:Nat} (h:Rep w g H c (.ptr r off)):∃ cs,H[r]? = some (.cells cs):=by
  cases h with
  | ptr h=>exact ⟨_,h⟩
theorem Rep.map_inv {c:Value} {r:Nat} (h:Rep w g H c (.map r)):∃ es,H[r]? = some (.map es):=by
  cases h with
  | map h=>exact ⟨_,h⟩
theorem Rep.yld_inv {c:Value} {r:Nat} (h:Rep w g H c (.yld r)):∃ o,H[r]? = some o:=by
  cases h with
  | yld h=>exact ⟨_,h⟩
theorem evo_len (he:Evo w g H w' g' H') (hs:StRel w g H):H.length ≤ H'.length:=by
  rcases Nat.eq_zero_or_pos H.length with h0 | h0
  · omega
  · have hi:H.length - 1 < H.length:=by omega
    have hget:=List.getElem?_eq_getElem hi
    have:H.length - 1 < H'.length:=by
      cases ho:H[H.length - 1] with
      | cells c =>
        rw [ho] at hget
        obtain ⟨c',h⟩:=(he.rep _ _ (.ptr (off:=0) hget)).ptr_inv
        exact (List.getElem?_eq_some_iff.1 h).1
      | arr es fz ver rows =>
        rw [ho] at hget
        obtain ⟨_,_,_,hA⟩:=(he.rep _ _ (ar_whole hs hget)).ar_inv
        obtain ⟨_,_,_,_,_,_,h,_⟩:=hA
        exact (List.getElem?_eq_some_iff.1 h).1
      | map es =>
        rw [ho] at hget
        obtain ⟨c',h⟩:=(he.rep _ _ (.map hget)).map_inv
        exact (List.getElem?_eq_some_iff.1 h).1
      | loop st env ps a b =>
        rw [ho] at hget
        obtain ⟨o,h⟩:=(he.rep _ _ (.yld hget)).yld_inv
        exact (List.getElem?_eq_some_iff.1 h).1
    omega
theorem evo_flat {g0 gs:Gh} {Hs:List Obj} (h:Evo w g0 [] w' gs Hs) (hs:StRel w g H):Evo w g H w' g H∧StRel w' g H:=by
  have hno:∀ b i,¬ OwnAny g0 [] b i:=fun b i ho=>by obtain ⟨⟨l,hl,_⟩,_⟩:=ho; simp at hl
  have hheap:∀ b,b < w.heap.size→w'.heap[b]? = w.heap[b]?:=fun b hb=>h.keep.same hb (hno b)
  have hc:∀ b i,g.D b i→cellAt w' b i = cellAt w b i:=fun b i hd=>cellAt_heap (hheap b (hs.dom b i hd)) i
  have hr:∀ c a,Rep w g H c a→Rep w' g H c a:=fun c a hr=>hr.step (fun _ _ h=>h) hc (fun l o _=>.same rfl rfl rfl rfl)
  refine ⟨⟨fun _ _ h=>h,hc,hr,h.keep.mono (fun b i ho=>absurd ho (hno b i)),fun _ _ h=>.inl h,fun _ _ h=>.inl h,rfl⟩,⟨fun l o hl=>?_,hs.inj,hs.stand,fun b i hd=>Nat.lt_of_lt_of_le (hs.dom b i hd) h.keep.2.2.2.1⟩⟩
  exact (hs.objs l o hl).keep rfl rfl rfl (hheap _ (IsBlk.lt hs (List.getElem?_eq_some_iff.1 hl).1)) (fun _ _ h=>h) hc hr
theorem flat_rep {c:Value} {a:AV} (h:Rep w g H c a) (hf:flat a = true):Rep w' g' H' c a:=by
  cases h with
  | p h=>cases h <;> first | (exact .p (.v ‹_›)) | exact .p .nsl | (simp [flat] at hf)
  | tup ha hr =>
    rename_i arr aZ
    refine .tup ha (fun i c x hc hx=>?_)
    have h1:=hr i c x hc hx
    have hm:x ∈ aZ:=List.mem_of_getElem? hx
    simp only [flat,List.all_eq_true] at hf
    have h2:=hf x hm
    cases h1 with
    | p h=>cases h <;> first | (exact .p (.v ‹_›)) | exact .p .nsl | (simp at h2)
    | _=>simp at h2
  | _=>simp [flat] at hf
theorem comeBack_sound {gH g1 gs:Gh} {H H1 H2:List Obj} {sub:List Nat} {os:List Obj} {own:Bool} {v:Value} {r1:AV} {r:AV×List Obj} (hs:StRel w gH H) (e1:Evo w gH H w g1 H1) (s1:StRel w g1 H1)
    (hp:pickObjs H1 sub = some os) (hcl:os.all (fun o=>within sub (objRefs o)) = true) (hn:nodupB sub = true)
    (hv:Evo w (g1.part sub) (os.map (renO sub.idxOf)) w' gs H2) (hs2:StRel w' gs H2) (hr:Rep w' gs H2 v r1) (hc:comeBack H H1 sub own r1 H2 = some r) :
    ∃ g',Evo w gH H w' g' r.2∧StRel w' g' r.2∧Rep w' g' r.2 v r.1:=by
  obtain ⟨p1,p2⟩:=pick_get hp
  simp only [comeBack,Option.bind_eq_some_iff] at hc
  obtain ⟨r',hr',hc⟩:=hc
  have res:∃ g3,Evo w' gs H2 w' g3 (if own then H2 else freeze H2 (arsOf [r1]))∧StRel w' g3 (if own then H2 else freeze H2 (arsOf [r1]))∧Rep w' g3 (if own then H2 else freeze H2 (arsOf [r1])) v r':=by
    cases own with
    | true=>simp only [if_true,Option.some.injEq] at hr' ⊢; subst hr'; exact ⟨gs,.refl _ _ _,hs2,hr⟩
    | false =>
      simp only [Bool.false_eq_true,if_false] at hr' ⊢
      obtain ⟨g3,f1,f2⟩:=evo_freeze (arsOf [r1]) hs2
      exact ⟨g3,f1,f2,canon_rep f1 hr hr' (fun l hm=>by simpa [arsOf] using hm)⟩
  obtain ⟨g3,f1,f2,f3⟩:=res
  generalize (if own then H2 else freeze H2 (arsOf [r1])) = H3 at hc f1 f2 f3
  split at hc
  · rename_i hflat
    simp only [Bool.and_eq_true,List.isEmpty_iff] at hflat
    obtain ⟨h1,rfl⟩:=hflat
    cases hc
    have:os = []:=List.eq_nil_of_length_eq_zero (by simpa using p1)
    subst this
    obtain ⟨q1,q2⟩:=evo_flat hv hs
    exact ⟨gH,q1,q2,flat_rep f3 h1⟩
  · split at hc
    · rename_i hcond
      simp only [Bool.and_eq_true] at hcond
      obtain ⟨⟨w1,w2⟩,w3⟩:=hcond
      simp only [Option.map_eq_some_iff] at hc
      obtain ⟨osn,hosn,rfl⟩:=hc
      have hv3:=hv.trans f1
      have hlen:sub.length ≤ H3.length:=by
        have:=evo_len hv3 (st_sub s1 hp hcl hn)
        rwa [List.length_map,p1] at this
      generalize hseen:reach H3 (4 * H3.length * H3.length + 4) (refs r'++((H3.take sub.length).map objRefs).flatten) [] = seen at *
      have hsn:∀ r ∈ seen,r < sub.length∨r ∈ seen.filter (fun i=>decide (sub.length ≤ i)):=fun r hm=>by
        rcases Nat.lt_or_ge r sub.length with h | h
        · exact .inl h
        · exact .inr (List.mem_filter.2 ⟨hm,by simpa using h⟩)
      have hb:Back w w' g1 g3 H1 H3 sub (seen.filter (fun i=>decide (sub.length ≤ i))) os osn:=by
        refine ⟨s1,hp,nodup_idx hn,fun o ho r hr=>within_mem (List.all_eq_true.1 hcl o ho) r hr,hv3,f2,hlen,hosn,nodup_idx w3,fun i hi=>by simpa using (List.mem_filter.1 hi).2,fun i o hi ho r hr=>?_⟩
        rcases hi with hi | hi
        · refine hsn r (within_mem w1 r ?_)
          refine List.mem_append.2 (.inr (List.mem_flatten.2 ⟨objRefs o,List.mem_map.2 ⟨o,?_,rfl⟩,hr⟩))
          exact List.mem_iff_getElem?.2 ⟨i,by rw [List.getElem?_take,if_pos hi]; exact ho⟩
        · have:=List.all_eq_true.1 w2 i (List.mem_filter.1 hi).1
          rw [ho] at this
          exact hsn r (within_mem this r hr)
      obtain ⟨k1,k2⟩:=hb.sound
      refine ⟨_,e1.trans k1,k2,?_⟩
      exact f3.ren hb.corr (fun r hr=>hsn r (within_mem w1 r (List.mem_append.2 (.inl hr))))
    · cases hc
theorem callAt_sim {f:FuncId} {fn:SFunc} {args args':List AV} {os:List Obj} {r1 r:AV×List Obj} (hp:passArgs H fn.raw 0 args = some args')
    (hpick:pickObjs (freeze H (passFrz fn.raw 0 args)) (reach (freeze H (passFrz fn.raw 0 args)) (4 * (freeze H (passFrz fn.raw 0 args)).length * (freeze H (passFrz fn.raw 0 args)).length + 4) (refsL args') []) = some os)
    (hw:(within (reach (freeze H (passFrz fn.raw 0 args)) (4 * (freeze H (passFrz fn.raw 0 args)).length * (freeze H (passFrz fn.raw 0 args)).length + 4) (refsL args') []) (refsL args') &&
      os.all (fun o=>within (reach (freeze H (passFrz fn.raw 0 args)) (4 * (freeze H (passFrz fn.raw 0 args)).length * (freeze H (passFrz fn.raw 0 args)).length + 4) (refsL args') []) (objRefs o)) &&
      nodupB (reach (freeze H (passFrz fn.raw 0 args)) (4 * (freeze H (passFrz fn.raw 0 args)).length * (freeze H (passFrz fn.raw 0 args)).length + 4) (refsL args') [])) = true)
    (hsim:CallSim P kn f (renL (reach (freeze H (passFrz fn.raw 0 args)) (4 * (freeze H (passFrz fn.raw 0 args)).length * (freeze H (passFrz fn.raw 0 args)).length + 4) (refsL args') []).idxOf args')
      (os.map (renO (reach (freeze H (passFrz fn.raw 0 args)) (4 * (freeze H (passFrz fn.raw 0 args)).length * (freeze H (passFrz fn.raw 0 args)).length + 4) (refsL args') []).idxOf)) r1)
    (hc:comeBack H (freeze H (passFrz fn.raw 0 args)) (reach (freeze H (passFrz fn.raw 0 args)) (4 * (freeze H (passFrz fn.raw 0 args)).length * (freeze H (passFrz fn.raw 0 args)).length + 4) (refsL args') []) fn.own r1.1 r1.2 = some r) :
    CallSim P kn f args H r:=by
  intro w g cs hcd hs hargs
  generalize reach (freeze H (passFrz fn.raw 0 args)) (4 * (freeze H (passFrz fn.raw 0 args)).length * (freeze H (passFrz fn.raw 0 args)).length + 4) (refsL args') [] = sub at *
  simp only [Bool.and_eq_true] at hw
  obtain ⟨⟨w1,w2⟩,w3⟩:=hw
  obtain ⟨g1,e1,s1⟩:=evo_freeze (passFrz fn.raw 0 args) hs
  obtain ⟨a1,a2⟩:=passArgs_rep e1 hp (fun l hl=>hl)
  have hc1:=corr_sub (g:=g1) hpick
  have ha:ArgsRep w (g1.part sub) (os.map (renO sub.idxOf)) cs (renL sub.idxOf args'):=by
    rw [renL_eq]
    refine ⟨by rw [List.length_map,← a1]; exact hargs.1,fun i c x hci hx=>?_⟩
    rw [List.getElem?_map,Option.map_eq_some_iff] at hx
    obtain ⟨y,hy,rfl⟩:=hx
    have hi:i < args.length:=by rw [a1]; exact (List.getElem?_eq_some_iff.1 hy).1
    have:=a2 i c args[i] y (by simp [hi]) hy (hargs.2 i c args[i] hci (by simp [hi]))
    exact this.ren hc1 (fun r hr=>within_mem w1 r (mem_refsL.2 ⟨y,List.mem_of_getElem? hy,hr⟩))
  refine (hsim w (g1.part sub) cs (e1.cd.trans hcd) (st_sub s1 hpick w2 w3) ha).mono fun e w' he=>?_
  obtain ⟨v,gs,rfl,k1,k2,k3⟩:=he
  obtain ⟨g',q1,q2,q3⟩:=comeBack_sound hs e1 s1 hpick w2 w3 k1 k2 k3 hc
  exact ⟨v,g',rfl,q1,q2,q3⟩
end
end Go.Proofs.YtepbfecmageleaaGreatDoor
namespace Go.Proofs.YtepbfecmageleaaGreatDoor
open Go
variable [Sub]
def NoCall (x:Option SOp):Prop:=∀ f aZ,x ≠ some (.call f aZ)
theorem NoCall.none:NoCall none:=fun _ _ h=>by cases h
theorem NoCall.bind {α:Type} {x:Option α} {g:α→Option SOp} (h:∀ a,NoCall (g a)):NoCall (x.bind g):=fun f aZ e=>by
  obtain ⟨a,_,h2⟩:=Option.bind_eq_some_iff.1 e
  exact h a f aZ h2
theorem NoCall.map {α:Type} {x:Option α} {g:α→SOp} (h:∀ a f aZ,g a ≠ .call f aZ):NoCall (x.map g):=fun f aZ e=>by
  obtain ⟨a,_,h2⟩:=Option.map_eq_some_iff.1 e
  exact h a f aZ h2
theorem NoCall.some {s:SOp} (h:∀ f aZ,s ≠ .call f aZ):NoCall (some s):=fun f aZ e=>h f aZ (Option.some.inj e)
theorem compOp_call {P:Program} {kn:TypeId→Bool} {own:List Nat} {o:Oper} {f:SA} {aZ:List SA} (h:compOp P kn own o = some (.call f aZ)) :
    ∃ c f',o.op = .call c∧c.callee = .value f'∧compArg own false f' = some f∧compArgs kn own c.args.toList c.argTypes.toList = some aZ:=by
  obtain ⟨dst,op,ty,pos,after,gd⟩:=o
  cases op
  case call c =>
    simp only [compOp] at h
    split at h
    · rename_i f' hf
      simp only [Option.bind_eq_some_iff,Option.map_eq_some_iff] at h
      obtain ⟨sf,hsf,sas,hsas,h⟩:=h
      cases h
      exact ⟨c,f',rfl,hf,hsf,hsas⟩
    all_goals
      exfalso
      revert h
      refine (?_:NoCall _) f aZ
      repeat' first
        | exact NoCall.none
        | contradiction
        | (refine NoCall.bind fun _=>?_)
        | (refine NoCall.map fun _ _ _ e=>?_; cases e)
        | (refine NoCall.some fun _ _ e=>?_; cases e)
        | split
  all_goals
    exfalso
    simp only [compOp] at h
    revert h
    refine (?_:NoCall _) f aZ
    repeat' first
      | exact NoCall.none
      | contradiction
      | (refine NoCall.bind fun _=>?_)
      | (refine NoCall.map fun _ _ _ e=>?_; cases e)
      | (refine NoCall.some fun _ _ e=>?_; cases e)
      | split
inductive TrM (P:Program) (kn:TypeId→Bool):List DO→Fr→List Obj→Tr→Prop
  | nil {e:Fr} {H:List Obj}:TrM P kn [] e H ⟨[],[],⟨e.env,H⟩⟩
  | skip {o:DO} {os:List DO} {e:Fr} {H:List Obj} {r:Tr} (hw:wanted o.o e = some false) (h:TrM P kn os (dstDrop o.o.dst e) H r) :
      TrM P kn (o::os) e H ⟨(e,none)::r.recs,if o.k.seq then H::r.stores else r.stores,r.s⟩
  | write {o:DO} {os:List DO} {e:Fr} {H:List Obj} {v:AV×List Obj} {r:Tr} (hw:wanted o.o e = some true) (hk:o.k = .write) (h1:OneM P kn o.o.op e H v) (h:TrM P kn os (dstPut o.o.dst e v.1) v.2 r) :
      TrM P kn (o::os) e H ⟨(e,some v.1)::r.recs,H::r.stores,r.s⟩
  | lone {o:DO} {os:List DO} {e:Fr} {H:List Obj} {v:AV} {r:Tr} (hw:wanted o.o e = some true) (hk:o.k = .lone) (hn:noRefs e o.o.op = true) (h1:OneM P kn o.o.op e [] (v,[])) (h:TrM P kn os (dstPut o.o.dst e v) H r) :
      TrM P kn (o::os) e H ⟨(e,some v)::r.recs,r.stores,r.s⟩
  | fresh {o:DO} {os:List DO} {e:Fr} {H:List Obj} {v:AV×List Obj} {r:Tr} (hw:wanted o.o e = some true) (hk:o.k = .fresh) (h1:evOp e H o.o.op = some v) (h:TrM P kn os (dstPut o.o.dst e v.1) v.2 r) :
      TrM P kn (o::os) e H ⟨(e,some v.1)::r.recs,H::r.stores,r.s⟩
  | other {o:DO} {os:List DO} {e:Fr} {H:List Obj} {v:AV×List Obj} {r:Tr} (hw:wanted o.o e = some true) (hk1:o.k.seq = false) (hk2:o.k ≠ .lone) (h1:evOp e H o.o.op = some v) (h:TrM P kn os (dstPut o.o.dst e v.1) H r) :
      TrM P kn (o::os) e H ⟨(e,some v.1)::r.recs,r.stores,r.s⟩
section
variable {w:World} {g:Gh} {H:List Obj}
theorem Rep.lift {g2:Gh} (hD:g2.D = g.D) {c:Value} {a:AV} (h:Rep w g [] c a):Rep w g2 H c a:=by
  generalize hH:([]:List Obj) = H0 at h
  induction h with
  | p h=>exact .p (by rw [hD]; exact h)
  | lit h=>exact .lit (by rw [hD]; exact h)
  | ar h=>subst hH; obtain ⟨_,_,_,_,_,_,h,_⟩:=h; simp at h
  | ptr h=>subst hH; simp at h
  | elp h=>subst hH; obtain ⟨_,_,_,_,h,_⟩:=h; simp at h
  | imm cs hDD hcell hr=>exact .imm cs (by rw [hD]; exact hDD) hcell (by rw [hD]; exact hr)
  | fn ha hb _ _ ih1 ih2=>exact .fn ha hb ih1 ih2
  | agg ha h1 _ ih=>exact .agg ha h1 ih
  | tup ha _ ih=>exact .tup ha ih
  | map h=>subst hH; simp at h
  | yld h=>subst hH; simp at h
  | emp=>exact .emp
  | csl h=>subst hH; simp at h
end
def RuleOk (P:Program) (kn:TypeId→Bool) (X:FuncId→List AV→List Obj→Option (AV×List Obj)):Prop :=
  ∀ g args H r,X g args H = some r→CallSim P kn g args H r
theorem oneM_lone {P:Program} {kn:TypeId→Bool} {op:SOp} {e:Fr} {u v:AV×List Obj} (h:OneM P kn op e [] u) (hl:loneV u = some v) (hv:v.2 = []):OneM P kn op e [] (v.1,[]):=by
  unfold loneV at hl
  split at hl
  · cases hl
    intro e' hag o own a w g hc he hcd hs
    have:=h e' hag o own a w g hc he hcd hs
    rwa [hv] at this
  · intro e' hag o own a w g hc he hcd hs r0 K Q hK
    refine h e' hag o own a w g hc he hcd hs r0 K Q fun cv w' g' h1 h2 h3=>?_
    have hv0:Evo w (g.part []) ([].map (renO [].idxOf)) w' g' u.2:=by
      have ho:∀ (g2:Gh) b i,¬ OwnAny g2 [] b i:=fun g2 b i ho=>by obtain ⟨⟨l,hl,_⟩,_⟩:=ho; simp at hl
      exact ⟨h1.D,h1.cells,fun c x hr=>h1.rep c x (Rep.lift (g:=g.part []) (g2:=g) rfl (show Rep w (g.part []) [] c x from hr)),h1.keep.mono fun b i hb=>absurd hb (ho _ b i),fun b i hb=>(h1.own b i hb).elim (fun hb=>absurd hb (ho _ b i)) .inr,
        fun b i hb=>(h1.newD b i hb).elim .inl fun hb=>hb.elim (fun hb=>absurd hb (ho _ b i)) fun hb=>.inr (.inr hb),h1.cd⟩
    rcases h3 with h3 | h3
    · obtain ⟨q1,q2⟩:=evo_flat h1 hs
      exact hK cv w' g q1 q2 (.inl h3)
    · obtain ⟨g2,q1,q2,q3⟩:=comeBack_sound (H:=[]) (H1:=[]) (sub:=[]) (os:=[]) (own:=false) hs (.refl _ _ _) hs rfl rfl rfl hv0 h2 h3 hl
      rw [hv] at q1 q2 q3
      exact hK cv w' g2 q1 q2 (.inr q3)
theorem callSim_amb {P:Program} {kn:TypeId→Bool} {f:FuncId} {r:AV×List Obj} (h1:CallSim P kn f [.p .nsl] [] r) (h2:CallSim P kn f [.emp] [] r):CallSim P kn f [.p (.sl [])] [] r:=by
  intro w g cs hcd hs ha
  have hsz:cs.size = 1:=ha.1
  have hr:=ha.2 0 cs[0] (.p (.sl [])) (by simp [hsz]) rfl
  have key:∀ x,Rep w g [] cs[0] x→ArgsRep w g [] cs [x]:=fun x hx=>⟨hsz,fun i c y hc hy=>by
    cases i with
    | zero =>
      simp only [List.getElem?_cons_zero,Option.some.injEq] at hy
      subst hy
      rw [Array.getElem?_eq_getElem (by omega)] at hc
      cases hc
      exact hx
    | succ i=>simp at hy⟩
  generalize hc0:cs[0] = c0 at hr
  cases hr with
  | p hp =>
    cases hp with
    | nil=>exact h1 w g cs hcd hs (key _ (by rw [hc0]; exact .p .nsl))
    | sl cs2 hn =>
      cases hn
      exact h2 w g cs hcd hs (key _ (by rw [hc0]; exact .emp))
theorem amb_call {H:List Obj} {args:List AV} {n:Nat} {os:List Obj} (h:isAmb args = true) (hos:pickObjs H (reach H n (refsL args) []) = some os) :
    renL (reach H n (refsL args) []).idxOf args = [.p (.sl [])]∧os.map (renO (reach H n (refsL args) []).idxOf) = []:=by
  have:args = [.p (.sl [])]:=by
    unfold isAmb at h
    split at h
    · rfl
    · cases h
  subst this
  have hrl:reach H n (refsL [.p (.sl [])]) [] = []:=by
    cases n <;> rfl
  rw [hrl] at hos ⊢
  cases hos
  exact ⟨rfl,rfl⟩
theorem sound_parts {P:Program} {kn:TypeId→Bool} {X:FuncId→List AV→List Obj→Option (AV×List Obj)} {Γ:FuncId→Option SFunc} (hX:RuleOk P kn X) (hG:∀ f F,Γ f = some F→CodeOk P kn f F)
    (hdraw:∀ (ops:List DO) (s:St) (r:Tr),TrM P kn ops ⟨[],s.env⟩ s.H r→stables ops r.recs (r.stores++[r.s.H])→DrawM P kn ops s r.s) :
    (∀ f args H r,call X Γ f args H = some r→CallSim P kn f args H r)∧(∀ c s r,exec X Γ c s = some r→ExecM P kn c s r)∧(∀ ops e H r,evOps X Γ ops e H = some r→OpsM P kn ops e H r):=by
  have sCall:∀ E:EX,(∀ c s r,E c s = some r→ExecM P kn c s r∧∀ b,c = .loop b→LoopM P kn b s r)→∀ f args H r,callE X Γ E f args H = some r→CallSim P kn f args H r:=by
    intro E h1 f args H r h
    unfold callE at h
    split at h
    · rename_i r' hr'
      simp only [Option.some.injEq] at h
      subst h
      exact hX f args H _ hr'
    · split at h
      · cases h
      · rename_i fn hfn
        split at h
        · cases h
        · rename_i hlen
          simp only [Option.bind_eq_bind,Option.bind_eq_some_iff] at h
          obtain ⟨rx,hrx,h⟩:=h
          split at h
          · cases h
          · rename_i hne
            simp only [Option.map_eq_some_iff] at h
            obtain ⟨rs,hrs,rfl⟩:=h
            exact call_sim (hG f fn hfn) (Classical.byContradiction hlen) (h1 _ _ _ hrx).1 (fun i e=>hne i e) hrs
  have sCallAt:∀ E:EX,(∀ c s r,E c s = some r→ExecM P kn c s r∧∀ b,c = .loop b→LoopM P kn b s r)→∀ f args H r,callAtE X Γ E f args H = some r→FnOk P f∧CallSim P kn f args H r:=by
    intro E h1 f args H r h
    have h5:=sCall E h1
    unfold callAtE at h
    split at h
    · cases h
    · rename_i fn hfn
      split at h
      · cases h
      · rename_i args' hargs
        simp only at h
        split at h
        · cases h
        · rename_i os hos
          split at h
          · rename_i hcond
            simp only [Option.bind_eq_bind,Option.bind_eq_some_iff] at h
            obtain ⟨fn',c,_,_,q1,q2,q3,_⟩:=(hG f fn hfn).ok
            split at h
            · rename_i hamb
              simp only [Option.bind_eq_some_iff] at h
              obtain ⟨r1,hr1,r2,hr2,r3,hr3,hcb⟩:=h
              unfold checked at hr3
              split at hr3
              · rename_i heq
                cases hr3
                subst heq
                simp only [Bool.and_eq_true] at hamb
                obtain ⟨k1,k2⟩:=amb_call hamb.2 hos
                refine ⟨⟨fn',c,q1,q2,q3⟩,callAt_sim (r1:=r1) hargs hos hcond ?_ hcb⟩
                rw [k1,k2]
                exact callSim_amb (h5 _ _ _ _ hr1) (h5 _ _ _ _ hr2)
              · cases hr3
            · simp only [Option.bind_eq_some_iff] at h
              obtain ⟨r1,hr1,hcb⟩:=h
              exact ⟨⟨fn',c,q1,q2,q3⟩,callAt_sim hargs hos hcond (h5 _ _ _ _ hr1) hcb⟩
          · cases h
  have sYield:∀ E:EX,(∀ c s r,E c s = some r→ExecM P kn c s r∧∀ b,c = .loop b→LoopM P kn b s r)→∀ l args H r,yieldAtE E l args H = some r→YieldSim P kn l args H r:=by
    intro E h1 l args H r h
    unfold yieldAtE at h
    split at h
    · rename_i env ps a b hl
      split at h
      · cases h
      · rename_i hlen
        simp only [Option.bind_eq_bind,Option.bind_eq_some_iff] at h
        obtain ⟨⟨x1,s1⟩,hr1,h⟩:=h
        split at h
        · rename_i env1 ps1 a1 b1 hx1 hl1
          simp only [Option.bind_eq_some_iff] at h
          obtain ⟨⟨x2,s2⟩,hr2,h⟩:=h
          simp only at hx1 hl1 hr1 hr2 h
          subst hx1
          split at h
          · rename_i env2 ps2 a2 b2 hl2
            have:=yield_sim hl (Classical.byContradiction hlen) (h1 _ _ _ hr1).1 hl1 (h1 _ _ _ hr2).1 hl2
            cases x2 with
            | normal=>cases h; exact this
            | exit i=>cases h; exact this
            | ret=>cases h; exact this
          · cases h
        · cases h
    · cases h
  have sOne:∀ E:EX,(∀ c s r,E c s = some r→ExecM P kn c s r∧∀ b,c = .loop b→LoopM P kn b s r)→∀ op e H r,evOneE X Γ E op e H = some r→OneM P kn op e H r:=by
    intro E h1 op e H r h e' hag o own a w g hc he hcd hs
    have h4:=sCallAt E h1
    have hy:=sYield E h1
    unfold evOneE at h
    split at h
    · rename_i f aZ hcall
      have hop:op = .call f aZ:=by cases op <;> simp [isCall] at hcall; rw [hcall.1,hcall.2]
      subst hop
      split at h
      · rename_i fid first cap args hf ha
        obtain ⟨hok,hsim⟩:=h4 _ _ _ _ h
        obtain ⟨c,f',ho,hcal,hsf,hsas⟩:=compOp_call hc
        exact one_call (v:=r.1) (H':=r.2) ho hcal hok hs (arg_rep he hsf (by rw [hag f (by simp [opKeys])]; exact hf)) (args_rep he hsas (by rw [evs_congr (e:=e) (fun x hx=>hag x (by simp [opKeys,hx]))]; exact ha)) hcd hsim
      · rename_i l args hf ha
        obtain ⟨c,f',ho,hcal,hsf,hsas⟩:=compOp_call hc
        exact one_yield (v:=r.1) (H':=r.2) ho hcal hs (arg_rep he hsf (by rw [hag f (by simp [opKeys])]; exact hf)) (args_rep he hsas (by rw [evs_congr (e:=e) (fun x hx=>hag x (by simp [opKeys,hx]))]; exact ha)) hcd (hy _ _ _ _ h)
      · cases h
    · exact OpSim.one (op_sim he hs hc (by rw [evOp_congr hag]; exact h))
  have sOps:∀ E:EX,(∀ c s r,E c s = some r→ExecM P kn c s r∧∀ b,c = .loop b→LoopM P kn b s r)→∀ ops e H r,evOpsE X Γ E ops e H = some r→OpsM P kn ops e H r:=by
    intro E h1 ops
    have h3:=sOne E h1
    induction ops with
    | nil=>intro e H r h; cases h; exact opsM_nil
    | cons o os h6 =>
      intro e H r h
      rw [evOpsE] at h
      split at h
      · cases h
      · rename_i hw
        exact opsM_cons hw (by simpa using h6 _ _ _ h)
      · rename_i hw
        simp only [Option.bind_eq_bind,Option.bind_eq_some_iff] at h
        obtain ⟨v,hv,h⟩:=h
        exact opsM_cons hw (by simpa using ⟨v.1,v.2,h3 _ _ _ _ hv,h6 _ _ _ h⟩)
  have sDraw:∀ E:EX,(∀ c s r,E c s = some r→ExecM P kn c s r∧∀ b,c = .loop b→LoopM P kn b s r)→∀ ops e H r,evDrawE X Γ E ops e H = some r→TrM P kn ops e H r:=by
    intro E h1 ops
    have h3:=sOne E h1
    induction ops with
    | nil=>intro e H r h; cases h; exact .nil
    | cons o os h2 =>
      intro e H r h
      rw [evDrawE] at h
      split at h
      · cases h
      · rename_i hw
        simp only [Option.bind_eq_bind,Option.bind_eq_some_iff,Option.some.injEq] at h
        obtain ⟨r',hr',rfl⟩:=h
        exact .skip hw (h2 _ _ _ hr')
      · rename_i hw
        split at h
        · rename_i hk
          simp only [Option.bind_eq_bind,Option.bind_eq_some_iff,Option.some.injEq] at h
          obtain ⟨v,hv,r',hr',rfl⟩:=h
          exact .write hw hk (h3 _ _ _ _ hv) (h2 _ _ _ hr')
        · rename_i hk
          simp only [Option.bind_eq_bind,Option.bind_eq_some_iff] at h
          obtain ⟨u,hu,v,hv,h⟩:=h
          split at h
          · rename_i he
            simp only [Option.bind_eq_some_iff,Option.some.injEq] at h
            obtain ⟨r',hr',rfl⟩:=h
            simp only [Bool.and_eq_true,List.isEmpty_iff] at he
            exact .lone hw hk he.2 (oneM_lone (h3 _ _ _ _ hu) hv he.1) (h2 _ _ _ hr')
          · cases h
        · rename_i hk
          simp only [Option.bind_eq_bind,Option.bind_eq_some_iff,Option.some.injEq] at h
          obtain ⟨v,hv,r',hr',rfl⟩:=h
          exact .fresh hw hk hv (h2 _ _ _ hr')
        · rename_i hk1 hk2 hk3
          simp only [Option.bind_eq_bind,Option.bind_eq_some_iff,Option.some.injEq] at h
          obtain ⟨v,hv,r',hr',rfl⟩:=h
          exact .other hw (by cases hk:o.k <;> first | rfl | exact absurd hk hk1 | exact absurd hk hk3) (by intro e; exact hk2 e) hv (h2 _ _ _ hr')
  have sExec:∀ E:EX,(∀ c s r,E c s = some r→ExecM P kn c s r∧∀ b,c = .loop b→LoopM P kn b s r)→∀ c s r,execE X Γ E c s = some r→ExecM P kn c s r∧∀ b,c = .loop b→LoopM P kn b s r:=by
    intro E h1 c s r h
    have h4:=sCallAt E h1
    have h2:=sDraw E h1
    have h6:=sOps E h1
    unfold execE at h
    have plain:ExecM P kn c s r→(∀ b,c ≠ .loop b)→ExecM P kn c s r∧∀ b,c = .loop b→LoopM P kn b s r:=fun h hn=>⟨h,fun b e=>absurd e (hn b)⟩
    cases c with
    | skip=>cases h; exact plain exec_skip (by simp)
    | region ops =>
      simp only [Option.bind_eq_bind,Option.bind_eq_some_iff,Option.some.injEq] at h
      obtain ⟨s',hs',rfl⟩:=h
      exact plain (exec_region (h6 _ _ _ _ hs')) (by simp)
    | draw ops =>
      simp only [Option.bind_eq_bind,Option.bind_eq_some_iff] at h
      obtain ⟨tr,htr,h⟩:=h
      unfold checked at h
      split at h
      · rename_i hst
        cases h
        exact plain (exec_draw (hdraw ops s tr (h2 _ _ _ _ htr) hst)) (by simp)
      · cases h
    | seq a b =>
      simp only [Option.bind_eq_bind,Option.bind_eq_some_iff] at h
      obtain ⟨⟨x,s1⟩,hr1,h⟩:=h
      refine plain (exec_seq (h1 _ _ _ hr1).1 ?_) (by simp)
      cases x with
      | normal=>exact .inl ⟨rfl,(h1 _ _ _ h).1⟩
      | exit i=>cases h; exact .inr ⟨by simp,rfl⟩
      | ret=>cases h; exact .inr ⟨by simp,rfl⟩
    | cond c a b =>
      simp only at h
      split at h
      · rename_i t ht
        refine plain (exec_cond ht ?_) (by simp)
        cases t with
        | true=>exact (h1 _ _ _ h).1
        | false=>exact (h1 _ _ _ h).1
      · cases h
    | block id b =>
      simp only [Option.bind_eq_bind,Option.bind_eq_some_iff] at h
      obtain ⟨⟨x,s1⟩,hr1,h⟩:=h
      refine plain (exec_block (h1 _ _ _ hr1).1 ?_) (by simp)
      cases x with
      | normal=>cases h; rfl
      | exit i =>
        simp only at h ⊢
        split at h
        · rename_i e; cases h; rw [if_pos e]
        · rename_i e; cases h; rw [if_neg e]
      | ret=>cases h; rfl
    | loop b =>
      simp only [Option.bind_eq_bind,Option.bind_eq_some_iff] at h
      obtain ⟨⟨x,s1⟩,hr1,h⟩:=h
      have hl:LoopM P kn b s r:=by
        refine exec_loop (h1 _ _ _ hr1).1 ?_
        cases x with
        | normal=>exact .inl ⟨rfl,(h1 _ _ _ h).2 b rfl⟩
        | exit i=>cases h; exact .inr ⟨by simp,rfl⟩
        | ret=>cases h; exact .inr ⟨by simp,rfl⟩
      exact ⟨hl.exec,fun b' e=>by cases e; exact hl⟩
    | exit id=>cases h; exact plain exec_exit (by simp)
    | ret=>cases h; exact plain exec_ret (by simp)
    | refuse=>cases h
    | still ns c=>exact plain (exec_still (h1 _ _ _ h).1) (by simp)
    | range f ps a b =>
      simp only at h
      split at h
      · rename_i gf first cap hev
        simp only [Option.bind_eq_bind,Option.bind_eq_some_iff] at h
        obtain ⟨r1,hr1,h⟩:=h
        obtain ⟨hok,hsim⟩:=h4 _ _ _ _ hr1
        refine plain ?_ (by simp)
        split at h
        · rename_i hl; cases h; exact exec_range hev hok hsim hl (.inl ⟨rfl,rfl⟩)
        · rename_i hl; cases h; exact exec_range hev hok hsim hl (.inr rfl)
        · cases h
      · cases h
  have key:∀ n c s r,execN X Γ n c s = some r→ExecM P kn c s r∧∀ b,c = .loop b→LoopM P kn b s r:=by
    intro n
    induction n with
    | zero=>intro c s r h; cases h
    | succ n ih=>exact sExec _ ih
  have hE:∀ c s r,exec X Γ c s = some r→ExecM P kn c s r∧∀ b,c = .loop b→LoopM P kn b s r:=fun c s r h=>by
    obtain ⟨n,hn⟩:=(exec_lim X Γ c s).ex r h
    exact key n c s r hn
  refine ⟨?_,fun c s r h=>(hE c s r h).1,?_⟩
  · rw [call_h]; exact sCall _ hE
  · rw [evOps_h]; exact sOps _ hE
theorem sound_all {P:Program} {kn:TypeId→Bool} {X:FuncId→List AV→List Obj→Option (AV×List Obj)} {Γ:FuncId→Option SFunc} (hX:RuleOk P kn X) (hG:∀ f F,Γ f = some F→CodeOk P kn f F)
    (hdraw:∀ (ops:List DO) (s:St) (r:Tr),TrM P kn ops ⟨[],s.env⟩ s.H r→stables ops r.recs (r.stores++[r.s.H])→DrawM P kn ops s r.s) :
    ∀ f args H r,call X Γ f args H = some r→CallSim P kn f args H r:=(sound_parts hX hG hdraw).1
end Go.Proofs.YtepbfecmageleaaGreatDoor
namespace Go.Proofs.YtepbfecmageleaaGreatDoor
open Go
variable [Sub]
section
variable {w w':World} {g g':Gh} {H H':List Obj}
theorem refs_fn {f:Fn} {aZ bs:List AV} (h:refs (.fn f aZ bs) = []):(∀ x ∈ aZ,refs x = [])∧∀ x ∈ bs,refs x = []:=by
  simp only [refs,List.append_eq_nil_iff] at h
  refine ⟨fun x hx=>?_,fun x hx=>?_⟩
  · cases hr:refs x with
    | nil=>rfl
    | cons r rs=>have:r ∈ refsL aZ:=mem_refsL.2 ⟨x,hx,by rw [hr]; exact List.mem_cons_self ..⟩; rw [h.1] at this; cases this
  · cases hr:refs x with
    | nil=>rfl
    | cons r rs=>have:r ∈ refsL bs:=mem_refsL.2 ⟨x,hx,by rw [hr]; exact List.mem_cons_self ..⟩; rw [h.2] at this; cases this
theorem refsL_nil {aZ:List AV} (h:refsL aZ = []):∀ x ∈ aZ,refs x = []:=fun x hx=>by
  cases hr:refs x with
  | nil=>rfl
  | cons r rs=>have:r ∈ refsL aZ:=mem_refsL.2 ⟨x,hx,by rw [hr]; exact List.mem_cons_self ..⟩; rw [h] at this; cases this
theorem Rep.bare {c:Value} {a:AV} (h:Rep w g H c a):refs a = []→Rep w g H' c a:=by
  induction h with
  | p h=>intro _; exact .p h
  | lit h=>intro _; exact .lit h
  | ar h=>intro hr; simp [refs] at hr
  | ptr h=>intro hr; simp [refs] at hr
  | elp h=>intro hr; simp [refs] at hr
  | imm cs hD hcell hr=>intro _; exact .imm cs hD hcell hr
  | fn ha hb _ _ ih1 ih2 =>
    intro hr
    obtain ⟨r1,r2⟩:=refs_fn hr
    exact .fn ha hb (fun i c x hc hx=>ih1 i c x hc hx (r1 x (List.mem_of_getElem? hx))) (fun i c x hc hx=>ih2 i c x hc hx (r2 x (List.mem_of_getElem? hx)))
  | agg ha h1 _ ih=>intro hr; exact .agg ha h1 (fun i c x hc hx=>ih i c x hc hx (refsL_nil (by simpa [refs] using hr) x (List.mem_of_getElem? hx)))
  | tup ha _ ih=>intro hr; exact .tup ha (fun i c x hc hx=>ih i c x hc hx (refsL_nil (by simpa [refs] using hr) x (List.mem_of_getElem? hx)))
  | map h=>intro hr; simp [refs] at hr
  | yld h=>intro hr; simp [refs] at hr
  | emp=>intro _; exact .emp
  | csl h=>intro hr; simp [refs] at hr
theorem st_empty (hs:StRel w g H):StRel w g []:=⟨fun l o h=>by simp at h,fun l k h=>by simp at h,fun l o h=>by simp at h,hs.dom⟩
theorem evo_frame (h:Evo w g [] w' g' []) (hs:StRel w g H) (hs':StRel w' g' []):Evo w g H w' { g with D:=g'.D } H∧StRel w' { g with D:=g'.D } H:=by
  have hno:∀ b i,¬ OwnAny g [] b i:=fun b i ho=>by obtain ⟨⟨l,hl,_⟩,_⟩:=ho; simp at hl
  have hheap:∀ b,b < w.heap.size→w'.heap[b]? = w.heap[b]?:=fun b hb=>h.keep.same hb (hno b)
  have hc:∀ b i,g.D b i→cellAt w' b i = cellAt w b i:=fun b i hd=>cellAt_heap (hheap b (hs.dom b i hd)) i
  have hD:∀ b i,g.D b i→({ g with D:=g'.D }:Gh).D b i:=h.D
  have hold:∀ b i,b < w.heap.size→g'.D b i→g.D b i:=fun b i hb hd=>by
    rcases h.newD b i hd with h1 | h1 | h1
    · exact h1
    · exact absurd h1 (hno b i)
    · omega
  have hr:∀ c a,Rep w g H c a→Rep w' { g with D:=g'.D } H c a:=fun c a hr=>hr.step (g':={ g with D:=g'.D }) hD hc (fun l o _=>.same rfl rfl rfl rfl)
  refine ⟨⟨hD,hc,hr,h.keep.mono (fun b i ho=>absurd ho (hno b i)),fun b i ho=>?_,fun b i hd=>?_,rfl⟩,⟨fun l o hl=>?_,hs.inj,fun l o hl=>?_,hs'.dom⟩⟩
  · obtain ⟨hb,hd⟩:=ho
    exact .inl ⟨hb,fun h1=>hd (hD _ _ h1)⟩
  · rcases h.newD b i hd with h1 | h1 | h1
    · exact .inl h1
    · exact absurd h1 (hno b i)
    · exact .inr (.inr h1)
  · exact (hs.objs l o hl).keep rfl rfl rfl (hheap _ (IsBlk.lt hs (List.getElem?_eq_some_iff.1 hl).1)) hD hc hr
  · exact (hs.stand l o hl).keep rfl rfl (fun i hd=>hold _ i (IsBlk.lt hs (List.getElem?_eq_some_iff.1 hl).1) hd)
end
theorem evOp_free {e:Fr} {op:SOp} {H:List Obj} {v:AV} {H':List Obj} (hk:kind0 op = .free) (h:evOp e H op = some (v,H')):∀ H2,evOp e H2 op = some (v,H2):=by
  intro H2
  cases op <;> first | (simp [kind0] at hk; done) | skip
  case sliceS x lo hi =>
    simp only [evOp,Option.bind_eq_some_iff] at h ⊢
    obtain ⟨s,h1,l,h2,h',h3,h4⟩:=h
    refine ⟨s,h1,l,h2,h',h3,?_⟩
    split at h4
    · rename_i hc; rw [if_pos hc]; cases h4; rfl
    · cases h4
  case slice es x lo hi mx=>cases mx <;> simp [kind0] at hk
  case sliceArr n x lo hi =>
    simp only [evOp,Option.map_eq_some_iff,Option.bind_eq_some_iff,Prod.mk.injEq] at h ⊢
    obtain ⟨a,h1,b,h2,c,h3,d,h4,h5,_⟩:=h
    exact ⟨a,h1,b,h2,c,h3,d,h4,h5,by first | rfl | trivial⟩
  case eqs ks neg x y =>
    simp only [evOp,Option.bind_eq_some_iff] at h ⊢
    obtain ⟨a,h1,b,h2,c,h3,d,h4,h5⟩:=h
    refine ⟨a,h1,b,h2,c,h3,d,h4,?_⟩
    split at h5
    · rename_i hc
      rw [if_pos hc]
      simp only [Option.map_eq_some_iff,Prod.mk.injEq] at h5 ⊢
      obtain ⟨t,h6,h7,_⟩:=h5
      exact ⟨t,h6,h7,by first | rfl | trivial⟩
    · cases h5
  all_goals
    simp only [evOp,Option.map_eq_some_iff,Option.bind_eq_some_iff,Prod.mk.injEq] at h ⊢
    first
    | (obtain ⟨a,h1,h2,_⟩:=h; exact ⟨a,h1,h2,by first | rfl | trivial⟩)
    | (obtain ⟨a,h1,b,h2,h3,_⟩:=h; exact ⟨a,h1,b,h2,h3,by first | rfl | trivial⟩)
    | (obtain ⟨a,h1,b,h2,c,h3,h4,_⟩:=h; exact ⟨a,h1,b,h2,c,h3,h4,by first | rfl | trivial⟩)
theorem sliceAV_keep {H H':List Obj} {es l h:Nat} {a v:AV} (hs:sliceAV H es a l h false = some (v,H')):H' = H:=by
  unfold sliceAV at hs
  split at hs
  · split at hs <;> cases hs; rfl
  · split at hs <;> cases hs; rfl
  · split at hs <;> cases hs; rfl
  · split at hs <;> cases hs; rfl
  · split at hs
    · split at hs
      · simp only [Bool.false_eq_true,if_false,Option.some.injEq,Prod.mk.injEq] at hs; exact hs.2.symm
      · cases hs
    · cases hs
  · cases hs
theorem evOp_read {e:Fr} {op:SOp} {H:List Obj} {v:AV} {H':List Obj} (hk:kind0 op = .read) (h:evOp e H op = some (v,H')):H' = H:=by
  cases op <;> first | (simp [kind0] at hk; done) | skip
  case slice es x lo hi mx =>
    cases mx with
    | some m=>simp [kind0] at hk
    | none =>
      simp only [evOp,evIntOO,Option.bind_eq_some_iff,Option.some.injEq] at h
      obtain ⟨a,_,n,_,l,_,h',_,m,rfl,hs⟩:=h
      unfold sliceB at hs
      split at hs
      · exact sliceAV_keep hs
      · cases hs
  case mapget g ks z ok x k =>
    simp only [evOp,Option.bind_eq_some_iff] at h
    obtain ⟨r,_,k',_,es,_,hs⟩:=h
    split at hs
    · simp only [Option.map_eq_some_iff,Prod.mk.injEq] at hs
      obtain ⟨_,_,_,hs⟩:=hs
      exact hs.symm
    · cases hs
  all_goals
    simp only [evOp,Option.map_eq_some_iff,Option.bind_eq_some_iff,Prod.mk.injEq] at h
    first
    | (obtain ⟨a,h1,h2,h3⟩:=h; exact h3.symm)
    | (obtain ⟨a,h1,b,h2,h3,h4⟩:=h; exact h4.symm)
    | (obtain ⟨a,h1,b,h2,c,h3,h4,h5⟩:=h; exact h5.symm)
end Go.Proofs.YtepbfecmageleaaGreatDoor

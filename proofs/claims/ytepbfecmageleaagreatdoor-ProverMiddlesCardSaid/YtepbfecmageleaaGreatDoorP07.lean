/- Part of the proof of Rows.ProverMiddlesCardSaid: EvO7, EvO8. -/
import Derived.Test.YtepbfecmageleaaGreatDoorP06
set_option linter.all false
namespace Go.Proofs.YtepbfecmageleaaGreatDoor
open Go
variable [Sub]
section
variable {P:Program} {w:World} {g:Gh} {H:List Obj}
variable {a:Act} {dst:Option Tmp} {ty:TypeId} {pos:String} {after:Array Edge} {gd:Option (Nat×Bool)}
def News (w:World) (D:Nat→Nat→Prop) (es:Nat) (ys:List (List PV)) (news:List Value):Prop :=
  news.length = ys.length * es∧(∀ u ∈ news,u.oneCell' = true)∧∀ (i j:Nat) (row:List PV) (x:PV),ys[i]? = some row→row[j]? = some x→∃ u,news[i * es + j]? = some u∧RepP w D u x
theorem news_of {D:Nat→Nat→Prop} {es b o:Nat} {ys:List (List PV)} (hes:∀ r ∈ ys,r.length = es)
    (h:∀ (i j:Nat) (row:List PV) (x:PV),ys[i]? = some row→row[j]? = some x→∃ u,cellAt w b (o + i * es + j) = some u∧RepP w D u x) :
    ∃ news:List Value,News w D es ys news∧∀ k u,news[k]? = some u→w.cell? ((⟨b,o,none⟩:Addr).add k) = some u:=by
  have key:∀ k,k < ys.length * es→∃ u,cellAt w b (o + k) = some u∧u.oneCell' = true:=fun k hk=>by
    have he:0 < es:=by
      rcases Nat.eq_zero_or_pos es with h0 | h0
      · rw [h0] at hk; simp at hk
      · exact h0
    have hi:k / es < ys.length:=(Nat.div_lt_iff_lt_mul he).2 hk
    have hj:k % es < es:=Nat.mod_lt _ he
    have hrl:=hes ys[k / es] (List.getElem_mem hi)
    obtain ⟨u,h1,h2⟩:=h (k / es) (k % es) ys[k / es] (ys[k / es][k % es]'(by omega)) (by simp [hi]) (by simp [hrl,hj])
    have hd:=Nat.div_add_mod k es
    rw [Nat.mul_comm] at hd
    exact ⟨u,by rw [← h1]; congr 1; omega,h2.one⟩
  refine ⟨(List.range (ys.length * es)).map fun k=>(cellAt w b (o + k)).getD undef,⟨by simp,fun u hu=>?_,fun i j row x hi hj=>?_⟩,fun k u hk=>?_⟩
  · simp only [List.mem_map,List.mem_range] at hu
    obtain ⟨k,hk,rfl⟩:=hu
    obtain ⟨u,h1,h2⟩:=key k hk
    rw [h1]; exact h2
  · obtain ⟨u,h1,h2⟩:=h i j row x hi hj
    have hil:i < ys.length:=(List.getElem?_eq_some_iff.1 hi).1
    have hjl:j < es:=by rw [← hes row (List.mem_of_getElem? hi)]; exact (List.getElem?_eq_some_iff.1 hj).1
    have:=row_fit (es:=es) hil
    refine ⟨u,?_,h2⟩
    rw [List.getElem?_map,List.getElem?_range (by omega)]
    simp only [Option.map_some,← Nat.add_assoc,h1,Option.getD_some]
  · rw [List.getElem?_map,Option.map_eq_some_iff] at hk
    obtain ⟨k',hk',rfl⟩:=hk
    obtain ⟨hlt,rfl⟩:=List.getElem?_eq_some_iff.1 hk'
    simp only [List.length_range] at hlt
    simp only [List.getElem_range]
    obtain ⟨u,h1,_⟩:=key k hlt
    rw [addr_add,h1]
    exact h1
theorem news_arg {es:Nat} {c:Value} {v:AV} {ys:List (List PV)} (hs:StRel w g H) (h:Rep w g H c v) (hy:rowsOf H v = some ys) (hes:∀ r ∈ ys,r.length = es) :
    ∃ p cap news,c = .slice p ys.length cap∧News w g.D es ys news∧((ys = []∧news = [])∨∃ ad,p = some ad∧∀ k u,news[k]? = some u→w.cell? (ad.add k) = some u):=by
  obtain ⟨p,cap,hc,_,hcell⟩:=rows_rep hs h hy hes
  cases ys with
  | nil=>exact ⟨p,cap,[],hc,⟨by simp,by simp,fun i j row x h=>by simp at h⟩,.inl ⟨rfl,rfl⟩⟩
  | cons y ys =>
    obtain ⟨b,o,rfl,h2⟩:=hcell (by simp)
    obtain ⟨news,h3,h4⟩:=news_of hes h2
    exact ⟨_,cap,news,hc,h3,.inr ⟨_,rfl,h4⟩⟩
theorem News.append {D:Nat→Nat→Prop} {es:Nat} {xs ys:List (List PV)} {aZ bs:List Value} (hx:News w D es xs aZ) (hy:News w D es ys bs):News w D es (xs++ys) (aZ++bs):=by
  obtain ⟨a1,a2,a3⟩:=hx
  obtain ⟨b1,b2,b3⟩:=hy
  refine ⟨by simp [a1,b1,Nat.add_mul],fun u hu=>?_,fun i j row x hi hj=>?_⟩
  · rcases List.mem_append.1 hu with h | h
    · exact a2 u h
    · exact b2 u h
  · rw [List.getElem?_append] at hi
    split at hi
    · obtain ⟨u,h1,h2⟩:=a3 i j row x hi hj
      have:=(List.getElem?_eq_some_iff.1 h1).1
      exact ⟨u,by rw [List.getElem?_append_left this]; exact h1,h2⟩
    · rename_i hge
      obtain ⟨u,h1,h2⟩:=b3 (i - xs.length) j row x hi hj
      refine ⟨u,?_,h2⟩
      have hm:(i - xs.length) * es + xs.length * es = i * es:=by rw [← Nat.add_mul]; congr 1; omega
      rw [List.getElem?_append_right (by omega),← h1]
      congr 1
      omega
theorem run_append_call {c:Call} {x y:Operand} {t:TypeId} (hc:c.callee = .builtin .append) (ha:c.args.toList = [x,y]) (ht:c.argTypes.toList = [t,t]) :
    (execOp a.eval ⟨dst,.call c,ty,pos,after,gd⟩).run P w = ((Builtin.append_ #[t,t] ty #[a.eval x,a.eval y]).run P w).andThen fun r w=>.ok (.value r) w:=by
  have ha':c.args = #[x,y]:=by rw [← Array.toList_inj]; exact ha
  have ht':c.argTypes = #[t,t]:=by rw [← Array.toList_inj]; exact ht
  simp [execOp,resolve,hc,ha',ht',Go.invoke,Go.builtin]
theorem run_append_room' {t ty e:TypeId} {i:TypeInfo} (ht:P.underlying t = some (.slice e)) (hi:P.info? e = some i)
    {b o sLen sCap m c:Nat} {cur:Array Value} {te:TypeId} {p:Option Addr} {news:List Value} (hg:w.heap[b]? = some (.cells cur te (0,0)))
    (hf:(Builtin.firstCells i.size m (.slice p m c)).run P w = .ok news.toArray w) (h1:∀ u ∈ news,u.oneCell' = true)
    (hroom:sLen + m ≤ sCap) (hfit:o + sLen * i.size + news.length ≤ cur.size) :
    (Builtin.append_ #[t,t] ty #[.slice (some ⟨b,o,none⟩) sLen sCap,.slice p m c]).run P w =
      .ok (.slice (some ⟨b,o,none⟩) (sLen + m) sCap) (w.setRow b (cur.toList.take (o + sLen * i.size)++news++cur.toList.drop (o + sLen * i.size + news.length)).toArray):=by
  have hst:=run_storeCells_at P b (o + sLen * i.size) te news 0 cur w hg (by simpa using hfit) h1
  simp only [Nat.add_zero] at hst
  simp [Builtin.append_,run_underlying ht,sizeOf,typeInfo,hi,Builtin.lenOf,hroom,hf,addr_add,hst]
theorem run_append_empty {t ty e:TypeId} {i:TypeInfo} (ht:P.underlying t = some (.slice e)) (hi:P.info? e = some i) {q p:Option Addr} {sLen sCap c:Nat} (hle:sLen ≤ sCap) :
    (Builtin.append_ #[t,t] ty #[.slice q sLen sCap,.slice p 0 c]).run P w = .ok (.slice q sLen sCap) w:=by
  cases q <;> cases p <;> simp [Builtin.append_,run_underlying ht,sizeOf,typeInfo,hi,Builtin.lenOf,hle,Builtin.firstCells,loadCells,loadCellsFrom,storeCells]
theorem firstCells_news {es m c:Nat} {p:Option Addr} {news:List Value} (hl:news.length = m * es) (h:(m = 0∧news = [])∨∃ ad,p = some ad∧∀ k u,news[k]? = some u→w.cell? (ad.add k) = some u) :
    (Builtin.firstCells es m (.slice p m c)).run P w = .ok news.toArray w:=by
  rcases h with ⟨rfl,rfl⟩ | ⟨ad,rfl,h⟩
  · cases p <;> simp [Builtin.firstCells,loadCells,loadCellsFrom]
  · exact run_firstCells_some (P:=P) w es m ad m c news hl h
theorem grown_rows {D:Nat→Nat→Prop} {es cap:Nat} {rows:List (List PV)} {cells:List Value} {z:Array Value} (hn:News w D es rows cells) (hz:z.size = es) (hcap:rows.length ≤ cap) :
    cap * es ≤ (cells.toArray++Builtin.zeroCells z (cap - rows.length)).size ∧
    ∀ (i j:Nat) (row:List PV) (x:PV),rows[i]? = some row→row[j]? = some x→∃ c,(cells.toArray++Builtin.zeroCells z (cap - rows.length))[i * es + j]? = some c∧RepP w D c x:=by
  obtain ⟨h1,_,h3⟩:=hn
  refine ⟨?_,fun i j row x hi hj=>?_⟩
  · rw [Array.size_append,size_zeroCells,hz,List.size_toArray,h1,← Nat.add_mul]
    exact Nat.mul_le_mul_right _ (by omega)
  · obtain ⟨u,h4,h5⟩:=h3 i j row x hi hj
    have:=(List.getElem?_eq_some_iff.1 h4).1
    exact ⟨u,by rw [Array.getElem?_append_left (by simpa using this)]; simpa using h4,h5⟩
theorem evo_room {l es ver:Nat} {fz:Option Nat} {rows ys:List (List PV)} {news:List Value} (hs:StRel w g H) (hH:H[l]? = some (.arr es fz ver rows)) (hes:∀ r ∈ ys,r.length = es) (hn:News w g.D es ys news)
    (hroom:rows.length + ys.length ≤ g.cap l):∃ vs e g',w.heap[g.blk l]? = some (.cells vs e (0,0))∧g.base l + rows.length * es + news.length ≤ vs.size ∧
    Evo w g H (w.setRow (g.blk l) (vs.toList.take (g.base l + rows.length * es)++news++vs.toList.drop (g.base l + rows.length * es + news.length)).toArray) g' (H.set l (.arr es fz (ver + 1) (rows++ys))) ∧
    StRel (w.setRow (g.blk l) (vs.toList.take (g.base l + rows.length * es)++news++vs.toList.drop (g.base l + rows.length * es + news.length)).toArray) g' (H.set l (.arr es fz (ver + 1) (rows++ys))) ∧
    g'.blk = g.blk∧g'.base = g.base∧g'.cap = g.cap:=by
  obtain ⟨h1,h2,⟨vs,e,h3,h4⟩,h5,h6⟩:=hs.objs _ _ hH
  obtain ⟨n1,n2,n3⟩:=hn
  have hlt:l < H.length:=(List.getElem?_eq_some_iff.1 hH).1
  have hm:(rows.length + ys.length) * es = rows.length * es + ys.length * es:=Nat.add_mul ..
  have hmc:(rows.length + ys.length) * es ≤ g.cap l * es:=Nat.mul_le_mul_right _ hroom
  have hfit:g.base l + rows.length * es + news.length ≤ vs.size:=by omega
  have hold:∀ i,g.D (g.blk l) i→i < g.base l + rows.length * es:=fun i hd=>by
    have:=hs.stand l _ hH
    cases fz with
    | none=>exact absurd hd (this i)
    | some f=>exact this.2 i hd
  have hfv:∀ f,fz = some f→f ≤ ver:=fun f hf=>by subst hf; exact (hs.stand l _ hH).1
  have ho:=setRow_only (D:=g.D) h3 (new_size hfit) (fun i hd=>by rw [new_get hfit,if_neg (by have:=hold i hd; omega)])
  let Q:Nat→Prop:=fun i=>fz.isSome = true∧g.base l + rows.length * es ≤ i∧i < g.base l + (rows.length + ys.length) * es
  let g':Gh:={ g with D:=fun b i=>g.D b i∨(b = g.blk l∧Q i) }
  have hD:∀ b i,g.D b i→g'.D b i:=fun _ _ h=>.inl h
  have hrows:∀ r ∈ rows++ys,r.length = es:=fun r hr=>by
    rcases List.mem_append.1 hr with h | h
    · exact h2 r h
    · exact hes r h
  have hcells:∀ (i j:Nat) (row:List PV) (x:PV),(rows++ys)[i]? = some row→row[j]? = some x→∃ c,cellAt (w.setRow (g.blk l) (vs.toList.take (g.base l + rows.length * es)++news++vs.toList.drop (g.base l + rows.length * es + news.length)).toArray) (g.blk l) (g.base l + i * es + j) = some c ∧
      RepP (w.setRow (g.blk l) (vs.toList.take (g.base l + rows.length * es)++news++vs.toList.drop (g.base l + rows.length * es + news.length)).toArray) g'.D c x:=fun i j row x hi hj=>by
    rw [cellAt_cells (setRow_heap w (g.blk l) vs _ e _ h3),new_get hfit]
    have hjl:j < es:=by rw [← hrows row (List.mem_of_getElem? hi)]; exact (List.getElem?_eq_some_iff.1 hj).1
    rw [List.getElem?_append] at hi
    split at hi
    · rename_i hil
      have:=row_fit (es:=es) hil
      rw [if_neg (by omega)]
      obtain ⟨c,e1,e2⟩:=h5 i j row x hi hj
      exact ⟨c,by rw [← cellAt_cells h3]; exact e1,e2.mono hD ho.cells⟩
    · rename_i hge
      have hil:i - rows.length < ys.length:=(List.getElem?_eq_some_iff.1 hi).1
      have:=row_fit (es:=es) hil
      have hmm:(i - rows.length) * es + rows.length * es = i * es:=by rw [← Nat.add_mul]; congr 1; omega
      obtain ⟨u,e1,e2⟩:=n3 (i - rows.length) j row x hi hj
      rw [if_pos (by omega),show g.base l + i * es + j - (g.base l + rows.length * es) = (i - rows.length) * es + j by omega]
      exact ⟨u,e1,e2.mono hD ho.cells⟩
  obtain ⟨e1,e2⟩:=evo_obj (g':=g') (o':=.arr es fz (ver + 1) (rows++ys)) (Q:=Q) hs hH rfl rfl rfl (fun b i=>Iff.rfl) ho
    (.app hH (List.getElem?_set_self hlt) hfv) (fun _=>⟨by simpa using hroom,hrows,⟨_,e,setRow_heap w (g.blk l) vs _ e _ h3,by rw [new_size hfit]; exact h4⟩,hcells,fun i j hf hi hj=>by
      rw [List.length_append] at hi
      rcases Nat.lt_or_ge i rows.length with h | h
      · exact .inl (h6 i j hf h hj)
      · have:=row_fit (es:=es) hi
        have:=Nat.mul_le_mul_right es h
        exact .inr ⟨rfl,hf,by show g.base l + rows.length * es ≤ g.base l + i * es + j; omega,by show g.base l + i * es + j < _; omega⟩⟩) (by
      cases fz with
      | none =>
        intro i hd
        rcases hd with hd | ⟨_,hf,_⟩
        · exact hs.stand l _ hH i hd
        · cases hf
      | some f =>
        refine ⟨Nat.le_succ_of_le (hfv f rfl),fun i hd=>?_⟩
        rw [List.length_append]
        show i < g.base l + (rows.length + ys.length) * es
        rcases hd with hd | ⟨_,_,_,hd⟩
        · have:=hold i hd; omega
        · exact hd)
  exact ⟨vs,e,g',h3,hfit,e1,e2,rfl,rfl,rfl⟩
theorem evo_rows {l es ver off:Nat} {rows ys:List (List PV)} {news:List Value} (hs:StRel w g H) (hH:H[l]? = some (.arr es none ver rows)) (hes:∀ r ∈ ys,r.length = es) (hn:News w g.D es ys news)
    (hin:off + ys.length ≤ rows.length):∃ vs e,w.heap[g.blk l]? = some (.cells vs e (0,0))∧g.base l + off * es + news.length ≤ vs.size ∧
    Evo w g H (w.setRow (g.blk l) (vs.toList.take (g.base l + off * es)++news++vs.toList.drop (g.base l + off * es + news.length)).toArray) g (H.set l (.arr es none ver (rows.take off++ys++rows.drop (off + ys.length)))) ∧
    StRel (w.setRow (g.blk l) (vs.toList.take (g.base l + off * es)++news++vs.toList.drop (g.base l + off * es + news.length)).toArray) g (H.set l (.arr es none ver (rows.take off++ys++rows.drop (off + ys.length)))):=by
  obtain ⟨h1,h2,⟨vs,e,h3,h4⟩,h5,h6⟩:=hs.objs _ _ hH
  obtain ⟨n1,n2,n3⟩:=hn
  have hlt:l < H.length:=(List.getElem?_eq_some_iff.1 hH).1
  have hm:(off + ys.length) * es = off * es + ys.length * es:=Nat.add_mul ..
  have hmc:(off + ys.length) * es ≤ g.cap l * es:=Nat.mul_le_mul_right _ (by omega)
  have hfit:g.base l + off * es + news.length ≤ vs.size:=by omega
  have hnoD:∀ i,¬ g.D (g.blk l) i:=hs.stand l _ hH
  have ho:=setRow_only (D:=g.D) h3 (new_size hfit) (fun i hd=>absurd hd (hnoD i))
  have hlen:(rows.take off++ys++rows.drop (off + ys.length)).length = rows.length:=by simp; omega
  have hmem:∀ r ∈ rows.take off++ys++rows.drop (off + ys.length),r.length = es:=fun r hr=>by
    rcases List.mem_append.1 hr with h | h
    · rcases List.mem_append.1 h with h | h
      · exact h2 r (List.mem_of_mem_take h)
      · exact hes r h
    · exact h2 r (List.mem_of_mem_drop h)
  refine ⟨vs,e,h3,hfit,evo_obj (g':=g) (o':=.arr es none ver (rows.take off++ys++rows.drop (off + ys.length))) (Q:=fun _=>False) hs hH rfl rfl rfl (fun b i=>by simp) ho
    (.store hH (List.getElem?_set_self hlt) hlen rfl rfl rfl) (fun _=>⟨by rw [hlen]; exact h1,hmem,⟨_,e,setRow_heap w (g.blk l) vs _ e _ h3,by rw [new_size hfit]; exact h4⟩,fun i j r x hi hj=>?_,fun _ _ hf=>by cases hf⟩) hnoD⟩
  rw [cellAt_cells (setRow_heap w (g.blk l) vs _ e _ h3),new_get hfit]
  have hjl:j < es:=by rw [← hmem r (List.mem_of_getElem? hi)]; exact (List.getElem?_eq_some_iff.1 hj).1
  rw [seg_get hin] at hi
  by_cases hc:off ≤ i∧i < off + ys.length
  · rw [if_pos hc] at hi
    have hil:i - off < ys.length:=by omega
    have:=row_fit (es:=es) hil
    have hmm:(i - off) * es + off * es = i * es:=by rw [← Nat.add_mul]; congr 1; omega
    obtain ⟨u,e1,e2⟩:=n3 (i - off) j r x hi hj
    rw [if_pos (by omega),show g.base l + i * es + j - (g.base l + off * es) = (i - off) * es + j by omega]
    exact ⟨u,e1,e2.mono (fun _ _ h=>h) ho.cells⟩
  · rw [if_neg hc] at hi
    have hout:¬ (g.base l + off * es ≤ g.base l + i * es + j∧g.base l + i * es + j < g.base l + off * es + news.length):=by
      rcases Nat.lt_or_ge i off with h | h
      · have:=row_fit (es:=es) h; omega
      · have:=Nat.mul_le_mul_right es (show off + ys.length ≤ i by omega); omega
    rw [if_neg hout]
    obtain ⟨c,e1,e2⟩:=h5 i j r x hi hj
    exact ⟨c,by rw [← cellAt_cells h3]; exact e1,e2.mono (fun _ _ h=>h) ho.cells⟩
theorem ar_whole {w':World} {g':Gh} {H':List Obj} {l es ver:Nat} {fz:Option Nat} {rows:List (List PV)} (hs:StRel w' g' H') (hH:H'[l]? = some (.arr es fz ver rows)) :
    Rep w' g' H' (.slice (some ⟨g'.blk l,g'.base l,none⟩) rows.length (g'.cap l)) (.ar l ver 0 rows.length):=by
  obtain ⟨h1,h2,_,h5,h6⟩:=hs.objs _ _ hH
  refine .ar ⟨h1,.inr ⟨_,_,rfl⟩,es,fz,ver,rows,hH,Nat.le_refl _,by omega,fun _=>⟨?_,fun _ _=>⟨rfl,rfl⟩,fun _=>by omega⟩⟩
  cases fz with
  | none=>intro _; simp
  | some f =>
    show RepP w' g'.D _ (.sl ((rows.drop 0).take rows.length))
    simp only [List.drop_zero,List.take_length]
    refine RepP.of_rows (es:=es) rfl h1 h2 (fun i j row x hi hj=>?_)
    have hjl:j < es:=by rw [← h2 row (List.mem_of_getElem? hi)]; exact (List.getElem?_eq_some_iff.1 hj).1
    exact ⟨h6 i j rfl (List.getElem?_eq_some_iff.1 hi).1 hjl,h5 i j row x hi hj⟩
theorem all_rows {rows:List (List PV)} {es:Nat} (h:(rows.all fun r=>r.length == es) = true):∀ r ∈ rows,r.length = es:=all_len h
theorem sim_append {c:Call} {x y:Operand} {t e:TypeId} {i:TypeInfo} {z:Value} {u v r:AV} {H':List Obj} (hs:StRel w g H) (hc:c.callee = .builtin .append) (ha:c.args.toList = [x,y]) (hat:c.argTypes.toList = [t,t])
    (ht:P.underlying t = some (.slice e)) (hi:P.info? e = some i) (hz:i.zero = some z) (hzs:z.cells.size = i.size) (hb:i.bytes ≠ 0)
    (hx:Rep w g H (a.eval x) u) (hy:Rep w g H (a.eval y) v) (h:appendV H i.bytes i.size u v = some (r,H')):OpSim P a w g H ⟨dst,.call c,ty,pos,after,gd⟩ r H':=by
  have hcall:=run_append_call (P:=P) (a:=a) (dst:=dst) (ty:=ty) (pos:=pos) (after:=after) (gd:=gd) (w:=w) hc ha hat
  unfold appendV at h
  simp only [Option.bind_eq_some_iff] at h
  obtain ⟨ys,hys,h⟩:=h
  split at h
  case isFalse=>cases h
  rename_i hall
  have hes:=all_rows hall
  obtain ⟨py,cy,news,hcy,hnews,harg⟩:=news_arg hs hy hys hes
  have h63:∀ n:Nat,n * i.bytes ≤ 140737488355328→(n:Int) ≤ 9223372036854775807:=fun n hn=>by
    have:n * 1 ≤ n * i.bytes:=Nat.mul_le_mul_left _ (by omega)
    omega
  have fromNil:a.eval x = .slice none 0 0→ys.isEmpty = false→ys.length * i.bytes ≤ 140737488355328 →
      OpSim P a w g H ⟨dst,.call c,ty,pos,after,gd⟩ (.ar H.length 0 0 ys.length) (H++[.arr i.size none 0 ys]):=fun hxv hne hbd=>by
    rcases harg with ⟨rfl,_⟩ | ⟨ad,rfl,hcell⟩
    · simp at hne
    have hpos:0 < ys.length:=by cases ys <;> simp at hne ⊢
    have hr:=run_append_nil (P:=P) w t ty e i z ht hi hz ad ys.length cy news hnews.1 hcell hpos (h63 _ hbd) (by omega)
    have hge:=grownCap_ge w ys.length 0 e
    obtain ⟨q1,q2⟩:=grown_rows (cap:=grownCap w ys.length 0 e) hnews hzs hge
    exact sim_newArr (w':=w.drew.alloc (.cells (news.toArray++Builtin.zeroCells z.cells (grownCap w ys.length 0 e - ys.length)) e)) (cap:=grownCap w ys.length 0 e) hs (by rw [hcall,hxv,hcy,hr]; rfl) ⟨rfl,rfl,rfl,⟨rfl,by first | exact Nat.le_refl _ | exact Nat.le_succ _⟩⟩ hge hes q1 q2
  have fromSome:∀ (b:Addr) (n cap:Nat) (xs:List (List PV)) (olds:List Value),a.eval x = .slice (some b) n cap→xs.length = n→News w g.D i.size xs olds→(∀ k u,olds[k]? = some u→w.cell? (b.add k) = some u) →
      cap < n + ys.length→(n + ys.length) * i.bytes ≤ 140737488355328→∃ w',Pushed w w' (.cells ((olds++news).toArray++Builtin.zeroCells z.cells (grownCap w (n + ys.length) cap e - (n + ys.length))) e (0,0)) ∧
        (execOp a.eval ⟨dst,.call c,ty,pos,after,gd⟩).run P w = .ok (.value (.slice (some ⟨w.heap.size,0,none⟩) (n + ys.length) (grownCap w (n + ys.length) cap e))) w':=fun b n cap xs olds hxv hxl hol holc hlt hbd=>by
    rcases harg with ⟨rfl,_⟩ | ⟨ad,rfl,hcell⟩
    · obtain ⟨p,cap',hcx,hle⟩:∃ p cap',a.eval x = .slice p n cap'∧n ≤ cap':=by
        cases hu:lenOf u with
        | some m =>
          obtain ⟨p,cap',q,hle⟩:=len_rep hx hu
          rw [hxv] at q
          cases q
          exact ⟨_,_,hxv,hle⟩
        | none=>cases u <;> simp [lenOf] at hu <;> first | (simp at h; done) | (rename_i pv; cases pv <;> simp [lenOf] at hu <;> first | (simp at h; done) | cases h)
      rw [hxv] at hcx
      cases hcx
      simp at hlt
      omega
    have hr:=run_append_grow (P:=P) w t ty e i z ht hi hz b n cap olds (by rw [hol.1,hxl]) holc ad ys.length cy news hnews.1 hcell hlt (h63 _ hbd) (growslice_fits (by omega) hbd)
    refine ⟨w.drew.alloc (.cells ((olds++news).toArray++Builtin.zeroCells z.cells (grownCap w (n + ys.length) cap e - (n + ys.length))) e),⟨rfl,rfl,rfl,⟨rfl,Nat.le_succ _⟩⟩,?_⟩
    rw [hcall,hxv,hcy,hr]
    simp
  cases u with
  | p pv =>
    cases pv with
    | nsl =>
      simp only at h
      have hxv:a.eval x = .slice none 0 0:=by
        generalize hxv:a.eval x = cv at hx
        cases hx with
        | p hp=>cases hp; rfl
      split at h
      · rename_i hemp
        cases h
        have:ys = []:=by simpa using hemp
        subst this
        refine .quiet hs (cv:=.slice none 0 0) ?_ (.p .nsl)
        rw [hcall,hxv,hcy,List.length_nil,run_append_empty ht hi (Nat.le_refl _)]; rfl
      · rename_i hemp
        split at h
        · rename_i hbd
          cases h
          exact fromNil hxv (by simpa using hemp) hbd
        · cases h
    | v=>cases h
    | h=>cases h
    | sl=>cases h
  | lit xs =>
    simp only at h
    split at h
    · rename_i hemp
      cases h
      have:ys = []:=by simpa using hemp
      subst this
      generalize hxv:a.eval x = cv at hx
      cases hx with
      | lit hp =>
        refine .quiet hs (cv:=_) ?_ (.lit hp)
        rw [hcall,hxv,hcy,List.length_nil,run_append_empty ht hi (Nat.le_refl _)]; rfl
    · rename_i hemp
      split at h
      · rename_i hcond
        obtain ⟨hbd,hallx⟩:=hcond
        cases h
        have hesx:=all_rows hallx
        have hpos:0 < ys.length:=by cases ys <;> simp at hemp ⊢
        generalize hxv:a.eval x = cv at hx
        cases hx with
        | lit hp =>
          rename_i p n
          obtain ⟨q1,q2,q3,q4⟩:=hp.rows hesx
          rcases q3 with ⟨rfl,rfl⟩ | ⟨b,o,rfl⟩
          · have:xs = []:=List.eq_nil_of_length_eq_zero q1
            subst this
            have:=fromNil hxv (by cases ys <;> simp at hpos ⊢) (by simpa using hbd)
            simpa using this
          · have hold:∃ olds,News w g.D i.size xs olds∧∀ k u,olds[k]? = some u→w.cell? ((⟨b,o,none⟩:Addr).add k) = some u:=by
              rcases Nat.eq_zero_or_pos n with h0 | h0
              · have:xs = []:=List.eq_nil_of_length_eq_zero (by omega)
                subst this
                exact ⟨[],⟨by simp,by simp,fun i j row x h=>by simp at h⟩,fun k u h=>by simp at h⟩
              · obtain ⟨b',o',e1,q5⟩:=q4 h0
                cases e1
                exact news_of hesx (fun i j row x hi hj=>(q5 i j row x hi hj).2)
            obtain ⟨olds,ho1,ho2⟩:=hold
            obtain ⟨w',hp',hrun⟩:=fromSome _ n n xs olds hxv q1 ho1 ho2 (by omega) (by rw [← q1]; exact hbd)
            have hge:=grownCap_ge w (n + ys.length) n e
            have hlen:(xs++ys).length = n + ys.length:=by rw [List.length_append,q1]
            obtain ⟨r1,r2⟩:=grown_rows (cap:=grownCap w (n + ys.length) n e) (ho1.append hnews) hzs (by rw [hlen]; exact hge)
            rw [hlen] at r1 r2
            have:=sim_newArr (rows:=xs++ys) (cap:=grownCap w (n + ys.length) n e) hs (by rw [hlen]; exact hrun) hp' (by rw [hlen]; exact hge) (fun r hr=>by
              rcases List.mem_append.1 hr with h | h
              · exact hesx r h
              · exact hes r h) r1 r2
            rwa [hlen,← q1] at this
      · cases h
  | ar l v' off len =>
    cases off with
    | succ off=>cases h
    | zero =>
      simp only at h
      split at h
      · rename_i es' fz ver rows hH
        split at h
        · rename_i hcond
          obtain ⟨rfl,hrl,rfl,hbd⟩:=hcond
          cases h
          subst hrl
          obtain ⟨p,cap,hxv,hA⟩:=hx.ar_inv
          obtain ⟨h1,h2,es2,fz2,ver2,rows2,hH2,_,_,hf⟩:=hA
          rw [hH] at hH2
          cases hH2
          have hsn:seen fz v' v' = true:=by
            have:=hs.stand l _ hH
            cases fz with
            | none=>simp [seen]
            | some f=>simpa [seen] using this.1
          obtain ⟨_,hf2,_⟩:=hf hsn
          obtain ⟨rfl,rfl⟩:=hf2 rfl rfl
          have hlt:l < H.length:=(List.getElem?_eq_some_iff.1 hH).1
          have hself:(H.set l (.arr i.size fz (v' + 1) (rows++ys)))[l]? = some (.arr i.size fz (v' + 1) (rows++ys)):=List.getElem?_set_self hlt
          have hlen:(rows++ys).length = rows.length + ys.length:=List.length_append
          by_cases hroom:rows.length + ys.length ≤ g.cap l
          · obtain ⟨vs,te,g',b1,b2,b3,b4,b5,b6,b7⟩:=evo_room hs hH hes hnews hroom
            have hfc:=firstCells_news (P:=P) (w:=w) (es:=i.size) (m:=ys.length) (c:=cy) hnews.1 (by
              rcases harg with ⟨e1,e2⟩ | h
              · exact .inl ⟨by rw [e1]; rfl,e2⟩
              · exact .inr h)
            have hr:=run_append_room' (P:=P) (ty:=ty) ht hi b1 hfc hnews.2.1 hroom b2
            refine ⟨.slice (some ⟨g.blk l,g.base l,none⟩) (rows.length + ys.length) (g.cap l),_,g',.inl (by rw [hcall,hxv,hcy,hr]; rfl),b3,b4,.inr ?_⟩
            have:=ar_whole b4 hself
            rwa [b5,b6,b7,hlen] at this
          · obtain ⟨_,hesx,_,h5,_⟩:=hs.objs _ _ hH
            obtain ⟨olds,ho1,ho2⟩:=news_of hesx h5
            obtain ⟨w',hp',hrun⟩:=fromSome _ rows.length (g.cap l) rows olds hxv rfl ho1 ho2 (by omega) hbd
            have hge:=grownCap_ge w (rows.length + ys.length) (g.cap l) e
            obtain ⟨r1,r2⟩:=grown_rows (cap:=grownCap w (rows.length + ys.length) (g.cap l) e) (ho1.append hnews) hzs (by rw [hlen]; exact hge)
            rw [hlen] at r1 r2
            obtain ⟨g',b3,b4,b5,b6,b7,_⟩:=evo_grow hs hH hp' hes hge r1 r2
            refine ⟨_,w',g',.inl hrun,b3,b4,.inr ?_⟩
            have:=ar_whole b4 hself
            rwa [b5,b6,b7,hlen] at this
        · split at h
          · rename_i hcond
            obtain ⟨rfl,rfl,rfl,hle,hbd⟩:=hcond
            cases h
            obtain ⟨p,cap,hxv,hA⟩:=hx.ar_inv
            obtain ⟨h1,h2,es2,fz2,ver2,rows2,hH2,hv2,hoff2,hf⟩:=hA
            rw [hH] at hH2
            cases hH2
            obtain ⟨f1,f2,f3⟩:=hf (by simp [seen])
            have hroom:=f3 rfl
            have hlt:l < H.length:=(List.getElem?_eq_some_iff.1 hH).1
            have hlen:(rows.take len++ys++rows.drop (len + ys.length)).length = rows.length:=by simp; omega
            obtain ⟨vs,te,b1,b2,b3,b4⟩:=evo_rows (off:=len) hs hH hes hnews hle
            have hself:(H.set l (.arr i.size none v' (rows.take len++ys++rows.drop (len + ys.length))))[l]? = some (.arr i.size none v' (rows.take len++ys++rows.drop (len + ys.length))):=List.getElem?_set_self hlt
            obtain ⟨rfl,rfl⟩:=f2 rfl rfl
            have hcl:len + ys.length ≤ g.cap l:=by omega
            have hfc:=firstCells_news (P:=P) (w:=w) (es:=i.size) (m:=ys.length) (c:=cy) hnews.1 (by
              rcases harg with ⟨e1,e2⟩ | h
              · exact .inl ⟨by rw [e1]; rfl,e2⟩
              · exact .inr h)
            have hr:=run_append_room' (P:=P) (ty:=ty) ht hi b1 hfc hnews.2.1 hcl b2
            refine ⟨.slice (some ⟨g.blk l,g.base l,none⟩) (len + ys.length) (g.cap l),_,g,.inl (by rw [hcall,hxv,hcy,hr]; rfl),b3,b4,.inr ?_⟩
            exact .ar ⟨hcl,.inr ⟨_,_,rfl⟩,i.size,none,v',_,hself,Nat.le_refl _,by rw [hlen]; omega,fun _=>⟨fun _=>by simp,fun _ _=>⟨rfl,rfl⟩,fun _=>by rw [hlen]; omega⟩⟩
          · cases h
      · cases h
  | _=>cases h
end
end Go.Proofs.YtepbfecmageleaaGreatDoor
namespace Go.Proofs.YtepbfecmageleaaGreatDoor
open Go
variable [Sub]
section
variable {P:Program} {w:World} {g:Gh} {H:List Obj}
variable {a:Act} {dst:Option Tmp} {ty:TypeId} {pos:String} {after:Array Edge} {gd:Option (Nat×Bool)}
theorem heads_get:∀ {ys:List (List PV)} {xs:List PV},heads ys = some xs→xs.length = ys.length∧(∀ r ∈ ys,r.length = 1)∧∀ (i:Nat) (x:PV),xs[i]? = some x→ys[i]? = some [x]
  | [],xs,h=>by cases h; exact ⟨rfl,by simp,by simp⟩
  | []::r,xs,h=>by simp [heads] at h
  | [x]::r,xs,h=>by
    simp only [heads,Option.map_eq_some_iff] at h
    obtain ⟨ys,h,rfl⟩:=h
    obtain ⟨h1,h2,h3⟩:=heads_get h
    refine ⟨by simp [h1],by simpa using h2,fun i z hz=>?_⟩
    cases i with
    | zero=>simp at hz; subst hz; rfl
    | succ i=>simp only [List.getElem?_cons_succ] at hz ⊢; exact h3 i z hz
  | (x::y::l)::r,xs,h=>by simp [heads] at h
theorem sim_copy {c:Call} {x y:Operand} {t e:TypeId} {i:TypeInfo} {u v r:AV} {H':List Obj} (hs:StRel w g H) (hc:c.callee = .builtin .copy) (ha:c.args.toList = [x,y]) (hat:c.argTypes[0]? = some t)
    (ht:P.underlying t = some (.slice e)) (hi:P.info? e = some i)
    (hx:Rep w g H (a.eval x) u) (hy:Rep w g H (a.eval y) v) (h:copyV H i.size u v = some (r,H')):OpSim P a w g H ⟨dst,.call c,ty,pos,after,gd⟩ r H':=by
  have ha':c.args = #[x,y]:=by rw [← Array.toList_inj]; exact ha
  unfold copyV at h
  simp only [Option.bind_eq_some_iff] at h
  obtain ⟨ys,hys,n,hn,h⟩:=h
  obtain ⟨p,cap,hxv,hcap⟩:=len_rep hx hn
  have hcall:(execOp a.eval ⟨dst,.call c,ty,pos,after,gd⟩).run P w = ((Builtin.copy_ c.argTypes ty #[a.eval x,a.eval y]).run P w).andThen fun r w=>.ok (.value r) w:=by
    simp [execOp,resolve,hc,ha',Go.invoke,Go.builtin]
  split at h
  · rename_i h0
    cases h
    obtain ⟨q,cq,hyv⟩:∃ q cq,a.eval y = .slice q ys.length cq:=by
      have:∃ m,lenOf v = some m∧m = ys.length:=by
        cases v with
        | p pv=>cases pv <;> simp [rowsOf] at hys <;> subst hys <;> simp [lenOf]
        | emp=>simp [rowsOf] at hys; subst hys; simp [lenOf]
        | lit rows=>simp [rowsOf] at hys; subst hys; simp [lenOf]
        | ar l v o n =>
          simp only [rowsOf] at hys
          split at hys
          · split at hys
            · rename_i hcond; cases hys; exact ⟨_,rfl,by simp; omega⟩
            · cases hys
          · cases hys
        | _=>simp [rowsOf] at hys
      obtain ⟨m,hm,rfl⟩:=this
      obtain ⟨q,cq,hq,_⟩:=len_rep hy hm
      exact ⟨q,cq,hq⟩
    have h0':Nat.min ys.length n = 0:=by rw [← h0]; exact Nat.min_comm ..
    refine .quiet hs (cv:=goInt 0) ?_ (.v rfl)
    rw [hcall,hxv,hyv]
    cases q <;> cases p <;> simp [Builtin.copy_,hat,run_underlying ht,Builtin.lenOf,sizeOf,typeInfo,hi,h0',Builtin.firstCells,loadCells,loadCellsFrom,storeCells]
  · rename_i h0
    split at h
    · rename_i l v' off len
      split at h
      · rename_i es' ver rows hH
        split at h
        · rename_i hcond
          obtain ⟨rfl,rfl,hle,hall⟩:=hcond
          cases h
          have hln:len = n:=by simpa [lenOf] using hn
          subst hln
          have hes:=all_len hall
          obtain ⟨q,cq,news,hyv,hnews,harg⟩:=news_arg hs hy hys hes
          have hes':∀ r ∈ ys.take len,r.length = i.size:=fun r hr=>hes r (List.mem_of_mem_take hr)
          have hlt:(ys.take len).length = Nat.min ys.length len:=by rw [List.length_take]; exact Nat.min_comm ..
          have hmul:(ys.take len).length * i.size ≤ ys.length * i.size:=Nat.mul_le_mul_right _ (by simp; omega)
          have hn2:News w g.D i.size (ys.take len) (news.take ((ys.take len).length * i.size)):=by
            obtain ⟨n1,n2,n3⟩:=hnews
            refine ⟨by rw [List.length_take]; omega,fun u hu=>n2 u (List.mem_of_mem_take hu),fun k j row x hk hj=>?_⟩
            have hk':ys[k]? = some row:=by
              rw [List.getElem?_take] at hk
              split at hk
              · exact hk
              · cases hk
            obtain ⟨u,e1,e2⟩:=n3 k j row x hk' hj
            have hkl:k < (ys.take len).length:=(List.getElem?_eq_some_iff.1 hk).1
            have hjl:j < i.size:=by rw [← hes row (List.mem_of_getElem? hk')]; exact (List.getElem?_eq_some_iff.1 hj).1
            have:=row_fit (es:=i.size) hkl
            exact ⟨u,by rw [List.getElem?_take,if_pos (by omega)]; exact e1,e2⟩
          have hfc:(Builtin.firstCells i.size (Nat.min ys.length len) (.slice q ys.length cq)).run P w = .ok (news.take ((ys.take len).length * i.size)).toArray w:=by
            rcases harg with ⟨rfl,rfl⟩ | ⟨ad,rfl,hcell⟩
            · simp at h0
            · exact run_firstCells_some (P:=P) w i.size _ ad ys.length cq _ (by rw [hn2.1,hlt]) (fun k u hk=>by
                rw [List.getElem?_take] at hk
                split at hk
                · exact hcell k u hk
                · cases hk)
          obtain ⟨p',cap',hxv',hA⟩:=hx.ar_inv
          rw [hxv] at hxv'
          cases hxv'
          obtain ⟨hlc,_,es2,fz2,ver2,rows2,hH2,_,_,hf⟩:=hA
          rw [hH] at hH2
          cases hH2
          have hpos:0 < len:=by omega
          have hp:=(hf (by simp [seen])).1 (by omega)
          subst hp
          obtain ⟨vs,te,b1,b2,b3,b4⟩:=evo_rows (off:=off) hs hH hes' hn2 (by rw [List.length_take]; omega)
          have hst:=run_storeCells_at P (g.blk l) (g.base l + off * i.size) te (news.take ((ys.take len).length * i.size)) 0 vs w b1 (by simpa using b2) hn2.2.1
          simp only [Nat.add_zero] at hst
          have hmin:off + min len ys.length = off + (ys.take len).length:=by rw [List.length_take]
          generalize news.take ((ys.take len).length * i.size) = nt at hfc hst b2 b3 b4
          refine ⟨goInt (Nat.min ys.length len),w.setRow (g.blk l) (vs.toList.take (g.base l + off * i.size)++nt++vs.toList.drop (g.base l + off * i.size + nt.length)).toArray,g,.inl ?_,?_,?_,.inr ?_⟩
          · rw [hcall,hxv,hyv]
            simp [Builtin.copy_,hat,run_underlying ht,Builtin.lenOf,sizeOf,typeInfo,hi,hfc,hst]
          · rw [hmin]; exact b3
          · rw [hmin]; exact b4
          · have:Nat.min ys.length len = min len ys.length:=Nat.min_comm ..
            rw [this]
            exact .v rfl
        · cases h
      · cases h
    · rename_i r off len
      split at h
      · rename_i cc hH
        split at h
        · rename_i hes1
          simp only [Option.bind_eq_some_iff,Option.map_eq_some_iff] at h
          obtain ⟨xs,hxs,c',hsp,h⟩:=h
          cases h
          have hln:len = n:=by simpa [lenOf] using hn
          subst hln
          obtain ⟨k1,k2,k3⟩:=heads_get hxs
          obtain ⟨q,cq,news,hyv,hnews,harg⟩:=news_arg (es:=i.size) hs hy hys (fun r hr=>by rw [hes1]; exact k2 r hr)
          obtain ⟨m1,m2,m3⟩:=hnews
          have hmin:Nat.min ys.length len = min len ys.length:=Nat.min_comm ..
          have m1':news.length = ys.length:=by rw [m1,hes1,Nat.mul_one]
          have hnl:(news.take (Nat.min ys.length len)).length = min len ys.length:=by
            rw [List.length_take,m1',hmin]; omega
          have hml:(news.take (Nat.min ys.length len)).length = ((xs.take len).map AV.p).length:=by
            rw [hnl,List.length_map,List.length_take,k1]
          have hfc:(Builtin.firstCells i.size (Nat.min ys.length len) (.slice q ys.length cq)).run P w = .ok (news.take (Nat.min ys.length len)).toArray w:=by
            rcases harg with ⟨rfl,rfl⟩ | ⟨ad,rfl,hcell⟩
            · simp at h0
            · exact run_firstCells_some (P:=P) w i.size _ ad ys.length cq _ (by rw [hnl,hes1,hmin,Nat.mul_one]) (fun k u hk=>by
                rw [List.getElem?_take] at hk
                split at hk
                · exact hcell k u hk
                · cases hk)
          generalize hxv':a.eval x = cx at hx
          rw [hxv] at hxv'
          subst hxv'
          cases hx with
          | csl hH2 hcap2 =>
          rename_i c0
          obtain ⟨vs,te,b1,b2,b3,b4⟩:=evo_cells (vals:=news.take (Nat.min ys.length len)) hs hH hsp hml (fun j u z hu hz=>by
            rw [List.getElem?_take] at hu
            split at hu
            · simp only [List.getElem?_map,Option.map_eq_some_iff] at hz
              obtain ⟨pz,hz,rfl⟩:=hz
              rw [List.getElem?_take] at hz
              split at hz
              · obtain ⟨u',e1,e2⟩:=m3 j 0 [pz] pz (k3 _ _ hz) rfl
                rw [hes1,Nat.mul_one,Nat.add_zero,hu] at e1
                cases e1
                exact ⟨.p e2,e2.one⟩
              · cases hz
            · cases hu)
          have hst:=run_storeCells_at P (g.blk r) off te (news.take (Nat.min ys.length len)) 0 vs w b1 (by simpa using b2) (fun u hu=>m2 u (List.mem_of_mem_take hu))
          simp only [Nat.add_zero] at hst
          generalize news.take (Nat.min ys.length len) = nt at hfc hst b2 b3 b4
          refine ⟨goInt (Nat.min ys.length len),w.setRow (g.blk r) (vs.toList.take off++nt++vs.toList.drop (off + nt.length)).toArray,g,.inl ?_,b3,b4,.inr ?_⟩
          · rw [hcall,hxv,hyv]
            simp [Builtin.copy_,hat,run_underlying ht,Builtin.lenOf,sizeOf,typeInfo,hi,hfc,hst]
          · rw [hmin]
            exact .v rfl
        · cases h
      · cases h
    · cases h
end
end Go.Proofs.YtepbfecmageleaaGreatDoor

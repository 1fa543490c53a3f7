/- Part of the proof of Rows.FinderAltitudesCardSaid: EvB1, EvB2, EvB3, EvB4, FaF1, FaN1, FaF2, FaF3, FaF4, FaF5, FaF6, FaF7, FaS2, FaO1, FaS3, FaA1, FaA2, FaA3, FaA4. -/
import Derived.LoopNIn
import Derived.Test.YtchgldaddcolhaaGreatDoorChecked
import Derived.Sort.Statements
import Derived.Test.YtchgldaddcolhaaGreatDoorP07
import Derived.Test.YtchgldaddcolhaaGreatDoorP08
import Derived.Test.YtchgldaddcolhaaGreatDoorP09
import Derived.Test.YtchgldaddcolhaaGreatDoorP10
import Derived.Test.YtchgldaddcolhaaGreatDoorP13
set_option linter.all false
namespace Go.Proofs.YtchgldaddcolhaaGreatDoor
open Go
variable[Sub]
structure Far (m:Nat) (w0:World) (g0:Gh) (w:World) (g:Gh) (H:List Obj):Prop where
 D:∀ b i,g0.D b i→g.D b i
 cells:∀ b i,g0.D b i→cellAt w b i = cellAt w0 b i
 keep:Keep (fun b _=>b = m) w0 w
 own:∀ b i,OwnAny g H b i→w0.heap.size ≤ b
 newD:∀ b i,g.D b i→g0.D b i∨w0.heap.size ≤ b
 cd:g.cd = g0.cd
 st:StRel w g H
section
variable{m:Nat}{w0 w w':World}{g0 g g':Gh}{H H':List Obj}
theorem no_own(b i:Nat):¬ OwnAny g [] b i:=fun ho=>by obtain⟨⟨l,hl,_⟩,_⟩:=ho; simp at hl
theorem Far.start(hs:StRel w0 g0 H):Far m w0 g0 w0 g0 [] :=
 ⟨fun _ _ h=>h,fun _ _ _=>rfl,.refl _ _,fun b i h=>absurd h (no_own b i),fun _ _ h=>.inl h,rfl,st_empty hs⟩
theorem Far.evo(h:Far m w0 g0 w g H)(hv:Evo w g H w' g' H')(hs:StRel w' g' H'):Far m w0 g0 w' g' H':=by
 have hsz:w0.heap.size ≤ w.heap.size:=h.keep.2.2.2.1
 refine⟨fun b i hd=>hv.D _ _ (h.D _ _ hd),fun b i hd=>(hv.cells _ _ (h.D _ _ hd)).trans (h.cells _ _ hd),h.keep.trans hv.keep (fun b i ho=>.inr (h.own b i ho)),fun b i ho=>?_,fun b i hd=>?_,hv.cd.trans h.cd,hs⟩
 ·rcases hv.own b i ho with h1 | h1
  ·exact h.own b i h1
  ·omega
 ·rcases hv.newD b i hd with h1 | h1 | h1
  ·exact h.newD b i h1
  ·exact .inr (h.own b i h1)
  ·exact .inr (by omega)
structure Turned (w w':World) (b:Nat):Prop where
 heap:∀ c,c ≠ b→w'.heap[c]? = w.heap[c]?
 size:w'.heap.size = w.heap.size
 os:w'.os = w.os
 output:w'.output = w.output
 tape:w'.tape = w.tape∧w.drawn ≤ w'.drawn
theorem Far.turn{b:Nat}{o:Go.Obj}(h:Far m w0 g0 w g H)(ht:Turned w w' b)(hb:w.heap[b]? = some o)(hc:∀ vs e f,o ≠ .cells vs e f)(hbm:b = m∨w0.heap.size ≤ b)(hn:∀ i,¬ OwnAny g H b i)(hD:∀ i,¬ g.D b i):Far m w0 g0 w' g H:=by
 have hno:∀ l,l < H.length→∀ x,g.Has l x→x ≠ b:=fun l hl x hx e=>hn 0 ⟨⟨l,hl,e ▸ hx⟩,hD 0⟩
 have hcell:∀ c i,g.D c i→cellAt w' c i = cellAt w c i:=fun c i hd=>cellAt_heap (ht.heap c fun e=>hD i (e ▸ hd)) i
 have hr:∀ c a,Rep w g H c a→Rep w' g H c a:=fun c a hr=>hr.step (fun _ _ h=>h) hcell (fun l o' hl=>.same rfl rfl rfl rfl)
 refine⟨h.D,fun c i hd=>(hcell c i (h.D _ _ hd)).trans (h.cells _ _ hd),⟨ht.os.trans h.keep.1,ht.output.trans h.keep.2.1,⟨ht.tape.1.trans h.keep.2.2.1.1,Nat.le_trans h.keep.2.2.1.2 ht.tape.2⟩,by rw[ht.size]; exact h.keep.2.2.2.1,fun c hlt=>?_⟩,
  h.own,h.newD,h.cd,⟨fun l o' hl=>?_,h.st.inj2,h.st.stand,fun c i hd=>by rw[ht.size]; exact h.st.dom c i hd,fun l c hl hx=>by rw[ht.size]; exact h.st.ext l c hl hx,h.st.glob.step (fun _ _ h=>h) hcell⟩⟩
 ·have hk:=h.keep.2.2.2.2 c hlt
  by_cases e:c = b
  ·subst e
   have hcm:c = m:=hbm.resolve_right (by omega)
   split
   ·rename_i vs e1 f hw
    rw[hw]at hk
    obtain⟨vs',k1,_⟩:=hk
    rw[hb]at k1
    exact absurd (Option.some.inj k1) (hc _ _ _)
   ·intro hi; exact absurd hcm hi
  ·rw[ht.heap c e]; exact hk
 ·have hlt:l < H.length:=(List.getElem?_eq_some_iff.1 hl).1
  exact (h.st.objs l o' hl).keep rfl rfl rfl (fun x hx=>ht.heap _ (hno l hlt x hx)) (fun _ _ h=>h) hcell hr
theorem Far.apart{b:Nat}{o:Go.Obj}(hv:Evo w g H w' g' H')(hb:w.heap[b]? = some o)(hn:∀ i,¬ OwnAny g H b i)(hD:∀ i,¬ g.D b i) :
  w'.heap[b]? = some o∧(∀ i,¬ OwnAny g' H' b i)∧∀ i,¬ g'.D b i:=by
 obtain⟨h1,h2⟩:=unowned_evo hv hb hn
 have hlt:b < w.heap.size:=(Array.getElem?_eq_some_iff.1 hb).1
 refine⟨h1,h2,fun i hd=>?_⟩
 rcases hv.newD b i hd with h | h | h
 ·exact hD i h
 ·exact hn i h
 ·omega
theorem Far.done{es es':List (Value×AV)}{ents:Array MapEntry}{ck:Nat}(h:Far (g0.blk 0) w0 g0 w g H)(hs0:StRel w0 g0 [.map es])(hm:w.heap[g0.blk 0]? = some (.map ents ck))(hbo:BornOk ents ck)(hsz:ents.size = es'.length)(he:∀ (i:Nat) (e:MapEntry) (p:Value×AV),ents[i]? = some e→es'[i]? = some p→e.key = p.1∧Rep w g [] e.val p.2) :
  Evo w0 g0 [.map es] w { g0 with D:=g.D } [.map es']∧StRel w { g0 with D:=g.D } [.map es']:=by
 have hnoD0:∀ i,¬ g0.D (g0.blk 0) i:=hs0.stand 0 _ rfl
 have hlt0:g0.blk 0 < w0.heap.size:=IsBlk.lt hs0 (by simp)
 have hnoD:∀ i,¬ g.D (g0.blk 0) i:=fun i hd=>by
  rcases h.newD _ i hd with h1 | h1
  ·exact hnoD0 i h1
  ·omega
 have hr:∀ c a,Rep w0 g0 [.map es] c a→Rep w { g0 with D:=g.D } [.map es'] c a:=fun c a hr=>hr.step (g':={ g0 with D:=g.D }) h.D h.cells (fun l o hl=>by
  cases l with
  | zero=>simp at hl; subst hl; exact .map (c:=es) (c':=es') rfl rfl rfl
  | succ l=>simp at hl)
 have hr2:∀ c a,Rep w g [] c a→Rep w { g0 with D:=g.D } [.map es'] c a:=fun c a hr=>by
  exact Rep.step (w:=w) (g:=g) (H:=[]) (w':=w) (g':={ g0 with D:=g.D }) (H':=[.map es']) (fun _ _ h=>h) (fun _ _ _=>rfl) (fun l o hl=>by simp at hl) hr
 have hlt:g0.blk 0 < w.heap.size:=(Array.getElem?_eq_some_iff.1 hm).1
 refine⟨⟨h.D,h.cells,hr,⟨h.keep.1,h.keep.2.1,h.keep.2.2.1,h.keep.2.2.2.1,fun b hb=>?_⟩,fun b i ho=>?_,fun b i hd=>?_,rfl⟩,⟨fun l o hl=>?_,fun l k hl hk _ _ _=>?_,fun l o hl=>?_,fun b i hd=>h.st.dom b i hd,fun l b hl hx=>?_,h.st.glob⟩⟩
 ·have hk:=h.keep.2.2.2.2 b hb
  have hio:∀ i,¬ OwnAny g0 [.map es] b i→¬ b = g0.blk 0:=fun i hi e=>hi ⟨⟨0,by simp,.inl e.symm⟩,by rw[e]; exact hnoD0 i⟩
  split
  ·rename_i vs e f hw
   rw[hw]at hk
   obtain⟨vs',k1,k2,k3⟩:=hk
   exact⟨vs',k1,k2,fun i hi=>k3 i (hio i hi)⟩
  ·rename_i o hne
   intro hi
   split at hk
   ·rename_i vs e f hw
    exact absurd hw (hne _ _ _)
   ·exact hk (hio 0 hi)
 ·obtain⟨⟨l,hl,hb⟩,hd⟩:=ho
  simp at hl
  subst hl
  exact .inl ⟨⟨0,by simp,hb⟩,fun h1=>hd (h.D _ _ h1)⟩
 ·rcases h.newD b i hd with h1 | h1
  ·exact .inl h1
  ·exact .inr (.inr h1)
 ·cases l with
  | zero =>
   simp at hl
   subst hl
   exact⟨ents,ck,⟨hm,hbo⟩,hsz,fun i e p a b=>⟨(he i e p a b).1,hr2 _ _ (he i e p a b).2⟩⟩
  | succ l=>simp at hl
 ·simp at hl hk; omega
 ·cases l with
  | zero =>
   simp at hl
   subst hl
   exact hnoD
  | succ l=>simp at hl
 ·have hl0:l = 0:=by simpa using hl
  subst hl0
  obtain⟨q1,q2,q3⟩:=hs0.ext 0 b (by simp) hx
  refine⟨Nat.lt_of_lt_of_le q1 h.keep.2.2.2.1,q2,fun i hd=>?_⟩
  rcases h.newD b i hd with h1 | h1
  ·exact q3 i h1
  ·omega
end
section
variable{P:Program}{a:Act}{w w':World}
theorem op_run{o:Oper}{cv:Value}{r0:Option Nat}{K:Act→World→Prop}{Q:Exit→Act→World→Prop}(hnd:∀ c,o.op ≠ .defer c)(hr:(execOp a.eval o).run P w = .ok (.value cv) w'∨((execOp a.eval o).run P w = .ok .skip w'∧cv = undef))(hK:K (a.put o.dst cv) w'):o.wpIn (FR r0) 0 P a w K Q:=by
 refine⟨fun _ _=>trivial,?_⟩
 rw[Oper.semAt_eq _ _ _ hnd]
 rcases hr with hr | ⟨hr,rfl⟩
 ·rw[hr]; exact hK
 ·rw[hr]; exact hK
theorem ops_run{o:Oper}{ops:Array Oper}{k:Nat}{ks:List Nat}{cv:Value}{r0:Option Nat}{Q:Exit→Act→World→Prop}(ho:ops[k]? = some o)(hg:o.guard = none)(hnd:∀ c,o.op ≠ .defer c)(hr:(execOp a.eval o).run P w = .ok (.value cv) w'∨((execOp a.eval o).run P w = .ok .skip w'∧cv = undef))(hK:wpOpsIn (FR r0) 0 P ops Q ks (a.put o.dst cv) w'):wpOpsIn (FR r0) 0 P ops Q (k::ks) a w:=by
 simp only[wpOpsIn,ho]
 have:Region.wanted o (yielded ops a.tmps) = true:=by unfold Region.wanted; rw[hg]
 rw[this]
 exact op_run hnd hr hK
end
end Go.Proofs.YtchgldaddcolhaaGreatDoor
namespace Go.Proofs.YtchgldaddcolhaaGreatDoor
open Go
variable[Sub]
def Drew(w w':World):Prop:=w' = w∨w' = w.drew
theorem Drew.still{w w':World}(h:Drew w w'):Still w w':=by
 rcases h with rfl | rfl
 ·exact⟨rfl,rfl,rfl,⟨rfl,Nat.le_refl _⟩⟩
 ·exact⟨rfl,rfl,rfl,⟨rfl,Nat.le_succ _⟩⟩
theorem Drew.heap{w w':World}(h:Drew w w'):w'.heap = w.heap:=h.still.heap
section
variable{P:Program}{w:World}
theorem run_choose_next{n:Nat}(h:0 < n):∃ i w',i < n∧Drew w w'∧(choose (.mapNext n)).run P w = .ok i w':=by
 by_cases hf:(Question.mapNext n).forced = true
 ·exact⟨0,w,h,.inl rfl,by simp[choose,Sem.run,hf]⟩
 ·refine⟨(Question.mapNext n).cut (w.tape w.drawn (.mapNext n)),w.drew,?_,.inr rfl,by simp[choose,Sem.run,hf]⟩
  simp only[Question.cut]
  exact Nat.mod_lt _ h
def iterAt(w:World)(b m ck:Nat)(seen:Array Nat):Prop:=w.heap[b]? = some (.mapIter (some m) ck seen ck)
theorem run_next{b m ck:Nat}{seen:Array Nat}{ents:Array MapEntry}{ty:TypeId}(hit:iterAt w b m ck seen)(hm:w.heap[m]? = some (.map ents ck))(hb:∀ e ∈ ents.toList,e.born < ck) :
  (∃ w',Drew w w'∧(∀ e ∈ ents.toList,seen.contains e.born = true)∧(Instr.next (.pointer (some ⟨b,0,none⟩)) false ty).run P w = .ok (.tuple #[.bool false]) w') ∨
  ∃ w' e,Drew w w'∧e ∈ ents.toList∧seen.contains e.born = false ∧
   (Instr.next (.pointer (some ⟨b,0,none⟩)) false ty).run P w = .ok (.tuple #[.bool true,e.key,e.val]) { w' with heap:=w'.heap.setIfInBounds b (.mapIter (some m) ck (seen.push e.born) ck) }:=by
 have hit':w.heap[b]? = some (.mapIter (some m) ck seen ck):=hit
 have hgi:(getObj b).run P w = .ok (.mapIter (some m) ck seen ck) w:=by simp[getObj,Sem.run,hit']
 have hgm:(getObj m).run P w = .ok (.map ents ck) w:=by simp[getObj,Sem.run,hm]
 have hold:(ents.filter fun e=>!seen.contains e.born).filter (fun e=>decide (e.born < ck)) = ents.filter fun e=>!seen.contains e.born:=by
  rw[Array.filter_eq_self]
  intro e he
  rw[Array.mem_filter]at he
  simpa using hb e (Array.mem_toList_iff.2 he.1)
 have hnew:(ents.filter fun e=>!seen.contains e.born).filter (fun e=>decide (e.born ≥ ck)) = #[]:=by
  rw[Array.filter_eq_empty_iff]
  intro e he
  rw[Array.mem_filter]at he
  have:=hb e (Array.mem_toList_iff.2 he.1)
  simpa using this
 have hguard:(!seen.isEmpty && !ents.isEmpty && ents.all fun e=>decide (e.born ≥ ck)) = false:=by
  cases he:ents.isEmpty with
  | true=>simp
  | false =>
   have:(ents.all fun e=>decide (e.born ≥ ck)) = false:=by
    rw[Bool.eq_false_iff]
    intro hall
    rw[Array.all_eq_true]at hall
    have hpos:0 < ents.size:=by
     rcases Nat.eq_zero_or_pos ents.size with h | h
     ·simp[Array.isEmpty,h]at he
     ·exact h
    have h1:=hb ents[0] (by simp)
    have h2:=hall 0 hpos
    simp only[decide_eq_true_eq]at h2
    omega
   simp[this]
 by_cases hl:(ents.filter fun e=>!seen.contains e.born) = #[]
 ·left
  refine⟨w,.inl rfl,fun e he=>?_,?_⟩
  ·rw[Array.filter_eq_empty_iff]at hl
   have:=hl e (Array.mem_toList_iff.1 he)
   simpa using this
  ·simp only[Instr.next,Sem.run_bind,hgi,hgm,Result.andThen_ok,hguard,hold,hnew]
   rw[hl]
   simp[choose,Sem.run,Question.forced]
 ·right
  have hpos:0 < ((ents.filter fun e=>!seen.contains e.born).map some).size:=by
   rw[Array.size_map]
   rcases Nat.eq_zero_or_pos (ents.filter fun e=>!seen.contains e.born).size with h | h
   ·exact absurd (Array.eq_empty_of_size_eq_zero h) hl
   ·exact h
  obtain⟨i,w',hi,hd,hr⟩:=run_choose_next (P:=P) (w:=w) hpos
  rw[Array.size_map]at hi
  have hmem:=Array.getElem_mem hi
  rw[Array.mem_filter]at hmem
  refine⟨w',(ents.filter fun e=>!seen.contains e.born)[i],hd,Array.mem_toList_iff.2 hmem.1,by simpa using hmem.2,?_⟩
  have hgi':w'.heap[b]? = some (.mapIter (some m) ck seen ck):=by rw[hd.heap]; exact hit
  have hem:(ents.filter fun e=>!seen.contains e.born).isEmpty = false:=by
   rw[Bool.eq_false_iff]
   intro h
   exact hl (Array.isEmpty_iff.1 h)
  simp only[Instr.next,Sem.run_bind,hgi,hgm,Result.andThen_ok,hguard,hold,hnew]
  simp only[hem,Array.append_empty,Array.empty_append,Bool.false_eq_true,if_false,hr,Result.andThen_ok,Array.getElem?_map,Array.getElem?_eq_getElem hi,Option.map_some,Sem.run_bind]
  simp[setObj,Sem.run,hgi']
theorem run_range{t k e:TypeId}{m ck:Nat}{ents:Array MapEntry}(ht:P.underlying t = some (.map k e))(hm:w.heap[m]? = some (.map ents ck)) :
  (Instr.range t (.map (some m))).run P w = .ok (.pointer (some ⟨w.heap.size,0,none⟩)) (w.alloc (.mapIter (some m) ck #[] ck)):=by
 have hgm:(getObj m).run P w = .ok (.map ents ck) w:=by simp[getObj,Sem.run,hm]
 simp[Instr.range,run_underlying ht,hgm,newObj,Sem.run]
theorem run_entry{b m ck:Nat}{seen:Array Nat}{ents:Array MapEntry}{e:MapEntry}(hit:iterAt w b m ck (seen.push e.born))(hm:w.heap[m]? = some (.map ents ck))(he:e ∈ ents.toList)(hb:BornOk ents ck) :
  (Instr.entry (.pointer (some ⟨b,0,none⟩))).run P w = .ok (.tuple #[e.key,e.val]) w:=by
 have hgi:(getObj b).run P w = .ok (.mapIter (some m) ck (seen.push e.born) ck) w:=by have hit':w.heap[b]? = some (.mapIter (some m) ck (seen.push e.born) ck):=hit; simp[getObj,Sem.run,hit']
 have hgm:(getObj m).run P w = .ok (.map ents ck) w:=by simp[getObj,Sem.run,hm]
 have hfind:ents.find? (·.born == e.born) = some e:=by
  rw[← Array.find?_toList]
  have:∀ (l:List MapEntry),l.Pairwise (fun a b=>a.born < b.born)→e ∈ l→l.find? (·.born == e.born) = some e:=by
   intro l
   induction l with
   | nil=>intro _ h; cases h
   | cons x l ih =>
    intro hp hx
    rw[List.pairwise_cons]at hp
    rw[List.find?_cons]
    rcases List.mem_cons.1 hx with rfl | hx
    ·simp
    ·have:=hp.1 e hx
     have hne:(x.born == e.born) = false:=by simp; omega
     rw[hne]
     exact ih hp.2 hx
  exact this _ hb.1 he
 simp[Instr.entry,hgi,hgm,hfind]
end
end Go.Proofs.YtchgldaddcolhaaGreatDoor
namespace Go.Proofs.YtchgldaddcolhaaGreatDoor
open Go
variable[Sub]
structure MW (P:Program) (m:Nat) (w0:World) (g0:Gh) (nt it b:Nat) (seen:Array Nat) (ents:Array MapEntry) (ck:Nat) (a:Act) (w:World) (g:Gh) (H:List Obj):Prop where
 far:Far m w0 g0 w g H
 size:a.tmps.size = nt
 dfr:Marks P w0.heap.size w g H a.defers
 itv:a.tmps.getD it undef = .pointer (some ⟨b,0,none⟩)
 iter:iterAt w b m ck seen
 mp:w.heap[m]? = some (.map ents ck)
 unm:∀ i,¬ OwnAny g H m i
 noDm:∀ i,¬ g.D m i
 unb:∀ i,¬ OwnAny g H b i
 noDb:∀ i,¬ g.D b i
 bge:w0.heap.size ≤ b
 mlt:m < w0.heap.size
 bo:BornOk ents ck
section
variable{P:Program}{m nt it b ck:Nat}{w0 w:World}{g0 g:Gh}{H:List Obj}{seen:Array Nat}{ents:Array MapEntry}{a:Act}
theorem MW.evo{w':World}{g':Gh}{H':List Obj}{a':Act}(h:MW P m w0 g0 nt it b seen ents ck a w g H)(hv:Evo w g H w' g' H')(hs:StRel w' g' H')(h1:a'.tmps.size = nt)(h2:Marks P w0.heap.size w' g' H' a'.defers)(h3:a'.tmps.getD it undef = a.tmps.getD it undef) :
  MW P m w0 g0 nt it b seen ents ck a' w' g' H':=by
 obtain⟨k1,k2,k3⟩:=Far.apart hv h.mp h.unm h.noDm
 obtain⟨q1,q2,q3⟩:=Far.apart hv h.iter h.unb h.noDb
 exact⟨h.far.evo hv hs,h1,h2,h3.trans h.itv,q1,k1,k2,k3,q2,q3,h.bge,h.mlt,h.bo⟩
theorem getD_put{a:Act}{n:Nat}{v:Value}(hn:n < a.tmps.size)(t:Nat):(a.put (some n) v).tmps.getD t undef = if n = t then v else a.tmps.getD t undef:=by
 simp only[Act.put,Array.getD_eq_getD_getElem?,Array.getElem?_setIfInBounds]
 by_cases h:n = t
 ·subst h; simp[hn]
 ·simp[h]
theorem MW.act{a':Act}(h:MW P m w0 g0 nt it b seen ents ck a w g H)(h1:a'.tmps.size = nt)(h2:a'.defers = a.defers)(h3:a'.tmps.getD it undef = a.tmps.getD it undef):MW P m w0 g0 nt it b seen ents ck a' w g H :=
 ⟨h.far,h1,by rw[h2]; exact h.dfr,h3.trans h.itv,h.iter,h.mp,h.unm,h.noDm,h.unb,h.noDb,h.bge,h.mlt,h.bo⟩
theorem MW.drew{w':World}(h:MW P m w0 g0 nt it b seen ents ck a w g H)(hd:Drew w w'):MW P m w0 g0 nt it b seen ents ck a w' g H:=by
 obtain⟨e,s⟩:=evo_still hd.still h.far.st
 exact h.evo e s h.size (h.dfr.evo e) rfl
theorem Marks.turn{n0 b0:Nat}{w':World}{o:Go.Obj}{l:List Deferred}(h:Marks P n0 w g H l)(ht:Turned w w' b0)(hb:w.heap[b0]? = some o)(ho:o ≠ .deferred (some [])):Marks P n0 w' g H l:=by
 obtain⟨bs,h1,h2,h3,h4⟩:=h
 refine⟨bs,h1,h2,fun c hc=>⟨(h3 c hc).1,?_,(h3 c hc).2.2⟩,h4⟩
 rw[ht.heap c (fun e=>ho (by have:=(h3 c hc).2.1; rw[e,hb]at this; exact Option.some.inj this))]
 exact (h3 c hc).2.1
theorem MW.step{w':World}{s':Array Nat}(h:MW P m w0 g0 nt it b seen ents ck a w g H)(hd:Drew w w'):MW P m w0 g0 nt it b s' ents ck a { w' with heap:=w'.heap.setIfInBounds b (.mapIter (some m) ck s' ck) } g H:=by
 have h':=h.drew hd
 have hlt:b < w'.heap.size:=(Array.getElem?_eq_some_iff.1 h'.iter).1
 have hbm:m ≠ b:=by have:=h.bge; have:=h.mlt; omega
 have ht:Turned w' { w' with heap:=w'.heap.setIfInBounds b (.mapIter (some m) ck s' ck) } b:=⟨fun c hc=>by simp[Array.getElem?_setIfInBounds,Ne.symm hc],by simp,rfl,rfl,⟨rfl,Nat.le_refl _⟩⟩
 refine⟨h'.far.turn (b:=b) ht h'.iter (fun _ _ _ e=>by cases e) (.inr h.bge) h.unb h.noDb,h.size,h'.dfr.turn ht h'.iter (by simp),h.itv,?_,?_,h.unm,h.noDm,h.unb,h.noDb,h.bge,h.mlt,h.bo⟩
 ·simp[iterAt,Array.getElem?_setIfInBounds,hlt]
 ·simp[Array.getElem?_setIfInBounds,Ne.symm hbm,h'.mp]
theorem run_ex{x:Operand}{i:Nat}{arr:Array Value}{v:Value}{dst:Option Tmp}{ty:TypeId}{pos:String}{after:Array Edge}(hx:a.eval x = .tuple arr)(hi:arr[i]? = some v) :
  (execOp a.eval ⟨dst,.extract x i,ty,pos,after,none⟩).run P w = .ok (.value v) w:=by
 simp[execOp,Instr.extract,hx,hi]
theorem eval_tmp{t:Nat}:a.eval (.tmp t) = a.tmps.getD t undef:=rfl
theorem roundA{id d1 d2:Nat}{t1 t2:TypeId}{p1 p2:String}{f1 f2:Array Edge}{r0:Option Nat}{Q:Exit→Act→World→Prop}(h:MW P m w0 g0 nt it b seen ents ck a w g H)(h1:d1 < nt)(h2:d2 < nt)(n1:d1 ≠ it)(n2:d2 ≠ it)(hdone:∀ a' w',(∀ e ∈ ents.toList,seen.contains e.born = true)→MW P m w0 g0 nt it b seen ents ck a' w' g H→(∀ H1 c v,Rep w g H1 c v→Rep w' g H1 c v)→a'.tmps.getD d2 undef = .bool false→(∀ t,t ≠ d1→t ≠ d2→a'.tmps.getD t undef = a.tmps.getD t undef)→Q .normal a' w')(hstep:∀ a' w' e,e ∈ ents.toList→seen.contains e.born = false→MW P m w0 g0 nt it b (seen.push e.born) ents ck a' w' g H→(∀ H1 c v,Rep w g H1 c v→Rep w' g H1 c v)→a'.tmps.getD d2 undef = .bool true→(∀ t,t ≠ d1→t ≠ d2→a'.tmps.getD t undef = a.tmps.getD t undef)→Q .normal a' w') :
  (Code.region id #[⟨some d1,.next (.tmp it) false,t1,p1,f1,none⟩,⟨some d2,.extract (.tmp d1) 0,t2,p2,f2,none⟩] false).wpIn (FR r0) 0 P Q a w:=by
 refine wpIn_region ?_
 show wpOpsIn (FR r0) 0 P _ Q [0,1] a w
 have hs1:d1 < a.tmps.size:=by rw[h.size]; exact h1
 have hs2:∀ v,d2 < (a.put (some d1) v).tmps.size:=fun v=>by rw[put_size,h.size]; exact h2
 have oth:∀ v u t,t ≠ d1→t ≠ d2→((a.put (some d1) v).put (some d2) u).tmps.getD t undef = a.tmps.getD t undef:=fun v u t ht1 ht2=>by
  rw[getD_put (hs2 v),if_neg (Ne.symm ht2),getD_put hs1,if_neg (Ne.symm ht1)]
 have fin:∀ v u,((a.put (some d1) v).put (some d2) u).tmps.getD d2 undef = u:=fun v u=>by rw[getD_put (hs2 v),if_pos rfl]
 have hitv:a.eval (.tmp it) = .pointer (some ⟨b,0,none⟩):=h.itv
 have sz:∀ v u,((a.put (some d1) v).put (some d2) u).tmps.size = nt:=fun v u=>by rw[put_size,put_size]; exact h.size
 have df:∀ v u,((a.put (some d1) v).put (some d2) u).defers = a.defers:=fun v u=>by rw[put_defers,put_defers]
 have get1:∀ v,(a.put (some d1) v).eval (.tmp d1) = v:=fun v=>by rw[eval_tmp,getD_put hs1,if_pos rfl]
 rcases run_next (P:=P) (ty:=t1) h.iter h.mp h.bo.2 with ⟨w',hd,hall,hr⟩ | ⟨w',e,hd,he,hns,hr⟩
 ·refine ops_run (cv:=.tuple #[.bool false]) (w':=w') rfl rfl (fun c hc=>by cases hc) (.inl (by simp[execOp,hitv,hr])) ?_
  refine ops_run (cv:=.bool false) (w':=w') rfl rfl (fun c hc=>by cases hc) (.inl (run_ex (get1 _) rfl)) ?_
  exact hdone _ _ hall ((h.drew hd).act (sz _ _) (df _ _) (oth _ _ it (Ne.symm n1) (Ne.symm n2))) (fun H1 c v hr=>hr.step (fun _ _ h=>h) (fun c i _=>cellAt_heap (by rw[hd.heap]) i) (fun l o hl=>.same rfl rfl rfl rfl)) (fin _ _) (oth _ _)
 ·refine ops_run (cv:=.tuple #[.bool true,e.key,e.val]) (w':=_) rfl rfl (fun c hc=>by cases hc) (.inl (by simp[execOp,hitv,hr]; rfl)) ?_
  refine ops_run (cv:=.bool true) rfl rfl (fun c hc=>by cases hc) (.inl (run_ex (get1 _) rfl)) ?_
  exact hstep _ _ e he hns ((h.step hd).act (sz _ _) (df _ _) (oth _ _ it (Ne.symm n1) (Ne.symm n2))) (fun H1 c v hr=>hr.step (fun _ _ h=>h) (fun c i hD=>cellAt_heap (by
   have hcb:b ≠ c:=fun e=>h.noDb i (e ▸ hD)
   show (w'.heap.setIfInBounds b _)[c]? = w.heap[c]?
   rw[Array.getElem?_setIfInBounds,if_neg hcb,hd.heap]) i) (fun l o hl=>.same rfl rfl rfl rfl)) (fin _ _) (oth _ _)
theorem roundB{id e1 e2 e3:Nat}{t1 t2 t3:TypeId}{p1 p2 p3:String}{f1 f2 f3:Array Edge}{os:List Oper}{r0:Option Nat}{Q:Exit→Act→World→Prop}{e:MapEntry}{kn:TypeId→Bool}{vars:List Nat}{sos:List SO}{env:Env}{r:St}{kc:AV}{vc:AV}(h:MW P m w0 g0 nt it b (seen.push e.born) ents ck a w g H)(he:e ∈ ents.toList)(l1:e1 < nt)(l2:e2 < nt)(l3:e3 < nt)(n1:e1 ≠ it)(n2:e2 ≠ it)(n3:e3 ≠ it)(n12:e1 ≠ e2)(n13:e1 ≠ e3)(n23:e2 ≠ e3)(hv:∀ t,t ∈ [e1,e2,e3]→t ∉ vars)(hk:Rep w g H e.key kc)(hvl:Rep w g H e.val vc)(henv:EnvRel w g H a.tmps ⟨[],env⟩)(hfr:FrOk vars ⟨[],env⟩)(hcd:g0.cd = CD P kn)(hcomp:compOps P kn nt vars (#[⟨some e1,.entry (.tmp it),t1,p1,f1,none⟩,⟨some e2,.extract (.tmp e1) 0,t2,p2,f2,none⟩,⟨some e3,.extract (.tmp e1) 1,t3,p3,f3,none⟩]++os.toArray) os [e3,e2] = some sos)(hops:OpsM P kn sos ⟨[(e3,vc),(e2,kc)],env⟩ H r)(hkeep:∀ a' w' g',Evo w g H w' g' r.H→StRel w' g' r.H→EnvRel w' g' r.H a'.tmps ⟨[],r.env⟩→FrOk vars ⟨[],r.env⟩→a'.defers = a.defers→a'.tmps.size = nt→Q .normal a' w') :
  (Code.region id (#[⟨some e1,.entry (.tmp it),t1,p1,f1,none⟩,⟨some e2,.extract (.tmp e1) 0,t2,p2,f2,none⟩,⟨some e3,.extract (.tmp e1) 1,t3,p3,f3,none⟩]++os.toArray) false).wpIn (FR r0) 0 P Q a w:=by
 refine wpIn_region ?_
 have hl:List.range (#[(⟨some e1,.entry (.tmp it),t1,p1,f1,none⟩:Oper),⟨some e2,.extract (.tmp e1) 0,t2,p2,f2,none⟩,⟨some e3,.extract (.tmp e1) 1,t3,p3,f3,none⟩]++os.toArray).size = 0::1::2::List.range' 3 os.length:=by
  rw[List.range_eq_range',Array.size_append]
  show List.range' 0 (3 + os.toArray.size) = _
  rw[List.size_toArray,Nat.add_comm,List.range'_succ,List.range'_succ,List.range'_succ]
 rw[hl]
 have hs1:e1 < a.tmps.size:=by rw[h.size]; exact l1
 have hs2:∀ v,e2 < (a.put (some e1) v).tmps.size:=fun v=>by rw[put_size,h.size]; exact l2
 have hs3:∀ v u,e3 < ((a.put (some e1) v).put (some e2) u).tmps.size:=fun v u=>by rw[put_size,put_size,h.size]; exact l3
 have hitv:a.eval (.tmp it) = .pointer (some ⟨b,0,none⟩):=h.itv
 have hent:=run_entry (P:=P) h.iter h.mp he h.bo
 refine ops_run (o:=⟨some e1,.entry (.tmp it),t1,p1,f1,none⟩) (cv:=.tuple #[e.key,e.val]) (w':=w) (by simp) rfl (fun c hc=>by cases hc) (.inl (by simp[execOp,hitv,hent])) ?_
 refine ops_run (o:=⟨some e2,.extract (.tmp e1) 0,t2,p2,f2,none⟩) (cv:=e.key) (w':=w) (by simp) rfl (fun c hc=>by cases hc) (.inl (run_ex (arr:=#[e.key,e.val]) (by rw[eval_tmp,getD_put hs1,if_pos rfl]) rfl)) ?_
 refine ops_run (o:=⟨some e3,.extract (.tmp e1) 1,t3,p3,f3,none⟩) (cv:=e.val) (w':=w) (by simp) rfl (fun c hc=>by cases hc) (.inl (run_ex (arr:=#[e.key,e.val]) (by rw[eval_tmp,getD_put (hs2 _),if_neg (Ne.symm n12),getD_put hs1,if_pos rfl]) rfl)) ?_
 generalize hA:((a.put (some e1) (.tuple #[e.key,e.val])).put (some e2) e.key).put (some e3) e.val = a3
 have hget:∀ t,a3.tmps.getD t undef = if e3 = t then e.val else if e2 = t then e.key else if e1 = t then .tuple #[e.key,e.val] else a.tmps.getD t undef:=fun t=>by
  rw[← hA,getD_put (hs3 _ _),getD_put (hs2 _),getD_put hs1]
 have hsz:a3.tmps.size = nt:=by rw[← hA,put_size,put_size,put_size]; exact h.size
 have hdf:a3.defers = a.defers:=by rw[← hA,put_defers,put_defers,put_defers]
 have hne:∀ t,t ∈ vars→a3.tmps.getD t undef = a.tmps.getD t undef:=fun t ht=>by
  rw[hget,if_neg (fun e0=>hv e3 (by simp) (by rw[e0]; exact ht)),if_neg (fun e0=>hv e2 (by simp) (by rw[e0]; exact ht)),if_neg (fun e0=>hv e1 (by simp) (by rw[e0]; exact ht))]
 refine hops nt vars _ os [e3,e2] 3 hcomp (fun j hj=>?_) a3 w g r0 Q ⟨fun t v hlk=>?_,fun t v hlk=>?_,h.far.st.glob⟩ ⟨fun t v hlk=>?_,hfr.env⟩ (by rw[hsz]; exact Nat.le_refl _) (h.far.cd.trans hcd) h.far.st (fun a' w' g' q1 q2 q3 q4 q5 q6=>?_)
 ·rw[Array.getElem?_append_right (by simp)]
  simp
 ·simp only[lk]at hlk
  rw[hget]
  split at hlk
  ·rename_i e0; cases hlk; rw[if_pos e0]; exact hvl
  ·rename_i e0
   split at hlk
   ·rename_i e0'; cases hlk; rw[if_neg e0,if_pos e0']; exact hk
   ·cases hlk
 ·rw[hne t (hfr.env t v hlk)]
  exact henv.env t v hlk
 ·simp only[lk]at hlk
  split at hlk
  ·rename_i e0; rw[← e0]; exact hv e3 (by simp)
  ·split at hlk
   ·rename_i e0'; rw[← e0']; exact hv e2 (by simp)
   ·cases hlk
 ·exact hkeep a' w' g' q1 q2 q3 q4 (q5.trans hdf) (q6.trans hsz)
end
end Go.Proofs.YtchgldaddcolhaaGreatDoor
namespace Go.Proofs.YtchgldaddcolhaaGreatDoor
open Go
variable[Sub]
structure BW (P:Program) (m:Nat) (w0:World) (g0:Gh) (nt:Nat) (vars:List Nat) (ents:Array MapEntry) (ck:Nat) (a:Act) (w:World) (g:Gh) (s:St):Prop where
 far:Far m w0 g0 w g s.H
 size:a.tmps.size = nt
 dfr:Marks P w0.heap.size w g s.H a.defers
 mp:w.heap[m]? = some (.map ents ck)
 unm:∀ i,¬ OwnAny g s.H m i
 noDm:∀ i,¬ g.D m i
 mlt:m < w0.heap.size
 bo:BornOk ents ck
 env:EnvRel w g s.H a.tmps ⟨[],s.env⟩
 fr:FrOk vars ⟨[],s.env⟩
structure IW (m:Nat) (w0:World) (b ck:Nat) (seen:Array Nat) (w:World) (g:Gh) (H:List Obj):Prop where
 iter:iterAt w b m ck seen
 unb:∀ i,¬ OwnAny g H b i
 noDb:∀ i,¬ g.D b i
 bge:w0.heap.size ≤ b
section
variable{P:Program}{kn:TypeId→Bool}{m nt b ck:Nat}{vars:List Nat}{w0 w w':World}{g0 g g':Gh}{seen:Array Nat}{ents:Array MapEntry}{a:Act}{s:St}{H':List Obj}
theorem IW.evo{H:List Obj}(h:IW m w0 b ck seen w g H)(hv:Evo w g H w' g' H'):IW m w0 b ck seen w' g' H':=by
 obtain⟨q1,q2,q3⟩:=Far.apart hv h.iter h.unb h.noDb
 exact⟨q1,q2,q3,h.bge⟩
theorem BW.mw{it:Nat}(h:BW P m w0 g0 nt vars ents ck a w g s)(hi:IW m w0 b ck seen w g s.H)(hit:lk s.env it = some (.p (.v (.pointer (some ⟨b,0,none⟩))))):MW P m w0 g0 nt it b seen ents ck a w g s.H :=
 ⟨h.far,h.size,h.dfr,(h.env.env it _ hit).val.1,hi.iter,h.mp,h.unm,h.noDm,hi.unb,hi.noDb,hi.bge,h.mlt,h.bo⟩
theorem MW.iw{it:Nat}{H:List Obj}(h:MW P m w0 g0 nt it b seen ents ck a w g H):IW m w0 b ck seen w g H:=⟨h.iter,h.unb,h.noDb,h.bge⟩
theorem MW.bw{it:Nat}{H:List Obj}{env:Env}(h:MW P m w0 g0 nt it b seen ents ck a w g H)(he:EnvRel w g H a.tmps ⟨[],env⟩)(hf:FrOk vars ⟨[],env⟩):BW P m w0 g0 nt vars ents ck a w g ⟨env,H⟩ :=
 ⟨h.far,h.size,h.dfr,h.mp,h.unm,h.noDm,h.mlt,h.bo,he,hf⟩
theorem BW.evo{a':Act}{env':Env}(h:BW P m w0 g0 nt vars ents ck a w g s)(hv:Evo w g s.H w' g' H')(hs:StRel w' g' H')(h1:a'.tmps.size = nt)(h2:Marks P w0.heap.size w' g' H' a'.defers)(he:EnvRel w' g' H' a'.tmps ⟨[],env'⟩)(hf:FrOk vars ⟨[],env'⟩) :
  BW P m w0 g0 nt vars ents ck a' w' g' ⟨env',H'⟩:=by
 obtain⟨k1,k2,k3⟩:=Far.apart hv h.mp h.unm h.noDm
 exact⟨h.far.evo hv hs,h1,h2,k1,k2,k3,h.mlt,h.bo,he,hf⟩
theorem BW.cd(h:BW P m w0 g0 nt vars ents ck a w g s)(hcd:g0.cd = CD P kn):g.cd = CD P kn:=h.far.cd.trans hcd
theorem BW.code{lone:FuncId→Bool}{code:Code}{c:SCode}{r:SExit×St}{Q:Exit→Act→World→Prop}(h:BW P m w0 g0 nt vars ents ck a w g s)(hcd:g0.cd = CD P kn)(hc:comp P kn lone nt vars code = some c)(hx:ExecM P kn c s r)(hQ:∀ e a' w' g',ExitRel r.1 e→Evo w g s.H w' g' r.2.H→BW P m w0 g0 nt vars ents ck a' w' g' r.2→Q e a' w')(hv2:1000002 ∉ vars:=by decide):code.wpIn (FR none) 0 P Q a w:=by
 refine wpIn_mono (hx.go w0.heap.size none lone nt vars code hc a w g ⟨h.env,h.fr,by rw[h.size]; exact Nat.le_refl _,h.far.st,h.cd hcd,h.dfr,h.far.keep.2.2.2.1,(fun l0 e=>by cases e),fun h=>absurd h hv2⟩) fun e a' w' hq=>?_
 obtain⟨q0,g',q1,q2,q3,q4,q5,q6⟩:=hq
 exact hQ e a' w' g' q0 q1 (h.evo q1 q2 (q6.trans h.size) q5 q3 q4)
theorem BW.drew(h:BW P m w0 g0 nt vars ents ck a w g s)(hd:Drew w w'):BW P m w0 g0 nt vars ents ck a w' g s∧Evo w g s.H w' g s.H:=by
 obtain⟨e,st⟩:=evo_still hd.still h.far.st
 exact⟨h.evo e st h.size (h.dfr.evo e) ⟨fun t v ht=>e.rep _ _ (h.env.loc t v ht),fun t v ht=>e.rep _ _ (h.env.env t v ht),st.glob⟩ h.fr,e⟩
theorem BW.act{a':Act}(h:BW P m w0 g0 nt vars ents ck a w g s)(h1:a'.tmps.size = nt)(h2:a'.defers = a.defers)(h3:∀ t ∈ vars,a'.tmps.getD t undef = a.tmps.getD t undef):BW P m w0 g0 nt vars ents ck a' w g s :=
 ⟨h.far,h1,by rw[h2]; exact h.dfr,h.mp,h.unm,h.noDm,h.mlt,h.bo,⟨fun t v ht=>(by cases ht),fun t v ht=>by rw[h3 t (h.fr.env t v ht)]; exact h.env.env t v ht,h.far.st.glob⟩,h.fr⟩
theorem BW.set{n:Nat}{cv:Value}{v:AV}(h:BW P m w0 g0 nt vars ents ck a w g s)(hn:n ∈ vars)(hlt:n < nt)(hr:Rep w g s.H cv v):BW P m w0 g0 nt vars ents ck (a.put (some n) cv) w g ⟨upd s.env n v,s.H⟩:=by
 have hs:n < a.tmps.size:=by rw[h.size]; exact hlt
 refine⟨h.far,by rw[put_size]; exact h.size,by rw[put_defers]; exact h.dfr,h.mp,h.unm,h.noDm,h.mlt,h.bo,⟨fun t u ht=>(by cases ht),fun t u ht=>?_,h.far.st.glob⟩,⟨fun t u ht=>(by cases ht),fun t u ht=>?_⟩⟩
 ·simp only[lk_upd]at ht
  rw[getD_put hs]
  split at ht
  ·rename_i e; cases ht; rw[if_pos e]; exact hr
  ·rename_i e; rw[if_neg e]; exact h.env.env t u ht
 ·simp only[lk_upd]at ht
  split at ht
  ·rename_i e; rw[← e]; exact hn
  ·exact h.fr.env t u ht
theorem BW.turn{ents':Array MapEntry}(h:BW P m w0 g0 nt vars ents ck a w g s)(hb:BornOk ents' ck):BW P m w0 g0 nt vars ents' ck a { w with heap:=w.heap.setIfInBounds m (.map ents' ck) } g s ∧
  ∀ b seen,IW m w0 b ck seen w g s.H→IW m w0 b ck seen { w with heap:=w.heap.setIfInBounds m (.map ents' ck) } g s.H:=by
 have hlt:m < w.heap.size:=(Array.getElem?_eq_some_iff.1 h.mp).1
 have ht:Turned w { w with heap:=w.heap.setIfInBounds m (.map ents' ck) } m:=⟨fun c hc=>by simp[Array.getElem?_setIfInBounds,Ne.symm hc],by simp,rfl,rfl,⟨rfl,Nat.le_refl _⟩⟩
 have hf:=h.far.turn ht h.mp (fun _ _ _ e=>by cases e) (.inl rfl) h.unm h.noDm
 have hcell:∀ c i,g.D c i→cellAt { w with heap:=w.heap.setIfInBounds m (.map ents' ck) } c i = cellAt w c i:=fun c i hd=>cellAt_heap (ht.heap c fun e=>h.noDm i (e ▸ hd)) i
 have hr:∀ c x,Rep w g s.H c x→Rep { w with heap:=w.heap.setIfInBounds m (.map ents' ck) } g s.H c x:=fun c x hr=>hr.step (fun _ _ h=>h) hcell (fun l o' hl=>.same rfl rfl rfl rfl)
 refine⟨⟨hf,h.size,h.dfr.turn ht h.mp (by simp),by simp[Array.getElem?_setIfInBounds,hlt],h.unm,h.noDm,h.mlt,hb,⟨fun t v hv=>(by cases hv),fun t v hv=>hr _ _ (h.env.env t v hv),hf.st.glob⟩,h.fr⟩,fun b seen hi=>⟨?_,hi.unb,hi.noDb,hi.bge⟩⟩
 have hne:b ≠ m:=by have:=hi.bge; have:=h.mlt; omega
 show _ = _
 rw[ht.heap b hne]
 exact hi.iter
theorem BW.range{n:Nat}{o:Oper}{k e t:TypeId}(h:BW P m w0 g0 nt vars ents ck a w g s)(hn:n ∈ vars)(hlt:n < nt)(ht:P.underlying t = some (.map k e)) :
  (Instr.range t (.map (some m))).run P w = .ok (.pointer (some ⟨w.heap.size,0,none⟩)) (w.alloc (.mapIter (some m) ck #[] ck)) ∧
  BW P m w0 g0 nt vars ents ck (a.put (some n) (.pointer (some ⟨w.heap.size,0,none⟩))) (w.alloc (.mapIter (some m) ck #[] ck)) g ⟨upd s.env n (.p (.v (.pointer (some ⟨w.heap.size,0,none⟩)))),s.H⟩ ∧
  IW m w0 w.heap.size ck #[] (w.alloc (.mapIter (some m) ck #[] ck)) g s.H:=by
 have hp:Pushed w (w.alloc (.mapIter (some m) ck #[] ck)) (.mapIter (some m) ck #[] ck):=⟨rfl,rfl,rfl,⟨rfl,Nat.le_refl _⟩⟩
 obtain⟨ev,st⟩:=evo_push hp h.far.st
 have h1:BW P m w0 g0 nt vars ents ck a (w.alloc (.mapIter (some m) ck #[] ck)) g s:=h.evo ev st h.size (h.dfr.evo ev) ⟨fun t v ht=>(by cases ht),fun t v ht=>ev.rep _ _ (h.env.env t v ht),st.glob⟩ h.fr
 refine⟨run_range ht h.mp,h1.set hn hlt (.p (.v rfl)),⟨hp.new,fun i ho=>?_,fun i hd=>?_,h.far.keep.2.2.2.1⟩⟩
 ·obtain⟨⟨l,hl,he⟩,_⟩:=ho
  have:=h.far.st.has_lt hl he
  omega
 ·have:=h.far.st.dom _ _ hd
  omega
end
end Go.Proofs.YtchgldaddcolhaaGreatDoor
namespace Go.Proofs.YtchgldaddcolhaaGreatDoor
set_option maxRecDepth 100000
open Go
def r0:Code:=.region 0 #[ ⟨some 2,.assign (.const (.slice none 0 0)),36, "multipoly.go:136",#[],none⟩,⟨some 3,.assign (.const (.int .i64 (0))),30, "multipoly.go:136",#[⟨0,.chain⟩],none⟩] false
def r1:Code:=.region 1 #[ ⟨some 9,.move (.tmp 0),230, "multipoly.go:137",#[],none⟩,⟨some 10,.range 230 (.tmp 9),0, "multipoly.go:137",#[⟨0,.data⟩],none⟩] false
def r2:Code:=.region 2 #[ ⟨some 11,.next (.tmp 10) false,0, "multipoly.go:137",#[],none⟩,⟨some 12,.extract (.tmp 11) 0,4, "multipoly.go:137",#[⟨0,.data⟩],none⟩] false
def r3:Code:=.region 3 #[ ⟨some 13,.entry (.tmp 10),0, "multipoly.go:137",#[],none⟩,⟨some 14,.extract (.tmp 13) 0,232, "multipoly.go:137",#[⟨0,.data⟩],none⟩,⟨some 15,.extract (.tmp 13) 1,56, "multipoly.go:137",#[⟨0,.data⟩,⟨5,.gcOnly .lateStores⟩],none⟩,⟨some 4,.alloc 232,0, "multipoly.go:137",#[],none⟩,⟨some 5,.alloc 56,0, "multipoly.go:137",#[],none⟩,⟨none,.store 232 (.tmp 4) (.tmp 14),0, "multipoly.go:137",#[⟨3,.data⟩,⟨1,.data⟩,⟨0,.phase⟩,⟨1,.phase⟩,⟨2,.textOnly .lateStores⟩,⟨3,.phase⟩,⟨4,.phase⟩],none⟩,⟨none,.store 56 (.tmp 5) (.tmp 15),0, "multipoly.go:137",#[⟨4,.data⟩,⟨2,.data⟩,⟨5,.chain⟩,⟨0,.phase⟩,⟨1,.phase⟩,⟨2,.phase⟩,⟨3,.phase⟩,⟨4,.phase⟩,⟨5,.phase⟩],none⟩] false
def r4:Code:=.region 4 #[ ⟨some 16,.fieldAddr 56 (.tmp 5) 1,0, "multipoly.go:138",#[],none⟩,⟨some 17,.load 54 (.tmp 16),54, "multipoly.go:138",#[⟨0,.data⟩],none⟩,⟨some 18,.call ⟨.builtin .len,#[(.tmp 17)],#[54]⟩,3, "multipoly.go:138",#[⟨1,.data⟩],none⟩,⟨some 19,.binOp .eql 3 (.tmp 18) (.const (.int .i64 (0))) 3,4, "multipoly.go:138",#[⟨2,.data⟩],none⟩] false
def r5:Code:=.region 5 #[ ⟨some 20,.move (.tmp 0),230, "multipoly.go:139",#[],none⟩,⟨some 21,.load 232 (.tmp 4),232, "multipoly.go:139",#[],none⟩,⟨none,.call ⟨.builtin .delete,#[(.tmp 20),(.tmp 21)],#[230,232]⟩,0, "multipoly.go:139",#[⟨0,.data⟩,⟨1,.data⟩],none⟩] false
def r6:Code:=.region 6 #[ ⟨some 22,.move (.tmp 0),230, "multipoly.go:142",#[],none⟩,⟨some 23,.call ⟨.builtin .len,#[(.tmp 22)],#[230]⟩,3, "multipoly.go:142",#[⟨0,.data⟩],none⟩,⟨some 24,.binOp .gtr 3 (.tmp 23) (.const (.int .i64 (2048))) 3,4, "multipoly.go:142",#[⟨1,.data⟩],none⟩] false
def r7:Code:=.region 7 #[ ⟨some 2,.assign (.const (.slice none 0 0)),36, "multipoly.go:143",#[],none⟩,⟨some 3,.assign (.const (.int .i64 (2))),30, "multipoly.go:143",#[⟨0,.chain⟩,⟨0,.phase⟩],none⟩] false
def r8:Code:=.region 8 #[ ⟨some 6,.assign (.const (.slice none 0 0)),36, "multipoly.go:145",#[],none⟩] false
def r9:Code:=.region 9 #[ ⟨some 25,.move (.tmp 0),230, "multipoly.go:146",#[],none⟩,⟨some 26,.range 230 (.tmp 25),0, "multipoly.go:146",#[⟨0,.data⟩],none⟩] false
def r10:Code:=.region 10 #[ ⟨some 27,.next (.tmp 26) false,0, "multipoly.go:146",#[],none⟩,⟨some 28,.extract (.tmp 27) 0,4, "multipoly.go:146",#[⟨0,.data⟩],none⟩] false
def r11:Code:=.region 11 #[ ⟨some 29,.entry (.tmp 26),0, "multipoly.go:146",#[],none⟩,⟨some 30,.extract (.tmp 29) 0,232, "multipoly.go:146",#[⟨0,.data⟩],none⟩,⟨some 31,.extract (.tmp 29) 1,56, "multipoly.go:146",#[⟨0,.data⟩,⟨5,.gcOnly .lateStores⟩],none⟩,⟨some 7,.alloc 232,0, "multipoly.go:146",#[],none⟩,⟨some 8,.alloc 56,0, "multipoly.go:146",#[],none⟩,⟨none,.store 232 (.tmp 7) (.tmp 30),0, "multipoly.go:146",#[⟨3,.data⟩,⟨1,.data⟩,⟨0,.phase⟩,⟨1,.phase⟩,⟨2,.textOnly .lateStores⟩,⟨3,.phase⟩,⟨4,.phase⟩],none⟩,⟨none,.store 56 (.tmp 8) (.tmp 31),0, "multipoly.go:146",#[⟨4,.data⟩,⟨2,.data⟩,⟨5,.chain⟩,⟨0,.phase⟩,⟨1,.phase⟩,⟨2,.phase⟩,⟨3,.phase⟩,⟨4,.phase⟩,⟨5,.phase⟩],none⟩] false
def r12:Code:=.region 12 #[ ⟨some 32,.move (.tmp 6),36, "multipoly.go:147",#[],none⟩,⟨some 33,.load 56 (.tmp 8),56, "multipoly.go:147",#[],none⟩,⟨some 34,.call ⟨.value (.func 204),#[(.tmp 33)],#[56]⟩,56, "multipoly.go:147",#[⟨1,.data⟩],none⟩,⟨some 35,.load 232 (.tmp 7),232, "multipoly.go:147",#[],none⟩,⟨some 36,.call ⟨.value (.func 205),#[(.tmp 35)],#[232]⟩,26, "multipoly.go:147",#[⟨3,.data⟩,⟨2,.chain⟩],none⟩,⟨some 37,.build 152 #[(0,(.tmp 34)),(1,(.tmp 36))],152, "multipoly.go:147",#[⟨2,.data⟩,⟨4,.data⟩],none⟩,⟨some 38,.buildSlice 36 1 #[(0,(.tmp 37))],36, "multipoly.go:147",#[⟨5,.data⟩],none⟩,⟨some 39,.call ⟨.builtin .append,#[(.tmp 32),(.tmp 38)],#[36,36]⟩,36, "multipoly.go:147",#[⟨0,.data⟩,⟨6,.data⟩,⟨4,.chain⟩],none⟩,⟨some 6,.assign (.tmp 39),36, "multipoly.go:147",#[⟨7,.data⟩,⟨7,.chain⟩,⟨0,.phase⟩,⟨1,.phase⟩,⟨2,.phase⟩,⟨3,.phase⟩,⟨4,.phase⟩,⟨5,.phase⟩,⟨6,.phase⟩,⟨7,.phase⟩],none⟩] true
def r13:Code:=.region 13 #[ ⟨some 40,.move (.tmp 6),36, "multipoly.go:149",#[],none⟩,⟨some 41,.call ⟨.value (.func 206),#[(.tmp 40),(.func 207)],#[36,306]⟩,0, "multipoly.go:149",#[⟨0,.data⟩],none⟩] false
def r14:Code:=.region 14 #[ ⟨some 42,.move (.tmp 6),36, "multipoly.go:150",#[],none⟩,⟨some 2,.assign (.tmp 42),36, "multipoly.go:150",#[⟨0,.data⟩,⟨0,.phase⟩],none⟩,⟨some 3,.assign (.const (.int .i64 (0))),30, "multipoly.go:150",#[⟨1,.chain⟩,⟨0,.phase⟩,⟨1,.phase⟩],none⟩] false
def collectCode:Code:=.seq r0 (.seq (.seq r1 (.block 0 (.loop (.seq r2 (.seq (.cond (.tmp 12) (.skip) (.exit 0)) (.block 1 (.seq r3 (.seq r4 (.cond (.tmp 19) r5 (.skip)))))))))) (.seq (.seq r6 (.cond (.tmp 24) (.seq r7 (.ret)) (.skip))) (.seq r8 (.seq (.seq r9 (.block 2 (.loop (.seq r10 (.seq (.cond (.tmp 28) (.skip) (.exit 2)) (.block 3 (.seq r11 r12))))))) (.seq r13 (.seq r14 (.ret)))))))
def vs69:List Nat:=[0,2,3,10,12,5,19,4,24,26,28,6,8,7]
noncomputable def fn69:Func:=(TP.funcs[137]?).getD default
theorem fn69_at:TP.funcs[137]? = some fn69:=by
 have h:(TP.funcs[137]?).isSome = true:=by kernel_rfl
 obtain⟨x,hx⟩:=Option.isSome_iff_exists.1 h
 unfold fn69
 rw[hx]; rfl
theorem fn69_body:fn69.body = some collectCode:=by kernel_rfl
theorem fn69_nt:fn69.ntmps = 43:=by kernel_rfl
theorem fn69_res:fn69.results = #[.tmp 2,.tmp 3]:=by kernel_rfl
noncomputable def cps(c:Code):Option SCode:=comp TP knT (lonesF 69) 43 vs69 c
def s0:SCode:=R [ox 2 (.mov (.c (.lit []))),ox 3 (.mov (i 0))]
def s4:SCode:=R [ot 16 (.fadr 1 (.x 5)),ot 17 (.load1 (.t 16)),ot 18 (.len (.t 17)),ox 19 (.bin .eql (.t 18) (i 0))]
def s8:SCode:=R [ox 6 (.mov (.c (.lit [])))]
def s12:SCode:=D [⟨ot 32 (.mov (.x 6)),.free,0,3⟩,⟨ot 33 (.loadn 2 (.x 8)),.here,0,0⟩,⟨ot 34 (.call (.f 204) [(.t 33)]),.write,0,1⟩,⟨ot 35 (.loadn 32 (.x 7)),.read,0,1⟩,⟨ot 36 (.call (.f 205) [(.t 35)]),.write,1,2⟩,⟨ot 37 (.build [.p (.v (bF)),.lit [],.lit []] [(0,2,(.t 34)),(2,1,(.t 36))]),.free,2,2⟩,⟨ot 38 (.slit [.v (bF),.sl [],.sl []] 1 [(0,(.t 37))]),.write,2,3⟩,⟨ot 39 (.append 56 3 (.t 32) (.t 38)),.write,3,4⟩,⟨ox 6 (.mov (.t 39)),.free,4,4⟩]
def s14:SCode:=R [ot 42 (.mov (.x 6)),ox 2 (.mov (.t 42)),ox 3 (.mov (i 0))]
theorem cp0:cps r0 = some s0:=by kernel_rfl
theorem cp4:cps r4 = some s4:=by kernel_rfl
theorem cp8:cps r8 = some s8:=by kernel_rfl
theorem cp12:cps r12 = some s12:=by kernel_rfl
theorem cp14:cps r14 = some s14:=by kernel_rfl
end Go.Proofs.YtchgldaddcolhaaGreatDoor
namespace Go.Proofs.YtchgldaddcolhaaGreatDoor
open Go
theorem WO_sliceArr{X:FuncId→List AV→List Obj→Option (AV×List Obj)}{Γ:FuncId→Option SFunc}{d:SD}{os:List SO}{e:Fr}{H:List Obj}{K:Fr→List Obj→Prop}{n:Nat}{x:SA}{l h:Option SA} :
  WO X Γ (⟨d,.sliceArr n x l h,none⟩::os) e H K↔bindP (ev e x) fun a=>bindP (evIntO e 0 l) fun l=>bindP (evIntO e n h) fun h=>bindP (sliceArrV n a l h) fun v=>WO X Γ os (dstPut d e v) H K:=by
 rw[WO_op rfl]
 simp only[evOp]
 cases ev e x with
 | none=>rfl
 | some a =>
  cases evIntO e 0 l with
  | none=>rfl
  | some l =>
   cases evIntO e n h with
   | none=>simp[bindP]
   | some h=>cases hs:sliceArrV n a l h <;> simp[bindP,hs]
theorem isN_ar{H:List Obj}{l v o n:Nat}{b:AV}:isK H (.ar l v o n) b = false:=rfl
theorem isN_ll{H:List Obj}{r r':List (List PV)}:isK H (.lit r) (.lit r') = false:=by cases r <;> rfl
theorem isN_lp{H:List Obj}{r:List (List PV)}{q:PV}:isK H (.lit r) (.p q) = false:=by cases r <;> rfl
def Limbs(rows:List (List PV)):Prop:=rows ≠ []∧(∀ r ∈ rows,r.length = 1)∧rows.length ≤ 1000000
theorem call270{rows:List (List PV)}(h:Limbs rows):call X0 Gam 270 [.p (.sl rows)] [] = some (.ar 0 0 0 rows.length,[.arr 1 none 0 rows]):=by
 obtain⟨hne,h1,hl⟩:=h
 have hall:(rows.all fun r=>r.length == 1) = true:=by simpa using h1
 have hwf:WF X0 Gam 270 [.p (.sl rows)] [] fun r H=>r = .ar 0 0 0 rows.length∧H = [.arr 1 none 0 rows]:=by
  refine WF_intro rfl rfl ?_
  cases hr:rows with
  | nil=>exact absurd hr hne
  | cons r rs =>
   have hall':((r::rs).all fun r=>r.length == 1) = true:=hr ▸ hall
   have hl':(r::rs).length ≤ 1000000:=hr ▸ hl
   have hap:appendV [] 4 1 (.lit []) (.p (.sl (r::rs))) = some (.ar 0 0 0 (r::rs).length,[.arr 1 none 0 (r::rs)]):=by
    have hb:(r::rs).length * 4 ≤ 140737488355328:=by omega
    simp only[appendV,isN_ar,isN_ll,isN_lp,rowsOf,Option.bind_some,hall',if_true,List.isEmpty_cons,Bool.false_eq_true,if_false,List.length_nil,hb,List.all_nil,and_self,List.nil_append,Nat.zero_add]
   have hn:isNil (.p (.sl (r::rs))) = some false:=rfl
   simp[EV,hap,hn,fillRows,partArs,freeze]
 unfold WF at hwf
 cases hc:call X0 Gam 270 [.p (.sl rows)] [] with
 | none=>rw[hc]at hwf; exact hwf.elim
 | some q =>
  rw[hc]at hwf
  obtain⟨e1,e2⟩:=hwf
  rw[← e1,← e2]
theorem C270{rows:List (List PV)}{K:AV→List Obj→Prop}(h:Limbs rows):WC X0 Gam 270 [.p (.sl rows)] [] K↔K (.ar 0 0 0 rows.length) [.arr 1 none 0 rows]:=by
 have hamb:isAmb [.p (.sl rows)] = false:=by
  cases hr:rows with
  | nil=>exact absurd hr h.1
  | cons r rs=>rfl
 have hca:callAt X0 Gam 270 [.p (.sl rows)] [] = some (.ar 0 0 0 rows.length,[.arr 1 none 0 rows]):=by
  rw[caq]
  have hG:Gam 270 = some K270:=rfl
  rw[hG]
  dsimp only
  have hp:passArgs [] K270.raw 0 [.p (.sl rows)] = some [.p (.sl rows)]:=rfl
  rw[hp]
  have hf:freeze [] (passFrz K270.raw 0 [.p (.sl rows)]) = []:=by
   simp[passFrz,arsOf,arsA,freeze,K270]
  simp only[hf]
  have hr:reach [] (4 * ([]:List Obj).length * ([]:List Obj).length + 4) (refsL [.p (.sl rows)]) [] = []:=rfl
  rw[hr]
  simp only[pickObjs,hamb,Bool.and_false,Bool.false_eq_true,if_false]
  have hren:renL (List.idxOf · ([]:List Nat)) [.p (.sl rows)] = [.p (.sl rows)]:=rfl
  simp only[hren,List.map_nil,call270 h,Option.bind_eq_bind,Option.bind_some]
  rfl
 unfold WC
 rw[hca]
 rfl
theorem lone_rows{n:Nat}{rows:List (List PV)}(hn:n = rows.length):loneV (.ar 0 0 0 n,[.arr 1 none 0 rows]) = some (.p (.sl rows),[]):=by
 subst hn
 have hc:canon [.arr 1 none 0 rows] (.ar 0 0 0 rows.length) = some (.p (.sl rows)):=by simp[canon,rowsOf,seen]
 have hf:freeze [.arr 1 none 0 rows] (arsOf [.ar 0 0 0 rows.length]) = [.arr 1 (some 0) 0 rows]:=by simp[arsOf,arsA,freeze]
 unfold loneV comeBack
 simp only[List.isEmpty_cons,Bool.false_eq_true,if_false,hc,Option.bind_some,flat,Bool.false_and,hf]
 rfl
theorem number_pf{b:Bool}{rows:List (List PV)}(h:Limbs rows):PF X0 Gam 204 [.agg [.p (.v (.bool b)),.p (.sl rows)]] (.agg [.p (.v (.bool b)),.p (.sl rows)]):=by
 refine WF_intro rfl rfl ?_
 simp[EV,evOp,fill,splice,C270 h,lone_rows]
theorem conv_u8{n:Nat}(h:n < 256):IntKind.i64.wrap (n:Int) = n:=wrap_i64 (by omega)
theorem list_pf{x:List Nat}(hl:x.length = 32)(hb:∀ n ∈ x,n < 256):PF X0 Gam 205 [.agg (exC x)] (.p (.sl (exRows (trim x)))):=by
 refine WF_intro rfl rfl ?_
 have hcl:(exC x).length = 32:=by simp[exC,hl]
 refine W_seq_cut (fun s=>lk s.env 1 = some (.ptr 0 0)∧lk s.env 2 = some (.lit [])∧s.H = [.cells (exC x)]) (by simp[EV]) ?_
 rintro⟨env,H⟩ ⟨h1,h2,rfl⟩
 simp only at h1 h2
 refine W_seq_cut (fun s=>lk s.env 1 = some (.ptr 0 0)∧lk s.env 3 = some (int 32)∧s.H = [.cells (exC x)]) (by simp[EV,h1]) ?_
 clear h1 h2 env
 rintro⟨env,H⟩ ⟨h1,h3,rfl⟩
 simp only at h1 h3
 refine W_seq_cut (fun s=>lk s.env 1 = some (.ptr 0 0)∧lk s.env 3 = some (int (trim x).length)∧s.H = [.cells (exC x)]) ?_ ?_
 ·rw[W_block]
  refine W_loop (fun n s=>lk s.env 1 = some (.ptr 0 0)∧lk s.env 3 = some (int n)∧s.H = [.cells (exC x)]∧n ≤ 32∧trim (x.take n) = trim x) ?_ 32 _ ⟨h1,h3,rfl,by omega,by rw[List.take_of_length_le (by omega)]⟩
  clear h1 h3 env
  rintro n ⟨env,H⟩ ⟨h1,h3,rfl,hn,ht⟩
  simp only at h1 h3
  cases n with
  | zero =>
   have h0:trim x = []:=by rw[← ht]; rfl
   simp[EV,h1,h3,h0]
  | succ m =>
   have hm:x[m]? = some x[m]:=by simp
   have hw:IntKind.i64.wrap (m:Int) = m:=wrap_i64 (by omega)
   have hi:idxArr 32 1 (.ptr 0 0) (m:Int) = some (.ptr 0 m):=by
    have:(m:Int) < 32:=by omega
    simp[idxArr,fadrV,this]
   have hld:loadC [.cells (exC x)] 1 (.ptr 0 m) = some [.p (.v (I .u8 (x[m]'(by omega):Nat)))]:=by
    have:m + 1 ≤ (exC x).length:=by omega
    simp only[loadC,List.getElem?_cons_zero,this,if_true]
    rw[List.drop_eq_getElem_cons (by omega)]
    simp[exC]
   by_cases hz:x[m] = 0
   ·simp[EV,evOp,h1,h3,hw,hi,hld,load1V,hz]
    rw[hz]at hm
    exact⟨m,by omega,rfl,by omega,by rw[← trim_take_zero hm,ht]⟩
   ·simp[EV,evOp,h1,h3,hw,hi,hld,load1V,hz]
    rw[← ht,trim_take_full hm hz]
    simp
    omega
 clear h1 h3 env
 rintro⟨env,H⟩ ⟨h1,h3,rfl⟩
 simp only at h1 h3
 have hle:(trim x).length ≤ 32:=by
  have:=congrArg List.length (trim_take (l:=x))
  rw[List.length_take]at this
  omega
 have hsl:sliceArrV 32 (.ptr 0 0) 0 ((trim x).length:Int) = some (.csl 0 0 (trim x).length):=by
  have h0:((trim x).length:Int) ≤ 32:=by omega
  simp[sliceArrV,h0]
 refine W_seq_cut (fun s=>lk s.env 1 = some (.ptr 0 0)∧lk s.env 3 = some (int (trim x).length)∧lk s.env 4 = some (.lit [])∧s.H = [.cells (exC x)]) (by simp[EV,h1,h3]) ?_
 clear h1 h3 env
 rintro⟨env,H⟩ ⟨h1,h3,h4,rfl⟩
 simp only at h1 h3 h4
 refine W_seq_cut (fun s=>∃ l,lk s.env 4 = some l∧canon s.H l = some (.p (.sl (exRows (trim x))))) ?_ ?_
 ·refine W_seq_cut (fun s=>lk s.env 19 = some (.csl 0 0 (trim x).length)∧lk s.env 20 = some (int (trim x).length)∧lk s.env 21 = some (int 0)∧lk s.env 4 = some (.lit [])∧s.H = [.cells (exC x)]) ?_ ?_
  ·simp[EV,WO_sliceArr,lenOf,h1,h3,h4,hsl]
  clear h1 h3 h4 env
  rintro⟨env,H⟩ ⟨h19,h20,h21,h4,rfl⟩
  simp only at h19 h20 h21 h4
  rw[W_block]
  refine W_loop (fun n s=>∃ k,n = (trim x).length - k∧k ≤ (trim x).length∧lk s.env 19 = some (.csl 0 0 (trim x).length)∧lk s.env 20 = some (int (trim x).length)∧lk s.env 21 = some (int k) ∧
   (match k with
    | 0=>lk s.env 4 = some (.lit [])∧s.H = [.cells (exC x)]
    | j + 1=>lk s.env 4 = some (.ar 1 j 0 (j + 1))∧s.H = [.cells (exC x),.arr 1 none j (exRows (x.take (j + 1)))])) ?_ _ _ ⟨0,rfl,by omega,h19,h20,h21,h4,rfl⟩
  clear h19 h20 h21 h4 env
  rintro n ⟨env,H⟩ ⟨k,rfl,hk,h19,h20,h21,hH⟩
  simp only at h19 h20 h21 hH
  by_cases hkn:k < (trim x).length
  ·have hw:IntKind.i64.wrap ((k:Int) + 1) = (k:Int) + 1:=wrap_i64 (by omega)
   have hwc:IntKind.i64.wrap ((x[k]'(by omega):Nat):Int) = (x[k]'(by omega):Nat):=conv_u8 (hb _ (List.getElem_mem _))
   have hidx:∀ H:List Obj,idxSl H 1 (.csl 0 0 (trim x).length) (k:Int) = some (.ptr 0 k):=fun H=>by simp[idxSl,hkn]
   have hld:∀ Hs:List Obj,loadC (.cells (exC x)::Hs) 1 (.ptr 0 k) = some [.p (.v (I .u8 (x[k]'(by omega):Nat)))]:=fun Hs=>by
    have:k + 1 ≤ (exC x).length:=by omega
    simp only[loadC,List.getElem?_cons_zero,this,if_true]
    rw[List.drop_eq_getElem_cons (by omega)]
    simp[exC]
   have htk:exRows (x.take (k + 1)) = exRows (x.take k)++[[.v (I .i64 (x[k]'(by omega):Nat))]]:=by
    unfold exRows; rw[List.take_succ_eq_append_getElem (by omega),List.map_append]; rfl
   cases k with
   | zero =>
    obtain⟨h4,rfl⟩:=hH
    have hap:appendV [.cells (exC x)] 8 1 (.lit []) (.lit [[.v (I .i64 (x[0]'(by omega):Nat))]]) = some (.ar 1 0 0 1,[.cells (exC x),.arr 1 none 0 [[.v (I .i64 (x[0]'(by omega):Nat))]]]):=by
     simp[appendV,isN_ll,rowsOf]
    have hld0:=hld []
    have hid:idxSl [.cells (exC x)] 1 (.csl 0 0 (trim x).length) 0 = some (.ptr 0 0):=hidx _
    have hex:exRows (x.take 1) = [[.v (I .i64 (x[0]'(by omega):Nat))]]:=by simpa [exRows] using htk
    simp[EV,evOp,h19,h20,h21,h4,hkn,hid,hld0,hwc,fillRows,splice,partArs,freeze,toPVs,toPV,hap]
    have hw1:IntKind.i64.wrap 1 = 1:=by decide
    refine⟨_,?_,1,rfl,?_,?_⟩ <;> first | omega | (simp[hex,hw1])
   | succ j =>
    obtain⟨h4,rfl⟩:=hH
    have hap:appendV [.cells (exC x),.arr 1 none j (exRows (x.take (j + 1)))] 8 1 (.ar 1 j 0 (j + 1)) (.lit [[.v (I .i64 (x[j + 1]'(by omega):Nat))]]) =
      some (.ar 1 (j + 1) 0 (j + 1 + 1),[.cells (exC x),.arr 1 none (j + 1) (exRows (x.take (j + 1 + 1)))]):=by
     have h1:(exRows (x.take (j + 1))).length = j + 1:=by simp[exRows]; omega
     have h2:(j + 1 + 1) * 8 ≤ 140737488355328:=by omega
     rw[htk]
     simp only[appendV,isN_ar,isN_ll,isN_lp,Bool.false_eq_true,if_false,rowsOf,Option.bind_some,List.all_cons,List.all_nil,List.length_cons,List.length_nil,Nat.zero_add,beq_self_eq_true,Bool.and_self,if_true,List.getElem?_cons_succ,List.getElem?_cons_zero,h1,h2,and_self]
     simp
    have hld0:=hld [.arr 1 none j (exRows (x.take (j + 1)))]
    have hid:idxSl [.cells (exC x),.arr 1 none j (exRows (x.take (j + 1)))] 1 (.csl 0 0 (trim x).length) ((j:Int) + 1) = some (.ptr 0 (j + 1)):=hidx _
    have hkn':(j:Int) + 1 < (trim x).length:=by omega
    have hw':IntKind.i64.wrap ((j:Int) + 1 + 1) = (j:Int) + 1 + 1:=hw
    simp[EV,evOp,h19,h20,h21,h4,hkn',hid,hld0,hwc,hw',fillRows,splice,partArs,freeze,toPVs,toPV,hap]
    refine⟨_,?_,j + 1 + 1,rfl,?_,?_⟩ <;> first | omega | simp
  ·have hk':k = (trim x).length:=by omega
   subst hk'
   simp[EV,h19,h20,h21]
   cases hn:(trim x).length with
   | zero =>
    rw[hn]at hH
    obtain⟨h4,rfl⟩:=hH
    have:trim x = []:=List.eq_nil_of_length_eq_zero hn
    exact⟨_,h4,by simp[canon,exRows,this]⟩
   | succ j =>
    rw[hn]at hH
    obtain⟨h4,rfl⟩:=hH
    have htr:trim x = x.take (j + 1):=by rw[← hn]; exact trim_take
    have hl2:(exRows (x.take (j + 1))).length = j + 1:=by simp[exRows]; omega
    exact⟨_,h4,by rw[htr]; simp[canon,rowsOf,seen,hl2,List.take_of_length_le (Nat.le_of_eq hl2)]⟩
 ·rintro⟨env,H⟩ ⟨l,h4,hc⟩
  simp only at h4 hc
  simp[EV,h4,hc]
theorem getD_drop{l:List Nat}{k:Nat}:(l.drop k).headD 0 = l.getD k 0:=by
 rw[List.headD_eq_head?_getD,List.head?_drop,List.getD_eq_getElem?_getD]
theorem order_pf{a b:List Nat}(ha:a.length ≤ 32)(hb:b.length ≤ 32):PF X0 Gam 208 [.p (.sl (exRows a)),.p (.sl (exRows b))] (int (ordE (max a.length b.length) a b)):=by
 refine WF_intro rfl rfl ?_
 have la:(exRows a).length = a.length:=by simp[exRows]
 have lb:(exRows b).length = b.length:=by simp[exRows]
 have hmx:maxmin true (.int .i64 (a.length:Int)) (.int .i64 (b.length:Int)) = some (.int .i64 (max a.length b.length:Nat)):=by
  simp only[maxmin,if_true]
  congr 2
  split <;> omega
 refine W_seq_cut (fun s=>lk s.env 0 = some (.p (.sl (exRows a)))∧lk s.env 1 = some (.p (.sl (exRows b)))∧s.H = []) (by simp[EV]) ?_
 rintro⟨env,H⟩ ⟨h0,h1,rfl⟩
 simp only at h0 h1
 refine W_seq_cut (fun s=>ordE (max a.length b.length) a b = 0) ?_ ?_
 ·refine W_seq_cut (fun s=>lk s.env 0 = some (.p (.sl (exRows a)))∧lk s.env 1 = some (.p (.sl (exRows b)))∧lk s.env 12 = some (int (max a.length b.length:Nat))∧lk s.env 13 = some (int 0)∧s.H = []) ?_ ?_
  ·simp[EV,h0,h1,la,lb,hmx]
  clear h0 h1 env
  rintro⟨env,H⟩ ⟨h0,h1,h12,h13,rfl⟩
  simp only at h0 h1 h12 h13
  rw[W_block]
  refine W_loop (fun n s=>∃ k,n = max a.length b.length - k∧k ≤ max a.length b.length∧lk s.env 0 = some (.p (.sl (exRows a)))∧lk s.env 1 = some (.p (.sl (exRows b)))∧lk s.env 12 = some (int (max a.length b.length:Nat))∧lk s.env 13 = some (int k)∧s.H = [] ∧
   ordE (max a.length b.length) a b = ordE (max a.length b.length - k) (a.drop k) (b.drop k)) ?_ _ _ ⟨0,rfl,by omega,h0,h1,h12,h13,rfl,rfl⟩
  clear h0 h1 h12 h13 env
  rintro n ⟨env,H⟩ ⟨k,rfl,hk,h0,h1,h12,h13,rfl,hord⟩
  simp only at h0 h1 h12 h13
  by_cases hkn:k < max a.length b.length
  ·have hkn':(k:Int) < (max a.length b.length:Nat):=by omega
   have hw:IntKind.i64.wrap ((k:Int) + 1) = (k:Int) + 1:=wrap_i64 (by omega)
   have hstep:ordE (max a.length b.length - k) (a.drop k) (b.drop k) = if a.getD k 0 = b.getD k 0 then ordE (max a.length b.length - (k + 1)) (a.drop (k + 1)) (b.drop (k + 1)) else if a.getD k 0 < b.getD k 0 then -1 else 1:=by
    rw[show max a.length b.length - k = (max a.length b.length - (k + 1)) + 1 by omega,ordE,getD_drop,getD_drop,List.tail_drop,List.tail_drop]
   have idx:∀ (c:List Nat),k < c.length→idxSl [] 1 (.p (.sl (exRows c))) (k:Int) = some (.imm [.v (I .i64 (c.getD k 0:Nat))] 0):=fun c hc=>by
    have h1:(exRows c)[k]? = some [.v (I .i64 (c.getD k 0:Nat))]:=by
     simp[exRows,hc,List.getD_eq_getElem?_getD]
    simp[idxSl,h1]
   have out:∀ (c:List Nat),¬ k < c.length→c.getD k 0 = 0:=fun c hc=>by
    rw[List.getD_eq_getElem?_getD,List.getElem?_eq_none (by omega)]; rfl
   generalize hu:a.getD k 0 = u at *
   generalize hv:b.getD k 0 = v at *
   by_cases ha2:k < a.length
   ·have ia:=idx a ha2
    rw[hu]at ia
    by_cases hb2:k < b.length
    ·have ib:=idx b hb2
     rw[hv]at ib
     by_cases huv:u = v
     ·rw[if_pos huv]at hstep
      subst huv
      simp[EV,evOp,h0,h1,h12,h13,la,lb,ha2,hb2,ia,ib,hkn',hw]
      exact⟨_,by omega,k + 1,rfl,by omega,by simp,by rw[hord,hstep]⟩
     ·rw[if_neg huv]at hstep
      have huv':¬ (u:Int) = v:=by omega
      by_cases hlt:u < v
      ·simp[EV,evOp,h0,h1,h12,h13,la,lb,ha2,hb2,ia,ib,hkn',hw,huv',hlt]
       rw[hord,hstep]
       simp[hlt]
      ·simp[EV,evOp,h0,h1,h12,h13,la,lb,ha2,hb2,ia,ib,hkn',hw,huv',hlt]
       rw[hord,hstep]
       simp[hlt]
    ·have hv0:=out b hb2
     rw[hv]at hv0
     subst hv0
     by_cases huv:u = 0
     ·rw[if_pos huv]at hstep
      subst huv
      simp[EV,evOp,h0,h1,h12,h13,la,lb,ha2,hb2,ia,hkn',hw]
      exact⟨_,by omega,k + 1,rfl,by omega,by simp,by rw[hord,hstep]⟩
     ·rw[if_neg huv]at hstep
      have huv':¬ (u:Int) = 0:=by omega
      have hlt:¬ (u:Int) < 0:=by omega
      simp[EV,evOp,h0,h1,h12,h13,la,lb,ha2,hb2,ia,hkn',hw,huv,huv',hlt]
      rw[hord,hstep]
      simp
   ·have hu0:=out a ha2
    rw[hu]at hu0
    subst hu0
    have hb2:k < b.length:=by omega
    have ib:=idx b hb2
    rw[hv]at ib
    by_cases huv:0 = v
    ·rw[if_pos huv]at hstep
     subst huv
     simp[EV,evOp,h0,h1,h12,h13,la,lb,ha2,hb2,ib,hkn',hw]
     exact⟨_,by omega,k + 1,rfl,by omega,by simp,by rw[hord,hstep]⟩
    ·rw[if_neg huv]at hstep
     have hlt:0 < v:=by omega
     have huv':¬ (0:Int) = v:=by omega
     simp[EV,evOp,h0,h1,h12,h13,la,lb,ha2,hb2,ib,hkn',hw,huv',hlt]
     rw[hord,hstep]
     simp[hlt]
  ·have hk':k = max a.length b.length:=by omega
   subst hk'
   simp[EV,h0,h1,h12,h13]
   rw[hord]
   simp[ordE]
 ·rintro⟨env,H⟩ h0
  simp[EV,h0]
section
variable{a:List AV}{H:List Obj}{K:AV→List Obj→Prop}
theorem C119:WC X0 Gam 208 a H K↔bindP (canons H a) fun aZ=>bif (refsL aZ).isEmpty then WP X0 Gam 208 false aZ H (freeze H (arsOf a)) K else WCx X0 Gam 208 a H K:=WC_go rfl rfl rfl rfl
theorem C115:WC X0 Gam 204 a H K↔bindP (canons H a) fun aZ=>bif (refsL aZ).isEmpty then WP X0 Gam 204 false aZ H (freeze H (arsOf a)) K else WCx X0 Gam 204 a H K:=WC_go rfl rfl rfl rfl
theorem C116:WC X0 Gam 205 a H K↔bindP (canons H a) fun aZ=>bif (refsL aZ).isEmpty then WP X0 Gam 205 false aZ H (freeze H (arsOf a)) K else WCx X0 Gam 205 a H K:=WC_go rfl rfl rfl rfl
end
theorem P119{a b:List Nat}{H H1:List Obj}{K:AV→List Obj→Prop}(ha:a.length ≤ 32)(hb:b.length ≤ 32):WP X0 Gam 208 false [.p (.sl (exRows a)),.p (.sl (exRows b))] H H1 K↔K (int (ordE (max a.length b.length) a b)) H:=WP_flat (order_pf ha hb) rfl
theorem cmp_pf{a b:List Nat}{s1 s2 m1 m2:PV}(ha:a.length ≤ 32)(hb:b.length ≤ 32) :
  PF X0 Gam 207 [.agg [.p s1,.p m1,.p (.sl (exRows a))],.agg [.p s2,.p m2,.p (.sl (exRows b))]] (int (ordE (max a.length b.length) a b)):=by
 refine WF_intro rfl rfl ?_
 simp[EV,C119]
 rw[P119 ha hb]
 simp[EV]
end Go.Proofs.YtchgldaddcolhaaGreatDoor
namespace Go.Proofs.YtchgldaddcolhaaGreatDoor
open Go
theorem wpIn_loopN{F:Fence}{n0:Nat}{P:Program}{Q:Exit→Act→World→Prop}{c:Code}(J:Nat→Act→World→Prop)(round:∀ n a w,J n a w→c.wpIn F n0 P (Exit.then (fun a' w'=>∃ n',n' < n∧J n' a' w') Q) a w){n:Nat}{a:Act}{w:World}(h:J n a w):(Code.loop c).wpIn F n0 P Q a w:=by
 have key:∀ m n a w,n ≤ m→J n a w→Code.roundsIn F n0 P c Q (m + 1) a w:=by
  intro m
  induction m with
  | zero =>
   intro n a w hn hj
   refine wpIn_mono (round n a w hj) fun e a' w' hq=>?_
   cases e <;> first | exact hq | (obtain⟨n',h1,_⟩:=hq; omega)
  | succ m ih =>
   intro n a w hn hj
   refine wpIn_mono (round n a w hj) fun e a' w' hq=>?_
   cases e <;> first | exact hq | (obtain⟨n',h1,h2⟩:=hq; exact ih n' a' w' (by omega) h2)
 exact wpIn_loop_rounds (n + 1) (key n n a w (Nat.le_refl _) h)
variable[Sub]
theorem kv_rep{w:World}{g:Gh}{H:List Obj}(x:List Nat):Rep w g H (Value.agg (x.map fun (n:Nat)=>Value.int .u8 n).toArray) (.agg (exC x)):=by
 refine .agg (by simp[exC]) (fun i c hc=>?_) (fun i c y hc hy=>?_)
 ·simp at hc
  obtain⟨n,_,rfl⟩:=hc
  rfl
 ·simp[exC]at hc hy
  obtain⟨n,h1,rfl⟩:=hc
  obtain⟨n',h2,rfl⟩:=hy
  rw[h1]at h2
  cases h2
  exact .p (.v rfl)
def EntsR(w:World)(g:Gh)(ents:Array MapEntry)(es:List E):Prop :=
 ents.size = es.length∧∀ (i:Nat) (me:MapEntry) (e:E),ents[i]? = some me→es[i]? = some e→me.key = e.kv∧Rep w g [] me.val e.av
section
variable{w w':World}{g g':Gh}{ents:Array MapEntry}{es:List E}
theorem EntsR.same(h:EntsR w g ents es)(hD:∀ b i,g.D b i→g'.D b i)(hc:∀ b i,g.D b i→cellAt w' b i = cellAt w b i):EntsR w' g' ents es :=
 ⟨h.1,fun i me e h1 h2=>⟨(h.2 i me e h1 h2).1,(h.2 i me e h1 h2).2.step hD hc (fun l o hl=>by simp at hl)⟩⟩
theorem EntsR.evo{H H':List Obj}(h:EntsR w g ents es)(hv:Evo w g H w' g' H'):EntsR w' g' ents es:=h.same hv.D hv.cells
theorem EntsR.get(h:EntsR w g ents es){me:MapEntry}(hm:me ∈ ents.toList):∃ (i:Nat) (e:E),ents[i]? = some me∧es[i]? = some e∧me.key = e.kv∧Rep w g [] me.val e.av:=by
 obtain⟨i,hi,rfl⟩:=List.getElem_of_mem hm
 have hi':i < ents.size:=by simpa using hi
 have h2:i < es.length:=by rw[← h.1]; exact hi'
 have h1:ents[i]? = some ents.toList[i]:=by simp[hi']
 exact⟨i,es[i],h1,by simp[h2],h.2 i _ _ h1 (by simp[h2])⟩
theorem EntsR.erase{j:Nat}(h:EntsR w g ents es)(hj:j < es.length):EntsR w g (ents.eraseIdxIfInBounds j) (es.eraseIdx j):=by
 have hj':j < ents.size:=by rw[h.1]; exact hj
 have he:ents.eraseIdxIfInBounds j = ents.eraseIdx j hj':=by simp[Array.eraseIdxIfInBounds,hj']
 rw[he]
 refine⟨by simp[List.length_eraseIdx,h.1,hj],fun i me e h1 h2=>?_⟩
 rw[Array.getElem?_eraseIdx]at h1
 rw[List.getElem?_eraseIdx]at h2
 split at h1
 ·rename_i hlt; rw[if_pos hlt]at h2; exact h.2 _ _ _ h1 h2
 ·rename_i hlt; rw[if_neg hlt]at h2; exact h.2 _ _ _ h1 h2
end
theorem same_u8:∀ (n:Nat) (x y:List Nat),x.length = n→y.length = n→sameCells (List.replicate n LK.int) (x.map fun (n:Nat)=>Value.int .u8 n) (y.map fun (n:Nat)=>Value.int .u8 n) = some (decide (x = y))
 | 0,x,y,hx,hy=>by
  cases List.eq_nil_of_length_eq_zero hx; cases List.eq_nil_of_length_eq_zero hy
  simp[sameCells]
 | n + 1,[],y,hx,hy=>by simp at hx
 | n + 1,a::x,[],hx,hy=>by simp at hy
 | n + 1,a::x,b::y,hx,hy=>by
  simp only[List.replicate_succ,List.map_cons,sameCells,if_true]
  by_cases h:a = b
  ·subst h
   simp[same_u8 n x y (by simpa using hx) (by simpa using hy)]
  ·have:((a:Int) == (b:Int)) = false:=by simp; omega
   simp[this,h]
def ks128:List LK:=List.replicate 32 LK.int
theorem same_kv{e f:E}(he:e.Ok)(hf:f.Ok):sameKey true ks128 (keyCells e.kv) f.kv = some (decide (e.x = f.x)):=by
 have h1:keyCells e.kv = e.x.map fun (n:Nat)=>Value.int .u8 n:=by simp[E.kv,keyCells]
 have h2:keyCells f.kv = f.x.map fun (n:Nat)=>Value.int .u8 n:=by simp[E.kv,keyCells]
 have h3:isAggV f.kv = true:=rfl
 rw[sameKey,if_pos h3,h1,h2]
 exact same_u8 32 _ _ he.len hf.len
theorem und126:TP.underlying 230 = some (.map 232 56):=by kernel_rfl
theorem und128:TP.underlying 232 = some (.array 32 3)∨∃ d,TP.underlying 232 = some d∧aggT d = true:=by
 right
 have h:((TP.underlying 232).map aggT) = some true:=by kernel_rfl
 cases hu:TP.underlying 232 with
 | none=>rw[hu]at h; cases h
 | some d=>rw[hu]at h; exact⟨d,rfl,by simpa using h⟩
theorem lv128:leaves TP 10 232 = some ks128:=by kernel_rfl
def Distinct(es:List E):Prop:=es.Pairwise fun e f=>e.x ≠ f.x
theorem run_delete{w:World}{g:Gh}{m ck:Nat}{ents:Array MapEntry}{es:List E}{e:E}{j:Nat}(hm:w.heap[m]? = some (.map ents ck))(hr:EntsR w g ents es)(hok:∀ e ∈ es,E.Ok e)(hd:Distinct es)(hj:es[j]? = some e) :
  (Builtin.delete_ #[230,232] 0 #[.map (some m),e.kv]).run TP w = .ok (.tuple #[]) { w with heap:=w.heap.setIfInBounds m (.map (ents.eraseIdxIfInBounds j) ck) }:=by
 have hgo:(getObj m).run TP w = .ok (.map ents ck) w:=by simp[getObj,Sem.run,hm]
 have hso:∀ o,(setObj m o).run TP w = .ok () { w with heap:=w.heap.setIfInBounds m o }:=fun o=>by simp[setObj,Sem.run,hm]
 obtain⟨d,hu,ha⟩:∃ d,TP.underlying 232 = some d∧aggT d = true:=by
  rcases und128 with h | h
  ·exact⟨_,h,rfl⟩
  ·exact h
 have heok:e.Ok:=hok e (List.mem_of_getElem? hj)
 have hk:keyOk true ks128 e.kv = true:=by
  have:(keyCells e.kv).length = 32:=by simp[E.kv,keyCells,heok.len]
  simp[keyOk,this,ks128]
  rfl
 have hck:∀ em,(Instr.checkKey em 10000 232 e.kv).run TP w = .ok () w:=fun em=>chk_key lv128 hu (by rw[ha]; exact hk)
 have hke:keysEq ents.toList (es.map fun e=>(e.kv,e.av)):=by
  apply List.ext_getElem?
  intro i
  simp only[List.getElem?_map,Array.getElem?_toList,Option.map_map]
  by_cases hi:i < es.length
  ·have hi':i < ents.size:=by rw[hr.1]; exact hi
   have:=(hr.2 i ents[i] es[i] (by simp[hi']) (by simp[hi])).1
   simp[hi,hi',this]
  ·rw[Array.getElem?_eq_none (by rw[hr.1]; omega),List.getElem?_eq_none (by omega)]
   rfl
 have hlt:j < es.length:=(List.getElem?_eq_some_iff.1 hj).1
 have hfa:FirstAt true ks128 (keyCells e.kv) (es.map fun e=>(e.kv,e.av)) j (e.kv,e.av):=by
  refine⟨by simp[hj],by rw[same_kv heok heok]; simp,fun i p hi hp=>?_⟩
  simp only[List.getElem?_map,Option.map_eq_some_iff]at hp
  obtain⟨f,hf,rfl⟩:=hp
  rw[same_kv heok (hok f (List.mem_of_getElem? hf))]
  have hne:f.x ≠ e.x:=by
   have hil:i < es.length:=by omega
   have:=List.pairwise_iff_getElem.1 hd i j hil hlt hi
   rw[List.getElem?_eq_getElem hil]at hf
   rw[List.getElem?_eq_getElem hlt]at hj
   cases hf; cases hj
   exact this
  simp[Ne.symm hne]
 obtain⟨me,_,hf⟩:=run_find_first (w:=w) hu lv128 ha hk hke hfa
 simp[Builtin.delete_,run_underlying und126,hgo,hck,hf,hso]
section
variable{P:Program}{m nt ck:Nat}{vars:List Nat}{w0 w:World}{g0 g:Gh}{ents:Array MapEntry}{a:Act}{s:St}{env:Env}
theorem BW.drop(h:BW TP m w0 g0 nt vars ents ck a w g s)(he:∀ t v,lk env t = some v→t ∈ vars∧Rep w g [] (a.tmps.getD t undef) v):BW TP m w0 g0 nt vars ents ck a w g ⟨env,[]⟩:=by
 refine⟨⟨h.far.D,h.far.cells,h.far.keep,fun b i ho=>absurd ho (no_own b i),h.far.newD,h.far.cd,st_empty h.far.st⟩,h.size,?_,h.mp,fun i=>no_own m i,h.noDm,h.mlt,h.bo,⟨fun t v ht=>(by cases ht),fun t v ht=>(he t v ht).2,h.far.st.glob⟩,⟨fun t v ht=>(by cases ht),fun t v ht=>(he t v ht).1⟩⟩
 obtain⟨bs,h1,h2,h3⟩:=h.dfr
 exact⟨bs,h1,h2,fun c hc=>⟨(h3.1 c hc).1,(h3.1 c hc).2.1,fun i=>no_own c i⟩,h3.2⟩
theorem IW.drop{b:Nat}{seen:Array Nat}{H:List Obj}(h:IW m w0 b ck seen w g H):IW m w0 b ck seen w g []:=⟨h.iter,fun i=>no_own b i,h.noDb,h.bge⟩
end
end Go.Proofs.YtchgldaddcolhaaGreatDoor
namespace Go.Proofs.YtchgldaddcolhaaGreatDoor
set_option maxRecDepth 100000
open Go
def zero32:List AV:=exC (List.replicate 32 0)
def sosE(k1 v1 x1 x2:Nat):List SO:=[ox x1 (.alloc zero32),ox x2 (.alloc [.p (.v bF),.lit []]),o0 (.store 32 (.x x1) (.t k1)),o0 (.store 2 (.x x2) (.t v1))]
def os3:List Oper:=match r3 with | .region _ ops _=>ops.toList.drop 3 | _=>[]
def os11:List Oper:=match r11 with | .region _ ops _=>ops.toList.drop 3 | _=>[]
theorem cp3:compOps TP knT 43 vs69 (match r3 with | .region _ ops _=>ops | _=>#[]) os3 [15,14] = some (sosE 14 15 4 5):=by kernel_rfl
theorem cp11:compOps TP knT 43 vs69 (match r11 with | .region _ ops _=>ops | _=>#[]) os11 [31,30] = some (sosE 30 31 7 8):=by kernel_rfl
theorem splice_all{α:Type}:∀ {c x:List α},c.length = x.length→splice c 0 x = some x
 | [],[],_=>rfl
 | [],_::_,h=>by simp at h
 | _::_,[],h=>by simp at h
 | _::c,b::x,h=>by
  rw[splice,splice_all (by simpa using h)]
  rfl
theorem ops_of{sos:List SO}{e:Fr}{H:List Obj}{r:St}(h:WO X0 Gam sos e H fun e' H'=>(⟨e'.env,H'⟩:St) = r):evOps X0 Gam sos e H = some r:=by
 rw[← WO_evOps (K:=fun s=>s = r)]at h
 cases hc:evOps X0 Gam sos e H with
 | none=>rw[hc]at h; exact h.elim
 | some r=>rw[hc]at h; exact congrArg some h
theorem exec_of{c:SCode}{s:St}{x:SExit}{r:St}(h:W X0 Gam c s fun x' s'=>x' = x∧s' = r):exec X0 Gam c s = some (x,r):=by
 unfold W at h
 cases hc:exec X0 Gam c s with
 | none=>rw[hc]at h; exact h.elim
 | some q=>rw[hc]at h; obtain⟨h1,h2⟩:=h; rw[← h1,← h2]
section
variable{e:E}{env:Env}
theorem len_exC{x:List Nat}:(exC x).length = x.length:=by simp[exC]
theorem rest3(he:e.Ok):evOps X0 Gam (sosE 14 15 4 5) ⟨[(15,e.av),(14,.agg (exC e.x))],env⟩ [] = some ⟨upd (upd env 4 (.ptr 0 0)) 5 (.ptr 1 0),[.cells (exC e.x),.cells [.p (.v (.bool e.b)),.p e.m]]⟩:=by
 have hl:(exC e.x).length = 32:=by rw[len_exC,he.len]
 have hs:splice zero32 0 (exC e.x) = some (exC e.x):=splice_all (by simp[zero32,exC,he.len])
 refine ops_of ?_
 simp[sosE,EV,evOp,E.av,hl,hs,splice]
def env1(m b:Nat):Env:=[(0,.p (.v (.map (some m)))),(10,.p (.v (.pointer (some ⟨b,0,none⟩))))]
theorem isZ(he:e.Ok):lenOf (.p e.m) = some (match e.m with | .sl r=>r.length | _=>0):=by
 rcases he.mag with h | ⟨rows,h,_⟩ <;> rw[h] <;> rfl
theorem zLen(he:e.Ok):decide (((match e.m with | .sl r=>r.length | _=>0:Nat):Int) = 0) = e.z:=by
 rcases he.mag with h | ⟨rows,h,_⟩
 ·rw[h]; simp[E.z,h]
 ·rw[h]; cases rows <;> simp[E.z,h]; omega
theorem walk4(he:e.Ok){m b:Nat}:exec X0 Gam s4 ⟨upd (upd (env1 m b) 4 (.ptr 0 0)) 5 (.ptr 1 0),[.cells (exC e.x),.cells [.p (.v (.bool e.b)),.p e.m]]⟩ =
  some (.normal,⟨upd (upd (upd (env1 m b) 4 (.ptr 0 0)) 5 (.ptr 1 0)) 19 (.p (.v (.bool e.z))),[.cells (exC e.x),.cells [.p (.v (.bool e.b)),.p e.m]]⟩):=by
 refine exec_of ?_
 simp[s4,EV,evOp,env1,isZ he,← zLen he]
end
end Go.Proofs.YtchgldaddcolhaaGreatDoor
namespace Go.Proofs.YtchgldaddcolhaaGreatDoor
set_option maxRecDepth 100000
open Go
variable[Sub]
def unseen(seen:Array Nat)(ents:Array MapEntry):Nat:=(ents.toList.filter fun me=>!seen.contains me.born).length
theorem filter_len_lt{α:Type}{p q:α→Bool}:∀ {l:List α} (_:∀ x ∈ l,q x = true→p x = true) {y:α},y ∈ l→p y = true→q y = false→(l.filter q).length < (l.filter p).length
 | [],_,y,hy,_,_=>by cases hy
 | x::l,h,y,hy,h1,h2=>by
  have hle:(l.filter q).length ≤ (l.filter p).length:=by
   have:∀ (l:List α),(∀ x ∈ l,q x = true→p x = true)→(l.filter q).length ≤ (l.filter p).length:=by
    intro l
    induction l with
    | nil=>intro _; simp
    | cons x l ih =>
     intro h
     have:=ih fun x hx=>h x (by simp[hx])
     have hx:=h x (by simp)
     simp only[List.filter_cons]
     cases hq:q x <;> cases hp:p x <;> simp_all <;> omega
   exact this l fun x hx=>h x (by simp[hx])
  rcases List.mem_cons.1 hy with rfl | hy
  ·simp only[List.filter_cons,h1,h2,if_true,Bool.false_eq_true,if_false,List.length_cons]; omega
  ·have:=filter_len_lt (fun x hx=>h x (by simp[hx])) hy h1 h2
   have hx:=h x (by simp)
   simp only[List.filter_cons]
   cases hq:q x <;> cases hp:p x <;> simp_all <;> omega
theorem unseen_lt{seen:Array Nat}{ents:Array MapEntry}{me:MapEntry}(h:me ∈ ents.toList)(hs:seen.contains me.born = false):unseen (seen.push me.born) ents < unseen seen ents:=by
 refine filter_len_lt (fun x _ hx=>?_) h (by rw[hs]; rfl) ?_
 ·simp at hx ⊢; exact hx.1
 ·simp
theorem unseen_erase{seen:Array Nat}{ents:Array MapEntry}{j:Nat}:unseen seen (ents.eraseIdxIfInBounds j) ≤ unseen seen ents:=by
 refine List.Sublist.length_le (List.Sublist.filter _ ?_)
 rw[Array.eraseIdxIfInBounds]
 split
 ·rw[Array.toList_eraseIdx]; exact List.eraseIdx_sublist ..
 ·exact List.Sublist.refl _
def J1(m ck b:Nat)(w0:World)(g0:Gh)(es0:List E)(n:Nat)(a:Act)(w:World):Prop :=
 ∃ g ents seen es,BW TP m w0 g0 43 vs69 ents ck a w g ⟨env1 m b,[]⟩∧IW m w0 b ck seen w g []∧EntsR w g ents es∧(∀ e ∈ es,E.Ok e)∧Distinct es∧es.filter E.nz = es0.filter E.nz ∧
  (∀ (i:Nat) (me:MapEntry) (e:E),ents[i]? = some me→es[i]? = some e→seen.contains me.born = true→e.nz = true)∧n = unseen seen ents
def P1(m ck:Nat)(w0:World)(g0:Gh)(es0:List E)(a:Act)(w:World):Prop :=
 ∃ g ents,BW TP m w0 g0 43 vs69 ents ck a w g ⟨[(0,.p (.v (.map (some m))))],[]⟩∧EntsR w g ents (es0.filter E.nz)
theorem born_inj{ents:Array MapEntry}{ck i j:Nat}{x y:MapEntry}(hb:BornOk ents ck)(h1:ents[i]? = some x)(h2:ents[j]? = some y)(h:x.born = y.born):i = j:=by
 have hi:i < ents.toList.length:=by simpa using (Array.getElem?_eq_some_iff.1 h1).1
 have hj:j < ents.toList.length:=by simpa using (Array.getElem?_eq_some_iff.1 h2).1
 have e1:ents.toList[i] = x:=by have:=(Array.getElem?_eq_some_iff.1 h1).2; simpa using this
 have e2:ents.toList[j] = y:=by have:=(Array.getElem?_eq_some_iff.1 h2).2; simpa using this
 have hp:=List.pairwise_iff_getElem.1 hb.1
 rcases Nat.lt_trichotomy i j with hlt | he | hlt
 ·have:=hp i j hi hj hlt; rw[e1,e2]at this; omega
 ·exact he
 ·have:=hp j i hj hi hlt; rw[e1,e2]at this; omega
theorem bornOk_erase{ents:Array MapEntry}{ck j:Nat}(hb:BornOk ents ck):BornOk (ents.eraseIdxIfInBounds j) ck:=by
 have hs:(ents.eraseIdxIfInBounds j).toList.Sublist ents.toList:=by
  rw[Array.eraseIdxIfInBounds]
  split
  ·rw[Array.toList_eraseIdx]; exact List.eraseIdx_sublist ..
  ·exact List.Sublist.refl _
 exact⟨hb.1.sublist hs,fun e he=>hb.2 e (hs.subset he)⟩
theorem filter_eraseIdx{α:Type}{p:α→Bool}:∀ {l:List α} {j:Nat} {x:α},l[j]? = some x→p x = false→(l.eraseIdx j).filter p = l.filter p
 | [],j,x,h,_=>by simp at h
 | y::l,0,x,h,hp=>by simp at h; subst h; simp[hp]
 | y::l,j + 1,x,h,hp=>by
  simp only[List.eraseIdx_cons_succ,List.filter_cons]
  rw[filter_eraseIdx (by simpa using h) hp]
theorem loads:sizeT TP 232 = some 32:=by kernel_rfl
def body1:Code:=.seq r2 (.seq (.cond (.tmp 12) .skip (.exit 0)) (.block 1 (.seq r3 (.seq r4 (.cond (.tmp 19) r5 .skip)))))
theorem agg_kv{w:World}{g:Gh}{H:List Obj}{c:Value}{x:List Nat}(h:Rep w g H c (.agg (exC x))):c = .agg (x.map fun (n:Nat)=>Value.int .u8 n).toArray:=by
 cases h with
 | agg ha h1 hra =>
  congr 1
  apply Array.ext
  ·rw[ha]; simp[exC]
  ·intro i h1 h2
   have:=hra i _ (.p (.v (I .u8 (x[i]'(by simpa using h2):Nat)))) (Array.getElem?_eq_getElem h1) (by simp[exC]; exact⟨_,List.getElem?_eq_getElem (by simpa using h2),rfl⟩)
   simpa using this.val.1
theorem mixed:TP.follows .mixedOrders = true:=Checked.mixed Tryz.checked
theorem parts0:(∀ f args H r,call X0 Gam f args H = some r→CallSim TP knT f args H r)∧(∀ c s r,exec X0 Gam c s = some r→ExecM TP knT c s r)∧(∀ ops e H r,evOps X0 Gam ops e H = some r→OpsM TP knT ops e H r) :=
 parts_sound mixed (fun _ _ _ _ h=>by cases h) Gam_ok
section
variable{m ck b:Nat}{w0:World}{g0:Gh}{es0:List E}
theorem fr1:FrOk vs69 ⟨[],env1 m b⟩:=⟨fun n v h=>(by cases h),fun n v h=>by
 simp only[env1,lk]at h
 split at h
 ·rename_i e; subst e; simp[vs69]
 ·split at h
  ·rename_i e; subst e; simp[vs69]
  ·cases h⟩
theorem er1{a a':Act}{w w':World}{g g':Gh}(h:EnvRel w g [] a.tmps ⟨[],env1 m b⟩)(h0:a'.tmps.getD 0 undef = a.tmps.getD 0 undef)(h1:a'.tmps.getD 10 undef = a.tmps.getD 10 undef)(hgl:GlobOk w' g'):EnvRel w' g' [] a'.tmps ⟨[],env1 m b⟩:=by
 refine⟨fun n v h=>(by cases h),fun n v hv=>?_,hgl⟩
 have h2:=h.env n v hv
 simp only[env1,lk]at hv
 split at hv
 ·rename_i e; subst e; cases hv; rw[h0,h2.val.1]; exact .p (.v rfl)
 ·split at hv
  ·rename_i e; subst e; cases hv; rw[h1,h2.val.1]; exact .p (.v rfl)
  ·cases hv
theorem round1 (hcd:g0.cd = CD TP knT) {Q:Exit→Act→World→Prop} (hQ:∀ a w,P1 m ck w0 g0 es0 a w→Q .normal a w) (n:Nat) (a:Act) (w:World) (hj:J1 m ck b w0 g0 es0 n a w) :
  body1.wpIn (FR none) 0 TP (Exit.then (fun a' w'=>∃ n',n' < n∧J1 m ck b w0 g0 es0 n' a' w') (Exit.inBlock 0 Q)) a w:=by
 obtain⟨g,ents,seen,es,hb,hi,hr,hok,hds,hfl,hsn,rfl⟩:=hj
 have hmw:=hb.mw hi (it:=10) rfl
 refine wpIn_seq (roundA hmw (by decide) (by decide) (by decide) (by decide) (fun a' w' hall hw hrep h12 hoth=>?_) (fun a' w' me hme hns hw hrep h12 hoth=>?_))
 ·
  show Code.wpIn _ _ _ _ _ _ _
  refine wpIn_seq (wpIn_cond_false h12 (wpIn_exit ?_))
  show Q .normal a' w'
  refine hQ a' w' ⟨g,ents,?_,?_⟩
  ·have h1:=hw.bw (er1 (w':=w') (g':=g) hb.env (hoth 0 (by decide) (by decide)) (hoth 10 (by decide) (by decide)) hw.far.st.glob) (fr1 (m:=m) (b:=b))
   exact h1.drop fun t v hv=>by
    simp only[lk]at hv
    split at hv
    ·rename_i e; subst e; cases hv; exact⟨by simp[vs69],by rw[(h1.env.env 0 _ rfl).val.1]; exact .p (.v rfl)⟩
    ·cases hv
  ·have:es.filter E.nz = es:=List.filter_eq_self.2 fun e he=>by
    obtain⟨i,hil,rfl⟩:=List.getElem_of_mem he
    have hil':i < ents.size:=by rw[hr.1]; exact hil
    exact hsn i ents[i] _ (by simp[hil']) (by simp[hil]) (hall _ (by simp))
   rw[← hfl,this]
   exact⟨hr.1,fun i me e h1 h2=>⟨(hr.2 i me e h1 h2).1,hrep _ _ _ (hr.2 i me e h1 h2).2⟩⟩
 ·
  show Code.wpIn _ _ _ _ _ _ _
  have hr':EntsR w' g ents es:=⟨hr.1,fun i me e h1 h2=>⟨(hr.2 i me e h1 h2).1,hrep _ _ _ (hr.2 i me e h1 h2).2⟩⟩
  have henv:=er1 (w':=w') (g':=g) hb.env (hoth 0 (by decide) (by decide)) (hoth 10 (by decide) (by decide)) hw.far.st.glob
  have hb':=hw.bw henv (fr1 (m:=m) (b:=b))
  have hi':=hw.iw
  obtain⟨j,e,hj1,hj2,hkey,hval⟩:=hr'.get hme
  have heok:=hok e (List.mem_of_getElem? hj2)
  refine wpIn_seq (wpIn_cond_true h12 (wpIn_skip ?_))
  show Code.wpIn _ _ _ _ _ _ _
  refine wpIn_block (wpIn_seq (roundB (os:=os3) hw hme (by decide) (by decide) (by decide) (by decide) (by decide) (by decide) (by decide) (by decide) (by decide) (by decide) (by rw[hkey]; exact kv_rep e.x) hval henv fr1 hcd cp3 (parts0.2.2 _ _ _ _ (rest3 heok)) fun a2 w2 g2 v2 s2 n2 f2 d2 z2=>?_))
  show Code.wpIn _ _ _ _ _ _ _
  have hb2:=hb'.evo (a':=a2) v2 s2 z2 (by rw[d2]; exact hb'.dfr.evo v2) n2 f2
  have hi2:=hi'.evo v2
  have hr2:=hr'.evo v2
  refine wpIn_seq (hb2.code hcd cp4 (parts0.2.1 _ _ _ (walk4 heok)) fun e3 a3 w3 g3 x3 v3 hb3=>?_)
  have he3:e3 = .normal:=by cases e3 <;> first | rfl | exact x3.elim
  subst he3
  show Code.wpIn _ _ _ _ _ _ _
  have hi3:=hi2.evo v3
  have hr3:=hr2.evo v3
  have h19:a3.eval (.tmp 19) = .bool e.z:=(hb3.env.env 19 _ rfl).val.1
  have h0:a3.tmps.getD 0 undef = .map (some m):=(hb3.env.env 0 _ rfl).val.1
  have h10:a3.tmps.getD 10 undef = .pointer (some ⟨b,0,none⟩):=(hb3.env.env 10 _ rfl).val.1
  have hdrop:∀ {a4:Act} {w4:World} {ents4:Array MapEntry} {H4:List Obj} {env4:Env},BW TP m w0 g0 43 vs69 ents4 ck a4 w4 g3 ⟨env4,H4⟩→a4.tmps.getD 0 undef = .map (some m)→a4.tmps.getD 10 undef = .pointer (some ⟨b,0,none⟩)→BW TP m w0 g0 43 vs69 ents4 ck a4 w4 g3 ⟨env1 m b,[]⟩:=fun h hx hy=>h.drop fun t v hv=>by
   simp only[env1,lk]at hv
   split at hv
   ·rename_i e; subst e; cases hv; exact⟨by simp[vs69],by rw[hx]; exact .p (.v rfl)⟩
   ·split at hv
    ·rename_i e; subst e; cases hv; exact⟨by simp[vs69],by rw[hy]; exact .p (.v rfl)⟩
    ·cases hv
  have hlt:=unseen_lt hme hns
  cases hz:e.z with
  | false =>
   rw[hz]at h19
   refine wpIn_cond_false h19 (wpIn_skip ?_)
   refine⟨_,hlt,g3,ents,seen.push me.born,es,hdrop hb3 h0 h10,hi3.drop,hr3,hok,hds,hfl,fun i me' e' h1 h2 h3=>?_,rfl⟩
   by_cases hs:seen.contains me'.born = true
   ·exact hsn i me' e' h1 h2 hs
   ·have hbe:me'.born = me.born:=by
     simp at h3 hs
     exact h3.resolve_left hs
    have hij:=born_inj hb.bo h1 hj1 hbe
    subst hij
    rw[hj2]at h2
    cases h2
    simp[E.nz,hz]
  | true =>
   rw[hz]at h19
   refine wpIn_cond_true h19 ?_
   have hsz3:a3.tmps.size = 43:=hb3.size
   have hd128:∃ d,TP.underlying 232 = some d∧aggT d = true:=by
    rcases und128 with h | h
    ·exact⟨_,h,rfl⟩
    ·exact h
   obtain⟨d,hd1,hd2⟩:=hd128
   obtain⟨ti,hti,hti2⟩:=size_some loads
   refine wpIn_region ?_
   show wpOpsIn (FR none) 0 TP _ _ [0,1,2] a3 w3
   refine ops_run (cv:=.map (some m)) (w':=w3) rfl rfl (fun c hc=>by cases hc) (.inl (by simp[execOp,eval_tmp,h0])) ?_
   have hld:∀ dst ty pos after gd,RunV TP (a3.put (some 20) (.map (some m))) w3 g3 [.cells (exC e.x),.cells [.p (.v (.bool e.b)),.p e.m]] ⟨dst,.load 232 (.tmp 4),ty,pos,after,gd⟩ (.agg (exC e.x)):=fun dst ty pos after gd=>by
    refine run_loadn (u:=.ptr 0 0) hb3.far.st hd1 hd2 hti ?_ ?_
    ·rw[eval_tmp,getD_put (by rw[hsz3]; decide),if_neg (by decide)]
     exact hb3.env.env 4 _ rfl
    ·rw[hti2]
     have:(exC e.x).length = 32:=by rw[len_exC,heok.len]
     simp[loadC,this]
     exact List.take_of_length_le (by omega)
   obtain⟨cv,hc1,hc2⟩:=hld (some 21) 232 "multipoly.go:139" #[] none
   have hcv:cv = e.kv:=agg_kv hc2
   subst hcv
   refine ops_run (cv:=e.kv) (w':=w3) rfl rfl (fun c hc=>by cases hc) (.inl hc1) ?_
   have hdel:=run_delete (w:=w3) hb3.mp hr3 hok hds hj2
   have hrun:∀ dst pos after gd,(execOp ((a3.put (some 20) (.map (some m))).put (some 21) e.kv).eval ⟨dst,.call ⟨.builtin .delete,#[.tmp 20,.tmp 21],#[230,232]⟩,0,pos,after,gd⟩).run TP w3 = .ok (.value (.tuple #[])) { w3 with heap:=w3.heap.setIfInBounds m (.map (ents.eraseIdxIfInBounds j) ck) }:=fun dst pos after gd=>by
    have e1:((a3.put (some 20) (.map (some m))).put (some 21) e.kv).eval (.tmp 20) = .map (some m):=by
     rw[eval_tmp,getD_put (by rw[put_size,hsz3]; decide),if_neg (by decide),getD_put (by rw[hsz3]; decide),if_pos rfl]
    have e2:((a3.put (some 20) (.map (some m))).put (some 21) e.kv).eval (.tmp 21) = e.kv:=by
     rw[eval_tmp,getD_put (by rw[put_size,hsz3]; decide),if_pos rfl]
    simp[execOp,resolve,e1,e2,Go.invoke,Go.builtin,hdel]
   refine ops_run (cv:=.tuple #[]) rfl rfl (fun c hc=>by cases hc) (.inl (hrun _ _ _ _)) ?_
   obtain⟨t1,t2⟩:=hb3.turn (bornOk_erase (j:=j) hb3.bo)
   have hget:∀ t,t ≠ 20→t ≠ 21→(((a3.put (some 20) (.map (some m))).put (some 21) e.kv).put none (.tuple #[])).tmps.getD t undef = a3.tmps.getD t undef:=fun t ht1 ht2=>by
    show ((a3.put (some 20) (.map (some m))).put (some 21) e.kv).tmps.getD t undef = _
    rw[getD_put (by rw[put_size,hsz3]; decide),if_neg (Ne.symm ht2),getD_put (by rw[hsz3]; decide),if_neg (Ne.symm ht1)]
   have t3:=t1.act (a':=((a3.put (some 20) (.map (some m))).put (some 21) e.kv).put none (.tuple #[])) (by
    show ((a3.put (some 20) (.map (some m))).put (some 21) e.kv).tmps.size = 43
    rw[put_size,put_size,hsz3]) rfl (fun t ht=>hget t (fun e=>by subst e; simp[vs69]at ht) (fun e=>by subst e; simp[vs69]at ht))
   have hjl:j < es.length:=(List.getElem?_eq_some_iff.1 hj2).1
   refine⟨_,?_,g3,ents.eraseIdxIfInBounds j,seen.push me.born,es.eraseIdx j,hdrop t3 ((hget 0 (by decide) (by decide)).trans h0) ((hget 10 (by decide) (by decide)).trans h10),(t2 b _ hi3).drop,
    (hr3.erase hjl).same (fun _ _ h=>h) (fun c i hD=>cellAt_heap (by
     have hcm:m ≠ c:=fun e=>hb3.noDm i (e ▸ hD)
     show (w3.heap.setIfInBounds m _)[c]? = w3.heap[c]?
     rw[Array.getElem?_setIfInBounds,if_neg hcm]) i),fun x hx=>hok x ((List.eraseIdx_sublist ..).subset hx),hds.sublist (List.eraseIdx_sublist ..),?_,?_,rfl⟩
   ·exact Nat.lt_of_le_of_lt unseen_erase hlt
   ·rw[filter_eraseIdx hj2 (by simp[E.nz,hz])]; exact hfl
   ·intro i me' e' h1 h2 h3
    have hje:j < ents.size:=by rw[hr.1]; exact hjl
    rw[Array.eraseIdxIfInBounds,dif_pos hje,Array.getElem?_eraseIdx]at h1
    rw[List.getElem?_eraseIdx]at h2
    have go:∀ i',ents[i']? = some me'→es[i']? = some e'→i' ≠ j→e'.nz = true:=fun i' k1 k2 k3=>by
     by_cases hs:seen.contains me'.born = true
     ·exact hsn i' me' e' k1 k2 hs
     ·have hbe:me'.born = me.born:=by
       simp at h3 hs
       exact h3.resolve_left hs
      exact absurd (born_inj hb.bo k1 hj1 hbe) k3
    split at h1
    ·rename_i hl; rw[if_pos hl]at h2; exact go i h1 h2 (by omega)
    ·rename_i hl; rw[if_neg hl]at h2; exact go (i + 1) h1 h2 (by omega)
end
end Go.Proofs.YtchgldaddcolhaaGreatDoor
namespace Go.Proofs.YtchgldaddcolhaaGreatDoor
set_option maxRecDepth 100000
open Go
theorem P115{b:Bool}{rows:List (List PV)}{H H1:List Obj}{K:AV→List Obj→Prop}(h:Limbs rows):WP X0 Gam 204 false [.agg [.p (.v (.bool b)),.p (.sl rows)]] H H1 K↔K (.agg [.p (.v (.bool b)),.p (.sl rows)]) H1:=WP_slice (number_pf h) rfl
theorem P116{x:List Nat}{H H1:List Obj}{K:AV→List Obj→Prop}(hl:x.length = 32)(hb:∀ n ∈ x,n < 256):WP X0 Gam 205 false [.agg (exC x)] H H1 K↔K (.p (.sl (exRows (trim x)))) H1:=WP_slice (list_pf hl hb) rfl
section
variable{e:E}
theorem nz_limbs(he:e.Ok)(hn:e.nz = true):∃ rows,e.m = .sl rows∧Limbs rows:=by
 rcases he.mag with h | ⟨rows,h,h1,h2⟩
 ·simp[E.nz,E.z,h]at hn
 ·refine⟨rows,h,?_,h1,h2⟩
  intro h0
  simp[E.nz,E.z,h,h0]at hn
def env2(m b:Nat)(out:AV):Env:=[(0,.p (.v (.map (some m)))),(26,.p (.v (.pointer (some ⟨b,0,none⟩)))),(6,out)]
theorem canons_ex:∀ {H:List Obj} {x:List Nat},canons H (exC x) = some (exC x)
 | _,[]=>rfl
 | H,n::x=>by
  have:=canons_ex (H:=H) (x:=x)
  simp only[exC,List.map_cons]at this ⊢
  rw[canons,this]
  rfl
theorem refsL_ex:∀ {x:List Nat},refsL (exC x) = []
 | []=>rfl
 | n::x=>by
  have:=refsL_ex (x:=x)
  simp only[exC,List.map_cons]at this ⊢
  rw[refsL,this]
  rfl
theorem arsOf_ex:∀ {x:List Nat},arsOf (exC x) = []
 | []=>rfl
 | n::x=>by
  have:=arsOf_ex (x:=x)
  simp only[exC,List.map_cons]at this ⊢
  rw[arsOf,this]
  rfl
theorem ars_agg{x:List Nat}:arsOf [.agg (exC x)] = []:=by rw[arsOf,arsOf,arsA,arsOf_ex]; rfl
theorem walk12a(he:e.Ok)(hn:e.nz = true){m b:Nat}:exec X0 Gam s12 ⟨upd (upd (env2 m b (.lit [])) 7 (.ptr 0 0)) 8 (.ptr 1 0),[.cells (exC e.x),.cells [.p (.v (.bool e.b)),.p e.m]]⟩ =
  some (.normal,⟨upd (upd (env2 m b (.ar 2 0 0 1)) 7 (.ptr 0 0)) 8 (.ptr 1 0),[.cells (exC e.x),.cells [.p (.v (.bool e.b)),.p e.m],.arr 3 none 0 [e.row]]⟩):=by
 refine exec_of ?_
 obtain⟨rows,hm,hli⟩:=nz_limbs he hn
 have hl:(exC e.x).length = 32:=by rw[len_exC,he.len]
 have htk:List.take 32 (exC e.x) = exC e.x:=List.take_of_length_le (by omega)
 have hap:appendV [.cells (exC e.x),.cells [.p (.v (.bool e.b)),.p e.m]] 56 3 (.lit []) (.lit [e.row]) = some (.ar 2 0 0 1,[.cells (exC e.x),.cells [.p (.v (.bool e.b)),.p e.m],.arr 3 none 0 [e.row]]):=by
  simp[appendV,isN_ar,isN_ll,isN_lp,rowsOf,E.row]
 rw[E.row,hm]at hap
 rw[E.row,hm]
 simp[s12,EV,evOp,env2,C115,C116,hl]
 rw[P115 hli]
 simp[EV,evOp,env2,C115,C116,hl,htk,canons_ex,refsL_ex,refs,arsOf_ex,ars_agg,freeze]
 rw[P116 he.len he.u8]
 simp[EV,evOp,env2,hl,htk,canons_ex,refsL_ex,arsOf_ex,freeze,fill,splice,fillRows,partArs,toPVs,toPV,hap]
 rfl
theorem walk12b(he:e.Ok)(hn:e.nz = true){m b n ver:Nat}{rs:List (List PV)}(hrs:rs.length = n)(hn2:n < 2048)(hver:True):exec X0 Gam s12 ⟨upd (upd (env2 m b (.ar 0 ver 0 n)) 7 (.ptr 1 0)) 8 (.ptr 2 0),[.arr 3 none ver rs,.cells (exC e.x),.cells [.p (.v (.bool e.b)),.p e.m]]⟩ =
  some (.normal,⟨upd (upd (env2 m b (.ar 0 (ver + 1) 0 (n + 1))) 7 (.ptr 1 0)) 8 (.ptr 2 0),[.arr 3 none (ver + 1) (rs++[e.row]),.cells (exC e.x),.cells [.p (.v (.bool e.b)),.p e.m]]⟩):=by
 refine exec_of ?_
 obtain⟨rows,hm,hli⟩:=nz_limbs he hn
 have hl:(exC e.x).length = 32:=by rw[len_exC,he.len]
 have htk:List.take 32 (exC e.x) = exC e.x:=List.take_of_length_le (by omega)
 have hap:appendV [.arr 3 none ver rs,.cells (exC e.x),.cells [.p (.v (.bool e.b)),.p e.m]] 56 3 (.ar 0 ver 0 n) (.lit [e.row]) = some (.ar 0 (ver + 1) 0 (n + 1),[.arr 3 none (ver + 1) (rs++[e.row]),.cells (exC e.x),.cells [.p (.v (.bool e.b)),.p e.m]]):=by
  have h2:(n + 1) * 56 ≤ 140737488355328:=by omega
  simp only[appendV,isN_ar,isN_ll,isN_lp,Bool.false_eq_true,if_false,rowsOf,Option.bind_some,E.row,List.all_cons,List.all_nil,List.length_cons,List.length_nil,Nat.zero_add,beq_self_eq_true,Bool.and_self,if_true,List.getElem?_cons_zero,hrs,h2,and_self]
  simp
 rw[E.row,hm]at hap
 rw[E.row,hm]
 simp[s12,EV,evOp,env2,C115,C116,hl]
 rw[P115 hli]
 simp[EV,evOp,env2,C115,C116,hl,htk,canons_ex,refsL_ex,refs,arsOf_ex,ars_agg,freeze]
 rw[P116 he.len he.u8]
 simp[EV,evOp,env2,hl,htk,canons_ex,refsL_ex,arsOf_ex,freeze,fill,splice,fillRows,partArs,toPVs,toPV,hap]
 rfl
theorem rest11a(he:e.Ok){env:Env}:evOps X0 Gam (sosE 30 31 7 8) ⟨[(31,e.av),(30,.agg (exC e.x))],env⟩ [] = some ⟨upd (upd env 7 (.ptr 0 0)) 8 (.ptr 1 0),[.cells (exC e.x),.cells [.p (.v (.bool e.b)),.p e.m]]⟩:=by
 have hl:(exC e.x).length = 32:=by rw[len_exC,he.len]
 have hs:splice zero32 0 (exC e.x) = some (exC e.x):=splice_all (by simp[zero32,exC,he.len])
 refine ops_of ?_
 simp[sosE,EV,evOp,E.av,hl,hs,splice]
theorem rest11b(he:e.Ok){env:Env}{o:Obj}:evOps X0 Gam (sosE 30 31 7 8) ⟨[(31,e.av),(30,.agg (exC e.x))],env⟩ [o] = some ⟨upd (upd env 7 (.ptr 1 0)) 8 (.ptr 2 0),[o,.cells (exC e.x),.cells [.p (.v (.bool e.b)),.p e.m]]⟩:=by
 have hl:(exC e.x).length = 32:=by rw[len_exC,he.len]
 have hs:splice zero32 0 (exC e.x) = some (exC e.x):=splice_all (by simp[zero32,exC,he.len])
 refine ops_of ?_
 simp[sosE,EV,evOp,E.av,hl,hs,splice]
end
end Go.Proofs.YtchgldaddcolhaaGreatDoor
namespace Go.Proofs.YtchgldaddcolhaaGreatDoor
open Go
variable[Sub]
def Gh.only(g:Gh)(k:Nat):Gh:={ g with blk:=fun _=>g.blk k,base:=fun _=>g.base k,cap:=fun _=>g.cap k,kin:=fun _=>g.kin k }
section
variable{P:Program}{m nt ck k es ver:Nat}{vars:List Nat}{w0 w:World}{g0 g:Gh}{ents:Array MapEntry}{a:Act}{s:St}{env:Env}{H:List Obj}{rows:List (List PV)}
theorem only_own(hk:H[k]? = some (.arr es none ver rows)){b i:Nat}(h:OwnAny (g.only k) [.arr es none ver rows] b i):OwnAny g H b i:=by
 obtain⟨⟨l,hl,he⟩,hd⟩:=h
 exact⟨⟨k,(List.getElem?_eq_some_iff.1 hk).1,he⟩,hd⟩
theorem only_st(hk:H[k]? = some (.arr es none ver rows))(hs:StRel w g H):StRel w (g.only k) [.arr es none ver rows]:=by
 refine⟨fun l o hl=>?_,fun l j hl hj _ _ _=>?_,fun l o hl=>?_,hs.dom,fun l b _ he=>hs.ext k b (List.getElem?_eq_some_iff.1 hk).1 he,hs.glob⟩
 ·cases l with
  | zero =>
   simp at hl
   subst hl
   exact hs.objs k _ hk
  | succ l=>simp at hl
 ·simp at hl hj; omega
 ·cases l with
  | zero =>
   simp at hl
   subst hl
   exact hs.stand k _ hk
  | succ l=>simp at hl
theorem only_ar{c:Value}{v off n:Nat}(hk:H[k]? = some (.arr es none ver rows))(h:Rep w g H c (.ar k v off n)):Rep w (g.only k) [.arr es none ver rows] c (.ar 0 v off n):=by
 cases h with
 | ar h =>
  obtain⟨h1,h2,es',fz',ver',rows',hH,h3,h4,h5⟩:=h
  rw[hk]at hH
  cases hH
  exact .ar ⟨h1,h2,es,none,ver,rows,rfl,h3,h4,h5⟩
theorem BW.only(h:BW TP m w0 g0 nt vars ents ck a w g ⟨s.env,H⟩)(hk:H[k]? = some (.arr es none ver rows))(he:∀ t v,lk env t = some v→t ∈ vars∧Rep w (g.only k) [.arr es none ver rows] (a.tmps.getD t undef) v):BW TP m w0 g0 nt vars ents ck a w (g.only k) ⟨env,[.arr es none ver rows]⟩:=by
 refine⟨⟨h.far.D,h.far.cells,h.far.keep,fun b i ho=>h.far.own b i (only_own hk ho),h.far.newD,h.far.cd,only_st hk h.far.st⟩,h.size,?_,h.mp,fun i ho=>h.unm i (only_own hk ho),h.noDm,h.mlt,h.bo,⟨fun t v ht=>(by cases ht),fun t v ht=>(he t v ht).2,h.far.st.glob⟩,⟨fun t v ht=>(by cases ht),fun t v ht=>(he t v ht).1⟩⟩
 obtain⟨bs,h1,h2,h3⟩:=h.dfr
 exact⟨bs,h1,h2,fun c hc=>⟨(h3.1 c hc).1,(h3.1 c hc).2.1,fun i ho=>(h3.1 c hc).2.2 i (only_own hk ho)⟩,h3.2⟩
theorem IW.only{b:Nat}{seen:Array Nat}(h:IW m w0 b ck seen w g H)(hk:H[k]? = some (.arr es none ver rows)):IW m w0 b ck seen w (g.only k) [.arr es none ver rows]:=⟨h.iter,fun i ho=>h.unb i (only_own hk ho),h.noDb,h.bge⟩
theorem EntsR.only{es':List E}(h:EntsR w g ents es'):EntsR w (g.only k) ents es':=h.same (fun _ _ h=>h) (fun _ _ _=>rfl)
end
theorem filter_push{p:MapEntry×E→Bool}{seen:Array Nat}{me:MapEntry}{e:E}:∀ {l:List (MapEntry×E)},l.Pairwise (fun a b=>a.1.born ≠ b.1.born)→(me,e) ∈ l→seen.contains me.born = false →
  (l.filter fun x=>!seen.contains x.1.born).Perm ((me,e)::l.filter fun x=>!(seen.push me.born).contains x.1.born)
 | [],_,h,_=>by cases h
 | y::l,hp,h,hs=>by
  rw[List.pairwise_cons]at hp
  have hq:∀ x:MapEntry×E,(seen.push me.born).contains x.1.born = (seen.contains x.1.born || x.1.born == me.born):=fun x=>by
   rw[Bool.eq_iff_iff]; simp
  simp only[List.filter_cons,hq]
  by_cases hy:y = (me,e)
  ·subst hy
   have hrest:(l.filter fun x=>!(seen.contains x.1.born || x.1.born == me.born)) = l.filter fun x=>!seen.contains x.1.born:=by
    refine List.filter_congr fun x hx=>?_
    have:(x.1.born == me.born) = false:=by simpa using Ne.symm (hp.1 x hx)
    rw[this,Bool.or_false]
   simp only[hs,hrest,Bool.not_false,if_true,beq_self_eq_true,Bool.or_true,Bool.not_true,Bool.false_eq_true,if_false]
   exact .refl _
  ·have hl:(me,e) ∈ l:=by
    rcases List.mem_cons.1 h with h | h
    ·exact absurd h.symm hy
    ·exact h
   have ih:=filter_push (p:=p) hp.2 hl hs
   simp only[hq]at ih
   have hne:(y.1.born == me.born) = false:=by simpa using hp.1 _ hl
   rw[hne,Bool.or_false]
   split
   ·exact (List.Perm.cons y ih).trans (List.Perm.swap ..)
   ·exact ih
def left(seen:Array Nat)(ents:Array MapEntry)(es:List E):List E:=((ents.toList.zip es).filter fun x=>!seen.contains x.1.born).map (·.2)
section
variable{w:World}{g:Gh}{ents:Array MapEntry}{es:List E}{seen:Array Nat}{ck:Nat}
theorem zip_pw(hb:BornOk ents ck):(ents.toList.zip es).Pairwise (fun a b=>a.1.born ≠ b.1.born):=by
 have:=hb.1
 rw[List.pairwise_iff_getElem]at this ⊢
 intro i j hi hj hij
 simp only[List.length_zip]at hi hj
 simp only[List.getElem_zip]
 have:=this i j (by omega) (by omega) hij
 omega
theorem left_push(hb:BornOk ents ck){j:Nat}{me:MapEntry}{e:E}(h1:ents[j]? = some me)(h2:es[j]? = some e)(hs:seen.contains me.born = false):(left seen ents es).Perm (e::left (seen.push me.born) ents es):=by
 have hm:(me,e) ∈ ents.toList.zip es:=by
  refine List.mem_of_getElem? (i:=j) ?_
  rw[List.getElem?_zip_eq_some]
  exact⟨by simpa using h1,h2⟩
 exact (filter_push (p:=fun _=>true) (zip_pw hb) hm hs).map (·.2)
theorem left_all(h:∀ me ∈ ents.toList,seen.contains me.born = true):left seen ents es = []:=by
 unfold left
 rw[List.map_eq_nil_iff,List.filter_eq_nil_iff]
 intro x hx
 simp[List.contains_iff_mem]at *
 have:=h x.1 (by have:=(List.of_mem_zip hx).1; simpa using this)
 exact this
theorem left_none(h:ents.size = es.length):left #[] ents es = es:=by
 unfold left
 rw[List.filter_eq_self.2 (by simp)]
 rw[List.map_snd_zip (by simp[h])]
end
end Go.Proofs.YtchgldaddcolhaaGreatDoor
namespace Go.Proofs.YtchgldaddcolhaaGreatDoor
set_option maxRecDepth 100000
open Go
variable[Sub]
def OutR(done:List E)(out:AV)(H:List Obj):Prop:=(done = []∧out = .lit []∧H = [])∨∃ ver,done ≠ []∧out = .ar 0 ver 0 done.length∧H = [.arr 3 none ver (done.map E.row)]
def J2(m ck b:Nat)(w0:World)(g0:Gh)(es:List E)(n:Nat)(a:Act)(w:World):Prop :=
 ∃ g ents seen done out H,BW TP m w0 g0 43 vs69 ents ck a w g ⟨env2 m b out,H⟩∧IW m w0 b ck seen w g H∧EntsR w g ents es∧(done++left seen ents es).Perm es∧OutR done out H∧n = unseen seen ents
def P2(m ck:Nat)(w0:World)(g0:Gh)(es:List E)(a:Act)(w:World):Prop :=
 ∃ g ents done out H,BW TP m w0 g0 43 vs69 ents ck a w g ⟨[(0,.p (.v (.map (some m)))),(6,out)],H⟩∧EntsR w g ents es∧done.Perm es∧OutR done out H
def body2:Code:=.seq r10 (.seq (.cond (.tmp 28) .skip (.exit 2)) (.block 3 (.seq r11 r12)))
section
variable{m ck b:Nat}{w0:World}{g0:Gh}{es:List E}
theorem fr2{out:AV}:FrOk vs69 ⟨[],env2 m b out⟩:=⟨fun n v h=>(by cases h),fun n v h=>by
 simp only[env2,lk]at h
 split at h
 ·rename_i e; subst e; simp[vs69]
 ·split at h
  ·rename_i e; subst e; simp[vs69]
  ·split at h
   ·rename_i e; subst e; simp[vs69]
   ·cases h⟩
theorem er2{a a':Act}{w w':World}{g:Gh}{H:List Obj}{out:AV}(h:EnvRel w g H a.tmps ⟨[],env2 m b out⟩)(hr:∀ c v,Rep w g H c v→Rep w' g H c v)(ht:∀ t ∈ vs69,t ≠ 28→a'.tmps.getD t undef = a.tmps.getD t undef)(hgl:GlobOk w' g):EnvRel w' g H a'.tmps ⟨[],env2 m b out⟩:=by
 refine⟨fun n v h=>(by cases h),fun n v hv=>?_,hgl⟩
 have h2:=h.env n v hv
 have h3:=fr2.env n v hv
 rw[ht n h3 (fun e=>by subst e; simp[env2,lk]at hv)]
 exact hr _ _ h2
theorem round2(hcd:g0.cd = CD TP knT)(hok:∀ e ∈ es,E.Ok e)(hnz:∀ e ∈ es,e.nz = true)(hlen:es.length ≤ 2048){Q:Exit→Act→World→Prop}(hQ:∀ a w,P2 m ck w0 g0 es a w→Q .normal a w)(n:Nat)(a:Act)(w:World)(hj:J2 m ck b w0 g0 es n a w) :
  body2.wpIn (FR none) 0 TP (Exit.then (fun a' w'=>∃ n',n' < n∧J2 m ck b w0 g0 es n' a' w') (Exit.inBlock 2 Q)) a w:=by
 obtain⟨g,ents,seen,done,out,H,hb,hi,hr,hpm,hout,rfl⟩:=hj
 have hmw:=hb.mw hi (it:=26) rfl
 have oth:∀ {a':Act},(∀ t,t ≠ 27→t ≠ 28→a'.tmps.getD t undef = a.tmps.getD t undef)→∀ t ∈ vs69,t ≠ 28→a'.tmps.getD t undef = a.tmps.getD t undef:=fun h t ht h28=>h t (fun e=>by subst e; simp[vs69]at ht) h28
 refine wpIn_seq (roundA hmw (by decide) (by decide) (by decide) (by decide) (fun a' w' hall hw hrep h12 hoth=>?_) (fun a' w' me hme hns hw hrep h12 hoth=>?_))
 ·
  show Code.wpIn _ _ _ _ _ _ _
  refine wpIn_seq (wpIn_cond_false h12 (wpIn_exit ?_))
  show Q .normal a' w'
  rw[left_all hall,List.append_nil]at hpm
  have h1:=hw.bw (er2 (w':=w') hb.env (hrep H) (oth hoth) hw.far.st.glob) (fr2 (m:=m) (b:=b))
  refine hQ a' w' ⟨g,ents,done,out,H,⟨h1.far,h1.size,h1.dfr,h1.mp,h1.unm,h1.noDm,h1.mlt,h1.bo,⟨fun t v ht=>(by cases ht),fun t v hv=>?_,h1.far.st.glob⟩,⟨fun t v ht=>(by cases ht),fun t v hv=>?_⟩⟩,⟨hr.1,fun i me e h1 h2=>⟨(hr.2 i me e h1 h2).1,hrep _ _ _ (hr.2 i me e h1 h2).2⟩⟩,hpm,hout⟩
  ·refine h1.env.env t v ?_
   simp only[lk]at hv
   simp only[env2,lk]
   split at hv
   ·rename_i e; rw[if_pos e]; exact hv
   ·rename_i e
    rw[if_neg e]
    split at hv
    ·rename_i e2; subst e2; simpa using hv
    ·cases hv
  ·simp only[lk]at hv
   split at hv
   ·rename_i e; subst e; simp[vs69]
   ·split at hv
    ·rename_i e; subst e; simp[vs69]
    ·cases hv
 ·
  show Code.wpIn _ _ _ _ _ _ _
  have hr':EntsR w' g ents es:=⟨hr.1,fun i me e h1 h2=>⟨(hr.2 i me e h1 h2).1,hrep _ _ _ (hr.2 i me e h1 h2).2⟩⟩
  have henv:=er2 (w':=w') hb.env (hrep H) (oth hoth) hw.far.st.glob
  have hb':=hw.bw henv (fr2 (m:=m) (b:=b))
  have hi':=hw.iw
  obtain⟨j,e,hj1,hj2,hkey,hval⟩:=hr'.get hme
  have heok:=hok e (List.mem_of_getElem? hj2)
  have henz:=hnz e (List.mem_of_getElem? hj2)
  have hlt:=unseen_lt hme hns
  have hpm':((done++[e])++left (seen.push me.born) ents es).Perm es:=by
   refine List.Perm.trans ?_ hpm
   rw[List.append_assoc]
   exact List.Perm.append_left done (left_push hb.bo hj1 hj2 hns).symm
  have hdl:done.length < 2048:=by
   have:=hpm'.length_eq
   simp at this
   omega
  refine wpIn_seq (wpIn_cond_true h12 (wpIn_skip ?_))
  show Code.wpIn _ _ _ _ _ _ _
  have hvH:Rep w' g H me.val e.av:=hval.bare (by
   unfold E.av
   simp[refs,refsL])
  have fin:∀ {env3:Env} {k ver:Nat} {H4:List Obj} {a4:Act} {w4:World} {g4:Gh},BW TP m w0 g0 43 vs69 ents ck a4 w4 g4 ⟨env3,H4⟩→IW m w0 b ck (seen.push me.born) w4 g4 H4→EntsR w4 g4 ents es →
    lk env3 0 = some (.p (.v (.map (some m))))→lk env3 26 = some (.p (.v (.pointer (some ⟨b,0,none⟩))))→lk env3 6 = some (.ar k ver 0 (done++[e]).length)→H4[k]? = some (.arr 3 none ver ((done++[e]).map E.row)) →
    ∃ n',n' < unseen seen ents∧J2 m ck b w0 g0 es n' a4 w4:=fun {env3 k ver H4 a4 w4 g4} q1 q2 q3 e0 e26 e6 hk=>by
   refine⟨_,hlt,g4.only k,ents,seen.push me.born,done++[e],.ar 0 ver 0 (done++[e]).length,_,BW.only (s:=⟨env3,H4⟩) q1 hk (fun t v hv=>?_),q2.only hk,q3.only,hpm',.inr ⟨ver,by simp,rfl,rfl⟩,rfl⟩
   refine⟨fr2.env t v hv,?_⟩
   simp only[env2,lk]at hv
   split at hv
   ·rename_i h; subst h; cases hv; rw[(q1.env.env 0 _ e0).val.1]; exact .p (.v rfl)
   ·split at hv
    ·rename_i h; subst h; cases hv; rw[(q1.env.env 26 _ e26).val.1]; exact .p (.v rfl)
    ·split at hv
     ·rename_i h; subst h; cases hv; exact only_ar hk (q1.env.env 6 _ e6)
     ·cases hv
  rcases hout with ⟨rfl,rfl,rfl⟩ | ⟨ver,hne,rfl,rfl⟩
  ·refine wpIn_block (wpIn_seq (roundB (os:=os11) hw hme (by decide) (by decide) (by decide) (by decide) (by decide) (by decide) (by decide) (by decide) (by decide) (by decide) (by rw[hkey]; exact kv_rep e.x) hvH henv fr2 hcd cp11 (parts0.2.2 _ _ _ _ (rest11a heok)) fun a2 w2 g2 v2 s2 n2 f2 d2 z2=>?_))
   show Code.wpIn _ _ _ _ _ _ _
   have hb2:=hb'.evo (a':=a2) v2 s2 z2 (by rw[d2]; exact hb'.dfr.evo v2) n2 f2
   refine (hb2.code hcd cp12 (parts0.2.1 _ _ _ (walk12a heok henz)) fun e3 a3 w3 g3 x3 v3 hb3=>?_)
   have he3:e3 = .normal:=by cases e3 <;> first | rfl | exact x3.elim
   subst he3
   exact fin (k:=2) (ver:=0) hb3 ((hi'.evo v2).evo v3) ((hr'.evo v2).evo v3) rfl rfl rfl rfl
  ·refine wpIn_block (wpIn_seq (roundB (os:=os11) hw hme (by decide) (by decide) (by decide) (by decide) (by decide) (by decide) (by decide) (by decide) (by decide) (by decide) (by rw[hkey]; exact kv_rep e.x) hvH henv fr2 hcd cp11 (parts0.2.2 _ _ _ _ (rest11b heok)) fun a2 w2 g2 v2 s2 n2 f2 d2 z2=>?_))
   show Code.wpIn _ _ _ _ _ _ _
   have hb2:=hb'.evo (a':=a2) v2 s2 z2 (by rw[d2]; exact hb'.dfr.evo v2) n2 f2
   refine (hb2.code hcd cp12 (parts0.2.1 _ _ _ (walk12b heok henz (n:=done.length) (by simp) hdl trivial)) fun e3 a3 w3 g3 x3 v3 hb3=>?_)
   have he3:e3 = .normal:=by cases e3 <;> first | rfl | exact x3.elim
   subst he3
   exact fin (k:=0) (ver:=ver + 1) hb3 ((hi'.evo v2).evo v3) ((hr'.evo v2).evo v3) rfl rfl (by rw[List.length_append]; rfl) (by rw[List.map_append]; rfl)
end
end Go.Proofs.YtchgldaddcolhaaGreatDoor
namespace Go.Proofs.YtchgldaddcolhaaGreatDoor
open Go Go.Sort
variable[Sub]
section
variable{w:World}{g:Gh}{H:List Obj}
theorem evo_grown:∀ (l:List Go.Obj) {w:World},StRel w g H→Evo w g H (grow w l.toArray) g H∧StRel (grow w l.toArray) g H
 | [],w,hs=>by
  rw[show ([]:List Go.Obj).toArray = #[] from rfl,grow_empty]
  exact⟨.refl _ _ _,hs⟩
 | o::l,w,hs=>by
  have e:grow w (o::l).toArray = grow (w.alloc o) l.toArray:=by
   rw[alloc_eq_grow,grow_grow]
   congr 1
   simp
  rw[e]
  have hp:Pushed w (w.alloc o) o:=⟨rfl,rfl,rfl,⟨rfl,Nat.le_refl _⟩⟩
  obtain⟨e1,s1⟩:=evo_push hp hs
  obtain⟨e2,s2⟩:=evo_grown l s1
  exact⟨e1.trans e2,s2⟩
theorem evo_sorted{α:Type}[Inhabited α]{l es ver n:Nat}{rows rows':List (List PV)}{enc:α→List Value}{d':Array α}(hs:StRel w g H)(hH:H[l]? = some (.arr es none ver rows))(hlen:rows'.length = rows.length)(hes:∀ r ∈ rows',r.length = es)(hd:d'.size = rows'.length)(hrep:∀ (i j:Nat) (row:List PV) (x:PV),rows'[i]? = some row→row[j]? = some x→∃ u,(enc d'[i]!)[j]? = some u∧RepP w g.D u x) :
  Evo w g H (putRowK enc es (Sort.ahead w n) (g.blk l) (g.base l) d') g (H.set l (.arr es none ver rows'))∧StRel (putRowK enc es (Sort.ahead w n) (g.blk l) (g.base l) d') g (H.set l (.arr es none ver rows')):=by
 obtain⟨h1,h2,⟨vs,e,h3,h4⟩,h5,h6⟩:=hs.objs _ _ hH
 have hll:l < H.length:=(List.getElem?_eq_some_iff.1 hH).1
 have hnoD:∀ i,¬ g.D (g.blk l) i:=hs.stand l _ hH
 generalize hw1:putRowK enc es (Sort.ahead w n) (g.blk l) (g.base l) d' = w1
 have hblk:w1.heap[g.blk l]? = some (.cells (putCells id (g.base l) (flatK enc es d') vs) e (0,0)):=by
  subst hw1
  simp only[putRowK,putRow,mapBlock,Array.getElem?_modify,if_true,heap_ahead,h3,Option.map_some,onCells]
 have hsz:(putCells id (g.base l) (flatK enc es d') vs).size = vs.size:=by simp[putCells]
 have ho:Only w w1 (g.blk l) g.D:=by
  refine⟨fun b hb=>?_,?_,?_,?_,?_,fun vs' e' f hv=>?_,fun h=>absurd h3 (h _ _ _)⟩
  ·subst hw1; simp[putRowK,putRow,mapBlock,Array.getElem?_modify,Ne.symm hb]
  ·subst hw1; simp[putRowK,putRow,mapBlock]
  ·subst hw1; rfl
  ·subst hw1; rfl
  ·subst hw1; exact⟨rfl,by show w.drawn ≤ w.drawn + n; omega⟩
  ·rw[h3]at hv
   cases hv
   exact⟨_,hblk,hsz,fun i hi=>absurd hi (hnoD i)⟩
 refine evo_obj (g':=g) (o':=.arr es none ver rows') (Q:=fun _=>False) hs hH rfl rfl rfl (fun b i=>by simp) ho (.store hH (List.getElem?_set_self hll) hlen rfl rfl rfl)
  (fun _=>⟨by rw[hlen]; exact h1,hes,⟨_,e,hblk,by rw[hsz]; exact h4⟩,fun i j row x hi hj=>?_,fun _ _ hf=>by cases hf⟩) hnoD
 obtain⟨u,hu,hr⟩:=hrep i j row x hi hj
 refine⟨u,?_,hr.mono (fun _ _ h=>h) ho.cells⟩
 have hil:i < rows'.length:=(List.getElem?_eq_some_iff.1 hi).1
 have hjl:j < es:=by rw[← hes row (List.mem_of_getElem? hi)]; exact (List.getElem?_eq_some_iff.1 hj).1
 have hfit:i * es + es ≤ rows'.length * es:=by
  have:=Nat.mul_le_mul_right es (show i + 1 ≤ rows'.length by omega); rwa [Nat.add_mul,Nat.one_mul]at this
 have hcap:rows'.length * es ≤ g.cap l * es:=Nat.mul_le_mul_right _ (by omega)
 have hk:g.base l + i * es + j < vs.size:=by omega
 have hF:(flatK enc es d').size = d'.size * es:=size_flatK ..
 have hdiv:(i * es + j) / es = i:=by rw[Nat.mul_comm,Nat.mul_add_div (by omega),Nat.div_eq_of_lt hjl]; omega
 have hmod:(i * es + j) % es = j:=by rw[Nat.mul_comm,Nat.mul_add_mod,Nat.mod_eq_of_lt hjl]
 rw[cellAt_cells hblk]
 have hg:=get_flatK enc es d' (i * es + j) (by rw[hd]; omega)
 rw[hdiv,hmod]at hg
 have hu':(enc d'[i]!)[j]! = u:=by
  rw[List.getElem!_eq_getElem?_getD,hu]; rfl
 simp only[putCells,Array.getElem?_mapIdx,Array.getElem?_eq_getElem hk,Option.map_some]
 rw[if_pos ⟨by omega,by rw[hF,hd]; omega⟩,show g.base l + i * es + j - g.base l = i * es + j by omega,hg,hu']
 rfl
end
end Go.Proofs.YtchgldaddcolhaaGreatDoor
namespace Go.Proofs.YtchgldaddcolhaaGreatDoor
open Go Go.Sort
theorem headD_getD{l:List Nat}:l.headD 0 = l.getD 0 0:=by cases l <;> rfl
theorem tail_getD{l:List Nat}{k:Nat}:l.tail.getD k 0 = l.getD (k + 1) 0:=by cases l <;> simp
theorem ordE_congr:∀ {n:Nat} {a b a' b':List Nat},(∀ k,a.getD k 0 = a'.getD k 0)→(∀ k,b.getD k 0 = b'.getD k 0)→ordE n a b = ordE n a' b'
 | 0,_,_,_,_,_,_=>rfl
 | n + 1,a,b,a',b',ha,hb=>by
  have h1:a.headD 0 = a'.headD 0:=by rw[headD_getD,headD_getD]; exact ha 0
  have h2:b.headD 0 = b'.headD 0:=by rw[headD_getD,headD_getD]; exact hb 0
  rw[ordE,ordE,h1,h2,ordE_congr (a':=a'.tail) (b':=b'.tail) (fun k=>by rw[tail_getD,tail_getD]; exact ha (k + 1)) (fun k=>by rw[tail_getD,tail_getD]; exact hb (k + 1))]
theorem ordE_nil:∀ {n:Nat},ordE n [] [] = 0
 | 0=>rfl
 | n + 1=>by simp[ordE,ordE_nil]
theorem ordE_pad:∀ {m n:Nat} {a b:List Nat},a.length ≤ m→b.length ≤ m→m ≤ n→ordE n a b = ordE m a b
 | 0,n,a,b,ha,hb,_=>by
  cases List.eq_nil_of_length_eq_zero (show a.length = 0 by omega)
  cases List.eq_nil_of_length_eq_zero (show b.length = 0 by omega)
  rw[ordE_nil]; rfl
 | m + 1,0,a,b,_,_,h=>by omega
 | m + 1,n + 1,a,b,ha,hb,h=>by
  rw[ordE,ordE,ordE_pad (m:=m) (n:=n) (by simp; omega) (by simp; omega) (by omega)]
theorem trim_getD:∀ {a:List Nat} {k:Nat},(trim a).getD k 0 = a.getD k 0
 | [],k=>rfl
 | x::a,k=>by
  have ih:∀ k,(trim a).getD k 0 = a.getD k 0:=fun k=>trim_getD
  rw[trim]
  split
  ·rename_i h0
   rw[h0]at ih
   split
   ·rename_i hx
    subst hx
    cases k with
    | zero=>rfl
    | succ k=>have:=ih k; simpa using this
   ·cases k with
    | zero=>rfl
    | succ k=>have:=ih k; simpa using this
  ·cases k with
   | zero=>rfl
   | succ k=>have:=ih k; simpa using this
theorem trim_len:∀ {a:List Nat},(trim a).length ≤ a.length
 | []=>by simp[trim]
 | x::a=>by
  have:=@trim_len a
  rw[trim]
  split
  ·split <;> simp
  ·simp; exact this
theorem cmp_eq{a b:List Nat}(ha:a.length = 32)(hb:b.length = 32):ordE (max (trim a).length (trim b).length) (trim a) (trim b) = ordE 32 a b:=by
 have h1:=@trim_len a
 have h2:=@trim_len b
 rw[← ordE_pad (n:=32) (by omega) (by omega) (by omega)]
 exact ordE_congr (fun k=>trim_getD) (fun k=>trim_getD)
theorem ordE_self:∀ {n:Nat} {a:List Nat},ordE n a a = 0
 | 0,_=>rfl
 | n + 1,a=>by rw[ordE,if_pos rfl,ordE_self]
theorem ordE_neg:∀ {n:Nat} {a b:List Nat},ordE n b a = -ordE n a b
 | 0,_,_=>rfl
 | n + 1,a,b=>by
  rw[ordE,ordE]
  by_cases h:a.headD 0 = b.headD 0
  ·rw[if_pos h,if_pos h.symm,ordE_neg]
  ·rw[if_neg h,if_neg (Ne.symm h)]
   by_cases h1:a.headD 0 < b.headD 0
   ·rw[if_pos h1,if_neg (by omega)]; rfl
   ·rw[if_neg h1,if_pos (by omega)]
theorem ordE_trans:∀ {n:Nat} {a b c:List Nat},(ordE n a b < 0→ordE n b c ≤ 0→ordE n a c < 0)∧(ordE n a b ≤ 0→ordE n b c < 0→ordE n a c < 0)∧(ordE n a b ≤ 0→ordE n b c ≤ 0→ordE n a c ≤ 0)
 | 0,_,_,_=>by simp[ordE]
 | n + 1,a,b,c=>by
  have ih:=@ordE_trans n a.tail b.tail c.tail
  rw[ordE,ordE,ordE]
  by_cases h1:a.headD 0 = b.headD 0
  ·by_cases h2:b.headD 0 = c.headD 0
   ·rw[if_pos h1,if_pos h2,if_pos (h1.trans h2)]; exact ih
   ·rw[if_pos h1,if_neg h2,h1,if_neg h2]
    split <;> refine⟨fun _ _=>?_,fun _ _=>?_,fun _ _=>?_⟩ <;> omega
  ·by_cases h2:b.headD 0 = c.headD 0
   ·rw[if_neg h1,if_pos h2,← h2,if_neg h1]
    split <;> refine⟨fun _ _=>?_,fun _ _=>?_,fun _ _=>?_⟩ <;> omega
   ·rw[if_neg h1,if_neg h2]
    split <;> split <;> split <;> (try split) <;> refine⟨fun _ _=>?_,fun _ _=>?_,fun _ _=>?_⟩ <;> omega
theorem ordE_zero:∀ {n:Nat} {a b:List Nat},a.length = n→b.length = n→ordE n a b = 0→a = b
 | 0,a,b,ha,hb,_=>by
  cases List.eq_nil_of_length_eq_zero ha
  cases List.eq_nil_of_length_eq_zero hb
  rfl
 | n + 1,x::a,y::b,ha,hb,h=>by
  rw[show ordE (n + 1) (x::a) (y::b) = if x = y then ordE n a b else if x < y then -1 else 1 from rfl]at h
  by_cases h1:x = y
  ·rw[if_pos h1]at h
   rw[h1,ordE_zero (by simpa using ha) (by simpa using hb) h]
  ·rw[if_neg h1]at h
   split at h <;> cases h
 | n + 1,[],_,ha,_,_=>by cases ha
 | n + 1,_::_,[],_,hb,_=>by cases hb
theorem ordE_swo{α:Type}(f:α→List Nat):SWO (fun x y:α=>decide (ordE 32 (f x) (f y) < 0)):=by
 refine⟨fun x=>by simp[ordE_self],fun x y z h1 h2=>?_,fun x y z h1 h2=>?_⟩
 ·simp only[decide_eq_true_eq]at *
  exact ordE_trans.1 h1 (by omega)
 ·simp only[decide_eq_false_iff_not,Int.not_lt]at *
  have h3:=@ordE_neg 32 (f x) (f y)
  have h4:=@ordE_neg 32 (f y) (f z)
  have h5:=@ordE_neg 32 (f x) (f z)
  have:=(@ordE_trans 32 (f z) (f y) (f x)).2.2 (by omega) (by omega)
  omega
end Go.Proofs.YtchgldaddcolhaaGreatDoor
namespace Go.Proofs.YtchgldaddcolhaaGreatDoor
set_option maxRecDepth 100000
open Go Go.Sort
variable[Sub]
theorem canon_int{H:List Obj}{r:AV}{x:Value}(h:canon H r = some (.p (.v x))):r = .p (.v x):=by
 cases r <;> simp[canon]at h
 ·exact congrArg _ h
theorem grown_of{w w':World}{g g':Gh}{H':List Obj}(h:Evo w g [] w' g' H'):∃ q os,w' = grow (w.drewN q) os:=by
 obtain⟨h1,h2,⟨h3,h3'⟩,h4,h5⟩:=h.keep
 refine⟨w'.drawn - w.drawn,w'.heap.extract w.heap.size w'.heap.size,?_⟩
 have hh:w'.heap = w.heap++w'.heap.extract w.heap.size w'.heap.size:=by
  apply Array.ext_getElem?
  intro b
  rw[Array.getElem?_append]
  split
  ·rename_i hb
   exact h.keep.same hb (no_own b)
  ·rename_i hb
   rw[Array.getElem?_extract]
   split
   ·congr 1; omega
   ·rw[Array.getElem?_eq_none (by omega)]
 have hd:w'.drawn = w.drawn + (w'.drawn - w.drawn):=by omega
 cases w
 cases w'
 simp only at h1 h2 h3 hh hd
 subst h1 h2 h3
 simp only[grow,World.drewN]
 congr 1
section
variable{w:World}{g:Gh}
theorem cmp_calls{e f:E}{W:World}{ce cf:Array Value}(hcd:g.cd = CD TP knT)(hs:StRel W g [])(he:E.Ok e)(hf:E.Ok f)(h1:Rep W g [] (.agg ce) (.agg [.p (.v (.bool e.b)),.p e.m,.p (.sl (exRows (trim e.x)))]))(h2:Rep W g [] (.agg cf) (.agg [.p (.v (.bool f.b)),.p f.m,.p (.sl (exRows (trim f.x)))])) :
  Calls TP 207 #[.agg ce,.agg cf] W fun r w'=>r = .returned (.int .i64 (ordE 32 e.x f.x))∧∃ q os,w' = grow (W.drewN q) os:=by
 have l1:=@trim_len e.x
 have l2:=@trim_len f.x
 have hpf:=cmp_pf (a:=trim e.x) (b:=trim f.x) (s1:=.v (.bool e.b)) (s2:=.v (.bool f.b)) (m1:=e.m) (m2:=f.m) (by rw[he.len]at l1; exact l1) (by rw[hf.len]at l2; exact l2)
 rw[cmp_eq he.len hf.len]at hpf
 unfold PF WF at hpf
 cases hc:call X0 Gam 207 [.agg [.p (.v (.bool e.b)),.p e.m,.p (.sl (exRows (trim e.x)))],.agg [.p (.v (.bool f.b)),.p f.m,.p (.sl (exRows (trim f.x)))]] [] with
 | none=>rw[hc]at hpf; exact hpf.elim
 | some r =>
  rw[hc]at hpf
  have hr:=canon_int hpf.1
  refine (parts0.1 _ _ _ _ hc W g #[.agg ce,.agg cf] hcd hs ⟨rfl,fun i c x a b=>?_⟩).mono fun en w' hq=>?_
  ·match i with
   | 0=>simp at a b; subst a; subst b; exact h1
   | 1=>simp at a b; subst a; subst b; exact h2
   | i + 2=>simp at a
  ·obtain⟨v,g',q1,q2,q3,q4⟩:=hq
   rw[hr]at q4
   have:=q4.val.1
   subst this
   exact⟨q1,grown_of q2⟩
theorem row_len{e:E}:e.row.length = 3:=rfl
theorem sort_call{done:List E}{ver:Nat}{c:Value}(hcd:g.cd = CD TP knT)(hs:StRel w g [.arr 3 none ver (done.map E.row)])(hok:∀ e ∈ done,E.Ok e)(hds:Distinct done)(hne:done ≠ [])(hlen:done.length ≤ 2048)(hr:Rep w g [.arr 3 none ver (done.map E.row)] c (.ar 0 ver 0 done.length)) :
  Calls TP 206 #[c,.func (.func 207) #[] #[]] w fun e w'=>e = .returned (.tuple #[])∧∃ so:List E,so.Perm done∧so.Pairwise (fun a b=>ordE 32 a.x b.x ≤ 0) ∧
   Evo w g [.arr 3 none ver (done.map E.row)] w' g [.arr 3 none ver (so.map E.row)]∧StRel w' g [.arr 3 none ver (so.map E.row)]:=by
 have hpos:0 < done.length:=List.length_pos_iff.2 hne
 letI:Inhabited (Fin done.length):=⟨⟨0,hpos⟩⟩
 obtain⟨o1,o2,⟨vs,ety,o3,o4⟩,o5,o6⟩:=hs.objs 0 _ rfl
 have hnoD:∀ i,¬ g.D (g.blk 0) i:=hs.stand 0 _ rfl
 have hblk:g.blk 0 < w.heap.size:=IsBlk.lt hs (by simp)
 obtain⟨cap,rfl⟩:∃ cap,c = .slice (some ⟨g.blk 0,g.base 0,none⟩) done.length cap:=by
  cases hr with
  | ar h =>
   obtain⟨_,_,es',fz',ver',rows',hH,_,_,hsn⟩:=h
   simp only[List.getElem?_cons_zero,Option.some.injEq,Obj.arr.injEq]at hH
   obtain⟨rfl,rfl,rfl,rfl⟩:=hH
   obtain⟨ha,_⟩:=(hsn (by simp[seen])).2.1 rfl rfl
   rw[ha]
   exact⟨_,rfl⟩
 have hcellj:∀ (i:Fin done.length) (j:Nat),j < 3→∃ u x,vs[g.base 0 + i * 3 + j]? = some u∧(done[i].row)[j]? = some x∧RepP w g.D u x:=fun i j hj=>by
  obtain⟨x,hx⟩:∃ x,(done[i].row)[j]? = some x:=⟨_,List.getElem?_eq_getElem (show j < done[i].row.length from hj)⟩
  obtain⟨u,hu,hru⟩:=o5 i j done[i].row x (by rw[List.getElem?_map]; exact congrArg (Option.map E.row) (List.getElem?_eq_getElem i.2)) hx
  rw[cellAt_cells o3]at hu
  exact⟨u,x,hu,hx,hru⟩
 let enc:Fin done.length→List Value:=fun i=>[vs.getD (g.base 0 + i * 3 + 0) undef,vs.getD (g.base 0 + i * 3 + 1) undef,vs.getD (g.base 0 + i * 3 + 2) undef]
 have henc:∀ (i:Fin done.length) (j:Nat),j < 3→(enc i)[j]? = vs[g.base 0 + i * 3 + j]?:=fun i j hj=>by
  obtain⟨u,x,h1,_⟩:=hcellj i j hj
  rw[h1]
  match j,hj,h1 with
  | 0,_,h1=>simp[enc,Array.getD_eq_getD_getElem?] ; simp at h1; rw[h1]; rfl
  | 1,_,h1=>simp[enc,Array.getD_eq_getD_getElem?,h1]
  | 2,_,h1=>simp[enc,Array.getD_eq_getD_getElem?,h1]
 have hrepj:∀ (i:Fin done.length) (j:Nat) (u:Value) (x:PV),(enc i)[j]? = some u→(done[i].row)[j]? = some x→RepP w g.D u x:=fun i j u x h1 h2=>by
  have hj:j < 3:=(List.getElem?_eq_some_iff.1 h1).1
  obtain⟨u',x',q1,q2,q3⟩:=hcellj i j hj
  rw[henc i j hj,q1]at h1
  rw[q2]at h2
  cases h1; cases h2
  exact q3
 have h1c:∀ x,∀ v ∈ enc x,v.oneCell' = true:=fun x v hv=>by
  obtain⟨j,hj,rfl⟩:=List.getElem_of_mem hv
  exact (hrepj x j _ _ (List.getElem?_eq_getElem hj) (List.getElem?_eq_getElem (show j < done[x].row.length from hj))).one
 let d:Array (Fin done.length):=Array.ofFn fun i=>i
 have hdsz:d.size = done.length:=by simp[d]
 have hdi:∀ i (h:i < done.length),d[i]! = ⟨i,h⟩:=fun i h=>by
  rw[getElem!_pos d i (by rw[hdsz]; exact h)]
  simp[d]
 have hH:HoldsK enc 3 w (g.blk 0) (g.base 0) d:=by
  intro t ht
  rw[size_flatK,hdsz]at ht
  have hi:t / 3 < done.length:=by omega
  have hj:t % 3 < 3:=Nat.mod_lt _ (by decide)
  have hdm:t / 3 * 3 + t % 3 = t:=by omega
  rw[get_flatK enc 3 d t (by rw[hdsz]; exact ht),hdi _ hi]
  obtain⟨u,x,q1,_⟩:=hcellj ⟨t / 3,hi⟩ (t % 3) hj
  refine⟨?_,?_⟩
  ·show cellAt w (g.blk 0) (g.base 0 + t) = _
   rw[cellAt_cells o3,List.getElem!_eq_getElem?_getD,henc ⟨t / 3,hi⟩ (t % 3) hj,q1]
   have:g.base 0 + t / 3 * 3 + t % 3 = g.base 0 + t:=by omega
   rw[← this,q1]
   rfl
  ·simp[World.frozen?,o3]
 let cf:Fin done.length→Fin done.length→Int:=fun i j=>ordE 32 done[i].x done[j].x
 have hO:SWO (ltOf cf):=ordE_swo fun i:Fin done.length=>done[i].x
 have hT:∀ x y,(ltOf cf) x y = false→(ltOf cf) y x = false→x = y:=fun x y q1 q2=>by
  simp only[ltOf,cf,decide_eq_false_iff_not,Int.not_lt]at q1 q2
  have hn:=@ordE_neg 32 done[x].x done[y].x
  have hxy:=ordE_zero (hok _ (List.getElem_mem _)).len (hok _ (List.getElem_mem _)).len (show ordE 32 done[x].x done[y].x = 0 by omega)
  rcases Nat.lt_trichotomy x.1 y.1 with h | h | h
  ·exact absurd hxy (List.pairwise_iff_getElem.1 hds x y x.2 y.2 h)
  ·exact Fin.ext h
  ·exact absurd hxy.symm (List.pairwise_iff_getElem.1 hds y x y.2 x.2 h)
 have hcmp:CmpLays TP 207 #[] enc 3 cf (g.blk 0) (g.base 0) d.size w:=by
  intro m os dk hdk x y
  have hold:∀ b i,g.D b i→cellAt (sortWorldK enc 3 w (g.blk 0) (g.base 0) m dk os) b i = cellAt w b i:=fun b i hD=>by
   have hb:g.blk 0 ≠ b:=fun e=>hnoD i (e ▸ hD)
   have hlt:=hs.dom b i hD
   refine cellAt_heap ?_ i
   simp[sortWorldK,grow,putRowK,putRow,mapBlock,Array.getElem?_append,hlt,Array.getElem_modify,hb]
  have hst:StRel (sortWorldK enc 3 w (g.blk 0) (g.base 0) m dk os) g []:=⟨fun l o h=>by simp at h,fun l k h=>by simp at h,fun l o h=>by simp at h,fun b i hD=>by
   have:=hs.dom b i hD
   simp[sortWorldK,grow,putRowK,putRow,mapBlock]
   omega,fun l b h=>by simp at h,hs.glob.step (fun _ _ h=>h) hold⟩
  have hagg:∀ i:Fin done.length,Rep (sortWorldK enc 3 w (g.blk 0) (g.base 0) m dk os) g [] (.agg (enc i).toArray) (.agg [.p (.v (.bool done[i].b)),.p done[i].m,.p (.sl (exRows (trim done[i].x)))]):=fun i=>by
   refine .agg rfl (fun j u hu=>h1c i u (by simpa using List.mem_of_getElem? (by simpa using hu))) (fun j u x hu hx=>?_)
   have hu':(enc i)[j]? = some u:=by simpa using hu
   have hx':∃ x',(done[i].row)[j]? = some x'∧x = .p x':=by
    match j with
    | 0=>simp at hx; exact⟨_,rfl,hx.symm⟩
    | 1=>simp at hx; exact⟨_,rfl,hx.symm⟩
    | 2=>simp at hx; exact⟨_,rfl,hx.symm⟩
    | j + 3=>simp at hx
   obtain⟨x',k1,rfl⟩:=hx'
   exact .p ((hrepj i j u x' hu' k1).mono (fun _ _ h=>h) hold)
  exact cmp_calls hcd hst (hok _ (List.getElem_mem _)) (hok _ (List.getElem_mem _)) (hagg x) (hagg y)
 have hcall:=AnyQ.slices_SortFunc_total Tryz.sortT 3 Tryz.isAgg152 Tryz.sizeOf152 enc (fun _=>rfl) h1c cf hO 207 #[] (g.blk 0) (g.base 0) cap d w (enters_of Tryz.func207 (by kernel_rfl) rfl) hcmp hH hblk (by rw[hdsz]; omega) hT
 rw[hdsz]at hcall
 refine (show Calls TP 206 _ _ _ from hcall).mono ?_
 rintro en w' ⟨hen,n0,os,rfl⟩
 generalize hL:(d.toList.mergeSort fun x y=>!(ltOf cf) y x) = L
 have hperm:L.Perm d.toList:=by rw[← hL]; exact List.mergeSort_perm ..
 have hdl:d.toList.map (fun i=>done[i]) = done:=by
  apply List.ext_getElem
  ·simp[d]
  ·intro i h1 h2
   simp[d]
 refine⟨hen,L.map fun i:Fin done.length=>done[i],(hperm.map fun i:Fin done.length=>done[i]).trans (List.Perm.of_eq hdl),?_,?_⟩
 ·rw[← hL]
  have hp:=List.pairwise_mergeSort (le:=fun x y=>!(ltOf cf) y x) (fun a b c h1 h2=>by
   simp only[Bool.not_eq_true']at h1 h2 ⊢
   exact hO.ntrans c b a h2 h1) (fun a b=>by
   cases h1:ltOf cf b a with
   | false=>simp
   | true =>
    cases h2:ltOf cf a b with
    | false=>simp
    | true =>
     have:=hO.trans a b a h2 h1
     rw[hO.irrefl]at this
     cases this) d.toList
  rw[List.pairwise_map]
  refine hp.imp fun {a b} h=>?_
  simp only[ltOf,cf,Bool.not_eq_true',decide_eq_false_iff_not,Int.not_lt]at h
  have:=@ordE_neg 32 done[a].x done[b].x
  omega
 ·have hll:L.length = done.length:=by rw[hperm.length_eq]; simp[d]
  have hrows:(L.map fun i:Fin done.length=>done[i]).map E.row = L.map fun i:Fin done.length=>done[i].row:=by simp
  rw[hrows]
  obtain⟨e1,s1⟩:=evo_sorted (l:=0) (es:=3) (ver:=ver) (rows:=done.map E.row) (rows':=L.map fun i:Fin done.length=>done[i].row) (enc:=enc) (d':=L.toArray) (n:=n0) hs rfl (by simp[hll]) (fun r hr=>by
   simp only[List.mem_map]at hr
   obtain⟨i,_,rfl⟩:=hr
   exact row_len (e:=done[i])) (by simp) (fun i j row x hi hj=>by
   simp only[List.getElem?_map,Option.map_eq_some_iff]at hi
   obtain⟨k,hk,rfl⟩:=hi
   have hkl:i < L.length:=(List.getElem?_eq_some_iff.1 hk).1
   have hkk:L.toArray[i]! = k:=by
    rw[getElem!_pos L.toArray i (by simpa using hkl)]
    have:=(List.getElem?_eq_some_iff.1 hk).2
    simpa using this
   have hj3:j < 3:=(List.getElem?_eq_some_iff.1 hj).1
   rw[hkk]
   obtain⟨u,x',q1,q2,q3⟩:=hcellj k j hj3
   rw[q2]at hj
   cases hj
   exact⟨u,by rw[henc k j hj3]; exact q1,q3⟩)
  have hset:([.arr 3 none ver (done.map E.row)]:List Obj).set 0 (.arr 3 none ver (L.map fun i:Fin done.length=>done[i].row)) = [.arr 3 none ver (L.map fun i:Fin done.length=>done[i].row)]:=rfl
  rw[hset]at e1 s1
  obtain⟨e2,s2⟩:=evo_grown os.toList s1
  exact⟨e1.trans e2,s2⟩
end
end Go.Proofs.YtchgldaddcolhaaGreatDoor
namespace Go.Proofs.YtchgldaddcolhaaGreatDoor
set_option maxRecDepth 100000
open Go
theorem insE_perm{e:E}:∀ {l:List E},(insE e l).Perm (e::l)
 | []=>.refl _
 | f::l=>by
  rw[insE]
  split
  ·exact .refl _
  ·exact (List.Perm.cons f insE_perm).trans (List.Perm.swap ..)
theorem isort_perm:∀ {l:List E},(isort l).Perm l
 | []=>.refl _
 | e::l=>insE_perm.trans (List.Perm.cons e isort_perm)
theorem insE_pw{e:E}:∀ {l:List E},l.Pairwise (fun a b=>ordE 32 a.x b.x ≤ 0)→(insE e l).Pairwise (fun a b=>ordE 32 a.x b.x ≤ 0)
 | [],_=>by simp[insE]
 | f::l,h=>by
  rw[List.pairwise_cons]at h
  rw[insE]
  split
  ·rename_i hle
   rw[List.pairwise_cons]
   refine⟨fun y hy=>?_,List.pairwise_cons.2 h⟩
   rcases List.mem_cons.1 hy with rfl | hy
   ·exact hle
   ·exact ordE_trans.2.2 hle (h.1 y hy)
  ·rename_i hle
   rw[List.pairwise_cons]
   refine⟨fun y hy=>?_,insE_pw h.2⟩
   rcases List.mem_cons.1 (insE_perm.subset hy) with rfl | hy
   ·have:=@ordE_neg 32 y.x f.x
    omega
   ·exact h.1 y hy
theorem isort_pw:∀ {l:List E},(isort l).Pairwise (fun a b=>ordE 32 a.x b.x ≤ 0)
 | []=>.nil
 | _::_=>insE_pw isort_pw
theorem distinct_eq:∀ {l:List E},Distinct l→∀ {a b:E},a ∈ l→b ∈ l→a.x = b.x→a = b
 | [],_,a,b,ha,_,_=>by cases ha
 | y::l,hd,a,b,ha,hb,h=>by
  obtain⟨h1,h2⟩:=List.pairwise_cons.1 hd
  rcases List.mem_cons.1 ha with ha | ha <;> rcases List.mem_cons.1 hb with hb | hb
  ·rw[ha,hb]
  ·exact absurd (ha ▸ h) (h1 b hb)
  ·exact absurd (hb ▸ h).symm (h1 a ha)
  ·exact distinct_eq h2 ha hb h
theorem sorted_one{es so:List E}(hok:∀ e ∈ es,E.Ok e)(hd:Distinct es)(hp:so.Perm es)(hs:so.Pairwise (fun a b=>ordE 32 a.x b.x ≤ 0)):so = isort es:=by
 refine List.Perm.eq_of_pairwise (le:=fun a b:E=>ordE 32 a.x b.x ≤ 0) (fun a b ha hb h1 h2=>?_) hs isort_pw (hp.trans isort_perm.symm)
 have ha':=hp.subset ha
 have hb':=isort_perm.subset hb
 have hn:=@ordE_neg 32 a.x b.x
 exact distinct_eq hd ha' hb' (ordE_zero (hok _ ha').len (hok _ hb').len (by omega))
theorem distinct_perm{l l':List E}(h:l.Perm l')(hd:Distinct l):Distinct l':=h.pairwise hd (fun h=>Ne.symm h)
section
variable[Sub]{P:Program}{a:Act}{w:World}
theorem op_calls{o:Oper}{c:Call}{f:Operand}{fid:FuncId}{args:Array Value}{r0:Option Nat}{K:Act→World→Prop}{Q:Exit→Act→World→Prop}(ho:o.op = .call c)(hcal:c.callee = .value f)(hok:FnOk P fid)(hf:a.eval f = .func (.func fid) #[] #[])(hargs:c.args.map a.eval = args)(hc:Calls P fid args w fun e w'=>∃ v,e = .returned v∧K (a.put o.dst v) w'):o.wpIn (FR r0) 0 P a w K Q:=by
 obtain⟨fn,code,h1,h2,h3⟩:=hok
 have hrun:(execOp a.eval o).run P w = .ok (.enter fid args) w:=by
  obtain⟨dst,op,ty,pos,after,gd⟩:=o
  cases ho
  simp[execOp,resolve,hcal,hf,Deferred.ofValue,Go.invoke,callFunc,h1,h3]
  simp at h2
  simp[h2,hargs]
 refine⟨fun _ _=>trivial,?_⟩
 rw[Oper.semAt_eq _ _ _ (fun c' hc'=>by rw[ho]at hc'; cases hc'),hrun,Oper.uponIn_enter]
 refine⟨fun h=>(by cases h),callsIn_FR (hc.mono fun e w'' he=>?_)⟩
 obtain⟨cv,rfl,hk⟩:=he
 exact hk
theorem ops_calls{o:Oper}{ops:Array Oper}{c:Call}{f:Operand}{fid:FuncId}{args:Array Value}{r0:Option Nat}{k:Nat}{ks:List Nat}{Q:Exit→Act→World→Prop}(hat:ops[k]? = some o)(hg:o.guard = none)(ho:o.op = .call c)(hcal:c.callee = .value f)(hok:FnOk P fid)(hf:a.eval f = .func (.func fid) #[] #[])(hargs:c.args.map a.eval = args)(hc:Calls P fid args w fun e w'=>∃ v,e = .returned v∧wpOpsIn (FR r0) 0 P ops Q ks (a.put o.dst v) w'):wpOpsIn (FR r0) 0 P ops Q (k::ks) a w:=by
 simp only[wpOpsIn,hat]
 have:Region.wanted o (yielded ops a.tmps) = true:=by unfold Region.wanted; rw[hg]
 rw[this]
 exact op_calls ho hcal hok hf hargs hc
end
end Go.Proofs.YtchgldaddcolhaaGreatDoor
namespace Go.Proofs.YtchgldaddcolhaaGreatDoor
set_option maxRecDepth 100000
open Go
variable[Sub]
abbrev mpv(m:Nat):AV:=.p (.v (.map (some m)))
section
variable{m ck:Nat}{w0 w:World}{g0 g:Gh}{ents:Array MapEntry}{a:Act}{es0:List E}
theorem keep0{env:Env}{H:List Obj}(h:BW TP m w0 g0 43 vs69 ents ck a w g ⟨env,H⟩)(h0:lk env 0 = some (mpv m)):BW TP m w0 g0 43 vs69 ents ck a w g ⟨[(0,mpv m)],[]⟩ :=
 h.drop fun t v hv=>by
  simp only[lk]at hv
  split at hv
  ·rename_i e; subst e; cases hv; exact⟨by simp[vs69],by rw[(h.env.env 0 _ h0).val.1]; exact .p (.v rfl)⟩
  ·cases hv
theorem start0{Q:Exit→Act→World→Prop}(hcd:g0.cd = CD TP knT)(hb:BW TP m w0 g0 43 vs69 ents ck a w g ⟨[(0,mpv m)],[]⟩)(hr:EntsR w g ents es0)(hQ:∀ a w g,BW TP m w0 g0 43 vs69 ents ck a w g ⟨[(0,mpv m)],[]⟩→EntsR w g ents es0→Q .normal a w):r0.wpIn (FR none) 0 TP Q a w:=by
 have hx:exec X0 Gam s0 ⟨[(0,mpv m)],[]⟩ = some (.normal,⟨[(0,mpv m),(2,.lit []),(3,int 0)],[]⟩):=exec_of (by unfold s0; simp[EV,evOp,upd])
 refine hb.code hcd cp0 (parts0.2.1 _ _ _ hx) fun e a' w' g' x v h=>?_
 have he:e = .normal:=by cases e <;> first | rfl | exact x.elim
 subst he
 exact hQ a' w' g' (keep0 h rfl) (hr.evo v)
theorem ranged{id n t:Nat}{p1 p2:String}{f1 f2:Array Edge}{env:Env}{H:List Obj}{Q:Exit→Act→World→Prop}(hb:BW TP m w0 g0 43 vs69 ents ck a w g ⟨env,H⟩)(h0:lk env 0 = some (mpv m))(ht:t < 43)(htv:t ∉ vs69)(hn:n ∈ vs69)(hn2:n < 43)(hQ:∀ a' w' b,BW TP m w0 g0 43 vs69 ents ck a' w' g ⟨upd env n (.p (.v (.pointer (some ⟨b,0,none⟩)))),H⟩→IW m w0 b ck #[] w' g H→(∀ c v,Rep w g H c v→Rep w' g H c v)→EntsR w' g ents es0→Q .normal a' w')(hr:EntsR w g ents es0) :
  (Code.region id #[⟨some t,.move (.tmp 0),230,p1,f1,none⟩,⟨some n,.range 230 (.tmp t),0,p2,f2,none⟩] false).wpIn (FR none) 0 TP Q a w:=by
 refine wpIn_region ?_
 show wpOpsIn (FR none) 0 TP _ _ [0,1] a w
 have hsz:=hb.size
 have h0':a.tmps.getD 0 undef = .map (some m):=(hb.env.env 0 _ h0).val.1
 refine ops_run (cv:=.map (some m)) (w':=w) rfl rfl (fun c hc=>by cases hc) (.inl (by simp[execOp,eval_tmp,h0'])) ?_
 have hb1:=hb.act (a':=a.put (some t) (.map (some m))) (by rw[put_size]; exact hsz) (by rw[put_defers]) (fun k hk=>by
  rw[getD_put (by rw[hsz]; exact ht),if_neg (fun e=>htv (by rw[e]; exact hk))])
 have h9:(a.put (some t) (.map (some m))).tmps.getD t undef = .map (some m):=by rw[getD_put (by rw[hsz]; exact ht),if_pos rfl]
 obtain⟨q1,q2,q3⟩:=hb1.range (o:=default) hn hn2 und126
 refine ops_run (cv:=.pointer (some ⟨w.heap.size,0,none⟩)) rfl rfl (fun c hc=>by cases hc) (.inl (by simp[execOp,eval_tmp,h9,q1]; rfl)) ?_
 have hp:Pushed w (w.alloc (.mapIter (some m) ck #[] ck)) (.mapIter (some m) ck #[] ck):=⟨rfl,rfl,rfl,⟨rfl,Nat.le_refl _⟩⟩
 obtain⟨ev,_⟩:=evo_push hp hb.far.st
 exact hQ _ _ _ q2 q3 ev.rep (hr.evo ev)
theorem part1(hcd:g0.cd = CD TP knT)(hb:BW TP m w0 g0 43 vs69 ents ck a w g ⟨[(0,mpv m)],[]⟩)(hr:EntsR w g ents es0)(hok:∀ e ∈ es0,E.Ok e)(hd:Distinct es0){Q:Exit→Act→World→Prop}(hQ:∀ a w,P1 m ck w0 g0 es0 a w→Q .normal a w) :
  (Code.seq r1 (.block 0 (.loop body1))).wpIn (FR none) 0 TP Q a w:=by
 refine wpIn_seq (ranged hb rfl (by decide) (by simp[vs69]) (by simp[vs69]) (by decide) (fun a' w' b h1 h2 _ h3=>?_) hr)
 show Code.wpIn _ _ _ _ _ _ _
 refine wpIn_block (wpIn_loopN (J1 m ck b w0 g0 es0) (fun n a w hj=>round1 hcd hQ n a w hj) (n:=unseen #[] ents) ⟨g,ents,#[],es0,h1,h2,h3,hok,hd,rfl,fun i me e _ _ h=>?_,rfl⟩)
 simp at h
theorem part2(hcd:g0.cd = CD TP knT){es:List E}(hb:BW TP m w0 g0 43 vs69 ents ck a w g ⟨[(0,mpv m),(6,.lit [])],[]⟩)(hr:EntsR w g ents es)(hok:∀ e ∈ es,E.Ok e)(hnz:∀ e ∈ es,e.nz = true)(hlen:es.length ≤ 2048){Q:Exit→Act→World→Prop}(hQ:∀ a w,P2 m ck w0 g0 es a w→Q .normal a w) :
  (Code.seq r9 (.block 2 (.loop body2))).wpIn (FR none) 0 TP Q a w:=by
 refine wpIn_seq (ranged hb rfl (by decide) (by simp[vs69]) (by simp[vs69]) (by decide) (fun a' w' b h1 h2 _ h3=>?_) hr)
 show Code.wpIn _ _ _ _ _ _ _
 have h1':BW TP m w0 g0 43 vs69 ents ck a' w' g ⟨env2 m b (.lit []),[]⟩:=h1.drop fun t v hv=>by
  have hv2:lk (upd [(0,mpv m),(6,.lit [])] 26 (.p (.v (.pointer (some ⟨b,0,none⟩))))) t = some v:=by
   rw[lk_upd]
   simp only[env2,lk]at hv ⊢
   by_cases e26:26 = t
   ·subst e26; simpa using hv
   ·rw[if_neg e26]
    split at hv
    ·rename_i e0; rw[if_pos e0]; exact hv
    ·rename_i e0
     rw[if_neg e0]
     first | exact hv | (rw[if_neg e26]at hv; exact hv) | simpa [e26] using hv
  exact⟨h1.fr.env t v hv2,h1.env.env t v hv2⟩
 refine wpIn_block (wpIn_loopN (J2 m ck b w0 g0 es) (fun n a w hj=>round2 hcd hok hnz hlen hQ n a w hj) (n:=unseen #[] ents) ⟨g,ents,#[],[],.lit [],[],h1',h2,h3,?_,.inl ⟨rfl,rfl,rfl⟩,rfl⟩)
 rw[List.nil_append,left_none h3.1]
theorem lens {es:List E} {Q:Exit→Act→World→Prop} {x:Code} (hb:BW TP m w0 g0 43 vs69 ents ck a w g ⟨[(0,mpv m)],[]⟩) (hr:EntsR w g ents es) (hlen:es.length ≤ 2048) (hQ:∀ a,BW TP m w0 g0 43 vs69 ents ck a w g ⟨[(0,mpv m)],[]⟩→Q .normal a w) :
  (Code.seq r6 (.cond (.tmp 24) x .skip)).wpIn (FR none) 0 TP Q a w:=by
 refine wpIn_seq (wpIn_region ?_)
 show wpOpsIn (FR none) 0 TP _ _ [0,1,2] a w
 have hsz:=hb.size
 have h0':a.tmps.getD 0 undef = .map (some m):=(hb.env.env 0 _ rfl).val.1
 have hgo:(getObj m).run TP w = .ok (.map ents ck) w:=by simp[getObj,Sem.run,hb.mp]
 refine ops_run (cv:=.map (some m)) (w':=w) rfl rfl (fun c hc=>by cases hc) (.inl (by simp[execOp,eval_tmp,h0'])) ?_
 have e22:(a.put (some 22) (.map (some m))).eval (.tmp 22) = .map (some m):=by rw[eval_tmp,getD_put (by rw[hsz]; decide),if_pos rfl]
 refine ops_run (cv:=.int .i64 (es.length:Int)) (w':=w) rfl rfl (fun c hc=>by cases hc) (.inl (by
  simp[execOp,resolve,e22,Go.invoke,Go.builtin,Builtin.len_,run_underlying und126,hgo,hr.1,goInt])) ?_
 have e23:((a.put (some 22) (.map (some m))).put (some 23) (.int .i64 (es.length:Int))).eval (.tmp 23) = .int .i64 (es.length:Int):=by rw[eval_tmp,getD_put (by rw[put_size,hsz]; decide),if_pos rfl]
 have hbin:∀ dst ty pos after gd,RunV TP ((a.put (some 22) (.map (some m))).put (some 23) (.int .i64 (es.length:Int))) w g [] ⟨dst,.binOp .gtr 3 (.tmp 23) (.const (.int .i64 2048)) 3,ty,pos,after,gd⟩ (.p (.v (.bool false))):=fun dst ty pos after gd =>
  run_bin (u:=.int .i64 (es.length:Int)) (v:=.int .i64 2048) (by rw[e23]; exact .p (.v rfl)) (.p (.v rfl)) (by
   have:¬ ((2048:Int) < (es.length:Int)):=by omega
   simp[binV,binInt]
   omega)
 obtain⟨cv,c1,c2⟩:=hbin (some 24) 4 "multipoly.go:142" #[⟨1,.data⟩] none
 have hcv:cv = .bool false:=c2.val.1
 subst hcv
 refine ops_run (cv:=.bool false) (w':=w) rfl rfl (fun c hc=>by cases hc) (.inl c1) ?_
 have hb1:=hb.act (a':=((a.put (some 22) (.map (some m))).put (some 23) (.int .i64 (es.length:Int)))) (by rw[put_size,put_size]; exact hsz) rfl (fun k hk=>by
  rw[getD_put (by rw[put_size,hsz]; decide),if_neg (fun e=>by subst e; simp[vs69]at hk),getD_put (by rw[hsz]; decide),if_neg (fun e=>by subst e; simp[vs69]at hk)])
 have hb2:=hb1.set (n:=24) (cv:=.bool false) (v:=.p (.v (.bool false))) (by simp[vs69]) (by decide) (.p (.v rfl))
 show Code.wpIn _ _ _ _ _ _ _
 refine wpIn_cond_false (hb2.env.env 24 _ rfl).val.1 (wpIn_skip ?_)
 exact hQ _ (keep0 hb2 rfl)
end
end Go.Proofs.YtchgldaddcolhaaGreatDoor
namespace Go.Proofs.YtchgldaddcolhaaGreatDoor
set_option maxRecDepth 100000
open Go
variable[Sub]
theorem okSort:FnOk TP 206:=by
 have h1:(TP.funcs[206]?).isSome = true:=by kernel_rfl
 obtain⟨fn,hfn⟩:=Option.isSome_iff_exists.1 h1
 have h2:((TP.funcs[206]?).map fun fn=>(fn.name == "runtime.NumGoroutine",fn.body.isSome)) = some (false,true):=by kernel_rfl
 rw[hfn]at h2
 simp only[Option.map_some,Option.some.injEq,Prod.mk.injEq]at h2
 obtain⟨c,hc⟩:=Option.isSome_iff_exists.1 h2.2
 exact⟨fn,c,hfn,h2.1,hc⟩
section
variable{m ck:Nat}{w0 w:World}{g0 g:Gh}{ents:Array MapEntry}{a:Act}{es:List E}
def P3(m ck:Nat)(w0:World)(g0:Gh)(es:List E)(a:Act)(w:World):Prop :=
 ∃ g ents out H,BW TP m w0 g0 43 vs69 ents ck a w g ⟨[(0,mpv m),(6,out)],H⟩∧EntsR w g ents es∧canon H out = some (.p (.sl ((isort es).map E.row)))∧∀ l ∈ arsA out,l ∈ [0]
theorem sorted3(hcd:g0.cd = CD TP knT)(hok:∀ e ∈ es,E.Ok e)(hd:Distinct es)(hlen:es.length ≤ 2048){Q:Exit→Act→World→Prop}(hp:P2 m ck w0 g0 es a w)(hQ:∀ a w,P3 m ck w0 g0 es a w→Q .normal a w):r13.wpIn (FR none) 0 TP Q a w:=by
 obtain⟨g,ents,done,out,H,hb,hr,hpm,hout⟩:=hp
 refine wpIn_region ?_
 show wpOpsIn (FR none) 0 TP _ _ [0,1] a w
 have hsz:=hb.size
 have h6:Rep w g H (a.tmps.getD 6 undef) out:=hb.env.env 6 _ rfl
 generalize hc:a.tmps.getD 6 undef = c at h6
 refine ops_run (cv:=c) (w':=w) rfl rfl (fun c hc=>by cases hc) (.inl (by simp[execOp,eval_tmp,hc])) ?_
 have hb1:=hb.act (a':=a.put (some 40) c) (by rw[put_size]; exact hsz) (by rw[put_defers]) (fun k hk=>by
  rw[getD_put (by rw[hsz]; decide),if_neg (fun e=>by subst e; simp[vs69]at hk)])
 have h40:(a.put (some 40) c).eval (.tmp 40) = c:=by rw[eval_tmp,getD_put (by rw[hsz]; decide),if_pos rfl]
 have hargs:(#[Operand.tmp 40,Operand.func 207]:Array Operand).map (a.put (some 40) c).eval = #[c,.func (.func 207) #[] #[]]:=by
  have h118:(a.put (some 40) c).eval (.func 207) = .func (.func 207) #[] #[]:=rfl
  simp[h40,h118]
 have hput:∀ {w':World} {g':Gh} {s:St},BW TP m w0 g0 43 vs69 ents ck (a.put (some 40) c) w' g' s→BW TP m w0 g0 43 vs69 ents ck ((a.put (some 40) c).put (some 41) (.tuple #[])) w' g' s:=fun h=>h.act (by rw[put_size]; exact h.size) (by rw[put_defers]) (fun k hk=>by
  rw[getD_put (by rw[h.size]; decide),if_neg (fun e=>by subst e; simp[vs69]at hk)])
 rcases hout with ⟨rfl,rfl,rfl⟩ | ⟨ver,hne,rfl,rfl⟩
 ·have hes:es = []:=List.length_eq_zero_iff.1 (by rw[← hpm.length_eq]; rfl)
  subst hes
  obtain⟨p,rfl⟩:∃ p,c = .slice p 0 0:=by
   cases h6 with
   | @lit p n _ h =>
    cases h with
    | nil=>exact⟨_,rfl⟩
    | sl cs hn _ _ _ _ _=>simp at hn; subst hn; exact⟨_,rfl⟩
  refine ops_calls (args:=#[.slice p 0 0,.func (.func 207) #[] #[]]) rfl rfl rfl rfl okSort rfl hargs ((show Calls TP 206 _ _ _ from AnyF.slices_SortFunc_none Tryz.sortT p 0 (.func (.func 207) #[] #[]) w).mono fun e w' he=>?_)
  obtain⟨rfl,rfl⟩:=he
  refine⟨_,rfl,hQ _ _ ⟨g,ents,.lit [],[],hput hb1,hr,by simp[canon,isort],fun l hl=>by simp[arsA]at hl⟩⟩
 ·have hdd:=distinct_perm hpm.symm hd
  have hokd:∀ e ∈ done,E.Ok e:=fun e he=>hok e (hpm.subset he)
  have hcall:=sort_call (hb.cd hcd) hb.far.st hokd hdd hne (by rw[hpm.length_eq]; exact hlen) h6
  refine ops_calls (args:=#[c,.func (.func 207) #[] #[]]) rfl rfl rfl rfl okSort rfl hargs (hcall.mono fun e w' he=>?_)
  obtain⟨rfl,so,k1,k2,k3,k4⟩:=he
  have hso:so = isort es:=sorted_one hok hd (k1.trans hpm) k2
  subst hso
  have hb2:=hb1.evo (a':=a.put (some 40) c) k3 k4 hb1.size (hb1.dfr.evo k3) ⟨fun t v ht=>(by cases ht),fun t v ht=>k3.rep _ _ (hb1.env.env t v ht),k4.glob⟩ hb1.fr
  refine⟨_,rfl,hQ _ _ ⟨g,ents,.ar 0 ver 0 done.length,_,hput hb2,hr.evo k3,?_,fun l hl=>by simpa [arsA] using hl⟩⟩
  have hl:((isort es).map E.row).length = done.length:=by rw[List.length_map,k1.length_eq]
  rw[canon_ar]
  simp only[rowsOf,List.getElem?_cons_zero]
  simp[seen,← hl]
  exact List.take_of_length_le (by rw[List.length_map]; omega)
def P4(m ck:Nat)(w0:World)(g0:Gh)(es:List E)(a:Act)(w:World):Prop :=
 ∃ g ents,BW TP m w0 g0 43 vs69 ents ck a w g ⟨[(2,.p (.sl ((isort es).map E.row))),(3,int 0)],[]⟩∧EntsR w g ents es
theorem tail4(hcd:g0.cd = CD TP knT){Q:Exit→Act→World→Prop}(hp:P3 m ck w0 g0 es a w)(hQ:∀ a w,P4 m ck w0 g0 es a w→Q .ret a w):(Code.seq r14 .ret).wpIn (FR none) 0 TP Q a w:=by
 obtain⟨g,ents,out,H,hb,hr,hcn,hars⟩:=hp
 have hx:exec X0 Gam s14 ⟨[(0,mpv m),(6,out)],H⟩ = some (.normal,⟨[(0,mpv m),(6,out),(2,out),(3,int 0)],H⟩):=exec_of (by unfold s14; simp[EV,evOp,upd])
 refine wpIn_seq (hb.code hcd cp14 (parts0.2.1 _ _ _ hx) fun e a' w' g' x v h=>?_)
 have he:e = .normal:=by cases e <;> first | rfl | exact x.elim
 subst he
 show Code.wpIn _ _ _ _ _ _ _
 refine wpIn_ret (hQ a' w' ?_)
 obtain⟨g1,e1,s1⟩:=evo_freeze [0] h.far.st
 have h2:Rep w' g1 (freeze H [0]) (a'.tmps.getD 2 undef) (.p (.sl ((isort es).map E.row))):=canon_rep e1 (h.env.env 2 _ rfl) hcn hars
 have h3:a'.tmps.getD 3 undef = .int .i64 0:=(h.env.env 3 _ rfl).val.1
 have hb2:=h.evo (a':=a') (env':=[]) e1 s1 h.size (h.dfr.evo e1) ⟨fun t v ht=>(by cases ht),fun t v ht=>(by cases ht),s1.glob⟩ ⟨fun t v ht=>(by cases ht),fun t v ht=>(by cases ht)⟩
 refine⟨g1,ents,hb2.drop fun t v hv=>?_,(hr.evo v).evo e1⟩
 simp only[lk]at hv
 split at hv
 ·rename_i e; subst e; cases hv; exact⟨by simp[vs69],h2.bare (by simp[refs])⟩
 ·split at hv
  ·rename_i e; subst e; cases hv; exact⟨by simp[vs69],by rw[h3]; exact .p (.v rfl)⟩
  ·cases hv
end
end Go.Proofs.YtchgldaddcolhaaGreatDoor
namespace Go.Proofs.YtchgldaddcolhaaGreatDoor
set_option maxRecDepth 100000
open Go
variable[Sub]
def E.ent(e:E):Value×AV:=(e.kv,e.av)
theorem av_refs{e:E}:refs e.av = []:=by unfold E.av; simp[refs,refsL]
section
variable{m ck:Nat}{w0 w:World}{g0 g:Gh}{ents:Array MapEntry}{a:Act}{es0:List E}
theorem body69(hcd:g0.cd = CD TP knT)(hb:BW TP m w0 g0 43 vs69 ents ck a w g ⟨[(0,mpv m)],[]⟩)(hr:EntsR w g ents es0)(hok:∀ e ∈ es0,E.Ok e)(hd:Distinct es0)(hlen:(es0.filter E.nz).length ≤ 2048) :
  collectCode.wpIn (FR none) 0 TP (fun e a w=>e = .ret∧P4 m ck w0 g0 (es0.filter E.nz) a w) a w:=by
 have hok1:∀ e ∈ es0.filter E.nz,E.Ok e:=fun e he=>hok e (List.mem_filter.1 he).1
 have hnz1:∀ e ∈ es0.filter E.nz,e.nz = true:=fun e he=>(List.mem_filter.1 he).2
 have hd1:Distinct (es0.filter E.nz):=hd.sublist (List.filter_sublist ..)
 refine wpIn_seq (start0 hcd hb hr fun a1 w1 g1 hb1 hr1=>?_)
 show Code.wpIn _ _ _ _ _ _ _
 refine wpIn_seq (part1 hcd hb1 hr1 hok hd fun a2 w2 hp2=>?_)
 show Code.wpIn _ _ _ _ _ _ _
 obtain⟨g2,ents2,hb2,hr2⟩:=hp2
 refine wpIn_seq (lens hb2 hr2 hlen fun a3 hb3=>?_)
 show Code.wpIn _ _ _ _ _ _ _
 have hx:exec X0 Gam s8 ⟨[(0,mpv m)],[]⟩ = some (.normal,⟨[(0,mpv m),(6,.lit [])],[]⟩):=exec_of (by unfold s8; simp[EV,evOp,upd])
 refine wpIn_seq (hb3.code hcd cp8 (parts0.2.1 _ _ _ hx) fun e a4 w4 g4 x v hb4=>?_)
 have he:e = .normal:=by cases e <;> first | rfl | exact x.elim
 subst he
 show Code.wpIn _ _ _ _ _ _ _
 refine wpIn_seq (part2 hcd hb4 (hr2.evo v) hok1 hnz1 hlen fun a5 w5 hp5=>?_)
 show Code.wpIn _ _ _ _ _ _ _
 refine wpIn_seq (sorted3 hcd hok1 hd1 hlen hp5 fun a6 w6 hp6=>?_)
 show Code.wpIn _ _ _ _ _ _ _
 exact tail4 hcd hp6 fun a7 w7 hp7=>⟨rfl,hp7⟩
end
theorem collect_sim{es0:List E}(hok:∀ e ∈ es0,E.Ok e)(hd:Distinct es0)(hlen:(es0.filter E.nz).length ≤ 2048) :
  CallSim TP knT 137 [.map 0] [.map (es0.map E.ent)] (.tup [.p (.sl ((isort (es0.filter E.nz)).map E.row)),int 0],[.map ((es0.filter E.nz).map E.ent)]):=by
 intro w g cs hcd hs hargs
 obtain⟨ents,ck,⟨hm,hbo⟩,hsz,hents⟩:=hs.objs 0 _ rfl
 have hr:EntsR w g ents es0:=⟨by simpa using hsz,fun i me e h1 h2=>by
  obtain⟨q1,q2⟩:=hents i me e.ent h1 (by simp[h2])
  exact⟨q1,q2.bare av_refs⟩⟩
 have hmlt:g.blk 0 < w.heap.size:=IsBlk.lt hs (by simp)
 have hcs:cs = #[.map (some (g.blk 0))]:=by
  have hl:cs.size = 1:=hargs.1
  obtain⟨c,rfl⟩:∃ c,cs = #[c]:=⟨cs[0],by
   apply Array.ext
   ·simp[hl]
   ·intro i h1 h2
    have:i = 0:=by omega
    subst this
    rfl⟩
  have:=hargs.2 0 c (.map 0) rfl rfl
  cases this with
  | map h=>rfl
 subst hcs
 have hget0:((#[Value.map (some (g.blk 0))]:Array Value)++Array.replicate (fn69.ntmps - (#[Value.map (some (g.blk 0))]:Array Value).size) undef).getD 0 undef = .map (some (g.blk 0)):=by
  rw[Array.getD_eq_getD_getElem?,Array.getElem?_append_left (by simp)]
  rfl
 have hb:BW TP (g.blk 0) w g 43 vs69 ents ck { tmps:=(#[Value.map (some (g.blk 0))]:Array Value)++Array.replicate (fn69.ntmps - (#[Value.map (some (g.blk 0))]:Array Value).size) undef,defers:=[] } w g ⟨[(0,mpv (g.blk 0))],[]⟩:=by
  refine⟨Far.start hs,by simp[fn69_nt],.nil,hm,fun i=>no_own _ i,fun i=>hs.stand 0 _ rfl i,hmlt,hbo,⟨fun t v h=>(by cases h),fun t v hv=>?_,hs.glob⟩,⟨fun t v h=>(by cases h),fun t v hv=>?_⟩⟩
  ·simp only[lk]at hv
   split at hv
   ·rename_i e; subst e; cases hv; show Rep w g [] (Array.getD _ 0 undef) _; rw[hget0]; exact .p (.v rfl)
   ·cases hv
  ·simp only[lk]at hv
   split at hv
   ·rename_i e; subst e; simp[vs69]
   ·cases hv
 refine callsIn_wide.1 (callsIn_of_wp_marks (F:=FR none) (n:=0) fn69_at fn69_body trivial (wpIn_mono (body69 hcd hb hr hok hd hlen) fun e a' w' hq=>?_))
 obtain⟨rfl,g',ents',hb',hr'⟩:=hq
 obtain⟨ev,st⟩:=hb'.far.done (es':=(es0.filter E.nz).map E.ent) hs hb'.mp hb'.bo (by rw[List.length_map]; exact hr'.1) (fun i me p h1 h2=>by
  rw[List.getElem?_map,Option.map_eq_some_iff]at h2
  obtain⟨e,he,rfl⟩:=h2
  exact hr'.2 i me e h1 he)
 obtain⟨bs,d1,d2,d3⟩:=hb'.dfr
 show LeavesInM (FR none) 0 TP fn69 a'.tmps _ a'.defers .returning w'
 rw[d1]
 refine leaves_marks ev st (fun _ _ h=>h) d2 (fun c hc=>⟨(d3.1 c hc).1,(d3.1 c hc).2.1,fun i ho=>?_⟩) d3.2 fun w'' q1 q2 qr=>?_
 ·obtain⟨⟨l,hl,hbl⟩,_⟩:=ho
  have hl0:l = 0:=by simpa using hl
  subst hl0
  have:=(d3.1 c hc).1
  rcases hbl with hbl | hbl
  ·have hbl':g.blk 0 = c:=hbl
   omega
  ·have:=(hs.ext 0 c (by simp) hbl).1
   omega
 ·have h2:Rep w'' { g with D:=g'.D } [.map ((es0.filter E.nz).map E.ent)] (a'.tmps.getD 2 undef) (.p (.sl ((isort (es0.filter E.nz)).map E.row))):=qr _ _ (Rep.lift (g:=g') (g2:={ g with D:=g'.D }) rfl (hb'.env.env 2 _ rfl))
  have h3:Rep w'' { g with D:=g'.D } [.map ((es0.filter E.nz).map E.ent)] (a'.tmps.getD 3 undef) (int 0):=qr _ _ (Rep.lift (g:=g') (g2:={ g with D:=g'.D }) rfl (hb'.env.env 3 _ rfl))
  refine⟨.tuple #[a'.tmps.getD 2 undef,a'.tmps.getD 3 undef],?_,_,_,rfl,q1,q2,.tup rfl fun i c x hc hx=>?_⟩
  ·rw[results_eq,fn69_res]
   simp[resV]
  ·match i with
   | 0=>simp at hc hx; subst hc; subst hx; simpa using h2
   | 1=>simp at hc hx; subst hc; subst hx; simpa using h3
   | i + 2=>simp at hc
end Go.Proofs.YtchgldaddcolhaaGreatDoor

/- Part of the proof of Rows.ProverMiddlesCardSaid: EvB1, EvB2, EvB3, EvB4, PmF1, PmN1. -/
import Derived.Test.YtepbfecmageleaaGreatDoorP13
import Derived.Test.YtepbfecmageleaaGreatDoorP15
import Derived.Test.YtepbfecmageleaaGreatDoorP17
import Derived.Test.YtepbfecmageleaaGreatDoorP20
set_option linter.all false
namespace Go.Proofs.YtepbfecmageleaaGreatDoor
open Go
variable [Sub]
structure Far (m:Nat) (w0:World) (g0:Gh) (w:World) (g:Gh) (H:List Obj):Prop where
  D:∀ b i,g0.D b i→g.D b i
  cells:∀ b i,g0.D b i→cellAt w b i = cellAt w0 b i
  keep:Keep (fun b _=>b = m) w0 w
  own:∀ b i,OwnAny g H b i→w0.heap.size ≤ b
  newD:∀ b i,g.D b i→g0.D b i∨w0.heap.size ≤ b
  cd:g.cd = g0.cd
  st:StRel w g H
section
variable {m:Nat} {w0 w w':World} {g0 g g':Gh} {H H':List Obj}
theorem no_own (b i:Nat):¬ OwnAny g [] b i:=fun ho=>by obtain ⟨⟨l,hl,_⟩,_⟩:=ho; simp at hl
theorem Far.start (hs:StRel w0 g0 H):Far m w0 g0 w0 g0 [] :=
  ⟨fun _ _ h=>h,fun _ _ _=>rfl,.refl _ _,fun b i h=>absurd h (no_own b i),fun _ _ h=>.inl h,rfl,st_empty hs⟩
theorem Far.evo (h:Far m w0 g0 w g H) (hv:Evo w g H w' g' H') (hs:StRel w' g' H'):Far m w0 g0 w' g' H':=by
  have hsz:w0.heap.size ≤ w.heap.size:=h.keep.2.2.2.1
  refine ⟨fun b i hd=>hv.D _ _ (h.D _ _ hd),fun b i hd=>(hv.cells _ _ (h.D _ _ hd)).trans (h.cells _ _ hd),h.keep.trans hv.keep (fun b i ho=>.inr (h.own b i ho)),fun b i ho=>?_,fun b i hd=>?_,hv.cd.trans h.cd,hs⟩
  · rcases hv.own b i ho with h1 | h1
    · exact h.own b i h1
    · omega
  · rcases hv.newD b i hd with h1 | h1 | h1
    · exact h.newD b i h1
    · exact .inr (h.own b i h1)
    · exact .inr (by omega)
structure Turned (w w':World) (b:Nat):Prop where
  heap:∀ c,c ≠ b→w'.heap[c]? = w.heap[c]?
  size:w'.heap.size = w.heap.size
  os:w'.os = w.os
  output:w'.output = w.output
  tape:w'.tape = w.tape∧w.drawn ≤ w'.drawn
theorem Far.turn {b:Nat} {o:Go.Obj} (h:Far m w0 g0 w g H) (ht:Turned w w' b) (hb:w.heap[b]? = some o) (hc:∀ vs e f,o ≠ .cells vs e f) (hbm:b = m∨w0.heap.size ≤ b) (hn:∀ i,¬ OwnAny g H b i) (hD:∀ i,¬ g.D b i):Far m w0 g0 w' g H:=by
  have hno:∀ l,l < H.length→g.blk l ≠ b:=fun l hl e=>hn 0 ⟨⟨l,hl,e⟩,hD 0⟩
  have hcell:∀ c i,g.D c i→cellAt w' c i = cellAt w c i:=fun c i hd=>cellAt_heap (ht.heap c fun e=>hD i (e ▸ hd)) i
  have hr:∀ c a,Rep w g H c a→Rep w' g H c a:=fun c a hr=>hr.step (fun _ _ h=>h) hcell (fun l o' hl=>.same rfl rfl rfl rfl)
  refine ⟨h.D,fun c i hd=>(hcell c i (h.D _ _ hd)).trans (h.cells _ _ hd),⟨ht.os.trans h.keep.1,ht.output.trans h.keep.2.1,⟨ht.tape.1.trans h.keep.2.2.1.1,Nat.le_trans h.keep.2.2.1.2 ht.tape.2⟩,by rw [ht.size]; exact h.keep.2.2.2.1,fun c hlt=>?_⟩,
    h.own,h.newD,h.cd,⟨fun l o' hl=>?_,h.st.inj,h.st.stand,fun c i hd=>by rw [ht.size]; exact h.st.dom c i hd⟩⟩
  · have hk:=h.keep.2.2.2.2 c hlt
    by_cases e:c = b
    · subst e
      have hcm:c = m:=hbm.resolve_right (by omega)
      split
      · rename_i vs e1 f hw
        rw [hw] at hk
        obtain ⟨vs',k1,_⟩:=hk
        rw [hb] at k1
        exact absurd (Option.some.inj k1) (hc _ _ _)
      · intro hi; exact absurd hcm hi
    · rw [ht.heap c e]; exact hk
  · have hlt:l < H.length:=(List.getElem?_eq_some_iff.1 hl).1
    exact (h.st.objs l o' hl).keep rfl rfl rfl (ht.heap _ (hno l hlt)) (fun _ _ h=>h) hcell hr
theorem Far.apart {b:Nat} {o:Go.Obj} (hv:Evo w g H w' g' H') (hb:w.heap[b]? = some o) (hn:∀ i,¬ OwnAny g H b i) (hD:∀ i,¬ g.D b i) :
    w'.heap[b]? = some o∧(∀ i,¬ OwnAny g' H' b i)∧∀ i,¬ g'.D b i:=by
  obtain ⟨h1,h2⟩:=unowned_evo hv hb hn
  have hlt:b < w.heap.size:=(Array.getElem?_eq_some_iff.1 hb).1
  refine ⟨h1,h2,fun i hd=>?_⟩
  rcases hv.newD b i hd with h | h | h
  · exact hD i h
  · exact hn i h
  · omega
theorem Far.done {es es':List (Value×AV)} {ents:Array MapEntry} {ck:Nat} (h:Far (g0.blk 0) w0 g0 w g H) (hs0:StRel w0 g0 [.map es]) (hm:w.heap[g0.blk 0]? = some (.map ents ck)) (hbo:BornOk ents ck) (hsz:ents.size = es'.length)
    (he:∀ (i:Nat) (e:MapEntry) (p:Value×AV),ents[i]? = some e→es'[i]? = some p→e.key = p.1∧Rep w g [] e.val p.2) :
    Evo w0 g0 [.map es] w { g0 with D:=g.D } [.map es']∧StRel w { g0 with D:=g.D } [.map es']:=by
  have hnoD0:∀ i,¬ g0.D (g0.blk 0) i:=hs0.stand 0 _ rfl
  have hlt0:g0.blk 0 < w0.heap.size:=IsBlk.lt hs0 (by simp)
  have hnoD:∀ i,¬ g.D (g0.blk 0) i:=fun i hd=>by
    rcases h.newD _ i hd with h1 | h1
    · exact hnoD0 i h1
    · omega
  have hr:∀ c a,Rep w0 g0 [.map es] c a→Rep w { g0 with D:=g.D } [.map es'] c a:=fun c a hr=>hr.step (g':={ g0 with D:=g.D }) h.D h.cells (fun l o hl=>by
    cases l with
    | zero=>simp at hl; subst hl; exact .map (c:=es) (c':=es') rfl rfl rfl
    | succ l=>simp at hl)
  have hr2:∀ c a,Rep w g [] c a→Rep w { g0 with D:=g.D } [.map es'] c a:=fun c a hr=>by
    exact Rep.step (w:=w) (g:=g) (H:=[]) (w':=w) (g':={ g0 with D:=g.D }) (H':=[.map es']) (fun _ _ h=>h) (fun _ _ _=>rfl) (fun l o hl=>by simp at hl) hr
  have hlt:g0.blk 0 < w.heap.size:=(Array.getElem?_eq_some_iff.1 hm).1
  refine ⟨⟨h.D,h.cells,hr,⟨h.keep.1,h.keep.2.1,h.keep.2.2.1,h.keep.2.2.2.1,fun b hb=>?_⟩,fun b i ho=>?_,fun b i hd=>?_,rfl⟩,⟨fun l o hl=>?_,fun l k hl hk _=>?_,fun l o hl=>?_,fun b i hd=>h.st.dom b i hd⟩⟩
  · have hk:=h.keep.2.2.2.2 b hb
    have hio:∀ i,¬ OwnAny g0 [.map es] b i→¬ b = g0.blk 0:=fun i hi e=>hi ⟨⟨0,by simp,e.symm⟩,by rw [e]; exact hnoD0 i⟩
    split
    · rename_i vs e f hw
      rw [hw] at hk
      obtain ⟨vs',k1,k2,k3⟩:=hk
      exact ⟨vs',k1,k2,fun i hi=>k3 i (hio i hi)⟩
    · rename_i o hne
      intro hi
      split at hk
      · rename_i vs e f hw
        exact absurd hw (hne _ _ _)
      · exact hk (hio 0 hi)
  · obtain ⟨⟨l,hl,rfl⟩,hd⟩:=ho
    simp at hl
    subst hl
    exact .inl ⟨⟨0,by simp,rfl⟩,hnoD0 i⟩
  · rcases h.newD b i hd with h1 | h1
    · exact .inl h1
    · exact .inr (.inr h1)
  · cases l with
    | zero =>
      simp at hl
      subst hl
      exact ⟨ents,ck,⟨hm,hbo⟩,hsz,fun i e p a b=>⟨(he i e p a b).1,hr2 _ _ (he i e p a b).2⟩⟩
    | succ l=>simp at hl
  · simp at hl hk; omega
  · cases l with
    | zero =>
      simp at hl
      subst hl
      exact hnoD
    | succ l=>simp at hl
end
section
variable {P:Program} {a:Act} {w w':World}
theorem op_run {o:Oper} {cv:Value} {r0:Option Nat} {K:Act→World→Prop} {Q:Exit→Act→World→Prop} (hnd:∀ c,o.op ≠ .defer c) (hr:(execOp a.eval o).run P w = .ok (.value cv) w'∨((execOp a.eval o).run P w = .ok .skip w'∧cv = undef))
    (hK:K (a.put o.dst cv) w'):o.wpIn (FR r0) 0 P a w K Q:=by
  refine ⟨fun _ _=>trivial,?_⟩
  rw [Oper.semAt_eq _ _ _ hnd]
  rcases hr with hr | ⟨hr,rfl⟩
  · rw [hr]; exact hK
  · rw [hr]; exact hK
theorem ops_run {o:Oper} {ops:Array Oper} {k:Nat} {ks:List Nat} {cv:Value} {r0:Option Nat} {Q:Exit→Act→World→Prop} (ho:ops[k]? = some o) (hg:o.guard = none) (hnd:∀ c,o.op ≠ .defer c)
    (hr:(execOp a.eval o).run P w = .ok (.value cv) w'∨((execOp a.eval o).run P w = .ok .skip w'∧cv = undef)) (hK:wpOpsIn (FR r0) 0 P ops Q ks (a.put o.dst cv) w'):wpOpsIn (FR r0) 0 P ops Q (k::ks) a w:=by
  simp only [wpOpsIn,ho]
  have:Region.wanted o (yielded ops a.tmps) = true:=by unfold Region.wanted; rw [hg]
  rw [this]
  exact op_run hnd hr hK
end
end Go.Proofs.YtepbfecmageleaaGreatDoor
namespace Go.Proofs.YtepbfecmageleaaGreatDoor
open Go
variable [Sub]
def Drew (w w':World):Prop:=w' = w∨w' = w.drew
theorem Drew.still {w w':World} (h:Drew w w'):Still w w':=by
  rcases h with rfl | rfl
  · exact ⟨rfl,rfl,rfl,⟨rfl,Nat.le_refl _⟩⟩
  · exact ⟨rfl,rfl,rfl,⟨rfl,Nat.le_succ _⟩⟩
theorem Drew.heap {w w':World} (h:Drew w w'):w'.heap = w.heap:=h.still.heap
section
variable {P:Program} {w:World}
theorem run_choose_next {n:Nat} (h:0 < n):∃ i w',i < n∧Drew w w'∧(choose (.mapNext n)).run P w = .ok i w':=by
  by_cases hf:(Question.mapNext n).forced = true
  · exact ⟨0,w,h,.inl rfl,by simp [choose,Sem.run,hf]⟩
  · refine ⟨(Question.mapNext n).cut (w.tape w.drawn (.mapNext n)),w.drew,?_,.inr rfl,by simp [choose,Sem.run,hf]⟩
    simp only [Question.cut]
    exact Nat.mod_lt _ h
def iterAt (w:World) (b m ck:Nat) (seen:Array Nat):Prop:=w.heap[b]? = some (.mapIter (some m) ck seen ck)
theorem run_next {b m ck:Nat} {seen:Array Nat} {ents:Array MapEntry} {ty:TypeId} (hit:iterAt w b m ck seen) (hm:w.heap[m]? = some (.map ents ck)) (hb:∀ e ∈ ents.toList,e.born < ck) :
    (∃ w',Drew w w'∧(∀ e ∈ ents.toList,seen.contains e.born = true)∧(Instr.next (.pointer (some ⟨b,0,none⟩)) false ty).run P w = .ok (.tuple #[.bool false]) w') ∨
    ∃ w' e,Drew w w'∧e ∈ ents.toList∧seen.contains e.born = false ∧
      (Instr.next (.pointer (some ⟨b,0,none⟩)) false ty).run P w = .ok (.tuple #[.bool true,e.key,e.val]) { w' with heap:=w'.heap.setIfInBounds b (.mapIter (some m) ck (seen.push e.born) ck) }:=by
  have hit':w.heap[b]? = some (.mapIter (some m) ck seen ck):=hit
  have hgi:(getObj b).run P w = .ok (.mapIter (some m) ck seen ck) w:=by simp [getObj,Sem.run,hit']
  have hgm:(getObj m).run P w = .ok (.map ents ck) w:=by simp [getObj,Sem.run,hm]
  have hold:(ents.filter fun e=>!seen.contains e.born).filter (fun e=>decide (e.born < ck)) = ents.filter fun e=>!seen.contains e.born:=by
    rw [Array.filter_eq_self]
    intro e he
    rw [Array.mem_filter] at he
    simpa using hb e (Array.mem_toList_iff.2 he.1)
  have hnew:(ents.filter fun e=>!seen.contains e.born).filter (fun e=>decide (e.born ≥ ck)) = #[]:=by
    rw [Array.filter_eq_empty_iff]
    intro e he
    rw [Array.mem_filter] at he
    have:=hb e (Array.mem_toList_iff.2 he.1)
    simpa using this
  have hguard:(!seen.isEmpty && !ents.isEmpty && ents.all fun e=>decide (e.born ≥ ck)) = false:=by
    cases he:ents.isEmpty with
    | true=>simp
    | false =>
      have:(ents.all fun e=>decide (e.born ≥ ck)) = false:=by
        rw [Bool.eq_false_iff]
        intro hall
        rw [Array.all_eq_true] at hall
        have hpos:0 < ents.size:=by
          rcases Nat.eq_zero_or_pos ents.size with h | h
          · simp [Array.isEmpty,h] at he
          · exact h
        have h1:=hb ents[0] (by simp)
        have h2:=hall 0 hpos
        simp only [decide_eq_true_eq] at h2
        omega
      simp [this]
  by_cases hl:(ents.filter fun e=>!seen.contains e.born) = #[]
  · left
    refine ⟨w,.inl rfl,fun e he=>?_,?_⟩
    · rw [Array.filter_eq_empty_iff] at hl
      have:=hl e (Array.mem_toList_iff.1 he)
      simpa using this
    · simp only [Instr.next,Sem.run_bind,hgi,hgm,Result.andThen_ok,hguard,hold,hnew]
      rw [hl]
      simp [choose,Sem.run,Question.forced]
  · right
    have hpos:0 < ((ents.filter fun e=>!seen.contains e.born).map some).size:=by
      rw [Array.size_map]
      rcases Nat.eq_zero_or_pos (ents.filter fun e=>!seen.contains e.born).size with h | h
      · exact absurd (Array.eq_empty_of_size_eq_zero h) hl
      · exact h
    obtain ⟨i,w',hi,hd,hr⟩:=run_choose_next (P:=P) (w:=w) hpos
    rw [Array.size_map] at hi
    have hmem:=Array.getElem_mem hi
    rw [Array.mem_filter] at hmem
    refine ⟨w',(ents.filter fun e=>!seen.contains e.born)[i],hd,Array.mem_toList_iff.2 hmem.1,by simpa using hmem.2,?_⟩
    have hgi':w'.heap[b]? = some (.mapIter (some m) ck seen ck):=by rw [hd.heap]; exact hit
    have hem:(ents.filter fun e=>!seen.contains e.born).isEmpty = false:=by
      rw [Bool.eq_false_iff]
      intro h
      exact hl (Array.isEmpty_iff.1 h)
    simp only [Instr.next,Sem.run_bind,hgi,hgm,Result.andThen_ok,hguard,hold,hnew]
    simp only [hem,Array.append_empty,Array.empty_append,Bool.false_eq_true,if_false,hr,Result.andThen_ok,Array.getElem?_map,Array.getElem?_eq_getElem hi,Option.map_some,Sem.run_bind]
    simp [setObj,Sem.run,hgi']
theorem run_range {t k e:TypeId} {m ck:Nat} {ents:Array MapEntry} (ht:P.underlying t = some (.map k e)) (hm:w.heap[m]? = some (.map ents ck)) :
    (Instr.range t (.map (some m))).run P w = .ok (.pointer (some ⟨w.heap.size,0,none⟩)) (w.alloc (.mapIter (some m) ck #[] ck)):=by
  have hgm:(getObj m).run P w = .ok (.map ents ck) w:=by simp [getObj,Sem.run,hm]
  simp [Instr.range,run_underlying ht,hgm,newObj,Sem.run]
theorem run_entry {b m ck:Nat} {seen:Array Nat} {ents:Array MapEntry} {e:MapEntry} (hit:iterAt w b m ck (seen.push e.born)) (hm:w.heap[m]? = some (.map ents ck)) (he:e ∈ ents.toList) (hb:BornOk ents ck) :
    (Instr.entry (.pointer (some ⟨b,0,none⟩))).run P w = .ok (.tuple #[e.key,e.val]) w:=by
  have hgi:(getObj b).run P w = .ok (.mapIter (some m) ck (seen.push e.born) ck) w:=by have hit':w.heap[b]? = some (.mapIter (some m) ck (seen.push e.born) ck):=hit; simp [getObj,Sem.run,hit']
  have hgm:(getObj m).run P w = .ok (.map ents ck) w:=by simp [getObj,Sem.run,hm]
  have hfind:ents.find? (·.born == e.born) = some e:=by
    rw [← Array.find?_toList]
    have:∀ (l:List MapEntry),l.Pairwise (fun a b=>a.born < b.born)→e ∈ l→l.find? (·.born == e.born) = some e:=by
      intro l
      induction l with
      | nil=>intro _ h; cases h
      | cons x l ih =>
        intro hp hx
        rw [List.pairwise_cons] at hp
        rw [List.find?_cons]
        rcases List.mem_cons.1 hx with rfl | hx
        · simp
        · have:=hp.1 e hx
          have hne:(x.born == e.born) = false:=by simp; omega
          rw [hne]
          exact ih hp.2 hx
    exact this _ hb.1 he
  simp [Instr.entry,hgi,hgm,hfind]
end
end Go.Proofs.YtepbfecmageleaaGreatDoor
namespace Go.Proofs.YtepbfecmageleaaGreatDoor
open Go
variable [Sub]
structure MW (m:Nat) (w0:World) (g0:Gh) (nt it b:Nat) (seen:Array Nat) (ents:Array MapEntry) (ck:Nat) (a:Act) (w:World) (g:Gh) (H:List Obj):Prop where
  far:Far m w0 g0 w g H
  size:a.tmps.size = nt
  dfr:Marks w0.heap.size w g H a.defers
  itv:a.tmps.getD it undef = .pointer (some ⟨b,0,none⟩)
  iter:iterAt w b m ck seen
  mp:w.heap[m]? = some (.map ents ck)
  unm:∀ i,¬ OwnAny g H m i
  noDm:∀ i,¬ g.D m i
  unb:∀ i,¬ OwnAny g H b i
  noDb:∀ i,¬ g.D b i
  bge:w0.heap.size ≤ b
  mlt:m < w0.heap.size
  bo:BornOk ents ck
section
variable {P:Program} {m nt it b ck:Nat} {w0 w:World} {g0 g:Gh} {H:List Obj} {seen:Array Nat} {ents:Array MapEntry} {a:Act}
theorem MW.evo {w':World} {g':Gh} {H':List Obj} {a':Act} (h:MW m w0 g0 nt it b seen ents ck a w g H) (hv:Evo w g H w' g' H') (hs:StRel w' g' H') (h1:a'.tmps.size = nt) (h2:Marks w0.heap.size w' g' H' a'.defers) (h3:a'.tmps.getD it undef = a.tmps.getD it undef) :
    MW m w0 g0 nt it b seen ents ck a' w' g' H':=by
  obtain ⟨k1,k2,k3⟩:=Far.apart hv h.mp h.unm h.noDm
  obtain ⟨q1,q2,q3⟩:=Far.apart hv h.iter h.unb h.noDb
  exact ⟨h.far.evo hv hs,h1,h2,h3.trans h.itv,q1,k1,k2,k3,q2,q3,h.bge,h.mlt,h.bo⟩
theorem getD_put {a:Act} {n:Nat} {v:Value} (hn:n < a.tmps.size) (t:Nat):(a.put (some n) v).tmps.getD t undef = if n = t then v else a.tmps.getD t undef:=by
  simp only [Act.put,Array.getD_eq_getD_getElem?,Array.getElem?_setIfInBounds]
  by_cases h:n = t
  · subst h; simp [hn]
  · simp [h]
theorem MW.act {a':Act} (h:MW m w0 g0 nt it b seen ents ck a w g H) (h1:a'.tmps.size = nt) (h2:a'.defers = a.defers) (h3:a'.tmps.getD it undef = a.tmps.getD it undef):MW m w0 g0 nt it b seen ents ck a' w g H :=
  ⟨h.far,h1,by rw [h2]; exact h.dfr,h3.trans h.itv,h.iter,h.mp,h.unm,h.noDm,h.unb,h.noDb,h.bge,h.mlt,h.bo⟩
theorem MW.drew {w':World} (h:MW m w0 g0 nt it b seen ents ck a w g H) (hd:Drew w w'):MW m w0 g0 nt it b seen ents ck a w' g H:=by
  obtain ⟨e,s⟩:=evo_still hd.still h.far.st
  exact h.evo e s h.size (h.dfr.evo e) rfl
theorem Marks.turn {n0 b0:Nat} {w':World} {o:Go.Obj} {l:List Deferred} (h:Marks n0 w g H l) (ht:Turned w w' b0) (hb:w.heap[b0]? = some o) (ho:o ≠ .deferred (some [])):Marks n0 w' g H l:=by
  obtain ⟨bs,h1,h2,h3⟩:=h
  refine ⟨bs,h1,h2,fun c hc=>⟨(h3 c hc).1,?_,(h3 c hc).2.2⟩⟩
  rw [ht.heap c (fun e=>ho (by have:=(h3 c hc).2.1; rw [e,hb] at this; exact Option.some.inj this))]
  exact (h3 c hc).2.1
theorem MW.step {w':World} {s':Array Nat} (h:MW m w0 g0 nt it b seen ents ck a w g H) (hd:Drew w w'):MW m w0 g0 nt it b s' ents ck a { w' with heap:=w'.heap.setIfInBounds b (.mapIter (some m) ck s' ck) } g H:=by
  have h':=h.drew hd
  have hlt:b < w'.heap.size:=(Array.getElem?_eq_some_iff.1 h'.iter).1
  have hbm:m ≠ b:=by have:=h.bge; have:=h.mlt; omega
  have ht:Turned w' { w' with heap:=w'.heap.setIfInBounds b (.mapIter (some m) ck s' ck) } b:=⟨fun c hc=>by simp [Array.getElem?_setIfInBounds,Ne.symm hc],by simp,rfl,rfl,⟨rfl,Nat.le_refl _⟩⟩
  refine ⟨h'.far.turn (b:=b) ht h'.iter (fun _ _ _ e=>by cases e) (.inr h.bge) h.unb h.noDb,h.size,h'.dfr.turn ht h'.iter (by simp),h.itv,?_,?_,h.unm,h.noDm,h.unb,h.noDb,h.bge,h.mlt,h.bo⟩
  · simp [iterAt,Array.getElem?_setIfInBounds,hlt]
  · simp [Array.getElem?_setIfInBounds,Ne.symm hbm,h'.mp]
theorem run_ex {x:Operand} {i:Nat} {arr:Array Value} {v:Value} {dst:Option Tmp} {ty:TypeId} {pos:String} {after:Array Edge} (hx:a.eval x = .tuple arr) (hi:arr[i]? = some v) :
    (execOp a.eval ⟨dst,.extract x i,ty,pos,after,none⟩).run P w = .ok (.value v) w:=by
  simp [execOp,Instr.extract,hx,hi]
theorem eval_tmp {t:Nat}:a.eval (.tmp t) = a.tmps.getD t undef:=rfl
theorem roundA {id d1 d2:Nat} {t1 t2:TypeId} {p1 p2:String} {f1 f2:Array Edge} {r0:Option Nat} {Q:Exit→Act→World→Prop} (h:MW m w0 g0 nt it b seen ents ck a w g H) (h1:d1 < nt) (h2:d2 < nt) (n1:d1 ≠ it) (n2:d2 ≠ it)
    (hdone:∀ a' w',(∀ e ∈ ents.toList,seen.contains e.born = true)→MW m w0 g0 nt it b seen ents ck a' w' g H→(∀ H1 c v,Rep w g H1 c v→Rep w' g H1 c v)→a'.tmps.getD d2 undef = .bool false→(∀ t,t ≠ d1→t ≠ d2→a'.tmps.getD t undef = a.tmps.getD t undef)→Q .normal a' w')
    (hstep:∀ a' w' e,e ∈ ents.toList→seen.contains e.born = false→MW m w0 g0 nt it b (seen.push e.born) ents ck a' w' g H→(∀ H1 c v,Rep w g H1 c v→Rep w' g H1 c v)→a'.tmps.getD d2 undef = .bool true→(∀ t,t ≠ d1→t ≠ d2→a'.tmps.getD t undef = a.tmps.getD t undef)→Q .normal a' w') :
    (Code.region id #[⟨some d1,.next (.tmp it) false,t1,p1,f1,none⟩,⟨some d2,.extract (.tmp d1) 0,t2,p2,f2,none⟩] false).wpIn (FR r0) 0 P Q a w:=by
  refine wpIn_region ?_
  show wpOpsIn (FR r0) 0 P _ Q [0,1] a w
  have hs1:d1 < a.tmps.size:=by rw [h.size]; exact h1
  have hs2:∀ v,d2 < (a.put (some d1) v).tmps.size:=fun v=>by rw [put_size,h.size]; exact h2
  have oth:∀ v u t,t ≠ d1→t ≠ d2→((a.put (some d1) v).put (some d2) u).tmps.getD t undef = a.tmps.getD t undef:=fun v u t ht1 ht2=>by
    rw [getD_put (hs2 v),if_neg (Ne.symm ht2),getD_put hs1,if_neg (Ne.symm ht1)]
  have fin:∀ v u,((a.put (some d1) v).put (some d2) u).tmps.getD d2 undef = u:=fun v u=>by rw [getD_put (hs2 v),if_pos rfl]
  have hitv:a.eval (.tmp it) = .pointer (some ⟨b,0,none⟩):=h.itv
  have sz:∀ v u,((a.put (some d1) v).put (some d2) u).tmps.size = nt:=fun v u=>by rw [put_size,put_size]; exact h.size
  have df:∀ v u,((a.put (some d1) v).put (some d2) u).defers = a.defers:=fun v u=>by rw [put_defers,put_defers]
  have get1:∀ v,(a.put (some d1) v).eval (.tmp d1) = v:=fun v=>by rw [eval_tmp,getD_put hs1,if_pos rfl]
  rcases run_next (P:=P) (ty:=t1) h.iter h.mp h.bo.2 with ⟨w',hd,hall,hr⟩ | ⟨w',e,hd,he,hns,hr⟩
  · refine ops_run (cv:=.tuple #[.bool false]) (w':=w') rfl rfl (fun c hc=>by cases hc) (.inl (by simp [execOp,hitv,hr])) ?_
    refine ops_run (cv:=.bool false) (w':=w') rfl rfl (fun c hc=>by cases hc) (.inl (run_ex (get1 _) rfl)) ?_
    exact hdone _ _ hall ((h.drew hd).act (sz _ _) (df _ _) (oth _ _ it (Ne.symm n1) (Ne.symm n2))) (fun H1 c v hr=>hr.step (fun _ _ h=>h) (fun c i _=>cellAt_heap (by rw [hd.heap]) i) (fun l o hl=>.same rfl rfl rfl rfl)) (fin _ _) (oth _ _)
  · refine ops_run (cv:=.tuple #[.bool true,e.key,e.val]) (w':=_) rfl rfl (fun c hc=>by cases hc) (.inl (by simp [execOp,hitv,hr]; rfl)) ?_
    refine ops_run (cv:=.bool true) rfl rfl (fun c hc=>by cases hc) (.inl (run_ex (get1 _) rfl)) ?_
    exact hstep _ _ e he hns ((h.step hd).act (sz _ _) (df _ _) (oth _ _ it (Ne.symm n1) (Ne.symm n2))) (fun H1 c v hr=>hr.step (fun _ _ h=>h) (fun c i hD=>cellAt_heap (by
      have hcb:b ≠ c:=fun e=>h.noDb i (e ▸ hD)
      show (w'.heap.setIfInBounds b _)[c]? = w.heap[c]?
      rw [Array.getElem?_setIfInBounds,if_neg hcb,hd.heap]) i) (fun l o hl=>.same rfl rfl rfl rfl)) (fin _ _) (oth _ _)
theorem roundB {id e1 e2 e3:Nat} {t1 t2 t3:TypeId} {p1 p2 p3:String} {f1 f2 f3:Array Edge} {os:List Oper} {r0:Option Nat} {Q:Exit→Act→World→Prop} {e:MapEntry} {kn:TypeId→Bool} {vars:List Nat} {sos:List SO} {env:Env} {r:St} {kc:AV} {vc:AV}
    (h:MW m w0 g0 nt it b (seen.push e.born) ents ck a w g H) (he:e ∈ ents.toList) (l1:e1 < nt) (l2:e2 < nt) (l3:e3 < nt) (n1:e1 ≠ it) (n2:e2 ≠ it) (n3:e3 ≠ it) (n12:e1 ≠ e2) (n13:e1 ≠ e3) (n23:e2 ≠ e3)
    (hv:∀ t,t ∈ [e1,e2,e3]→t ∉ vars)
    (hk:Rep w g H e.key kc) (hvl:Rep w g H e.val vc) (henv:EnvRel w g H a.tmps ⟨[],env⟩) (hfr:FrOk vars ⟨[],env⟩) (hcd:g0.cd = CD P kn)
    (hcomp:compOps P kn nt vars (#[⟨some e1,.entry (.tmp it),t1,p1,f1,none⟩,⟨some e2,.extract (.tmp e1) 0,t2,p2,f2,none⟩,⟨some e3,.extract (.tmp e1) 1,t3,p3,f3,none⟩]++os.toArray) os [e3,e2] = some sos)
    (hops:OpsM P kn sos ⟨[(e3,vc),(e2,kc)],env⟩ H r) (hkeep:∀ a' w' g',Evo w g H w' g' r.H→StRel w' g' r.H→EnvRel w' g' r.H a'.tmps ⟨[],r.env⟩→FrOk vars ⟨[],r.env⟩→a'.defers = a.defers→a'.tmps.size = nt→Q .normal a' w') :
    (Code.region id (#[⟨some e1,.entry (.tmp it),t1,p1,f1,none⟩,⟨some e2,.extract (.tmp e1) 0,t2,p2,f2,none⟩,⟨some e3,.extract (.tmp e1) 1,t3,p3,f3,none⟩]++os.toArray) false).wpIn (FR r0) 0 P Q a w:=by
  refine wpIn_region ?_
  have hl:List.range (#[(⟨some e1,.entry (.tmp it),t1,p1,f1,none⟩:Oper),⟨some e2,.extract (.tmp e1) 0,t2,p2,f2,none⟩,⟨some e3,.extract (.tmp e1) 1,t3,p3,f3,none⟩]++os.toArray).size = 0::1::2::List.range' 3 os.length:=by
    rw [List.range_eq_range',Array.size_append]
    show List.range' 0 (3 + os.toArray.size) = _
    rw [List.size_toArray,Nat.add_comm,List.range'_succ,List.range'_succ,List.range'_succ]
  rw [hl]
  have hs1:e1 < a.tmps.size:=by rw [h.size]; exact l1
  have hs2:∀ v,e2 < (a.put (some e1) v).tmps.size:=fun v=>by rw [put_size,h.size]; exact l2
  have hs3:∀ v u,e3 < ((a.put (some e1) v).put (some e2) u).tmps.size:=fun v u=>by rw [put_size,put_size,h.size]; exact l3
  have hitv:a.eval (.tmp it) = .pointer (some ⟨b,0,none⟩):=h.itv
  have hent:=run_entry (P:=P) h.iter h.mp he h.bo
  refine ops_run (o:=⟨some e1,.entry (.tmp it),t1,p1,f1,none⟩) (cv:=.tuple #[e.key,e.val]) (w':=w) (by simp) rfl (fun c hc=>by cases hc) (.inl (by simp [execOp,hitv,hent])) ?_
  refine ops_run (o:=⟨some e2,.extract (.tmp e1) 0,t2,p2,f2,none⟩) (cv:=e.key) (w':=w) (by simp) rfl (fun c hc=>by cases hc) (.inl (run_ex (arr:=#[e.key,e.val]) (by rw [eval_tmp,getD_put hs1,if_pos rfl]) rfl)) ?_
  refine ops_run (o:=⟨some e3,.extract (.tmp e1) 1,t3,p3,f3,none⟩) (cv:=e.val) (w':=w) (by simp) rfl (fun c hc=>by cases hc) (.inl (run_ex (arr:=#[e.key,e.val]) (by rw [eval_tmp,getD_put (hs2 _),if_neg (Ne.symm n12),getD_put hs1,if_pos rfl]) rfl)) ?_
  generalize hA:((a.put (some e1) (.tuple #[e.key,e.val])).put (some e2) e.key).put (some e3) e.val = a3
  have hget:∀ t,a3.tmps.getD t undef = if e3 = t then e.val else if e2 = t then e.key else if e1 = t then .tuple #[e.key,e.val] else a.tmps.getD t undef:=fun t=>by
    rw [← hA,getD_put (hs3 _ _),getD_put (hs2 _),getD_put hs1]
  have hsz:a3.tmps.size = nt:=by rw [← hA,put_size,put_size,put_size]; exact h.size
  have hdf:a3.defers = a.defers:=by rw [← hA,put_defers,put_defers,put_defers]
  have hne:∀ t,t ∈ vars→a3.tmps.getD t undef = a.tmps.getD t undef:=fun t ht=>by
    rw [hget,if_neg (fun e0=>hv e3 (by simp) (by rw [e0]; exact ht)),if_neg (fun e0=>hv e2 (by simp) (by rw [e0]; exact ht)),if_neg (fun e0=>hv e1 (by simp) (by rw [e0]; exact ht))]
  refine hops nt vars _ os [e3,e2] 3 hcomp (fun j hj=>?_) a3 w g r0 Q ⟨fun t v hlk=>?_,fun t v hlk=>?_⟩ ⟨fun t v hlk=>?_,hfr.env⟩ (by rw [hsz]; exact Nat.le_refl _) (h.far.cd.trans hcd) h.far.st (fun a' w' g' q1 q2 q3 q4 q5 q6=>?_)
  · rw [Array.getElem?_append_right (by simp)]
    simp
  · simp only [lk] at hlk
    rw [hget]
    split at hlk
    · rename_i e0; cases hlk; rw [if_pos e0]; exact hvl
    · rename_i e0
      split at hlk
      · rename_i e0'; cases hlk; rw [if_neg e0,if_pos e0']; exact hk
      · cases hlk
  · rw [hne t (hfr.env t v hlk)]
    exact henv.env t v hlk
  · simp only [lk] at hlk
    split at hlk
    · rename_i e0; rw [← e0]; exact hv e3 (by simp)
    · split at hlk
      · rename_i e0'; rw [← e0']; exact hv e2 (by simp)
      · cases hlk
  · exact hkeep a' w' g' q1 q2 q3 q4 (q5.trans hdf) (q6.trans hsz)
end
end Go.Proofs.YtepbfecmageleaaGreatDoor
namespace Go.Proofs.YtepbfecmageleaaGreatDoor
open Go
variable [Sub]
structure BW (m:Nat) (w0:World) (g0:Gh) (nt:Nat) (vars:List Nat) (ents:Array MapEntry) (ck:Nat) (a:Act) (w:World) (g:Gh) (s:St):Prop where
  far:Far m w0 g0 w g s.H
  size:a.tmps.size = nt
  dfr:Marks w0.heap.size w g s.H a.defers
  mp:w.heap[m]? = some (.map ents ck)
  unm:∀ i,¬ OwnAny g s.H m i
  noDm:∀ i,¬ g.D m i
  mlt:m < w0.heap.size
  bo:BornOk ents ck
  env:EnvRel w g s.H a.tmps ⟨[],s.env⟩
  fr:FrOk vars ⟨[],s.env⟩
structure IW (m:Nat) (w0:World) (b ck:Nat) (seen:Array Nat) (w:World) (g:Gh) (H:List Obj):Prop where
  iter:iterAt w b m ck seen
  unb:∀ i,¬ OwnAny g H b i
  noDb:∀ i,¬ g.D b i
  bge:w0.heap.size ≤ b
section
variable {P:Program} {kn:TypeId→Bool} {m nt b ck:Nat} {vars:List Nat} {w0 w w':World} {g0 g g':Gh} {seen:Array Nat} {ents:Array MapEntry} {a:Act} {s:St} {H':List Obj}
theorem IW.evo {H:List Obj} (h:IW m w0 b ck seen w g H) (hv:Evo w g H w' g' H'):IW m w0 b ck seen w' g' H':=by
  obtain ⟨q1,q2,q3⟩:=Far.apart hv h.iter h.unb h.noDb
  exact ⟨q1,q2,q3,h.bge⟩
theorem BW.mw {it:Nat} (h:BW m w0 g0 nt vars ents ck a w g s) (hi:IW m w0 b ck seen w g s.H) (hit:lk s.env it = some (.p (.v (.pointer (some ⟨b,0,none⟩))))):MW m w0 g0 nt it b seen ents ck a w g s.H :=
  ⟨h.far,h.size,h.dfr,(h.env.env it _ hit).val.1,hi.iter,h.mp,h.unm,h.noDm,hi.unb,hi.noDb,hi.bge,h.mlt,h.bo⟩
theorem MW.iw {it:Nat} {H:List Obj} (h:MW m w0 g0 nt it b seen ents ck a w g H):IW m w0 b ck seen w g H:=⟨h.iter,h.unb,h.noDb,h.bge⟩
theorem MW.bw {it:Nat} {H:List Obj} {env:Env} (h:MW m w0 g0 nt it b seen ents ck a w g H) (he:EnvRel w g H a.tmps ⟨[],env⟩) (hf:FrOk vars ⟨[],env⟩):BW m w0 g0 nt vars ents ck a w g ⟨env,H⟩ :=
  ⟨h.far,h.size,h.dfr,h.mp,h.unm,h.noDm,h.mlt,h.bo,he,hf⟩
theorem BW.evo {a':Act} {env':Env} (h:BW m w0 g0 nt vars ents ck a w g s) (hv:Evo w g s.H w' g' H') (hs:StRel w' g' H') (h1:a'.tmps.size = nt) (h2:Marks w0.heap.size w' g' H' a'.defers) (he:EnvRel w' g' H' a'.tmps ⟨[],env'⟩) (hf:FrOk vars ⟨[],env'⟩) :
    BW m w0 g0 nt vars ents ck a' w' g' ⟨env',H'⟩:=by
  obtain ⟨k1,k2,k3⟩:=Far.apart hv h.mp h.unm h.noDm
  exact ⟨h.far.evo hv hs,h1,h2,k1,k2,k3,h.mlt,h.bo,he,hf⟩
theorem BW.cd (h:BW m w0 g0 nt vars ents ck a w g s) (hcd:g0.cd = CD P kn):g.cd = CD P kn:=h.far.cd.trans hcd
theorem BW.code {lone:FuncId→Bool} {code:Code} {c:SCode} {r:SExit×St} {Q:Exit→Act→World→Prop} (h:BW m w0 g0 nt vars ents ck a w g s) (hcd:g0.cd = CD P kn) (hc:comp P kn lone nt vars code = some c) (hx:ExecM P kn c s r)
    (hQ:∀ e a' w' g',ExitRel r.1 e→Evo w g s.H w' g' r.2.H→BW m w0 g0 nt vars ents ck a' w' g' r.2→Q e a' w'):code.wpIn (FR none) 0 P Q a w:=by
  refine wpIn_mono (hx w0.heap.size none lone nt vars code (comp_inv hc) a w g ⟨h.env,h.fr,by rw [h.size]; exact Nat.le_refl _,h.far.st,h.cd hcd,h.dfr,h.far.keep.2.2.2.1,fun l0 e=>by cases e⟩) fun e a' w' hq=>?_
  obtain ⟨q0,g',q1,q2,q3,q4,q5,q6⟩:=hq
  exact hQ e a' w' g' q0 q1 (h.evo q1 q2 (q6.trans h.size) q5 q3 q4)
theorem BW.drew (h:BW m w0 g0 nt vars ents ck a w g s) (hd:Drew w w'):BW m w0 g0 nt vars ents ck a w' g s∧Evo w g s.H w' g s.H:=by
  obtain ⟨e,st⟩:=evo_still hd.still h.far.st
  exact ⟨h.evo e st h.size (h.dfr.evo e) ⟨fun t v ht=>e.rep _ _ (h.env.loc t v ht),fun t v ht=>e.rep _ _ (h.env.env t v ht)⟩ h.fr,e⟩
theorem BW.act {a':Act} (h:BW m w0 g0 nt vars ents ck a w g s) (h1:a'.tmps.size = nt) (h2:a'.defers = a.defers) (h3:∀ t ∈ vars,a'.tmps.getD t undef = a.tmps.getD t undef):BW m w0 g0 nt vars ents ck a' w g s :=
  ⟨h.far,h1,by rw [h2]; exact h.dfr,h.mp,h.unm,h.noDm,h.mlt,h.bo,⟨fun t v ht=>(by cases ht),fun t v ht=>by rw [h3 t (h.fr.env t v ht)]; exact h.env.env t v ht⟩,h.fr⟩
theorem BW.set {n:Nat} {cv:Value} {v:AV} (h:BW m w0 g0 nt vars ents ck a w g s) (hn:n ∈ vars) (hlt:n < nt) (hr:Rep w g s.H cv v):BW m w0 g0 nt vars ents ck (a.put (some n) cv) w g ⟨upd s.env n v,s.H⟩:=by
  have hs:n < a.tmps.size:=by rw [h.size]; exact hlt
  refine ⟨h.far,by rw [put_size]; exact h.size,by rw [put_defers]; exact h.dfr,h.mp,h.unm,h.noDm,h.mlt,h.bo,⟨fun t u ht=>(by cases ht),fun t u ht=>?_⟩,⟨fun t u ht=>(by cases ht),fun t u ht=>?_⟩⟩
  · simp only [lk_upd] at ht
    rw [getD_put hs]
    split at ht
    · rename_i e; cases ht; rw [if_pos e]; exact hr
    · rename_i e; rw [if_neg e]; exact h.env.env t u ht
  · simp only [lk_upd] at ht
    split at ht
    · rename_i e; rw [← e]; exact hn
    · exact h.fr.env t u ht
theorem BW.turn {ents':Array MapEntry} (h:BW m w0 g0 nt vars ents ck a w g s) (hb:BornOk ents' ck):BW m w0 g0 nt vars ents' ck a { w with heap:=w.heap.setIfInBounds m (.map ents' ck) } g s ∧
    ∀ b seen,IW m w0 b ck seen w g s.H→IW m w0 b ck seen { w with heap:=w.heap.setIfInBounds m (.map ents' ck) } g s.H:=by
  have hlt:m < w.heap.size:=(Array.getElem?_eq_some_iff.1 h.mp).1
  have ht:Turned w { w with heap:=w.heap.setIfInBounds m (.map ents' ck) } m:=⟨fun c hc=>by simp [Array.getElem?_setIfInBounds,Ne.symm hc],by simp,rfl,rfl,⟨rfl,Nat.le_refl _⟩⟩
  have hf:=h.far.turn ht h.mp (fun _ _ _ e=>by cases e) (.inl rfl) h.unm h.noDm
  have hcell:∀ c i,g.D c i→cellAt { w with heap:=w.heap.setIfInBounds m (.map ents' ck) } c i = cellAt w c i:=fun c i hd=>cellAt_heap (ht.heap c fun e=>h.noDm i (e ▸ hd)) i
  have hr:∀ c x,Rep w g s.H c x→Rep { w with heap:=w.heap.setIfInBounds m (.map ents' ck) } g s.H c x:=fun c x hr=>hr.step (fun _ _ h=>h) hcell (fun l o' hl=>.same rfl rfl rfl rfl)
  refine ⟨⟨hf,h.size,h.dfr.turn ht h.mp (by simp),by simp [Array.getElem?_setIfInBounds,hlt],h.unm,h.noDm,h.mlt,hb,⟨fun t v hv=>(by cases hv),fun t v hv=>hr _ _ (h.env.env t v hv)⟩,h.fr⟩,fun b seen hi=>⟨?_,hi.unb,hi.noDb,hi.bge⟩⟩
  have hne:b ≠ m:=by have:=hi.bge; have:=h.mlt; omega
  show _ = _
  rw [ht.heap b hne]
  exact hi.iter
theorem BW.range {n:Nat} {o:Oper} {k e t:TypeId} (h:BW m w0 g0 nt vars ents ck a w g s) (hn:n ∈ vars) (hlt:n < nt) (ht:P.underlying t = some (.map k e)) :
    (Instr.range t (.map (some m))).run P w = .ok (.pointer (some ⟨w.heap.size,0,none⟩)) (w.alloc (.mapIter (some m) ck #[] ck)) ∧
    BW m w0 g0 nt vars ents ck (a.put (some n) (.pointer (some ⟨w.heap.size,0,none⟩))) (w.alloc (.mapIter (some m) ck #[] ck)) g ⟨upd s.env n (.p (.v (.pointer (some ⟨w.heap.size,0,none⟩)))),s.H⟩ ∧
    IW m w0 w.heap.size ck #[] (w.alloc (.mapIter (some m) ck #[] ck)) g s.H:=by
  have hp:Pushed w (w.alloc (.mapIter (some m) ck #[] ck)) (.mapIter (some m) ck #[] ck):=⟨rfl,rfl,rfl,⟨rfl,Nat.le_refl _⟩⟩
  obtain ⟨ev,st⟩:=evo_push hp h.far.st
  have h1:BW m w0 g0 nt vars ents ck a (w.alloc (.mapIter (some m) ck #[] ck)) g s:=h.evo ev st h.size (h.dfr.evo ev) ⟨fun t v ht=>(by cases ht),fun t v ht=>ev.rep _ _ (h.env.env t v ht)⟩ h.fr
  refine ⟨run_range ht h.mp,h1.set hn hlt (.p (.v rfl)),⟨hp.new,fun i ho=>?_,fun i hd=>?_,h.far.keep.2.2.2.1⟩⟩
  · obtain ⟨⟨l,hl,he⟩,_⟩:=ho
    have:=IsBlk.lt h.far.st hl
    omega
  · have:=h.far.st.dom _ _ hd
    omega
end
end Go.Proofs.YtepbfecmageleaaGreatDoor
namespace Go.Proofs.YtepbfecmageleaaGreatDoor
set_option maxRecDepth 100000
open Go
def r0:Code:=.region 0 #[ ⟨some 2,.assign (.const (.slice none 0 0)),44, "multipoly.go:136",#[],none⟩,⟨some 3,.assign (.const (.int .i64 (0))),40, "multipoly.go:136",#[⟨0,.chain⟩],none⟩] false
def r1:Code:=.region 1 #[ ⟨some 9,.move (.tmp 0),126, "multipoly.go:137",#[],none⟩,⟨some 10,.range 126 (.tmp 9),0, "multipoly.go:137",#[⟨0,.data⟩],none⟩] false
def r2:Code:=.region 2 #[ ⟨some 11,.next (.tmp 10) false,0, "multipoly.go:137",#[],none⟩,⟨some 12,.extract (.tmp 11) 0,4, "multipoly.go:137",#[⟨0,.data⟩],none⟩] false
def r3:Code:=.region 3 #[ ⟨some 13,.entry (.tmp 10),0, "multipoly.go:137",#[],none⟩,⟨some 14,.extract (.tmp 13) 0,128, "multipoly.go:137",#[⟨0,.data⟩],none⟩,⟨some 15,.extract (.tmp 13) 1,26, "multipoly.go:137",#[⟨0,.data⟩,⟨5,.gcOnly .lateStores⟩],none⟩,⟨some 4,.alloc 128,0, "multipoly.go:137",#[],none⟩,⟨some 5,.alloc 26,0, "multipoly.go:137",#[],none⟩,⟨none,.store 128 (.tmp 4) (.tmp 14),0, "multipoly.go:137",#[⟨3,.data⟩,⟨1,.data⟩,⟨0,.phase⟩,⟨1,.phase⟩,⟨2,.textOnly .lateStores⟩,⟨3,.phase⟩,⟨4,.phase⟩],none⟩,⟨none,.store 26 (.tmp 5) (.tmp 15),0, "multipoly.go:137",#[⟨4,.data⟩,⟨2,.data⟩,⟨5,.chain⟩,⟨0,.phase⟩,⟨1,.phase⟩,⟨2,.phase⟩,⟨3,.phase⟩,⟨4,.phase⟩,⟨5,.phase⟩],none⟩] false
def r4:Code:=.region 4 #[ ⟨some 16,.fieldAddr 26 (.tmp 5) 1,0, "multipoly.go:138",#[],none⟩,⟨some 17,.load 24 (.tmp 16),24, "multipoly.go:138",#[⟨0,.data⟩],none⟩,⟨some 18,.call ⟨.builtin .len,#[(.tmp 17)],#[24]⟩,3, "multipoly.go:138",#[⟨1,.data⟩],none⟩,⟨some 19,.binOp .eql 3 (.tmp 18) (.const (.int .i64 (0))) 3,4, "multipoly.go:138",#[⟨2,.data⟩],none⟩] false
def r5:Code:=.region 5 #[ ⟨some 20,.move (.tmp 0),126, "multipoly.go:139",#[],none⟩,⟨some 21,.load 128 (.tmp 4),128, "multipoly.go:139",#[],none⟩,⟨none,.call ⟨.builtin .delete,#[(.tmp 20),(.tmp 21)],#[126,128]⟩,0, "multipoly.go:139",#[⟨0,.data⟩,⟨1,.data⟩],none⟩] false
def r6:Code:=.region 6 #[ ⟨some 22,.move (.tmp 0),126, "multipoly.go:142",#[],none⟩,⟨some 23,.call ⟨.builtin .len,#[(.tmp 22)],#[126]⟩,3, "multipoly.go:142",#[⟨0,.data⟩],none⟩,⟨some 24,.binOp .gtr 3 (.tmp 23) (.const (.int .i64 (2048))) 3,4, "multipoly.go:142",#[⟨1,.data⟩],none⟩] false
def r7:Code:=.region 7 #[ ⟨some 2,.assign (.const (.slice none 0 0)),44, "multipoly.go:143",#[],none⟩,⟨some 3,.assign (.const (.int .i64 (2))),40, "multipoly.go:143",#[⟨0,.chain⟩,⟨0,.phase⟩],none⟩] false
def r8:Code:=.region 8 #[ ⟨some 6,.assign (.const (.slice none 0 0)),44, "multipoly.go:145",#[],none⟩] false
def r9:Code:=.region 9 #[ ⟨some 25,.move (.tmp 0),126, "multipoly.go:146",#[],none⟩,⟨some 26,.range 126 (.tmp 25),0, "multipoly.go:146",#[⟨0,.data⟩],none⟩] false
def r10:Code:=.region 10 #[ ⟨some 27,.next (.tmp 26) false,0, "multipoly.go:146",#[],none⟩,⟨some 28,.extract (.tmp 27) 0,4, "multipoly.go:146",#[⟨0,.data⟩],none⟩] false
def r11:Code:=.region 11 #[ ⟨some 29,.entry (.tmp 26),0, "multipoly.go:146",#[],none⟩,⟨some 30,.extract (.tmp 29) 0,128, "multipoly.go:146",#[⟨0,.data⟩],none⟩,⟨some 31,.extract (.tmp 29) 1,26, "multipoly.go:146",#[⟨0,.data⟩,⟨5,.gcOnly .lateStores⟩],none⟩,⟨some 7,.alloc 128,0, "multipoly.go:146",#[],none⟩,⟨some 8,.alloc 26,0, "multipoly.go:146",#[],none⟩,⟨none,.store 128 (.tmp 7) (.tmp 30),0, "multipoly.go:146",#[⟨3,.data⟩,⟨1,.data⟩,⟨0,.phase⟩,⟨1,.phase⟩,⟨2,.textOnly .lateStores⟩,⟨3,.phase⟩,⟨4,.phase⟩],none⟩,⟨none,.store 26 (.tmp 8) (.tmp 31),0, "multipoly.go:146",#[⟨4,.data⟩,⟨2,.data⟩,⟨5,.chain⟩,⟨0,.phase⟩,⟨1,.phase⟩,⟨2,.phase⟩,⟨3,.phase⟩,⟨4,.phase⟩,⟨5,.phase⟩],none⟩] false
def r12:Code:=.region 12 #[ ⟨some 32,.move (.tmp 6),44, "multipoly.go:147",#[],none⟩,⟨some 33,.load 26 (.tmp 8),26, "multipoly.go:147",#[],none⟩,⟨some 34,.call ⟨.value (.func 115),#[(.tmp 33)],#[26]⟩,26, "multipoly.go:147",#[⟨1,.data⟩],none⟩,⟨some 35,.load 128 (.tmp 7),128, "multipoly.go:147",#[],none⟩,⟨some 36,.call ⟨.value (.func 116),#[(.tmp 35)],#[128]⟩,30, "multipoly.go:147",#[⟨3,.data⟩,⟨2,.chain⟩],none⟩,⟨some 37,.build 89 #[(0,(.tmp 34)),(1,(.tmp 36))],89, "multipoly.go:147",#[⟨2,.data⟩,⟨4,.data⟩],none⟩,⟨some 38,.buildSlice 44 1 #[(0,(.tmp 37))],44, "multipoly.go:147",#[⟨5,.data⟩],none⟩,⟨some 39,.call ⟨.builtin .append,#[(.tmp 32),(.tmp 38)],#[44,44]⟩,44, "multipoly.go:147",#[⟨0,.data⟩,⟨6,.data⟩,⟨4,.chain⟩],none⟩,⟨some 6,.assign (.tmp 39),44, "multipoly.go:147",#[⟨7,.data⟩,⟨7,.chain⟩,⟨0,.phase⟩,⟨1,.phase⟩,⟨2,.phase⟩,⟨3,.phase⟩,⟨4,.phase⟩,⟨5,.phase⟩,⟨6,.phase⟩,⟨7,.phase⟩],none⟩] true
def r13:Code:=.region 13 #[ ⟨some 40,.move (.tmp 6),44, "multipoly.go:149",#[],none⟩,⟨some 41,.call ⟨.value (.func 117),#[(.tmp 40),(.func 118)],#[44,187]⟩,0, "multipoly.go:149",#[⟨0,.data⟩],none⟩] false
def r14:Code:=.region 14 #[ ⟨some 42,.move (.tmp 6),44, "multipoly.go:150",#[],none⟩,⟨some 2,.assign (.tmp 42),44, "multipoly.go:150",#[⟨0,.data⟩,⟨0,.phase⟩],none⟩,⟨some 3,.assign (.const (.int .i64 (0))),40, "multipoly.go:150",#[⟨1,.chain⟩,⟨0,.phase⟩,⟨1,.phase⟩],none⟩] false
def collectCode:Code:=.seq r0 (.seq (.seq r1 (.block 0 (.loop (.seq r2 (.seq (.cond (.tmp 12) (.skip) (.exit 0)) (.block 1 (.seq r3 (.seq r4 (.cond (.tmp 19) r5 (.skip)))))))))) (.seq (.seq r6 (.cond (.tmp 24) (.seq r7 (.ret)) (.skip))) (.seq r8 (.seq (.seq r9 (.block 2 (.loop (.seq r10 (.seq (.cond (.tmp 28) (.skip) (.exit 2)) (.block 3 (.seq r11 r12))))))) (.seq r13 (.seq r14 (.ret)))))))
def vs69:List Nat:=[0,2,3,10,12,5,19,4,24,26,28,6,8,7]
noncomputable def fn69:Func:=(TP.funcs[69]?).getD default
theorem fn69_at:TP.funcs[69]? = some fn69:=by
  have h:(TP.funcs[69]?).isSome = true:=by kernel_rfl
  obtain ⟨x,hx⟩:=Option.isSome_iff_exists.1 h
  unfold fn69
  rw [hx]; rfl
theorem fn69_body:fn69.body = some collectCode:=by kernel_rfl
theorem fn69_nt:fn69.ntmps = 43:=by kernel_rfl
theorem fn69_res:fn69.results = #[.tmp 2,.tmp 3]:=by kernel_rfl
noncomputable def cps (c:Code):Option SCode:=comp TP knT (lonesF 69) 43 vs69 c
def s0:SCode:=R [ox 2 (.mov (.c (.lit []))),ox 3 (.mov (i 0))]
def s4:SCode:=R [ot 16 (.fadr 1 (.x 5)),ot 17 (.load1 (.t 16)),ot 18 (.len (.t 17)),ox 19 (.bin .eql (.t 18) (i 0))]
def s8:SCode:=R [ox 6 (.mov (.c (.lit [])))]
def s12:SCode:=D [⟨ot 32 (.mov (.x 6)),.free,0,3⟩,⟨ot 33 (.loadn 2 (.x 8)),.here,0,0⟩,⟨ot 34 (.call (.f 115) [(.t 33)]),.write,0,1⟩,⟨ot 35 (.loadn 32 (.x 7)),.read,0,1⟩,⟨ot 36 (.call (.f 116) [(.t 35)]),.write,1,2⟩,⟨ot 37 (.build [.p (.v (bF)),.lit [],.lit []] [(0,2,(.t 34)),(2,1,(.t 36))]),.free,2,2⟩,⟨ot 38 (.slit [.v (bF),.sl [],.sl []] 1 [(0,(.t 37))]),.write,2,3⟩,⟨ot 39 (.append 56 3 (.t 32) (.t 38)),.write,3,4⟩,⟨ox 6 (.mov (.t 39)),.free,4,4⟩]
def s14:SCode:=R [ot 42 (.mov (.x 6)),ox 2 (.mov (.t 42)),ox 3 (.mov (i 0))]
theorem cp0:cps r0 = some s0:=by kernel_rfl
theorem cp4:cps r4 = some s4:=by kernel_rfl
theorem cp8:cps r8 = some s8:=by kernel_rfl
theorem cp12:cps r12 = some s12:=by kernel_rfl
theorem cp14:cps r14 = some s14:=by kernel_rfl
end Go.Proofs.YtepbfecmageleaaGreatDoor
namespace Go.Proofs.YtepbfecmageleaaGreatDoor
open Go
theorem WO_sliceArr {X:FuncId→List AV→List Obj→Option (AV×List Obj)} {Γ:FuncId→Option SFunc} {d:SD} {os:List SO} {e:Fr} {H:List Obj} {K:Fr→List Obj→Prop} {n:Nat} {x:SA} {l h:Option SA} :
    WO X Γ (⟨d,.sliceArr n x l h,none⟩::os) e H K↔bindP (ev e x) fun a=>bindP (evIntO e 0 l) fun l=>bindP (evIntO e n h) fun h=>bindP (sliceArrV n a l h) fun v=>WO X Γ os (dstPut d e v) H K:=by
  rw [WO_op rfl]
  simp only [evOp]
  cases ev e x with
  | none=>rfl
  | some a =>
    cases evIntO e 0 l with
    | none=>rfl
    | some l =>
      cases evIntO e n h with
      | none=>simp [bindP]
      | some h=>cases hs:sliceArrV n a l h <;> simp [bindP,hs]
def Limbs (rows:List (List PV)):Prop:=rows ≠ []∧(∀ r ∈ rows,r.length = 1)∧rows.length ≤ 1000000
theorem call161 {rows:List (List PV)} (h:Limbs rows):call X0 Gam 161 [.p (.sl rows)] [] = some (.ar 0 0 0 rows.length,[.arr 1 none 0 rows]):=by
  obtain ⟨hne,h1,hl⟩:=h
  have hall:(rows.all fun r=>r.length == 1) = true:=by simpa using h1
  have hwf:WF X0 Gam 161 [.p (.sl rows)] [] fun r H=>r = .ar 0 0 0 rows.length∧H = [.arr 1 none 0 rows]:=by
    refine WF_intro rfl rfl ?_
    cases hr:rows with
    | nil=>exact absurd hr hne
    | cons r rs =>
      have hall':((r::rs).all fun r=>r.length == 1) = true:=hr ▸ hall
      have hl':(r::rs).length ≤ 1000000:=hr ▸ hl
      have hap:appendV [] 4 1 (.lit []) (.p (.sl (r::rs))) = some (.ar 0 0 0 (r::rs).length,[.arr 1 none 0 (r::rs)]):=by
        have hb:(r::rs).length * 4 ≤ 140737488355328:=by omega
        simp only [appendV,rowsOf,Option.bind_some,hall',if_true,List.isEmpty_cons,Bool.false_eq_true,if_false,List.length_nil,hb,List.all_nil,and_self,List.nil_append,Nat.zero_add]
      have hn:isNil (.p (.sl (r::rs))) = some false:=rfl
      simp [EV,hap,hn,fillRows,partArs,freeze]
  unfold WF at hwf
  cases hc:call X0 Gam 161 [.p (.sl rows)] [] with
  | none=>rw [hc] at hwf; exact hwf.elim
  | some q =>
    rw [hc] at hwf
    obtain ⟨e1,e2⟩:=hwf
    rw [← e1,← e2]
theorem C161 {rows:List (List PV)} {K:AV→List Obj→Prop} (h:Limbs rows):WC X0 Gam 161 [.p (.sl rows)] [] K↔K (.ar 0 0 0 rows.length) [.arr 1 none 0 rows]:=by
  have hamb:isAmb [.p (.sl rows)] = false:=by
    cases hr:rows with
    | nil=>exact absurd hr h.1
    | cons r rs=>rfl
  have hca:callAt X0 Gam 161 [.p (.sl rows)] [] = some (.ar 0 0 0 rows.length,[.arr 1 none 0 rows]):=by
    rw [caq]
    have hG:Gam 161 = some K161:=rfl
    rw [hG]
    dsimp only
    have hp:passArgs [] K161.raw 0 [.p (.sl rows)] = some [.p (.sl rows)]:=rfl
    rw [hp]
    have hf:freeze [] (passFrz K161.raw 0 [.p (.sl rows)]) = []:=by
      simp [passFrz,arsOf,arsA,freeze,K161]
    simp only [hf]
    have hr:reach [] (4 * ([]:List Obj).length * ([]:List Obj).length + 4) (refsL [.p (.sl rows)]) [] = []:=rfl
    rw [hr]
    simp only [pickObjs,hamb,Bool.and_false,Bool.false_eq_true,if_false]
    have hren:renL (List.idxOf · ([]:List Nat)) [.p (.sl rows)] = [.p (.sl rows)]:=rfl
    simp only [hren,List.map_nil,call161 h,Option.bind_eq_bind,Option.bind_some]
    rfl
  unfold WC
  rw [hca]
  rfl
theorem lone_rows {n:Nat} {rows:List (List PV)} (hn:n = rows.length):loneV (.ar 0 0 0 n,[.arr 1 none 0 rows]) = some (.p (.sl rows),[]):=by
  subst hn
  have hc:canon [.arr 1 none 0 rows] (.ar 0 0 0 rows.length) = some (.p (.sl rows)):=by simp [canon,rowsOf,seen]
  have hf:freeze [.arr 1 none 0 rows] (arsOf [.ar 0 0 0 rows.length]) = [.arr 1 (some 0) 0 rows]:=by simp [arsOf,arsA,freeze]
  unfold loneV comeBack
  simp only [List.isEmpty_cons,Bool.false_eq_true,if_false,hc,Option.bind_some,flat,Bool.false_and,hf]
  rfl
theorem number_pf {b:Bool} {rows:List (List PV)} (h:Limbs rows):PF X0 Gam 115 [.agg [.p (.v (.bool b)),.p (.sl rows)]] (.agg [.p (.v (.bool b)),.p (.sl rows)]):=by
  refine WF_intro rfl rfl ?_
  simp [EV,evOp,fill,splice,C161 h,lone_rows]
theorem conv_u8 {n:Nat} (h:n < 256):IntKind.i64.wrap (n:Int) = n:=wrap_i64 (by omega)
theorem list_pf {x:List Nat} (hl:x.length = 32) (hb:∀ n ∈ x,n < 256):PF X0 Gam 116 [.agg (exC x)] (.p (.sl (exRows (trim x)))):=by
  refine WF_intro rfl rfl ?_
  have hcl:(exC x).length = 32:=by simp [exC,hl]
  refine W_seq_cut (fun s=>lk s.env 1 = some (.ptr 0 0)∧lk s.env 2 = some (.lit [])∧s.H = [.cells (exC x)]) (by simp [EV]) ?_
  rintro ⟨env,H⟩ ⟨h1,h2,rfl⟩
  simp only at h1 h2
  refine W_seq_cut (fun s=>lk s.env 1 = some (.ptr 0 0)∧lk s.env 3 = some (int 32)∧s.H = [.cells (exC x)]) (by simp [EV,h1]) ?_
  clear h1 h2 env
  rintro ⟨env,H⟩ ⟨h1,h3,rfl⟩
  simp only at h1 h3
  refine W_seq_cut (fun s=>lk s.env 1 = some (.ptr 0 0)∧lk s.env 3 = some (int (trim x).length)∧s.H = [.cells (exC x)]) ?_ ?_
  · rw [W_block]
    refine W_loop (fun n s=>lk s.env 1 = some (.ptr 0 0)∧lk s.env 3 = some (int n)∧s.H = [.cells (exC x)]∧n ≤ 32∧trim (x.take n) = trim x) ?_ 32 _ ⟨h1,h3,rfl,by omega,by rw [List.take_of_length_le (by omega)]⟩
    clear h1 h3 env
    rintro n ⟨env,H⟩ ⟨h1,h3,rfl,hn,ht⟩
    simp only at h1 h3
    cases n with
    | zero =>
      have h0:trim x = []:=by rw [← ht]; rfl
      simp [EV,h1,h3,h0]
    | succ m =>
      have hm:x[m]? = some x[m]:=by simp
      have hw:IntKind.i64.wrap (m:Int) = m:=wrap_i64 (by omega)
      have hi:idxArr 32 1 (.ptr 0 0) (m:Int) = some (.ptr 0 m):=by
        have:(m:Int) < 32:=by omega
        simp [idxArr,fadrV,this]
      have hld:loadC [.cells (exC x)] 1 (.ptr 0 m) = some [.p (.v (I .u8 (x[m]'(by omega):Nat)))]:=by
        have:m + 1 ≤ (exC x).length:=by omega
        simp only [loadC,List.getElem?_cons_zero,this,if_true]
        rw [List.drop_eq_getElem_cons (by omega)]
        simp [exC]
      by_cases hz:x[m] = 0
      · simp [EV,evOp,h1,h3,hw,hi,hld,load1V,hz]
        rw [hz] at hm
        exact ⟨m,by omega,rfl,by omega,by rw [← trim_take_zero hm,ht]⟩
      · simp [EV,evOp,h1,h3,hw,hi,hld,load1V,hz]
        rw [← ht,trim_take_full hm hz]
        simp
        omega
  clear h1 h3 env
  rintro ⟨env,H⟩ ⟨h1,h3,rfl⟩
  simp only at h1 h3
  have hle:(trim x).length ≤ 32:=by
    have:=congrArg List.length (trim_take (l:=x))
    rw [List.length_take] at this
    omega
  have hsl:sliceArrV 32 (.ptr 0 0) 0 ((trim x).length:Int) = some (.csl 0 0 (trim x).length):=by
    have h0:((trim x).length:Int) ≤ 32:=by omega
    simp [sliceArrV,h0]
  refine W_seq_cut (fun s=>lk s.env 1 = some (.ptr 0 0)∧lk s.env 3 = some (int (trim x).length)∧lk s.env 4 = some (.lit [])∧s.H = [.cells (exC x)]) (by simp [EV,h1,h3]) ?_
  clear h1 h3 env
  rintro ⟨env,H⟩ ⟨h1,h3,h4,rfl⟩
  simp only at h1 h3 h4
  refine W_seq_cut (fun s=>∃ l,lk s.env 4 = some l∧canon s.H l = some (.p (.sl (exRows (trim x))))) ?_ ?_
  · refine W_seq_cut (fun s=>lk s.env 19 = some (.csl 0 0 (trim x).length)∧lk s.env 20 = some (int (trim x).length)∧lk s.env 21 = some (int 0)∧lk s.env 4 = some (.lit [])∧s.H = [.cells (exC x)]) ?_ ?_
    · simp [EV,WO_sliceArr,lenOf,h1,h3,h4,hsl]
    clear h1 h3 h4 env
    rintro ⟨env,H⟩ ⟨h19,h20,h21,h4,rfl⟩
    simp only at h19 h20 h21 h4
    rw [W_block]
    refine W_loop (fun n s=>∃ k,n = (trim x).length - k∧k ≤ (trim x).length∧lk s.env 19 = some (.csl 0 0 (trim x).length)∧lk s.env 20 = some (int (trim x).length)∧lk s.env 21 = some (int k) ∧
      (match k with
       | 0=>lk s.env 4 = some (.lit [])∧s.H = [.cells (exC x)]
       | j + 1=>lk s.env 4 = some (.ar 1 j 0 (j + 1))∧s.H = [.cells (exC x),.arr 1 none j (exRows (x.take (j + 1)))])) ?_ _ _ ⟨0,rfl,by omega,h19,h20,h21,h4,rfl⟩
    clear h19 h20 h21 h4 env
    rintro n ⟨env,H⟩ ⟨k,rfl,hk,h19,h20,h21,hH⟩
    simp only at h19 h20 h21 hH
    by_cases hkn:k < (trim x).length
    · have hw:IntKind.i64.wrap ((k:Int) + 1) = (k:Int) + 1:=wrap_i64 (by omega)
      have hwc:IntKind.i64.wrap ((x[k]'(by omega):Nat):Int) = (x[k]'(by omega):Nat):=conv_u8 (hb _ (List.getElem_mem _))
      have hidx:∀ H:List Obj,idxSl H 1 (.csl 0 0 (trim x).length) (k:Int) = some (.ptr 0 k):=fun H=>by simp [idxSl,hkn]
      have hld:∀ Hs:List Obj,loadC (.cells (exC x)::Hs) 1 (.ptr 0 k) = some [.p (.v (I .u8 (x[k]'(by omega):Nat)))]:=fun Hs=>by
        have:k + 1 ≤ (exC x).length:=by omega
        simp only [loadC,List.getElem?_cons_zero,this,if_true]
        rw [List.drop_eq_getElem_cons (by omega)]
        simp [exC]
      have htk:exRows (x.take (k + 1)) = exRows (x.take k)++[[.v (I .i64 (x[k]'(by omega):Nat))]]:=by
        unfold exRows; rw [List.take_succ_eq_append_getElem (by omega),List.map_append]; rfl
      cases k with
      | zero =>
        obtain ⟨h4,rfl⟩:=hH
        have hap:appendV [.cells (exC x)] 8 1 (.lit []) (.lit [[.v (I .i64 (x[0]'(by omega):Nat))]]) = some (.ar 1 0 0 1,[.cells (exC x),.arr 1 none 0 [[.v (I .i64 (x[0]'(by omega):Nat))]]]):=by
          simp [appendV,rowsOf]
        have hld0:=hld []
        have hid:idxSl [.cells (exC x)] 1 (.csl 0 0 (trim x).length) 0 = some (.ptr 0 0):=hidx _
        have hex:exRows (x.take 1) = [[.v (I .i64 (x[0]'(by omega):Nat))]]:=by simpa [exRows] using htk
        simp [EV,evOp,h19,h20,h21,h4,hkn,hid,hld0,hwc,fillRows,splice,partArs,freeze,toPVs,toPV,hap]
        have hw1:IntKind.i64.wrap 1 = 1:=by decide
        refine ⟨_,?_,1,rfl,?_,?_⟩ <;> first | omega | (simp [hex,hw1])
      | succ j =>
        obtain ⟨h4,rfl⟩:=hH
        have hap:appendV [.cells (exC x),.arr 1 none j (exRows (x.take (j + 1)))] 8 1 (.ar 1 j 0 (j + 1)) (.lit [[.v (I .i64 (x[j + 1]'(by omega):Nat))]]) =
            some (.ar 1 (j + 1) 0 (j + 1 + 1),[.cells (exC x),.arr 1 none (j + 1) (exRows (x.take (j + 1 + 1)))]):=by
          have h1:(exRows (x.take (j + 1))).length = j + 1:=by simp [exRows]; omega
          have h2:(j + 1 + 1) * 8 ≤ 140737488355328:=by omega
          rw [htk]
          simp only [appendV,rowsOf,Option.bind_some,List.all_cons,List.all_nil,List.length_cons,List.length_nil,Nat.zero_add,beq_self_eq_true,Bool.and_self,if_true,List.getElem?_cons_succ,List.getElem?_cons_zero,h1,h2,and_self]
          simp
        have hld0:=hld [.arr 1 none j (exRows (x.take (j + 1)))]
        have hid:idxSl [.cells (exC x),.arr 1 none j (exRows (x.take (j + 1)))] 1 (.csl 0 0 (trim x).length) ((j:Int) + 1) = some (.ptr 0 (j + 1)):=hidx _
        have hkn':(j:Int) + 1 < (trim x).length:=by omega
        have hw':IntKind.i64.wrap ((j:Int) + 1 + 1) = (j:Int) + 1 + 1:=hw
        simp [EV,evOp,h19,h20,h21,h4,hkn',hid,hld0,hwc,hw',fillRows,splice,partArs,freeze,toPVs,toPV,hap]
        refine ⟨_,?_,j + 1 + 1,rfl,?_,?_⟩ <;> first | omega | simp
    · have hk':k = (trim x).length:=by omega
      subst hk'
      simp [EV,h19,h20,h21]
      cases hn:(trim x).length with
      | zero =>
        rw [hn] at hH
        obtain ⟨h4,rfl⟩:=hH
        have:trim x = []:=List.eq_nil_of_length_eq_zero hn
        exact ⟨_,h4,by simp [canon,exRows,this]⟩
      | succ j =>
        rw [hn] at hH
        obtain ⟨h4,rfl⟩:=hH
        have htr:trim x = x.take (j + 1):=by rw [← hn]; exact trim_take
        have hl2:(exRows (x.take (j + 1))).length = j + 1:=by simp [exRows]; omega
        exact ⟨_,h4,by rw [htr]; simp [canon,rowsOf,seen,hl2,List.take_of_length_le (Nat.le_of_eq hl2)]⟩
  · rintro ⟨env,H⟩ ⟨l,h4,hc⟩
    simp only at h4 hc
    simp [EV,h4,hc]
theorem getD_drop {l:List Nat} {k:Nat}:(l.drop k).headD 0 = l.getD k 0:=by
  rw [List.headD_eq_head?_getD,List.head?_drop,List.getD_eq_getElem?_getD]
theorem order_pf {a b:List Nat} (ha:a.length ≤ 32) (hb:b.length ≤ 32):PF X0 Gam 119 [.p (.sl (exRows a)),.p (.sl (exRows b))] (int (ordE (max a.length b.length) a b)):=by
  refine WF_intro rfl rfl ?_
  have la:(exRows a).length = a.length:=by simp [exRows]
  have lb:(exRows b).length = b.length:=by simp [exRows]
  have hmx:maxmin true (.int .i64 (a.length:Int)) (.int .i64 (b.length:Int)) = some (.int .i64 (max a.length b.length:Nat)):=by
    simp only [maxmin,if_true]
    congr 2
    split <;> omega
  refine W_seq_cut (fun s=>lk s.env 0 = some (.p (.sl (exRows a)))∧lk s.env 1 = some (.p (.sl (exRows b)))∧s.H = []) (by simp [EV]) ?_
  rintro ⟨env,H⟩ ⟨h0,h1,rfl⟩
  simp only at h0 h1
  refine W_seq_cut (fun s=>ordE (max a.length b.length) a b = 0) ?_ ?_
  · refine W_seq_cut (fun s=>lk s.env 0 = some (.p (.sl (exRows a)))∧lk s.env 1 = some (.p (.sl (exRows b)))∧lk s.env 12 = some (int (max a.length b.length:Nat))∧lk s.env 13 = some (int 0)∧s.H = []) ?_ ?_
    · simp [EV,h0,h1,la,lb,hmx]
    clear h0 h1 env
    rintro ⟨env,H⟩ ⟨h0,h1,h12,h13,rfl⟩
    simp only at h0 h1 h12 h13
    rw [W_block]
    refine W_loop (fun n s=>∃ k,n = max a.length b.length - k∧k ≤ max a.length b.length∧lk s.env 0 = some (.p (.sl (exRows a)))∧lk s.env 1 = some (.p (.sl (exRows b)))∧lk s.env 12 = some (int (max a.length b.length:Nat))∧lk s.env 13 = some (int k)∧s.H = [] ∧
      ordE (max a.length b.length) a b = ordE (max a.length b.length - k) (a.drop k) (b.drop k)) ?_ _ _ ⟨0,rfl,by omega,h0,h1,h12,h13,rfl,rfl⟩
    clear h0 h1 h12 h13 env
    rintro n ⟨env,H⟩ ⟨k,rfl,hk,h0,h1,h12,h13,rfl,hord⟩
    simp only at h0 h1 h12 h13
    by_cases hkn:k < max a.length b.length
    · have hkn':(k:Int) < (max a.length b.length:Nat):=by omega
      have hw:IntKind.i64.wrap ((k:Int) + 1) = (k:Int) + 1:=wrap_i64 (by omega)
      have hstep:ordE (max a.length b.length - k) (a.drop k) (b.drop k) = if a.getD k 0 = b.getD k 0 then ordE (max a.length b.length - (k + 1)) (a.drop (k + 1)) (b.drop (k + 1)) else if a.getD k 0 < b.getD k 0 then -1 else 1:=by
        rw [show max a.length b.length - k = (max a.length b.length - (k + 1)) + 1 by omega,ordE,getD_drop,getD_drop,List.tail_drop,List.tail_drop]
      have idx:∀ (c:List Nat),k < c.length→idxSl [] 1 (.p (.sl (exRows c))) (k:Int) = some (.imm [.v (I .i64 (c.getD k 0:Nat))] 0):=fun c hc=>by
        have h1:(exRows c)[k]? = some [.v (I .i64 (c.getD k 0:Nat))]:=by
          simp [exRows,hc,List.getD_eq_getElem?_getD]
        simp [idxSl,h1]
      have out:∀ (c:List Nat),¬ k < c.length→c.getD k 0 = 0:=fun c hc=>by
        rw [List.getD_eq_getElem?_getD,List.getElem?_eq_none (by omega)]; rfl
      generalize hu:a.getD k 0 = u at *
      generalize hv:b.getD k 0 = v at *
      by_cases ha2:k < a.length
      · have ia:=idx a ha2
        rw [hu] at ia
        by_cases hb2:k < b.length
        · have ib:=idx b hb2
          rw [hv] at ib
          by_cases huv:u = v
          · rw [if_pos huv] at hstep
            subst huv
            simp [EV,evOp,h0,h1,h12,h13,la,lb,ha2,hb2,ia,ib,hkn',hw]
            exact ⟨_,by omega,k + 1,rfl,by omega,by simp,by rw [hord,hstep]⟩
          · rw [if_neg huv] at hstep
            have huv':¬ (u:Int) = v:=by omega
            by_cases hlt:u < v
            · simp [EV,evOp,h0,h1,h12,h13,la,lb,ha2,hb2,ia,ib,hkn',hw,huv',hlt]
              rw [hord,hstep]
              simp [hlt]
            · simp [EV,evOp,h0,h1,h12,h13,la,lb,ha2,hb2,ia,ib,hkn',hw,huv',hlt]
              rw [hord,hstep]
              simp [hlt]
        · have hv0:=out b hb2
          rw [hv] at hv0
          subst hv0
          by_cases huv:u = 0
          · rw [if_pos huv] at hstep
            subst huv
            simp [EV,evOp,h0,h1,h12,h13,la,lb,ha2,hb2,ia,hkn',hw]
            exact ⟨_,by omega,k + 1,rfl,by omega,by simp,by rw [hord,hstep]⟩
          · rw [if_neg huv] at hstep
            have huv':¬ (u:Int) = 0:=by omega
            have hlt:¬ (u:Int) < 0:=by omega
            simp [EV,evOp,h0,h1,h12,h13,la,lb,ha2,hb2,ia,hkn',hw,huv,huv',hlt]
            rw [hord,hstep]
            simp
      · have hu0:=out a ha2
        rw [hu] at hu0
        subst hu0
        have hb2:k < b.length:=by omega
        have ib:=idx b hb2
        rw [hv] at ib
        by_cases huv:0 = v
        · rw [if_pos huv] at hstep
          subst huv
          simp [EV,evOp,h0,h1,h12,h13,la,lb,ha2,hb2,ib,hkn',hw]
          exact ⟨_,by omega,k + 1,rfl,by omega,by simp,by rw [hord,hstep]⟩
        · rw [if_neg huv] at hstep
          have hlt:0 < v:=by omega
          have huv':¬ (0:Int) = v:=by omega
          simp [EV,evOp,h0,h1,h12,h13,la,lb,ha2,hb2,ib,hkn',hw,huv',hlt]
          rw [hord,hstep]
          simp [hlt]
    · have hk':k = max a.length b.length:=by omega
      subst hk'
      simp [EV,h0,h1,h12,h13]
      rw [hord]
      simp [ordE]
  · rintro ⟨env,H⟩ h0
    simp [EV,h0]
section
variable {a:List AV} {H:List Obj} {K:AV→List Obj→Prop}
theorem C119:WC X0 Gam 119 a H K↔bindP (canons H a) fun aZ=>bif (refsL aZ).isEmpty then WP X0 Gam 119 false aZ H (freeze H (arsOf a)) K else WCx X0 Gam 119 a H K:=WC_go rfl rfl rfl rfl
theorem C115:WC X0 Gam 115 a H K↔bindP (canons H a) fun aZ=>bif (refsL aZ).isEmpty then WP X0 Gam 115 false aZ H (freeze H (arsOf a)) K else WCx X0 Gam 115 a H K:=WC_go rfl rfl rfl rfl
theorem C116:WC X0 Gam 116 a H K↔bindP (canons H a) fun aZ=>bif (refsL aZ).isEmpty then WP X0 Gam 116 false aZ H (freeze H (arsOf a)) K else WCx X0 Gam 116 a H K:=WC_go rfl rfl rfl rfl
end
theorem P119 {a b:List Nat} {H H1:List Obj} {K:AV→List Obj→Prop} (ha:a.length ≤ 32) (hb:b.length ≤ 32):WP X0 Gam 119 false [.p (.sl (exRows a)),.p (.sl (exRows b))] H H1 K↔K (int (ordE (max a.length b.length) a b)) H:=WP_flat (order_pf ha hb) rfl
theorem cmp_pf {a b:List Nat} {s1 s2 m1 m2:PV} (ha:a.length ≤ 32) (hb:b.length ≤ 32) :
    PF X0 Gam 118 [.agg [.p s1,.p m1,.p (.sl (exRows a))],.agg [.p s2,.p m2,.p (.sl (exRows b))]] (int (ordE (max a.length b.length) a b)):=by
  refine WF_intro rfl rfl ?_
  simp [EV,C119]
  rw [P119 ha hb]
  simp [EV]
end Go.Proofs.YtepbfecmageleaaGreatDoor

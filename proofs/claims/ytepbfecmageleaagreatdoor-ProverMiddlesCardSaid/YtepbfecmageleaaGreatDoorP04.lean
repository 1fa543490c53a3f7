/- Part of the proof of Rows.ProverMiddlesCardSaid: EvR, EvT. -/
import Derived.Laws.Sem
import Derived.Test.YtepbfecmageleaaGreatDoorP01
set_option linter.all false
namespace Go.Proofs.YtepbfecmageleaaGreatDoor
open Go
class Sub where
  val:Bool→Nat→PV
  ne:∀ n,∃ r rs,val true n = .sl (r::rs)
instance (priority:=low) noSub:Sub:=⟨fun _ _=>.sl [[]],fun _=>⟨[],[],rfl⟩⟩
variable [Sub]
abbrev cellAt (w:World) (b i:Nat):Option Value:=w.cell? ⟨b,i,none⟩
structure Gh where
  blk:Nat→Nat
  base:Nat→Nat
  cap:Nat→Nat
  D:Nat→Nat→Prop
  cd:Code→SCode→Nat→List Nat→Prop
def BornOk (ents:Array MapEntry) (ck:Nat):Prop:=ents.toList.Pairwise (fun a b=>a.born < b.born)∧∀ e ∈ ents.toList,e.born < ck
inductive RepP (w:World) (D:Nat→Nat→Prop):Value→PV→Prop
  | v {x:Value} (h:Scalar x = true):RepP w D x (.v x)
  | nsl:RepP w D (.slice none 0 0) .nsl
  | nil:RepP w D (.slice none 0 0) (.sl [])
  | sl {b o n cap es:Nat} {rows:List (List PV)} (cs:Nat→Nat→Value) (hn:rows.length = n) (hc:n ≤ cap)
      (hes:∀ r ∈ rows,r.length = es)
      (hD:∀ i j,i < n→j < es→D b (o + i * es + j))
      (hcell:∀ i j,i < n→j < es→cellAt w b (o + i * es + j) = some (cs i j))
      (hr:∀ (i j:Nat) (row:List PV) (x:PV),rows[i]? = some row→row[j]? = some x→RepP w D (cs i j) x) :
      RepP w D (.slice (some ⟨b,o,none⟩) n cap) (.sl rows)
  | h {c:Value} {s:Bool} {n:Nat} (h:RepP w D c (Sub.val s n)):RepP w D c (.h s n)
theorem RepP.mono {w w':World} {D D':Nat→Nat→Prop} (hD:∀ b i,D b i→D' b i) (hw:∀ b i,D b i→cellAt w' b i = cellAt w b i)
    {c:Value} {x:PV} (h:RepP w D c x):RepP w' D' c x:=by
  induction h with
  | v h=>exact .v h
  | nsl=>exact .nsl
  | nil=>exact .nil
  | h _ ih=>exact .h ih
  | sl cs hn hc hes hDD hcell _ ih=>exact .sl cs hn hc hes (fun i j hi hj=>hD _ _ (hDD i j hi hj)) (fun i j hi hj=>by rw [hw _ _ (hDD i j hi hj)]; exact hcell i j hi hj) ih
def AddrOk (a:Option Addr) (cap:Nat):Prop:=(a = none∧cap = 0)∨∃ b o,a = some ⟨b,o,none⟩
def ArOk (w:World) (g:Gh) (H:List Obj) (l v off len:Nat) (a:Option Addr) (cap:Nat):Prop :=
  len ≤ cap∧AddrOk a cap∧∃ es fz ver rows,H[l]? = some (.arr es fz ver rows)∧v ≤ ver∧off + len ≤ rows.length∧(seen fz ver v = true →
    (match fz with
     | none=>0 < cap→a = some ⟨g.blk l,g.base l + off * es,none⟩
     | some _=>RepP w g.D (.slice a len cap) (.sl ((rows.drop off).take len))) ∧
    (v = ver→off = 0→a = some ⟨g.blk l,g.base l,none⟩∧cap = g.cap l)∧(v = ver→rows.length ≤ off + cap))
def ElpOk (w:World) (g:Gh) (H:List Obj) (l v i k:Nat) (b o:Nat):Prop :=
  ∃ es fz ver rows,H[l]? = some (.arr es fz ver rows)∧v ≤ ver∧i < rows.length∧(seen fz ver v = true →
    (match fz with
     | none=>b = g.blk l∧o = g.base l + i * es + k
     | some _=>∀ row:List PV,rows[i]? = some row→∀ (j:Nat) (x:PV),row[k + j]? = some x→g.D b (o + j)∧∃ c,cellAt w b (o + j) = some c∧RepP w g.D c x))
inductive Rep (w:World) (g:Gh) (H:List Obj):Value→AV→Prop
  | p {c:Value} {x:PV} (h:RepP w g.D c x):Rep w g H c (.p x)
  | lit {a:Option Addr} {n:Nat} {rows:List (List PV)} (h:RepP w g.D (.slice a n n) (.sl rows)):Rep w g H (.slice a n n) (.lit rows)
  | ar {l v off len:Nat} {a:Option Addr} {cap:Nat} (h:ArOk w g H l v off len a cap):Rep w g H (.slice a len cap) (.ar l v off len)
  | ptr {r off:Nat} {c:List AV} (h:H[r]? = some (.cells c)):Rep w g H (.pointer (some ⟨g.blk r,off,none⟩)) (.ptr r off)
  | elp {l v i k b o:Nat} (h:ElpOk w g H l v i k b o):Rep w g H (.pointer (some ⟨b,o,none⟩)) (.elp l v i k)
  | imm {b i off:Nat} {cells:List PV} (cs:Nat→Value) (hD:∀ j,j < cells.length→g.D b (i + j)) (hcell:∀ j,j < cells.length→cellAt w b (i + j) = some (cs j))
      (hr:∀ (j:Nat) (x:PV),cells[j]? = some x→RepP w g.D (cs j) x):Rep w g H (.pointer (some ⟨b,i + off,none⟩)) (.imm cells off)
  | fn {f:Fn} {a b:Array Value} {aZ bs:List AV} (ha:a.size = aZ.length) (hb:b.size = bs.length)
      (hra:∀ (i:Nat) (c:Value) (x:AV),a[i]? = some c→aZ[i]? = some x→Rep w g H c x) (hrb:∀ (i:Nat) (c:Value) (x:AV),b[i]? = some c→bs[i]? = some x→Rep w g H c x):Rep w g H (.func f a b) (.fn f aZ bs)
  | agg {a:Array Value} {aZ:List AV} (ha:a.size = aZ.length) (h1:∀ (i:Nat) (c:Value),a[i]? = some c→c.oneCell' = true) (hra:∀ (i:Nat) (c:Value) (x:AV),a[i]? = some c→aZ[i]? = some x→Rep w g H c x):Rep w g H (.agg a) (.agg aZ)
  | tup {a:Array Value} {aZ:List AV} (ha:a.size = aZ.length) (hra:∀ (i:Nat) (c:Value) (x:AV),a[i]? = some c→aZ[i]? = some x→Rep w g H c x):Rep w g H (.tuple a) (.tup aZ)
  | map {r:Nat} {es:List (Value×AV)} (h:H[r]? = some (.map es)):Rep w g H (.map (some (g.blk r))) (.map r)
  | emp {b o cap:Nat}:Rep w g H (.slice (some ⟨b,o,none⟩) 0 cap) .emp
  | csl {r off n cap:Nat} {c:List AV} (h:H[r]? = some (.cells c)) (hn:n ≤ cap):Rep w g H (.slice (some ⟨g.blk r,off,none⟩) n cap) (.csl r off n)
  | yld {l:Nat} {st:LS} {env:List (Nat×AV)} {ps:List Nat} {a b:SCode} (h:H[l]? = some (.loop st env ps a b)):Rep w g H (.func (.yield (g.blk l)) #[] #[]) (.yld l)
def IsBlk (g:Gh) (H:List Obj) (b:Nat):Prop:=∃ l,l < H.length∧g.blk l = b
def OwnAny (g:Gh) (H:List Obj) (b i:Nat):Prop:=IsBlk g H b∧¬ g.D b i
def jumpOf:SExit→Option Code
  | .normal=>none
  | .exit i=>some (.exit i)
  | .ret=>some .ret
def stOk (r:Go.Loop):LS→Prop
  | .ready=>r.state = .ready∧r.pending = none
  | .busy=>r.state = .busy
  | .done x=>r.state = .done∧∃ c,jumpOf x = some c∧r.pending = some c
  | .gone=>True
def LoopRel (w:World) (g:Gh) (H:List Obj) (r:Go.Loop) (st:LS) (env:List (Nat×AV)) (ps:List Nat) (a b:SCode):Prop :=
  stOk r st∧(st ≠ .gone→r.params.toList = ps∧(∀ (t:Nat) (v:AV),lk env t = some v→Rep w g H (r.tmps.getD t undef) v) ∧
    ∃ nt vars,g.cd r.assign a nt vars∧g.cd r.body b nt vars∧nt ≤ r.tmps.size∧(∀ (t:Nat) (v:AV),lk env t = some v→t ∈ vars)∧∀ p ∈ ps,p ∈ vars∧p < nt)
def ObjRel (w:World) (g:Gh) (H:List Obj) (l:Nat):Obj→Prop
  | .cells c=>∃ vs e,w.heap[g.blk l]? = some (.cells vs e (0,0))∧vs.size = c.length∧∀ (i:Nat) (v:Value) (x:AV),vs[i]? = some v→c[i]? = some x→Rep w g H v x∧v.oneCell' = true
  | .arr es fz _ rows=>rows.length ≤ g.cap l∧(∀ r ∈ rows,r.length = es) ∧
      (∃ vs e,w.heap[g.blk l]? = some (.cells vs e (0,0))∧g.base l + g.cap l * es ≤ vs.size) ∧
      (∀ (i j:Nat) (row:List PV) (x:PV),rows[i]? = some row→row[j]? = some x→∃ c,cellAt w (g.blk l) (g.base l + i * es + j) = some c∧RepP w g.D c x) ∧
      (∀ i j,fz.isSome = true→i < rows.length→j < es→g.D (g.blk l) (g.base l + i * es + j))
  | .map es=>∃ ents ck,(w.heap[g.blk l]? = some (.map ents ck)∧BornOk ents ck)∧ents.size = es.length∧∀ (i:Nat) (e:MapEntry) (p:Value×AV),ents[i]? = some e→es[i]? = some p→e.key = p.1∧Rep w g H e.val p.2
  | .loop st env ps a b=>∃ r,w.heap[g.blk l]? = some (.loop r)∧LoopRel w g H r st env ps a b
def Stands (g:Gh) (l:Nat):Obj→Prop
  | .arr es (some f) ver rows=>f ≤ ver∧∀ i,g.D (g.blk l) i→i < g.base l + rows.length * es
  | _=>∀ i,¬ g.D (g.blk l) i
structure StRel (w:World) (g:Gh) (H:List Obj):Prop where
  objs:∀ l o,H[l]? = some o→ObjRel w g H l o
  inj:∀ l k,l < H.length→k < H.length→g.blk l = g.blk k→l = k
  stand:∀ l o,H[l]? = some o→Stands g l o
  dom:∀ b i,g.D b i→b < w.heap.size
def Keep (O:Nat→Nat→Prop) (w w':World):Prop :=
  w'.os = w.os∧w'.output = w.output∧(w'.tape = w.tape∧w.drawn ≤ w'.drawn)∧w.heap.size ≤ w'.heap.size ∧
  ∀ b,b < w.heap.size→match w.heap[b]? with
    | some (.cells vs e f)=>∃ vs',w'.heap[b]? = some (.cells vs' e f)∧vs'.size = vs.size∧∀ i,¬ O b i→vs'[i]? = vs[i]?
    | o=>¬ O b 0→w'.heap[b]? = o
structure Evo (w:World) (g:Gh) (H:List Obj) (w':World) (g':Gh) (H':List Obj):Prop where
  D:∀ b i,g.D b i→g'.D b i
  cells:∀ b i,g.D b i→cellAt w' b i = cellAt w b i
  rep:∀ c a,Rep w g H c a→Rep w' g' H' c a
  keep:Keep (OwnAny g H) w w'
  own:∀ b i,OwnAny g' H' b i→OwnAny g H b i∨w.heap.size ≤ b
  newD:∀ b i,g'.D b i→g.D b i∨OwnAny g H b i∨w.heap.size ≤ b
  cd:g'.cd = g.cd
inductive OStep (w:World) (g:Gh) (H:List Obj) (w':World) (g':Gh) (H':List Obj) (l:Nat):Prop
  | same (h:H'[l]? = H[l]?) (hb:g'.blk l = g.blk l) (ho:g'.base l = g.base l) (hc:g'.cap l = g.cap l)
  | cells {c c':List AV} (h:H[l]? = some (.cells c)) (h':H'[l]? = some (.cells c')) (hb:g'.blk l = g.blk l)
  | map {c c':List (Value×AV)} (h:H[l]? = some (.map c)) (h':H'[l]? = some (.map c')) (hb:g'.blk l = g.blk l)
  | loop {st st':LS} {env env':List (Nat×AV)} {ps ps':List Nat} {a b a' b':SCode} (h:H[l]? = some (.loop st env ps a b)) (h':H'[l]? = some (.loop st' env' ps' a' b')) (hb:g'.blk l = g.blk l)
  | store {es ver:Nat} {rows rows':List (List PV)} (h:H[l]? = some (.arr es none ver rows)) (h':H'[l]? = some (.arr es none ver rows')) (hl:rows'.length = rows.length)
      (hb:g'.blk l = g.blk l) (ho:g'.base l = g.base l) (hc:g'.cap l = g.cap l)
  | frz {es ver:Nat} {rows:List (List PV)} (h:H[l]? = some (.arr es none ver rows)) (h':H'[l]? = some (.arr es (some ver) ver rows))
      (hb:g'.blk l = g.blk l) (ho:g'.base l = g.base l) (hc:g'.cap l = g.cap l) (hes:∀ r ∈ rows,r.length = es)
      (hin:∀ (i j:Nat) (row:List PV) (x:PV),rows[i]? = some row→row[j]? = some x→g'.D (g.blk l) (g.base l + i * es + j)∧∃ c,cellAt w' (g.blk l) (g.base l + i * es + j) = some c∧RepP w' g'.D c x)
  | app {es ver:Nat} {fz:Option Nat} {rows ys:List (List PV)} (h:H[l]? = some (.arr es fz ver rows)) (h':H'[l]? = some (.arr es fz (ver + 1) (rows++ys)))
      (hf:∀ f,fz = some f→f ≤ ver)
theorem RepP.of_rows {w:World} {D:Nat→Nat→Prop} {b o n cap es:Nat} {rows:List (List PV)} (hn:rows.length = n) (hc:n ≤ cap) (hes:∀ r ∈ rows,r.length = es)
    (hr:∀ (i j:Nat) (row:List PV) (x:PV),rows[i]? = some row→row[j]? = some x→D b (o + i * es + j)∧∃ c,cellAt w b (o + i * es + j) = some c∧RepP w D c x) :
    RepP w D (.slice (some ⟨b,o,none⟩) n cap) (.sl rows):=by
  have key:∀ i j,i < n→j < es→∃ row x,rows[i]? = some row∧row[j]? = some x:=fun i j hi hj=>by
    have hi':i < rows.length:=by omega
    have hrl:(rows[i]).length = es:=hes _ (List.getElem_mem hi')
    exact ⟨rows[i],(rows[i])[j]'(by omega),by simp [hi'],by simp [hrl,hj]⟩
  refine .sl (fun i j=>(cellAt w b (o + i * es + j)).getD undef) hn hc hes (fun i j hi hj=>?_) (fun i j hi hj=>?_) (fun i j row x h1 h2=>?_)
  · obtain ⟨row,x,h1,h2⟩:=key i j hi hj
    exact (hr i j row x h1 h2).1
  · obtain ⟨row,x,h1,h2⟩:=key i j hi hj
    obtain ⟨_,c,h3,_⟩:=hr i j row x h1 h2
    rw [h3]; rfl
  · obtain ⟨_,c,h3,h4⟩:=hr i j row x h1 h2
    rw [h3]; exact h4
theorem OStep.ar {w w':World} {g g':Gh} {H H':List Obj} {l:Nat} (s:OStep w g H w' g' H' l) (hD:∀ b i,g.D b i→g'.D b i) (hw:∀ b i,g.D b i→cellAt w' b i = cellAt w b i)
    {v off len:Nat} {a:Option Addr} {cap:Nat} (h:ArOk w g H l v off len a cap):ArOk w' g' H' l v off len a cap:=by
  obtain ⟨hlc,hao,es,fz,ver,rows,hH,hv,hoff,hf⟩:=h
  cases s with
  | same h hb ho hc =>
    refine ⟨hlc,hao,es,fz,ver,rows,h.trans hH,hv,hoff,fun hs=>?_⟩
    obtain ⟨h1,h2,h3⟩:=hf hs
    refine ⟨?_,by rw [hb,ho,hc]; exact h2,h3⟩
    cases fz with
    | none=>rw [hb,ho]; exact h1
    | some f=>exact h1.mono hD hw
  | cells h=>rw [hH] at h; cases h
  | map h=>rw [hH] at h; cases h
  | loop h=>rw [hH] at h; cases h
  | store h h' hl hb ho hc =>
    rw [hH] at h; cases h
    refine ⟨hlc,hao,es,none,ver,_,h',hv,by omega,fun hs=>?_⟩
    obtain ⟨h1,h2,h3⟩:=hf hs
    exact ⟨by rw [hb,ho]; exact h1,by rw [hb,ho,hc]; exact h2,by rw [hl]; exact h3⟩
  | frz h h' hb ho hc hes hin =>
    rw [hH] at h; cases h
    refine ⟨hlc,hao,es,some ver,ver,rows,h',hv,hoff,fun hs=>?_⟩
    have hvv:v = ver:=by simp only [seen,decide_eq_true_eq] at hs; omega
    obtain ⟨h1,h2,h3⟩:=hf (by simp [seen,hvv])
    refine ⟨?_,by rw [hb,ho,hc]; exact h2,h3⟩
    by_cases h0:0 < len
    · rw [h1 (by omega)]
      refine RepP.of_rows (es:=es) (by simp; omega) hlc (fun r hr=>hes r (List.mem_of_mem_drop (List.mem_of_mem_take hr))) (fun i j row x hi hj=>?_)
      have hi':rows[off + i]? = some row:=by
        rw [List.getElem?_take] at hi
        split at hi
        · rwa [List.getElem?_drop] at hi
        · cases hi
      have:=hin (off + i) j row x hi' hj
      rw [show g.base l + off * es + i * es + j = g.base l + (off + i) * es + j by rw [Nat.add_mul]; omega]
      exact this
    · have hl0:len = 0:=by omega
      subst hl0
      simp only [List.take_zero]
      rcases hao with ⟨rfl,rfl⟩ | ⟨b,o,rfl⟩
      · exact .nil
      · exact RepP.of_rows (es:=0) rfl hlc (by simp) (by simp)
  | app h h' hff =>
    rw [hH] at h; cases h
    refine ⟨hlc,hao,es,fz,ver + 1,_,h',by omega,by simp; omega,fun hs=>⟨?_,fun e=>by omega,fun e=>by omega⟩⟩
    cases fz with
    | none=>simp only [seen,beq_iff_eq] at hs; omega
    | some f =>
      obtain ⟨h1,_⟩:=hf hs
      show RepP w' g'.D _ (.sl (((rows++_).drop off).take len))
      rw [List.drop_append_of_le_length (by omega),List.take_append_of_le_length (by simp; omega)]
      exact h1.mono hD hw
theorem OStep.elp {w w':World} {g g':Gh} {H H':List Obj} {l:Nat} (s:OStep w g H w' g' H' l) (hD:∀ b i,g.D b i→g'.D b i) (hw:∀ b i,g.D b i→cellAt w' b i = cellAt w b i)
    {v i k b o:Nat} (h:ElpOk w g H l v i k b o):ElpOk w' g' H' l v i k b o:=by
  obtain ⟨es,fz,ver,rows,hH,hv,hi,hf⟩:=h
  cases s with
  | same h hb ho hc =>
    refine ⟨es,fz,ver,rows,h.trans hH,hv,hi,fun hs=>?_⟩
    have h1:=hf hs
    cases fz with
    | none=>rw [hb,ho]; exact h1
    | some f=>exact fun row hr j x hx=>let ⟨d,c,e1,e2⟩:=h1 row hr j x hx; ⟨hD _ _ d,c,by rw [hw _ _ d]; exact e1,e2.mono hD hw⟩
  | cells h=>rw [hH] at h; cases h
  | map h=>rw [hH] at h; cases h
  | loop h=>rw [hH] at h; cases h
  | store h h' hl hb ho hc =>
    rw [hH] at h; cases h
    exact ⟨es,none,ver,_,h',hv,by omega,fun hs=>by have h1:=hf hs; rw [hb,ho]; exact h1⟩
  | frz h h' hb ho hc hes hin =>
    rw [hH] at h; cases h
    refine ⟨es,some ver,ver,rows,h',hv,hi,fun hs=>?_⟩
    have hvv:v = ver:=by simp only [seen,decide_eq_true_eq] at hs; omega
    obtain ⟨e1,e2⟩:=hf (by simp [seen,hvv])
    intro row hr j x hx
    have:=hin i (k + j) row x hr hx
    rw [e1,e2,Nat.add_assoc (g.base l + i * es) k j]
    exact this
  | app h h' hff =>
    rw [hH] at h; cases h
    refine ⟨es,fz,ver + 1,_,h',by omega,by simp; omega,fun hs=>?_⟩
    cases fz with
    | none=>simp only [seen,beq_iff_eq] at hs; omega
    | some f =>
      have h1:=hf hs
      intro row hr j x hx
      rw [List.getElem?_append_left hi] at hr
      obtain ⟨d,c,e1,e2⟩:=h1 row hr j x hx
      exact ⟨hD _ _ d,c,by rw [hw _ _ d]; exact e1,e2.mono hD hw⟩
theorem OStep.ptr {w w':World} {g g':Gh} {H H':List Obj} {l:Nat} (s:OStep w g H w' g' H' l) {c:List AV} (h:H[l]? = some (.cells c)) :
    g'.blk l = g.blk l∧∃ c',H'[l]? = some (.cells c'):=by
  cases s with
  | same h1 hb _ _=>exact ⟨hb,c,h1.trans h⟩
  | cells _ h1 hb=>exact ⟨hb,_,h1⟩
  | map h1=>rw [h] at h1; cases h1
  | loop h1=>rw [h] at h1; cases h1
  | store h1=>rw [h] at h1; cases h1
  | frz h1=>rw [h] at h1; cases h1
  | app h1=>rw [h] at h1; cases h1
theorem OStep.mp {w w':World} {g g':Gh} {H H':List Obj} {l:Nat} (s:OStep w g H w' g' H' l) {c:List (Value×AV)} (h:H[l]? = some (.map c)) :
    g'.blk l = g.blk l∧∃ c',H'[l]? = some (.map c'):=by
  cases s with
  | same h1 hb _ _=>exact ⟨hb,c,h1.trans h⟩
  | map _ h1 hb=>exact ⟨hb,_,h1⟩
  | loop h1=>rw [h] at h1; cases h1
  | cells h1=>rw [h] at h1; cases h1
  | store h1=>rw [h] at h1; cases h1
  | frz h1=>rw [h] at h1; cases h1
  | app h1=>rw [h] at h1; cases h1
theorem OStep.lp {w w':World} {g g':Gh} {H H':List Obj} {l:Nat} (s:OStep w g H w' g' H' l) {st:LS} {env:List (Nat×AV)} {ps:List Nat} {a b:SCode} (h:H[l]? = some (.loop st env ps a b)) :
    g'.blk l = g.blk l∧∃ st' env' ps' a' b',H'[l]? = some (.loop st' env' ps' a' b'):=by
  cases s with
  | same h1 hb _ _=>exact ⟨hb,st,env,ps,a,b,h1.trans h⟩
  | loop _ h1 hb=>exact ⟨hb,_,_,_,_,_,h1⟩
  | map h1=>rw [h] at h1; cases h1
  | cells h1=>rw [h] at h1; cases h1
  | store h1=>rw [h] at h1; cases h1
  | frz h1=>rw [h] at h1; cases h1
  | app h1=>rw [h] at h1; cases h1
theorem Rep.step {w w':World} {g g':Gh} {H H':List Obj} (hD:∀ b i,g.D b i→g'.D b i) (hw:∀ b i,g.D b i→cellAt w' b i = cellAt w b i)
    (hs:∀ l o,H[l]? = some o→OStep w g H w' g' H' l) {c:Value} {a:AV} (h:Rep w g H c a):Rep w' g' H' c a:=by
  induction h with
  | p h=>exact .p (h.mono hD hw)
  | lit h=>exact .lit (h.mono hD hw)
  | ar h=>exact .ar (let ⟨_,_,_,_,_,_,hH,_⟩:=h; (hs _ _ hH).ar hD hw h)
  | ptr h=>obtain ⟨hb,c',h'⟩:=(hs _ _ h).ptr h; rw [← hb]; exact .ptr h'
  | elp h=>exact .elp (let ⟨_,_,_,_,hH,_⟩:=h; (hs _ _ hH).elp hD hw h)
  | imm cs hDD hcell hr=>exact .imm cs (fun j hj=>hD _ _ (hDD j hj)) (fun j hj=>by rw [hw _ _ (hDD j hj)]; exact hcell j hj) (fun j x hx=>(hr j x hx).mono hD hw)
  | fn ha hb _ _ ih1 ih2=>exact .fn ha hb ih1 ih2
  | agg ha h1 _ ih=>exact .agg ha h1 ih
  | tup ha _ ih=>exact .tup ha ih
  | map h=>obtain ⟨hb,c',h'⟩:=(hs _ _ h).mp h; rw [← hb]; exact .map h'
  | yld h=>obtain ⟨hb,_,_,_,_,_,h'⟩:=(hs _ _ h).lp h; rw [← hb]; exact .yld h'
  | emp=>exact .emp
  | csl h hn=>obtain ⟨hb,c',h'⟩:=(hs _ _ h).ptr h; rw [← hb]; exact .csl h' hn
theorem Keep.refl (O:Nat→Nat→Prop) (w:World):Keep O w w:=by
  refine ⟨rfl,rfl,⟨rfl,Nat.le_refl _⟩,Nat.le_refl _,fun b _=>?_⟩
  split
  · rename_i vs e f h; exact ⟨vs,h,rfl,fun _ _=>rfl⟩
  · intro _; rfl
theorem Keep.trans {O O':Nat→Nat→Prop} {w w' w'':World} (h:Keep O w w') (h':Keep O' w' w'') (hO:∀ b i,O' b i→O b i∨w.heap.size ≤ b):Keep O w w'':=by
  obtain ⟨a1,a2,a3,a4,a5⟩:=h
  obtain ⟨b1,b2,b3,b4,b5⟩:=h'
  refine ⟨b1.trans a1,b2.trans a2,⟨b3.1.trans a3.1,Nat.le_trans a3.2 b3.2⟩,Nat.le_trans a4 b4,fun b hb=>?_⟩
  have h1:=a5 b hb
  have h2:=b5 b (Nat.lt_of_lt_of_le hb a4)
  have hno:∀ i,¬ O b i→¬ O' b i:=fun i hi ho=>by
    rcases hO b i ho with h | h
    · exact hi h
    · omega
  split
  · rename_i vs e f hw
    simp only [hw] at h1
    obtain ⟨vs',e1,e2,e3⟩:=h1
    simp only [e1] at h2
    obtain ⟨vs'',f1,f2,f3⟩:=h2
    exact ⟨vs'',f1,f2.trans e2,fun i hi=>(f3 i (hno i hi)).trans (e3 i hi)⟩
  · rename_i o hne
    intro hi
    have h3:w'.heap[b]? = w.heap[b]?:=by
      split at h1
      · rename_i vs e f hw; exact absurd hw (by intro hh; exact hne _ _ _ hh)
      · exact h1 hi
    rw [← h3]
    split at h2
    · rename_i vs e f hw
      rw [h3] at hw
      exact absurd hw (by intro hh; exact hne _ _ _ hh)
    · exact h2 (hno 0 hi)
theorem Evo.refl (w:World) (g:Gh) (H:List Obj):Evo w g H w g H :=
  ⟨fun _ _ h=>h,fun _ _ _=>rfl,fun _ _ h=>h,.refl _ _,fun _ _ h=>.inl h,fun _ _ h=>.inl h,rfl⟩
theorem Evo.trans {w w' w'':World} {g g' g'':Gh} {H H' H'':List Obj} (h:Evo w g H w' g' H') (h':Evo w' g' H' w'' g'' H''):Evo w g H w'' g'' H'':=by
  have hsz:w.heap.size ≤ w'.heap.size:=h.keep.2.2.2.1
  refine ⟨fun b i hd=>h'.D _ _ (h.D _ _ hd),fun b i hd=>(h'.cells _ _ (h.D _ _ hd)).trans (h.cells _ _ hd),fun c a hr=>h'.rep _ _ (h.rep _ _ hr),
    h.keep.trans h'.keep h.own,fun b i ho=>?_,fun b i hd=>?_,h'.cd.trans h.cd⟩
  · rcases h'.own b i ho with h1 | h1
    · exact h.own b i h1
    · exact .inr (Nat.le_trans hsz h1)
  · rcases h'.newD b i hd with h1 | h1 | h1
    · exact h.newD b i h1
    · exact .inr (h.own b i h1)
    · exact .inr (.inr (Nat.le_trans hsz h1))
end Go.Proofs.YtepbfecmageleaaGreatDoor
namespace Go.Proofs.YtepbfecmageleaaGreatDoor
open Go
variable [Sub]
theorem cellAt_heap {w w':World} {b:Nat} (h:w'.heap[b]? = w.heap[b]?) (i:Nat):cellAt w' b i = cellAt w b i:=by
  simp only [cellAt,World.cell?,h]
theorem cellAt_cells {w:World} {b:Nat} {vs:Array Value} {e:TypeId} {f:Nat×Nat} (h:w.heap[b]? = some (.cells vs e f)) (i:Nat):cellAt w b i = vs[i]?:=by
  simp [cellAt,World.cell?,h]
theorem IsBlk.lt {w:World} {g:Gh} {H:List Obj} (hs:StRel w g H) {l:Nat} (hl:l < H.length):g.blk l < w.heap.size:=by
  have h:=hs.objs l _ (List.getElem?_eq_getElem hl)
  have lt:∀ {o:Go.Obj},w.heap[g.blk l]? = some o→g.blk l < w.heap.size:=fun h=>(Array.getElem?_eq_some_iff.1 h).1
  cases ho:H[l] with
  | cells c=>rw [ho] at h; obtain ⟨vs,e,h1,_⟩:=h; exact lt h1
  | arr es fz ver rows=>rw [ho] at h; obtain ⟨_,_,⟨vs,e,h1,_⟩,_⟩:=h; exact lt h1
  | map es=>rw [ho] at h; obtain ⟨_,_,h1,_⟩:=h; exact lt h1.1
  | loop st env ps a b=>rw [ho] at h; obtain ⟨_,h1,_⟩:=h; exact lt h1
theorem LoopRel.keep {w w':World} {g g':Gh} {H H':List Obj} {r:Go.Loop} {st:LS} {env:List (Nat×AV)} {ps:List Nat} {a b:SCode} (h:LoopRel w g H r st env ps a b) (hcd:g'.cd = g.cd)
    (hr:∀ c a,Rep w g H c a→Rep w' g' H' c a):LoopRel w' g' H' r st env ps a b:=by
  refine ⟨h.1,fun hg=>?_⟩
  obtain ⟨h1,h2,nt,vars,h3⟩:=h.2 hg
  exact ⟨h1,fun t v hv=>hr _ _ (h2 t v hv),nt,vars,by rw [hcd]; exact h3⟩
theorem ObjRel.keep {w w':World} {g g':Gh} {H H':List Obj} {l:Nat} {o:Obj} (h:ObjRel w g H l o) (hb:g'.blk l = g.blk l) (ho:g'.base l = g.base l) (hc:g'.cap l = g.cap l)
    (hh:w'.heap[g.blk l]? = w.heap[g.blk l]?) (hD:∀ b i,g.D b i→g'.D b i) (hw:∀ b i,g.D b i→cellAt w' b i = cellAt w b i)
    (hr:∀ c a,Rep w g H c a→Rep w' g' H' c a) (hcd:g'.cd = g.cd:=by rfl):ObjRel w' g' H' l o:=by
  cases o with
  | cells c =>
    obtain ⟨vs,e,h1,h2,h3⟩:=h
    exact ⟨vs,e,by rw [hb,hh]; exact h1,h2,fun i v x a b=>⟨hr _ _ (h3 i v x a b).1,(h3 i v x a b).2⟩⟩
  | arr es fz ver rows =>
    obtain ⟨h1,h2,⟨vs,e,h3,h4⟩,h5,h6⟩:=h
    refine ⟨by rw [hc]; exact h1,h2,⟨vs,e,by rw [hb,hh]; exact h3,by rw [ho,hc]; exact h4⟩,fun i j row x a b=>?_,fun i j a b c=>?_⟩
    · obtain ⟨c,e1,e2⟩:=h5 i j row x a b
      exact ⟨c,by rw [hb,ho,cellAt_heap hh]; exact e1,e2.mono hD hw⟩
    · rw [hb,ho]; exact hD _ _ (h6 i j a b c)
  | map es =>
    obtain ⟨ents,ck,h1,h2,h3⟩:=h
    exact ⟨ents,ck,⟨by rw [hb,hh]; exact h1.1,h1.2⟩,h2,fun i e p a b=>⟨(h3 i e p a b).1,hr _ _ (h3 i e p a b).2⟩⟩
  | loop st env ps a b =>
    obtain ⟨r,h1,h2⟩:=h
    exact ⟨r,by rw [hb,hh]; exact h1,h2.keep hcd hr⟩
theorem Stands.keep {g g':Gh} {l:Nat} {o:Obj} (h:Stands g l o) (hb:g'.blk l = g.blk l) (ho:g'.base l = g.base l) (hD:∀ i,g'.D (g.blk l) i→g.D (g.blk l) i):Stands g' l o:=by
  cases o with
  | cells c=>exact fun i hi=>h i (hD i (by rw [← hb]; exact hi))
  | arr es fz ver rows =>
    cases fz with
    | none=>exact fun i hi=>h i (hD i (by rw [← hb]; exact hi))
    | some f=>exact ⟨h.1,fun i hi=>by rw [ho]; exact h.2 i (hD i (by rw [← hb]; exact hi))⟩
  | map es=>exact fun i hi=>h i (hD i (by rw [← hb]; exact hi))
  | loop=>exact fun i hi=>h i (hD i (by rw [← hb]; exact hi))
structure Pushed (w w':World) (ob:Go.Obj):Prop where
  heap:w'.heap = w.heap.push ob
  os:w'.os = w.os
  output:w'.output = w.output
  tape:w'.tape = w.tape∧w.drawn ≤ w'.drawn
theorem Pushed.old {w w':World} {ob:Go.Obj} (h:Pushed w w' ob) {b:Nat} (hb:b < w.heap.size):w'.heap[b]? = w.heap[b]?:=by
  rw [h.heap,Array.getElem?_push]
  split
  · omega
  · rfl
theorem Pushed.new {w w':World} {ob:Go.Obj} (h:Pushed w w' ob):w'.heap[w.heap.size]? = some ob:=by
  rw [h.heap]; simp
theorem Pushed.size {w w':World} {ob:Go.Obj} (h:Pushed w w' ob):w'.heap.size = w.heap.size + 1:=by rw [h.heap]; simp
theorem Pushed.keep {w w':World} {ob:Go.Obj} (h:Pushed w w' ob) (O:Nat→Nat→Prop):Keep O w w':=by
  refine ⟨h.os,h.output,h.tape,by rw [h.size]; omega,fun b hb=>?_⟩
  have e:=h.old hb
  split
  · rename_i vs e1 f hw; exact ⟨vs,by rw [e]; exact hw,rfl,fun _ _=>rfl⟩
  · intro _; exact e
structure Still (w w':World):Prop where
  heap:w'.heap = w.heap
  os:w'.os = w.os
  output:w'.output = w.output
  tape:w'.tape = w.tape∧w.drawn ≤ w'.drawn
theorem evo_still {w w':World} {g:Gh} {H:List Obj} (h:Still w w') (hs:StRel w g H):Evo w g H w' g H∧StRel w' g H:=by
  have hc:∀ b i,cellAt w' b i = cellAt w b i:=fun b i=>cellAt_heap (by rw [h.heap]) i
  have hr:∀ c a,Rep w g H c a→Rep w' g H c a:=fun c a hr=>hr.step (fun _ _ h=>h) (fun b i _=>hc b i) (fun l o hl=>.same rfl rfl rfl rfl)
  refine ⟨⟨fun _ _ h=>h,fun b i _=>hc b i,hr,⟨h.os,h.output,h.tape,by rw [h.heap]; omega,fun b hb=>?_⟩,fun _ _ h=>.inl h,fun _ _ h=>.inl h,rfl⟩,⟨fun l o hl=>?_,hs.inj,hs.stand,fun b i hd=>by rw [h.heap]; exact hs.dom b i hd⟩⟩
  · rw [h.heap]
    split
    · rename_i vs e1 f hw; exact ⟨vs,hw,rfl,fun _ _=>rfl⟩
    · intro _; rfl
  · exact (hs.objs l o hl).keep rfl rfl rfl (by rw [h.heap]) (fun _ _ h=>h) (fun b i _=>hc b i) hr
def Gh.add (g:Gh) (n blk base cap:Nat):Gh :=
  { g with blk:=fun l=>if l = n then blk else g.blk l,base:=fun l=>if l = n then base else g.base l,cap:=fun l=>if l = n then cap else g.cap l }
theorem Gh.add_ne {g:Gh} {n blk base cap l:Nat} (h:l ≠ n):(g.add n blk base cap).blk l = g.blk l∧(g.add n blk base cap).base l = g.base l∧(g.add n blk base cap).cap l = g.cap l:=by
  simp [Gh.add,h]
theorem Gh.add_eq {g:Gh} {n blk base cap:Nat}:(g.add n blk base cap).blk n = blk∧(g.add n blk base cap).base n = base∧(g.add n blk base cap).cap n = cap:=by
  simp [Gh.add]
theorem evo_new {w w':World} {g:Gh} {H:List Obj} {ob:Go.Obj} {o:Obj} {cap:Nat} (hp:Pushed w w' ob) (hs:StRel w g H) (hfz:∀ es f v rows,o ≠ .arr es (some f) v rows)
    (hnew:(∀ c a,Rep w g H c a→Rep w' (g.add H.length w.heap.size 0 cap) (H++[o]) c a)→ObjRel w' (g.add H.length w.heap.size 0 cap) (H++[o]) H.length o) :
    Evo w g H w' (g.add H.length w.heap.size 0 cap) (H++[o])∧StRel w' (g.add H.length w.heap.size 0 cap) (H++[o]):=by
  have hne:∀ l,l < H.length→l ≠ H.length:=fun l h=>by omega
  have hc:∀ b i,g.D b i→cellAt w' b i = cellAt w b i:=fun b i hd=>cellAt_heap (hp.old (hs.dom b i hd)) i
  have hr:∀ c a,Rep w g H c a→Rep w' (g.add H.length w.heap.size 0 cap) (H++[o]) c a:=fun c a h=>h.step (w:=w) (g:=g) (g':=g.add H.length w.heap.size 0 cap) (H':=H++[o]) (fun _ _ h=>h) hc (fun l o' hl=>by
    have hlt:l < H.length:=(List.getElem?_eq_some_iff.1 hl).1
    obtain ⟨h1,h2,h3⟩:=Gh.add_ne (g:=g) (blk:=w.heap.size) (base:=0) (cap:=cap) (hne l hlt)
    exact .same (by rw [List.getElem?_append_left hlt]) h1 h2 h3)
  have hlen:(H++[o]).length = H.length + 1:=by simp
  refine ⟨⟨fun _ _ h=>h,hc,hr,hp.keep _,fun b i ho=>?_,fun _ _ h=>.inl h,rfl⟩,⟨fun l o' hl=>?_,fun l k hl hk e=>?_,fun l o' hl=>?_,fun b i hd=>?_⟩⟩
  · obtain ⟨⟨l,hl,rfl⟩,hd⟩:=ho
    rw [hlen] at hl
    by_cases e:l = H.length
    · subst e; right; rw [Gh.add_eq.1]; exact Nat.le_refl _
    · left; rw [(Gh.add_ne e).1]; exact ⟨⟨l,by omega,rfl⟩,by rw [(Gh.add_ne e).1] at hd; exact hd⟩
  · rcases Nat.lt_or_ge l H.length with hlt | hge
    · rw [List.getElem?_append_left hlt] at hl
      obtain ⟨h1,h2,h3⟩:=Gh.add_ne (g:=g) (blk:=w.heap.size) (base:=0) (cap:=cap) (hne l hlt)
      exact (hs.objs l o' hl).keep h1 h2 h3 (hp.old (IsBlk.lt hs hlt)) (fun _ _ h=>h) hc hr
    · have hl':l = H.length:=by
        have:=(List.getElem?_eq_some_iff.1 hl).1; omega
      subst hl'
      simp at hl
      subst hl
      exact hnew hr
  · rw [hlen] at hl hk
    by_cases e1:l = H.length <;> by_cases e2:k = H.length
    · omega
    · subst e1; rw [Gh.add_eq.1,(Gh.add_ne e2).1] at e; have:=IsBlk.lt hs (show k < H.length by omega); omega
    · subst e2; rw [Gh.add_eq.1,(Gh.add_ne e1).1] at e; have:=IsBlk.lt hs (show l < H.length by omega); omega
    · rw [(Gh.add_ne e1).1,(Gh.add_ne e2).1] at e; exact hs.inj l k (by omega) (by omega) e
  · rcases Nat.lt_or_ge l H.length with hlt | hge
    · rw [List.getElem?_append_left hlt] at hl
      obtain ⟨h1,h2,h3⟩:=Gh.add_ne (g:=g) (blk:=w.heap.size) (base:=0) (cap:=cap) (hne l hlt)
      exact (hs.stand l o' hl).keep h1 h2 (fun _ h=>h)
    · have hl':l = H.length:=by
        have:=(List.getElem?_eq_some_iff.1 hl).1; omega
      subst hl'
      simp at hl
      subst hl
      have hno:∀ i,¬ (g.add H.length w.heap.size 0 cap).D ((g.add H.length w.heap.size 0 cap).blk H.length) i:=fun i hd=>by
        rw [Gh.add_eq.1] at hd
        have:w.heap.size < w.heap.size:=hs.dom _ i hd
        omega
      cases o with
      | cells c=>exact hno
      | arr es fz ver rows =>
        cases fz with
        | none=>exact hno
        | some f=>exact absurd rfl (hfz es f ver rows)
      | map es=>exact hno
      | loop=>exact hno
  · rw [hp.size]; have:=hs.dom b i hd; omega
theorem evo_lit {w w':World} {g:Gh} {H:List Obj} {ob:Go.Obj} (hp:Pushed w w' ob) (hs:StRel w g H) :
    Evo w g H w' { g with D:=fun b i=>g.D b i∨b = w.heap.size } H∧StRel w' { g with D:=fun b i=>g.D b i∨b = w.heap.size } H:=by
  have hc:∀ b i,g.D b i→cellAt w' b i = cellAt w b i:=fun b i hd=>cellAt_heap (hp.old (hs.dom b i hd)) i
  have hD:∀ b i,g.D b i→g.D b i∨b = w.heap.size:=fun _ _ h=>.inl h
  have hr:∀ c a,Rep w g H c a→Rep w' { g with D:=fun b i=>g.D b i∨b = w.heap.size } H c a:=fun c a h=>h.step (g':={ g with D:=fun b i=>g.D b i∨b = w.heap.size }) (H':=H) hD hc (fun l o' hl=>.same rfl rfl rfl rfl)
  refine ⟨⟨hD,hc,hr,hp.keep _,fun b i ho=>?_,fun b i h=>?_,rfl⟩,⟨fun l o' hl=>?_,hs.inj,fun l o' hl=>?_,fun b i hd=>?_⟩⟩
  · obtain ⟨⟨l,hl,rfl⟩,hd⟩:=ho
    exact .inl ⟨⟨l,hl,rfl⟩,fun h=>hd (.inl h)⟩
  · rcases h with h | h
    · exact .inl h
    · exact .inr (.inr (by omega))
  · have hlt:l < H.length:=(List.getElem?_eq_some_iff.1 hl).1
    exact (hs.objs l o' hl).keep rfl rfl rfl (hp.old (IsBlk.lt hs hlt)) hD hc hr
  · have hlt:l < H.length:=(List.getElem?_eq_some_iff.1 hl).1
    refine (hs.stand l o' hl).keep rfl rfl (fun i h=>?_)
    rcases h with h | h
    · exact h
    · have:=IsBlk.lt hs hlt; omega
  · rw [hp.size]
    rcases hd with h | h
    · have:=hs.dom b i h; omega
    · omega
structure Only (w w':World) (B:Nat) (D:Nat→Nat→Prop):Prop where
  heap:∀ b,b ≠ B→w'.heap[b]? = w.heap[b]?
  size:w'.heap.size = w.heap.size
  os:w'.os = w.os
  output:w'.output = w.output
  tape:w'.tape = w.tape∧w.drawn ≤ w'.drawn
  at_:∀ vs e f,w.heap[B]? = some (.cells vs e f)→∃ vs',w'.heap[B]? = some (.cells vs' e f)∧vs'.size = vs.size∧∀ i,D B i→vs'[i]? = vs[i]?
  none_:(∀ vs e f,w.heap[B]? ≠ some (.cells vs e f))→∀ i,¬ D B i
theorem Only.cells {w w':World} {B:Nat} {D:Nat→Nat→Prop} (h:Only w w' B D) (b i:Nat) (hd:D b i):cellAt w' b i = cellAt w b i:=by
  by_cases hb:b = B
  · subst hb
    cases hh:w.heap[b]? with
    | none=>exact absurd hd (h.none_ (fun vs e f he=>by rw [hh] at he; cases he) i)
    | some o =>
      cases o with
      | cells vs e f =>
        obtain ⟨vs',h1,_,h3⟩:=h.at_ vs e f hh
        rw [cellAt_cells h1,cellAt_cells hh]
        exact h3 i hd
      | _=>exact absurd hd (h.none_ (fun vs e f he=>by rw [hh] at he; cases he) i)
  · exact cellAt_heap (h.heap b hb) i
theorem Only.rfl' {w:World} {B:Nat} {D:Nat→Nat→Prop} (h:∀ i,D B i→∃ vs e f,w.heap[B]? = some (.cells vs e f)):Only w w B D :=
  ⟨fun _ _=>rfl,rfl,rfl,rfl,⟨rfl,Nat.le_refl _⟩,fun vs _ _ h=>⟨vs,h,rfl,fun _ _=>rfl⟩,fun hn i hd=>let ⟨vs,e,f,he⟩:=h i hd; hn vs e f he⟩
theorem Keep.of_only {w w':World} {B:Nat} {D O:Nat→Nat→Prop} (h:Only w w' B D) (hO:∀ i,¬ D B i→O B i):Keep O w w':=by
  refine ⟨h.os,h.output,h.tape,by rw [h.size]; exact Nat.le_refl _,fun b hb=>?_⟩
  by_cases e:b = B
  · subst e
    split
    · rename_i vs e1 f hw
      obtain ⟨vs',h1,h2,h3⟩:=h.at_ vs e1 f hw
      exact ⟨vs',h1,h2,fun i hi=>h3 i (Classical.byContradiction fun hd=>hi (hO i hd))⟩
    · rename_i o hne
      intro hi
      exact absurd (hO 0 (h.none_ (fun vs e f he=>hne vs e f he) 0)) hi
  · have e1:=h.heap b e
    split
    · rename_i vs e2 f hw; exact ⟨vs,by rw [e1]; exact hw,rfl,fun _ _=>rfl⟩
    · intro _; exact e1
theorem evo_obj {w w':World} {g g':Gh} {H:List Obj} {l:Nat} {o o':Obj} {Q:Nat→Prop} (hs:StRel w g H) (hl:H[l]? = some o)
    (hb:g'.blk = g.blk) (ho:g'.base = g.base) (hc:g'.cap = g.cap) (hD:∀ b i,g'.D b i↔g.D b i∨(b = g.blk l∧Q i))
    (hw:Only w w' (g.blk l) g.D) (hstep:OStep w g H w' g' (H.set l o') l)
    (hnew:(∀ c a,Rep w g H c a→Rep w' g' (H.set l o') c a)→ObjRel w' g' (H.set l o') l o') (hst:Stands g' l o') (hcd:g'.cd = g.cd:=by rfl) :
    Evo w g H w' g' (H.set l o')∧StRel w' g' (H.set l o'):=by
  have hlt:l < H.length:=(List.getElem?_eq_some_iff.1 hl).1
  have hD':∀ b i,g.D b i→g'.D b i:=fun b i h=>(hD b i).2 (.inl h)
  have hset:∀ k,k ≠ l→(H.set l o')[k]? = H[k]?:=fun k hk=>List.getElem?_set_ne (Ne.symm hk)
  have hr:∀ c a,Rep w g H c a→Rep w' g' (H.set l o') c a:=fun c a h=>h.step (w:=w) (g:=g) (g':=g') (H':=H.set l o') hD' hw.cells (fun k ok hk=>by
    by_cases e:k = l
    · subst e; exact hstep
    · exact .same (hset k e) (by rw [hb]) (by rw [ho]) (by rw [hc]))
  refine ⟨⟨hD',hw.cells,hr,Keep.of_only hw (fun i hi=>⟨⟨l,hlt,rfl⟩,hi⟩),fun b i h=>?_,fun b i h=>?_,hcd⟩,⟨fun k ok hk=>?_,fun k m hk hm e=>?_,fun k ok hk=>?_,fun b i hd=>?_⟩⟩
  · obtain ⟨⟨k,hk,rfl⟩,hd⟩:=h
    rw [List.length_set] at hk
    exact .inl ⟨⟨k,hk,by rw [hb]⟩,fun h=>hd (hD' _ _ h)⟩
  · rcases (hD b i).1 h with h | ⟨rfl,_⟩
    · exact .inl h
    · by_cases hd:g.D (g.blk l) i
      · exact .inl hd
      · exact .inr (.inl ⟨⟨l,hlt,rfl⟩,hd⟩)
  · by_cases e:k = l
    · subst e
      rw [List.getElem?_set_self hlt] at hk
      cases hk
      exact hnew hr
    · rw [hset k e] at hk
      have hkl:k < H.length:=(List.getElem?_eq_some_iff.1 hk).1
      exact (hs.objs k ok hk).keep (by rw [hb]) (by rw [ho]) (by rw [hc]) (hw.heap _ fun he=>e (hs.inj k l hkl hlt he)) hD' hw.cells hr hcd
  · rw [List.length_set] at hk hm
    rw [hb] at e
    exact hs.inj k m hk hm e
  · by_cases e:k = l
    · subst e
      rw [List.getElem?_set_self hlt] at hk
      cases hk
      exact hst
    · rw [hset k e] at hk
      have hkl:k < H.length:=(List.getElem?_eq_some_iff.1 hk).1
      refine (hs.stand k ok hk).keep (by rw [hb]) (by rw [ho]) (fun i h=>?_)
      rcases (hD _ _).1 h with h | ⟨he,_⟩
      · exact h
      · exact absurd (hs.inj k l hkl hlt he) e
  · rw [hw.size]
    rcases (hD b i).1 hd with h | ⟨rfl,_⟩
    · exact hs.dom b i h
    · exact IsBlk.lt hs hlt
theorem evo_freeze1 {w:World} {g:Gh} {H:List Obj} {l es ver:Nat} {rows:List (List PV)} (hs:StRel w g H) (hl:H[l]? = some (.arr es none ver rows)) :
    ∃ g',Evo w g H w g' (H.set l (.arr es (some ver) ver rows))∧StRel w g' (H.set l (.arr es (some ver) ver rows)):=by
  obtain ⟨h1,h2,⟨vs,e,h3,h4⟩,h5,_⟩:=hs.objs l _ hl
  have hnoD:=hs.stand l _ hl
  have hD:∀ b i,g.D b i→g.D b i∨(b = g.blk l∧(g.base l ≤ i∧i < g.base l + rows.length * es)):=fun _ _ h=>.inl h
  refine ⟨{ g with D:=fun b i=>g.D b i∨(b = g.blk l∧(g.base l ≤ i∧i < g.base l + rows.length * es)) },
    evo_obj (Q:=fun i=>g.base l ≤ i∧i < g.base l + rows.length * es) hs hl rfl rfl rfl (fun _ _=>Iff.rfl) (.rfl' fun i _=>⟨vs,e,_,h3⟩) ?_ (fun hr=>?_) ?_⟩
  · refine .frz hl (List.getElem?_set_self (List.getElem?_eq_some_iff.1 hl).1) rfl rfl rfl h2 (fun i j row x hi hj=>?_)
    obtain ⟨c,e1,e2⟩:=h5 i j row x hi hj
    have hi':i < rows.length:=(List.getElem?_eq_some_iff.1 hi).1
    have hj':j < es:=by
      have:=(List.getElem?_eq_some_iff.1 hj).1
      rw [h2 row (List.mem_of_getElem? hi)] at this; exact this
    have hm:i * es + es ≤ rows.length * es:=by
      have:=Nat.mul_le_mul_right es (show i + 1 ≤ rows.length by omega); rw [Nat.add_mul,Nat.one_mul] at this; exact this
    exact ⟨.inr ⟨rfl,by omega,by omega⟩,c,e1,e2.mono hD (fun _ _ _=>rfl)⟩
  · refine ⟨h1,h2,⟨vs,e,h3,h4⟩,fun i j row x hi hj=>?_,fun i j _ hi hj=>?_⟩
    · obtain ⟨c,e1,e2⟩:=h5 i j row x hi hj
      exact ⟨c,e1,e2.mono hD (fun _ _ _=>rfl)⟩
    · have hm:i * es + es ≤ rows.length * es:=by
        have:=Nat.mul_le_mul_right es (show i + 1 ≤ rows.length by omega); rw [Nat.add_mul,Nat.one_mul] at this; exact this
      exact .inr ⟨rfl,by show g.base l ≤ g.base l + i * es + j; omega,by show g.base l + i * es + j < g.base l + rows.length * es; omega⟩
  · refine ⟨Nat.le_refl _,fun i hd=>?_⟩
    rcases hd with h | ⟨_,_,h⟩
    · exact absurd h (hnoD i)
    · exact h
theorem evo_freeze {w:World}:∀ (ls:List Nat) {g:Gh} {H:List Obj},StRel w g H→∃ g',Evo w g H w g' (freeze H ls)∧StRel w g' (freeze H ls)
  | [],g,H,hs=>⟨g,Evo.refl _ _ _,hs⟩
  | l::ls,g,H,hs=>by
    simp only [freeze]
    split
    · rename_i es ver rows hl
      obtain ⟨g1,e1,s1⟩:=evo_freeze1 hs hl
      obtain ⟨g2,e2,s2⟩:=evo_freeze ls s1
      exact ⟨g2,e1.trans e2,s2⟩
    · exact evo_freeze ls hs
theorem evo_grow {w w':World} {g:Gh} {H:List Obj} {l es ver cap:Nat} {fz:Option Nat} {rows ys:List (List PV)} {vs:Array Value} {e:TypeId}
    (hs:StRel w g H) (hl:H[l]? = some (.arr es fz ver rows)) (hp:Pushed w w' (.cells vs e (0,0))) (hys:∀ r ∈ ys,r.length = es)
    (hcap:rows.length + ys.length ≤ cap) (hsz:cap * es ≤ vs.size)
    (hcell:∀ (i j:Nat) (row:List PV) (x:PV),(rows++ys)[i]? = some row→row[j]? = some x→∃ c,vs[i * es + j]? = some c∧RepP w g.D c x) :
    ∃ g',Evo w g H w' g' (H.set l (.arr es fz (ver + 1) (rows++ys)))∧StRel w' g' (H.set l (.arr es fz (ver + 1) (rows++ys))) ∧
      g'.blk l = w.heap.size∧g'.base l = 0∧g'.cap l = cap∧(fz.isSome = true→∀ i j,i < (rows++ys).length→j < es→g'.D w.heap.size (i * es + j)):=by
  have hlt:l < H.length:=(List.getElem?_eq_some_iff.1 hl).1
  obtain ⟨h1,h2,⟨ovs,oe,h3,h4⟩,h5,h6⟩:=hs.objs l _ hl
  have hc:∀ b i,g.D b i→cellAt w' b i = cellAt w b i:=fun b i hd=>cellAt_heap (hp.old (hs.dom b i hd)) i
  let D':Nat→Nat→Prop:=fun b i=>g.D b i∨(b = w.heap.size∧fz.isSome = true∧i < (rows++ys).length * es)
  let g':Gh:={ blk:=fun k=>if k = l then w.heap.size else g.blk k,base:=fun k=>if k = l then 0 else g.base k,cap:=fun k=>if k = l then cap else g.cap k,D:=D',cd:=g.cd }
  have hb0:g'.blk l = w.heap.size:=by simp [g']
  have hb1:g'.base l = 0:=by simp [g']
  have hb2:g'.cap l = cap:=by simp [g']
  have hne:∀ k,k ≠ l→g'.blk k = g.blk k∧g'.base k = g.base k∧g'.cap k = g.cap k:=fun k hk=>by simp [g',hk]
  have hD:∀ b i,g.D b i→g'.D b i:=fun _ _ h=>.inl h
  have hset:∀ k,k ≠ l→(H.set l (.arr es fz (ver + 1) (rows++ys)))[k]? = H[k]?:=fun k hk=>List.getElem?_set_ne (Ne.symm hk)
  have hself:(H.set l (.arr es fz (ver + 1) (rows++ys)))[l]? = some (.arr es fz (ver + 1) (rows++ys)):=List.getElem?_set_self hlt
  have hfv:∀ f,fz = some f→f ≤ ver:=fun f hf=>by subst hf; exact (hs.stand l _ hl).1
  have hr:∀ c a,Rep w g H c a→Rep w' g' (H.set l (.arr es fz (ver + 1) (rows++ys))) c a:=fun c a h =>
    h.step (w:=w) (g:=g) (g':=g') (H':=H.set l (.arr es fz (ver + 1) (rows++ys))) hD hc (fun k ok hk=>by
      by_cases e:k = l
      · subst e; exact .app hl hself hfv
      · exact .same (hset k e) (hne k e).1 (hne k e).2.1 (hne k e).2.2)
  have hrows:∀ r ∈ rows++ys,r.length = es:=fun r hr=>by
    rcases List.mem_append.1 hr with h | h
    · exact h2 r h
    · exact hys r h
  have hlen:(rows++ys).length = rows.length + ys.length:=List.length_append
  have hm:∀ i,i < (rows++ys).length→i * es + es ≤ (rows++ys).length * es:=fun i hi=>by
    have:=Nat.mul_le_mul_right es (show i + 1 ≤ (rows++ys).length by omega)
    rwa [Nat.add_mul,Nat.one_mul] at this
  refine ⟨g',⟨hD,hc,hr,hp.keep _,fun b i h=>?_,fun b i h=>?_,rfl⟩,⟨fun k ok hk=>?_,fun k m hk hm e=>?_,fun k ok hk=>?_,fun b i hd=>?_⟩,hb0,hb1,hb2,fun hf i j hi hj=>.inr ⟨rfl,hf,by have:=hm i hi; omega⟩⟩
  · obtain ⟨⟨k,hk,rfl⟩,hd⟩:=h
    rw [List.length_set] at hk
    by_cases e:k = l
    · subst e; right; rw [hb0]; exact Nat.le_refl _
    · left
      rw [(hne k e).1] at hd ⊢
      exact ⟨⟨k,hk,rfl⟩,fun h=>hd (hD _ _ h)⟩
  · rcases h with h | ⟨rfl,_⟩
    · exact .inl h
    · exact .inr (.inr (Nat.le_refl _))
  · by_cases e:k = l
    · subst e
      rw [hself] at hk
      cases hk
      refine ⟨by rw [hb2,hlen]; exact hcap,hrows,⟨vs,_,by rw [hb0]; exact hp.new,by rw [hb1,hb2]; omega⟩,fun i j row x hi hj=>?_,fun i j hf hi hj=>?_⟩
      · obtain ⟨c,e1,e2⟩:=hcell i j row x hi hj
        exact ⟨c,by rw [hb0,hb1,cellAt_cells hp.new,Nat.zero_add]; exact e1,e2.mono hD hc⟩
      · rw [hb0,hb1,Nat.zero_add]
        exact .inr ⟨rfl,hf,by have:=hm i hi; omega⟩
    · rw [hset k e] at hk
      have hkl:k < H.length:=(List.getElem?_eq_some_iff.1 hk).1
      exact (hs.objs k ok hk).keep (hne k e).1 (hne k e).2.1 (hne k e).2.2 (hp.old (IsBlk.lt hs hkl)) hD hc hr
  · rw [List.length_set] at hk hm
    by_cases e1:k = l <;> by_cases e2:m = l
    · omega
    · subst e1; rw [hb0,(hne m e2).1] at e; have:=IsBlk.lt hs hm; omega
    · subst e2; rw [hb0,(hne k e1).1] at e; have:=IsBlk.lt hs hk; omega
    · rw [(hne k e1).1,(hne m e2).1] at e; exact hs.inj k m hk hm e
  · by_cases e:k = l
    · subst e
      rw [hself] at hk
      cases hk
      have hno:∀ i,¬ g.D w.heap.size i:=fun i hd=>by have:=hs.dom _ i hd; omega
      cases fz with
      | none =>
        intro i hd
        rw [hb0] at hd
        rcases hd with h | ⟨_,h,_⟩
        · exact hno i h
        · cases h
      | some f =>
        refine ⟨Nat.le_succ_of_le (hfv f rfl),fun i hd=>?_⟩
        rw [hb0] at hd
        rw [hb1,Nat.zero_add]
        rcases hd with h | ⟨_,_,h⟩
        · exact absurd h (hno i)
        · exact h
    · rw [hset k e] at hk
      have hkl:k < H.length:=(List.getElem?_eq_some_iff.1 hk).1
      refine (hs.stand k ok hk).keep (hne k e).1 (hne k e).2.1 (fun i h=>?_)
      rcases h with h | ⟨h,_⟩
      · exact h
      · have:=IsBlk.lt hs hkl; omega
  · rw [hp.size]
    rcases hd with h | ⟨rfl,_⟩
    · have:=hs.dom b i h; omega
    · omega
section
variable {w w':World}
theorem Keep.mono {O O':Nat→Nat→Prop} (h:Keep O w w') (ho:∀ b i,O b i→O' b i):Keep O' w w':=by
  obtain ⟨a1,a2,a3,a4,a5⟩:=h
  refine ⟨a1,a2,a3,a4,fun b hb=>?_⟩
  have:=a5 b hb
  split
  · rename_i vs e f hw
    simp only [hw] at this
    obtain ⟨vs',e1,e2,e3⟩:=this
    exact ⟨vs',e1,e2,fun i hi=>e3 i (fun h=>hi (ho _ _ h))⟩
  · rename_i o hne
    intro hi
    split at this
    · rename_i vs e f hw; exact absurd hw (hne _ _ _)
    · exact this (fun h=>hi (ho _ _ h))
theorem Keep.same {O:Nat→Nat→Prop} (h:Keep O w w') {b:Nat} (hb:b < w.heap.size) (hn:∀ i,¬ O b i):w'.heap[b]? = w.heap[b]?:=by
  have:=h.2.2.2.2 b hb
  split at this
  · rename_i vs e f hw
    obtain ⟨vs',e1,e2,e3⟩:=this
    rw [e1,hw]
    have:vs' = vs:=by
      apply Array.ext_getElem?
      intro i
      exact e3 i (hn i)
    rw [this]
  · exact this (hn 0)
end
theorem free_cell {l:Nat} {o:Obj} {g:Gh} (h:Stands g l o):∃ i,¬ g.D (g.blk l) i:=by
  cases o with
  | cells c=>exact ⟨0,h 0⟩
  | map es=>exact ⟨0,h 0⟩
  | loop=>exact ⟨0,h 0⟩
  | arr es fz ver rows =>
    cases fz with
    | none=>exact ⟨0,h 0⟩
    | some f=>exact ⟨g.base l + rows.length * es,fun hd=>Nat.lt_irrefl _ (h.2 _ hd)⟩
end Go.Proofs.YtepbfecmageleaaGreatDoor

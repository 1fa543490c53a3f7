/- Part of the proof of Rows.ProverMiddlesCardSaid: EvW, EvNa, EvL. -/
import Derived.Test.YtepbfecmageleaaGreatDoorP01
import Derived.Test.YtepbfecmageleaaGreatDoorP10
import Derived.Test.YtepbfecmageleaaGreatDoorP12
set_option linter.all false
namespace Go.Proofs.YtepbfecmageleaaGreatDoor
open Go
def bindP {α:Type} (o:Option α) (K:α→Prop):Prop:=o.elim False K
theorem bindP_congr {α:Type} {o o':Option α} {K:α→Prop} {p:Prop} (_h0:((0:Nat) = 0) = p) (h:o = o'):bindP o K↔bindP o' K:=by rw [h]
theorem bindP_some {α:Type} {x:α} {K:α→Prop}:bindP (some x) K↔K x:=Iff.rfl
theorem bindP_none {α:Type} {K:α→Prop}:bindP (none:Option α) K↔False:=Iff.rfl
theorem bindP_ite {α:Type} {c:Prop} [Decidable c] {x:Option α} {K:α→Prop}:bindP (if c then x else none) K↔c∧bindP x K:=by
  split <;> simp [*,bindP]
theorem bindP_map {α β:Type} {o:Option α} {f:α→β} {K:β→Prop}:bindP (o.map f) K↔bindP o fun x=>K (f x):=by cases o <;> rfl
theorem bindP_bind {α β:Type} {o:Option α} {f:α→Option β} {K:β→Prop}:bindP (o.bind f) K↔bindP o fun x=>bindP (f x) K:=by cases o <;> rfl
theorem bindP_mono {α:Type} {o:Option α} {K K':α→Prop} (h:bindP o K) (hk:∀ x,K x→K' x):bindP o K':=by
  cases o with
  | none=>exact h
  | some x=>exact hk x h
section
variable (X:FuncId→List AV→List Obj→Option (AV×List Obj)) (Γ:FuncId→Option SFunc)
def W (c:SCode) (s:St) (Q:SExit→St→Prop):Prop:=bindP (exec X Γ c s) fun r=>Q r.1 r.2
def WO:List SO→Fr→List Obj→(Fr→List Obj→Prop)→Prop
  | [],e,H,K=>K e H
  | o::os,e,H,K=>match wanted o e with
    | none=>False
    | some false=>WO os (dstDrop o.dst e) H K
    | some true=>bindP (evOne X Γ o.op e H) fun r=>WO os (dstPut o.dst e r.1) r.2 K
def WY (l:Nat) (args:List AV) (H:List Obj) (K:AV→List Obj→Prop):Prop:=bindP (yieldAt X Γ l args H) fun r=>K r.1 r.2
def WC (g:FuncId) (args:List AV) (H:List Obj) (K:AV→List Obj→Prop):Prop:=bindP (callAt X Γ g args H) fun r=>K r.1 r.2
def andThen (Q1:St→Prop) (Q:SExit→St→Prop):SExit→St→Prop
  | .normal,s=>Q1 s
  | x,s=>Q x s
def outOf (id:Nat) (Q:SExit→St→Prop):SExit→St→Prop
  | .exit i,s=>if i = id then Q .normal s else Q (.exit i) s
  | x,s=>Q x s
def fin (res:List SOp) (Q:AV→List Obj→Prop):SExit→St→Prop
  | .exit _,_=>False
  | _,s=>bindP (evRes ⟨[],s.env⟩ s.H res) fun rs=>Q (tupOf rs) s.H
variable {X Γ}
theorem W_congr {c:SCode} {s s':St} {Q:SExit→St→Prop} {p:Prop} (_h0:((0:Nat) = 0) = p) (h:s = s'):W X Γ c s Q↔W X Γ c s' Q:=by rw [h]
theorem WO_congr {ops:List SO} {e e':Fr} {H H':List Obj} {K:Fr→List Obj→Prop} {p:Prop} (_h0:((0:Nat) = 0) = p) (h:e = e') (h':H = H'):WO X Γ ops e H K↔WO X Γ ops e' H' K:=by rw [h,h']
theorem WC_congr {g:FuncId} {aZ aZ':List AV} {H H':List Obj} {K:AV→List Obj→Prop} {p:Prop} (_h0:((0:Nat) = 0) = p) (h:aZ = aZ') (h':H = H'):WC X Γ g aZ H K↔WC X Γ g aZ' H' K:=by rw [h,h']
theorem andThen_congr {Q1:St→Prop} {Q:SExit→St→Prop} {x x':SExit} {s s':St} {p:Prop} (_h0:((0:Nat) = 0) = p) (h:x = x') (h':s = s'):andThen Q1 Q x s↔andThen Q1 Q x' s':=by rw [h,h']
theorem outOf_congr {id:Nat} {Q:SExit→St→Prop} {x x':SExit} {s s':St} {p:Prop} (_h0:((0:Nat) = 0) = p) (h:x = x') (h':s = s'):outOf id Q x s↔outOf id Q x' s':=by rw [h,h']
theorem fin_congr {res:List SOp} {Q:AV→List Obj→Prop} {x x':SExit} {s s':St} {p:Prop} (_h0:((0:Nat) = 0) = p) (h:x = x') (h':s = s'):fin res Q x s↔fin res Q x' s':=by rw [h,h']
theorem andThen_normal {Q1:St→Prop} {Q:SExit→St→Prop} {s:St}:andThen Q1 Q .normal s↔Q1 s:=Iff.rfl
theorem andThen_exit {Q1:St→Prop} {Q:SExit→St→Prop} {s:St} {n:Nat}:andThen Q1 Q (.exit n) s↔Q (.exit n) s:=Iff.rfl
theorem andThen_ret {Q1:St→Prop} {Q:SExit→St→Prop} {s:St}:andThen Q1 Q .ret s↔Q .ret s:=Iff.rfl
theorem outOf_normal {id:Nat} {Q:SExit→St→Prop} {s:St}:outOf id Q .normal s↔Q .normal s:=Iff.rfl
theorem outOf_ret {id:Nat} {Q:SExit→St→Prop} {s:St}:outOf id Q .ret s↔Q .ret s:=Iff.rfl
theorem outOf_exit {id n:Nat} {Q:SExit→St→Prop} {s:St}:outOf id Q (.exit n) s↔if n = id then Q .normal s else Q (.exit n) s:=Iff.rfl
theorem fin_ret {res:List SOp} {Q:AV→List Obj→Prop} {s:St}:fin res Q .ret s↔bindP (evRes ⟨[],s.env⟩ s.H res) fun rs=>Q (tupOf rs) s.H:=Iff.rfl
theorem fin_normal {res:List SOp} {Q:AV→List Obj→Prop} {s:St}:fin res Q .normal s↔bindP (evRes ⟨[],s.env⟩ s.H res) fun rs=>Q (tupOf rs) s.H:=Iff.rfl
theorem W_mono {c:SCode} {s:St} {Q Q':SExit→St→Prop} (h:W X Γ c s Q) (hq:∀ x s,Q x s→Q' x s):W X Γ c s Q':=bindP_mono h fun r=>hq r.1 r.2
theorem W_skip {s:St} {Q:SExit→St→Prop}:W X Γ .skip s Q↔Q .normal s:=by simp [W,exq_skip,bindP]
theorem W_ret {s:St} {Q:SExit→St→Prop}:W X Γ .ret s Q↔Q .ret s:=by simp [W,exq_ret,bindP]
theorem W_exit {id:Nat} {s:St} {Q:SExit→St→Prop}:W X Γ (.exit id) s Q↔Q (.exit id) s:=by simp [W,exq_exit,bindP]
theorem WO_evOps:∀ {ops:List SO} {e:Fr} {H:List Obj} {K:St→Prop},bindP (evOps X Γ ops e H) K↔WO X Γ ops e H fun e H=>K ⟨e.env,H⟩
  | [],e,H,K=>by rw [opsq_nil]; rfl
  | o::os,e,H,K=>by
    rw [opsq_cons,WO]
    cases wanted o e with
    | none=>rfl
    | some t =>
      cases t with
      | false=>exact WO_evOps
      | true =>
        simp only
        cases evOne X Γ o.op e H with
        | none=>rfl
        | some r=>exact WO_evOps
theorem W_region {ops:List SO} {s:St} {Q:SExit→St→Prop}:W X Γ (.region ops) s Q↔WO X Γ ops ⟨[],s.env⟩ s.H fun e H=>Q .normal ⟨e.env,H⟩:=by
  rw [← WO_evOps (K:=Q .normal)]
  simp only [W,exq_region]
  cases evOps X Γ ops ⟨[],s.env⟩ s.H <;> simp [bindP]
theorem W_seq {a b:SCode} {s:St} {Q:SExit→St→Prop}:W X Γ (.seq a b) s Q↔W X Γ a s (andThen (fun s=>W X Γ b s Q) Q):=by
  simp only [W,exq_seq]
  cases exec X Γ a s with
  | none=>simp [bindP]
  | some r=>obtain ⟨x,s'⟩:=r; cases x <;> simp [andThen,bindP]
theorem W_seq_cut {a b:SCode} {s:St} {Q:SExit→St→Prop} (I:St→Prop) (h1:W X Γ a s (andThen I Q)) (h2:∀ s,I s→W X Γ b s Q):W X Γ (.seq a b) s Q:=by
  rw [W_seq]
  refine W_mono h1 fun x s hx=>?_
  cases x with
  | normal=>exact h2 s hx
  | exit i=>exact hx
  | ret=>exact hx
theorem W_cond {c:SA} {a b:SCode} {s:St} {Q:SExit→St→Prop}:W X Γ (.cond c a b) s Q↔bindP (evBool ⟨[],s.env⟩ c) fun t=>if t = true then W X Γ a s Q else W X Γ b s Q:=by
  unfold W
  rw [exq_cond]
  unfold evBool
  cases ev ⟨[],s.env⟩ c with
  | none=>simp [bindP]
  | some v =>
    cases v with
    | p x =>
      cases x with
      | v y =>
        cases y with
        | bool t=>cases t <;> simp [bindP,asBoolA]
        | _=>simp [bindP,asBoolA]
      | _=>simp [bindP,asBoolA]
    | _=>simp [bindP,asBoolA]
theorem W_block {id:Nat} {b:SCode} {s:St} {Q:SExit→St→Prop}:W X Γ (.block id b) s Q↔W X Γ b s (outOf id Q):=by
  simp only [W]
  rw [exq_block]
  cases exec X Γ b s with
  | none=>simp [bindP]
  | some r =>
    obtain ⟨x,s'⟩:=r
    cases x with
    | exit i=>by_cases h:i = id <;> simp [outOf,bindP,h]
    | _=>simp [outOf,bindP]
theorem W_loop1 {b:SCode} {s:St} {Q:SExit→St→Prop}:W X Γ (.loop b) s Q↔W X Γ b s (andThen (fun s=>W X Γ (.loop b) s Q) Q):=by
  unfold W
  conv=>lhs; rw [exq_loop]
  cases exec X Γ b s with
  | none=>simp [bindP]
  | some r=>obtain ⟨x,s'⟩:=r; cases x <;> simp [andThen,bindP]
theorem W_loop {b:SCode} {Q:SExit→St→Prop} (I:Nat→St→Prop) (h:∀ n s,I n s→W X Γ b s (andThen (fun s'=>∃ m,m < n∧I m s') Q)):∀ n s,I n s→W X Γ (.loop b) s Q:=by
  intro n
  induction n using Nat.strongRecOn with
  | ind n ih =>
    intro s hs
    rw [W_loop1]
    refine W_mono (h n s hs) fun x s' hx=>?_
    cases x with
    | normal=>obtain ⟨m,hm,hI⟩:=hx; exact ih m hm s' hI
    | exit i=>exact hx
    | ret=>exact hx
theorem WO_nil {e:Fr} {H:List Obj} {K:Fr→List Obj→Prop}:WO X Γ [] e H K↔K e H:=Iff.rfl
def wantB (b:Bool):AV→Option Bool
  | .p (.v (.bool t))=>some (t == b)
  | .tup []=>some false
  | _=>none
theorem WO_g {d:SD} {op:SOp} {a:SA} {b:Bool} {os:List SO} {e:Fr} {H:List Obj} {K:Fr→List Obj→Prop} :
    WO X Γ (⟨d,op,some (a,b)⟩::os) e H K↔bindP ((ev e a).bind (wantB b)) fun t=>if t = true then WO X Γ (⟨d,op,none⟩::os) e H K else WO X Γ os (dstPut d e (.tup [])) H K:=by
  have key:wanted ⟨d,op,some (a,b)⟩ e = (ev e a).bind (wantB b):=by
    simp only [wanted]
    cases ev e a with
    | none=>rfl
    | some v =>
      cases v with
      | p x=>cases x with
        | v y=>cases y <;> rfl
        | _=>rfl
      | tup l=>cases l <;> rfl
      | _=>rfl
  rw [WO,key]
  cases (ev e a).bind (wantB b) with
  | none=>simp [bindP]
  | some t=>cases t <;> simp [bindP,WO,wanted,dstDrop]
theorem WO_cons {d:SD} {op:SOp} {os:List SO} {e:Fr} {H:List Obj} {K:Fr→List Obj→Prop} :
    WO X Γ (⟨d,op,none⟩::os) e H K↔bindP (evOne X Γ op e H) fun r=>WO X Γ os (dstPut d e r.1) r.2 K:=by
  rw [WO]
  simp only [wanted]
theorem WO_op {d:SD} {op:SOp} {os:List SO} {e:Fr} {H:List Obj} {K:Fr→List Obj→Prop} (h:isCall op = none) :
    WO X Γ (⟨d,op,none⟩::os) e H K↔bindP (evOp e H op) fun r=>WO X Γ os (dstPut d e r.1) r.2 K:=by
  rw [WO_cons,oneq]
  simp only [h]
theorem WO_call {d:SD} {f:SA} {aZ:List SA} {os:List SO} {e:Fr} {H:List Obj} {K:Fr→List Obj→Prop} :
    WO X Γ (⟨d,.call f aZ,none⟩::os) e H K↔bindP (ev e f) fun fv=>bindP (evs e aZ) fun args=>match fv with
      | .fn (.func g) first cap=>WC X Γ g (first++args++cap) H fun v H'=>WO X Γ os (dstPut d e v) H' K
      | .yld l=>WY X Γ l args H fun v H'=>WO X Γ os (dstPut d e v) H' K
      | _=>False:=by
  rw [WO_cons,oneq]
  simp only [isCall]
  cases ev e f with
  | none=>simp [bindP]
  | some fv =>
    cases evs e aZ with
    | none=>cases fv <;> simp [bindP]
    | some args =>
      cases fv with
      | fn g a b=>cases g <;> simp [bindP,WC]
      | yld l=>simp [bindP,WY]
      | _=>simp [bindP]
section
variable {d:SD} {os:List SO} {e:Fr} {H:List Obj} {K:Fr→List Obj→Prop}
theorem WO_mov {x:SA}:WO X Γ (⟨d,.mov x,none⟩::os) e H K↔bindP (ev e x) fun v=>WO X Γ os (dstPut d e v) H K:=by
  rw [WO_op rfl,evOp,bindP_map]
theorem WO_pick {c a b:SA}:WO X Γ (⟨d,.pick c a b,none⟩::os) e H K↔bindP (evBool e c) fun t=>if t = true then WO X Γ (⟨d,.mov a,none⟩::os) e H K else WO X Γ (⟨d,.mov b,none⟩::os) e H K:=by
  rw [WO_op rfl,evOp,bindP_bind]
  cases evBool e c with
  | none=>exact Iff.rfl
  | some t=>cases t <;> simp [bindP_some,bindP_map,WO_mov]
theorem WO_alloc {z:List AV}:WO X Γ (⟨d,.alloc z,none⟩::os) e H K↔WO X Γ os (dstPut d e (.ptr H.length 0)) (H++[.cells z]) K:=by
  rw [WO_op rfl,evOp,bindP_some]
theorem WO_box {x:SA}:WO X Γ (⟨d,.box x,none⟩::os) e H K↔bindP (ev e x) fun v=>bindP (cellsOf v) fun cs=>WO X Γ os (dstPut d e (.ptr H.length 0)) (H++[.cells cs]) K:=by
  rw [WO_op rfl,evOp]; simp only [bindP_bind,bindP_map]
theorem WO_build {z:List AV} {ps:List (Nat×Nat×SA)}:WO X Γ (⟨d,.build z ps,none⟩::os) e H K↔bindP (fill e z ps) fun cs=>WO X Γ os (dstPut d e (.agg cs)) H K:=by
  rw [WO_op rfl,evOp,bindP_map]
theorem WO_slit {z:List PV} {n:Nat} {ps:List (Nat×SA)}:WO X Γ (⟨d,.slit z n ps,none⟩::os) e H K↔bindP (fillRows H e z.length (List.replicate n z) ps) fun rows=>WO X Γ os (dstPut d e (.lit rows)) (freeze H (partArs e ps)) K:=by
  rw [WO_op rfl,evOp,bindP_map]
theorem WO_load1 {a:SA}:WO X Γ (⟨d,.load1 a,none⟩::os) e H K↔bindP (ev e a) fun p=>bindP (load1V H p) fun v=>WO X Γ os (dstPut d e v) H K:=by
  rw [WO_op rfl,evOp]; simp only [bindP_bind,bindP_map]
theorem WO_loadn {n:Nat} {a:SA}:WO X Γ (⟨d,.loadn n a,none⟩::os) e H K↔bindP (ev e a) fun p=>bindP (loadC H n p) fun cs=>WO X Γ os (dstPut d e (.agg cs)) H K:=by
  rw [WO_op rfl,evOp]; simp only [bindP_bind,bindP_map]
theorem WO_store {n:Nat} {a x:SA}:WO X Γ (⟨d,.store n a x,none⟩::os) e H K↔bindP (ev e a) fun p=>bindP (ev e x) fun v=>bindP (cellsOf v) fun cs=>cs.length = n∧bindP (storeC H p cs) fun H'=>WO X Γ os (dstPut d e (.p .nsl)) H' K:=by
  rw [WO_op rfl,evOp]; simp only [bindP_bind,bindP_map,bindP_ite]
theorem WO_nilck {x:SA}:WO X Γ (⟨d,.nilck x,none⟩::os) e H K↔bindP (ev e x) fun a=>bindP (nilckV a) fun v=>WO X Γ os (dstPut d e v) H K:=by
  rw [WO_op rfl,evOp]; simp only [bindP_bind,bindP_map]
theorem WO_bin {op:BinOp} {x y:SA}:WO X Γ (⟨d,.bin op x y,none⟩::os) e H K↔bindP (evVal e x) fun a=>bindP (evVal e y) fun b=>bindP (binV op a b) fun r=>WO X Γ os (dstPut d e (.p (.v r))) H K:=by
  rw [WO_op rfl,evOp]; simp only [bindP_bind,bindP_map]
theorem WO_binB {op:BinOp} {x y:SA}:WO X Γ (⟨d,.binB op x y,none⟩::os) e H K↔bindP (evVal e x) fun a=>bindP (evVal e y) fun b=>bindP (binB op a b) fun r=>WO X Γ os (dstPut d e (.p (.v r))) H K:=by
  rw [WO_op rfl,evOp]; simp only [bindP_bind,bindP_map]
theorem WO_isnil {neg:Bool} {x:SA}:WO X Γ (⟨d,.isnil neg x,none⟩::os) e H K↔bindP (ev e x) fun a=>bindP (isNil a) fun t=>WO X Γ os (dstPut d e (.p (.v (.bool (if neg then !t else t))))) H K:=by
  rw [WO_op rfl,evOp]; simp only [bindP_bind,bindP_map]
theorem WO_un {op:UnOp} {x:SA}:WO X Γ (⟨d,.un op x,none⟩::os) e H K↔bindP (evVal e x) fun a=>bindP (un op a) fun r=>WO X Γ os (dstPut d e (.p (.v r))) H K:=by
  rw [WO_op rfl,evOp]; simp only [bindP_bind,bindP_map]
theorem WO_conv {k:IntKind} {x:SA}:WO X Γ (⟨d,.conv k x,none⟩::os) e H K↔bindP (evInt e x) fun n=>WO X Γ os (dstPut d e (.p (.v (.int k (k.wrap n))))) H K:=by
  rw [WO_op rfl,evOp,bindP_map]
theorem WO_mkfn {f:Fn} {a b:List SA}:WO X Γ (⟨d,.mkfn f a b,none⟩::os) e H K↔bindP (evs e a) fun aZ=>bindP (evs e b) fun bs=>WO X Γ os (dstPut d e (.fn f aZ bs)) H K:=by
  rw [WO_op rfl,evOp]; simp only [bindP_bind,bindP_map]
theorem WO_mkmap:WO X Γ (⟨d,.mkmap,none⟩::os) e H K↔WO X Γ os (dstPut d e (.map H.length)) (H++[.map []]) K:=by
  rw [WO_op rfl,evOp,bindP_some]
theorem WO_mkslice {b:Nat} {z:List PV} {l c:SA}:WO X Γ (⟨d,.mkslice b z l c,none⟩::os) e H K↔bindP (evInt e l) fun n=>bindP (evInt e c) fun m=>(0 ≤ n∧n ≤ m∧b * m ≤ 281474976710656∧m ≤ 9223372036854775807) ∧
    WO X Γ os (dstPut d e (.ar H.length 0 0 n.toNat)) (H++[.arr z.length none 0 (List.replicate n.toNat z)]) K:=by
  rw [WO_op rfl,evOp]; simp only [bindP_bind,mkSlice,bindP_ite,bindP_some]
theorem WO_slice {es:Nat} {x:SA} {lo hi mx:Option SA}:WO X Γ (⟨d,.slice es x lo hi mx,none⟩::os) e H K↔bindP (ev e x) fun a=>bindP (lenOf a) fun n=>bindP (evIntO e 0 lo) fun l=>bindP (evIntO e n hi) fun h=>bindP (evIntOO e mx) fun m =>
    bindP (sliceB H es a l h m) fun r=>WO X Γ os (dstPut d e r.1) r.2 K:=by
  rw [WO_op rfl,evOp]; simp only [bindP_bind]
theorem WO_sliceS {x:SA} {lo hi:Option SA}:WO X Γ (⟨d,.sliceS x lo hi,none⟩::os) e H K↔bindP (evStr e x) fun s=>bindP (evIntO e 0 lo) fun l=>bindP (evIntO e s.size hi) fun h=>(0 ≤ l∧l ≤ h∧h ≤ s.size) ∧
    WO X Γ os (dstPut d e (.p (.v (.string (s.extract l.toNat h.toNat))))) H K:=by
  rw [WO_op rfl,evOp]; simp only [bindP_bind,bindP_ite,bindP_some]
theorem WO_fadr {n:Nat} {x:SA}:WO X Γ (⟨d,.fadr n x,none⟩::os) e H K↔bindP (ev e x) fun a=>bindP (fadrV n a) fun v=>WO X Γ os (dstPut d e v) H K:=by
  rw [WO_op rfl,evOp]; simp only [bindP_bind,bindP_map]
theorem WO_idx {es:Nat} {x i:SA}:WO X Γ (⟨d,.idx es x i,none⟩::os) e H K↔bindP (ev e x) fun a=>bindP (evInt e i) fun n=>bindP (idxSl H es a n) fun v=>WO X Γ os (dstPut d e v) H K:=by
  rw [WO_op rfl,evOp]; simp only [bindP_bind,bindP_map]
theorem WO_idxA {len es:Nat} {x i:SA}:WO X Γ (⟨d,.idxA len es x i,none⟩::os) e H K↔bindP (ev e x) fun a=>bindP (evInt e i) fun n=>bindP (idxArr len es a n) fun v=>WO X Γ os (dstPut d e v) H K:=by
  rw [WO_op rfl,evOp]; simp only [bindP_bind,bindP_map]
theorem WO_idxS {x i:SA}:WO X Γ (⟨d,.idxS x i,none⟩::os) e H K↔bindP (evStr e x) fun s=>bindP (evInt e i) fun n=>bindP (idxStr s n) fun v=>WO X Γ os (dstPut d e v) H K:=by
  rw [WO_op rfl,evOp]; simp only [bindP_bind,bindP_map]
theorem WO_idxV {len es:Nat} {g:Bool} {x i:SA}:WO X Γ (⟨d,.idxV len g es x i,none⟩::os) e H K↔bindP (ev e x) fun a=>bindP (evInt e i) fun n=>bindP (idxAgg len g es a n) fun v=>WO X Γ os (dstPut d e v) H K:=by
  rw [WO_op rfl,evOp]; simp only [bindP_bind,bindP_map]
theorem WO_b2s {x:SA}:WO X Γ (⟨d,.b2s x,none⟩::os) e H K↔bindP (ev e x) fun a=>bindP (rowsOf H a) fun rows=>bindP (bytesOf rows) fun l=>WO X Γ os (dstPut d e (.p (.v (.string ⟨l.toArray⟩)))) H K:=by
  rw [WO_op rfl,evOp]; simp only [bindP_bind,bindP_map]
theorem WO_extract {x:SA} {n:Nat}:WO X Γ (⟨d,.extract x n,none⟩::os) e H K↔bindP (ev e x) fun a=>bindP (extractV n a) fun v=>WO X Γ os (dstPut d e v) H K:=by
  rw [WO_op rfl,evOp]; simp only [bindP_bind,bindP_map]
theorem WO_len {x:SA}:WO X Γ (⟨d,.len x,none⟩::os) e H K↔bindP (ev e x) fun a=>bindP (lenOf a) fun (n:Nat)=>WO X Γ os (dstPut d e (.p (.v (.int .i64 (n:Int))))) H K:=by
  rw [WO_op rfl,evOp]; simp only [bindP_bind,bindP_map]
theorem WO_lenS {x:SA}:WO X Γ (⟨d,.lenS x,none⟩::os) e H K↔bindP (evStr e x) fun s=>WO X Γ os (dstPut d e (.p (.v (.int .i64 s.size)))) H K:=by
  rw [WO_op rfl,evOp,bindP_map]
theorem WO_append {b es:Nat} {x y:SA}:WO X Γ (⟨d,.append b es x y,none⟩::os) e H K↔bindP (ev e x) fun u=>bindP (ev e y) fun v=>bindP (appendV H b es u v) fun r=>WO X Γ os (dstPut d e r.1) r.2 K:=by
  rw [WO_op rfl,evOp]; simp only [bindP_bind]
theorem WO_copy {es:Nat} {x y:SA}:WO X Γ (⟨d,.copy es x y,none⟩::os) e H K↔bindP (ev e x) fun u=>bindP (ev e y) fun v=>bindP (copyV H es u v) fun r=>WO X Γ os (dstPut d e r.1) r.2 K:=by
  rw [WO_op rfl,evOp]; simp only [bindP_bind]
theorem WO_maxmin {m:Bool} {x y:SA}:WO X Γ (⟨d,.maxmin m x y,none⟩::os) e H K↔bindP (evVal e x) fun a=>bindP (evVal e y) fun b=>bindP (maxmin m a b) fun r=>WO X Γ os (dstPut d e (.p (.v r))) H K:=by
  rw [WO_op rfl,evOp]; simp only [bindP_bind,bindP_map]
theorem WO_mapget {g:Bool} {ks:List LK} {z:AV} {ok:Bool} {x k:SA}:WO X Γ (⟨d,.mapget g ks z ok x k,none⟩::os) e H K↔bindP (evOp e H (.mapget g ks z ok x k)) fun r=>WO X Γ os (dstPut d e r.1) r.2 K:=WO_op rfl
theorem WO_mapset {g:Bool} {ks:List LK} {x k v:SA}:WO X Γ (⟨d,.mapset g ks x k v,none⟩::os) e H K↔bindP (evOp e H (.mapset g ks x k v)) fun r=>WO X Γ os (dstPut d e r.1) r.2 K:=WO_op rfl
end
structure Ck where
  op:SOp
  e:Fr
  x:AV
  lo:Nat
  hi:Nat
def ckAll:List Ck→List (List Obj)→Prop
  | [],_=>True
  | c::cs,F=>stable c.op c.e c.x ((F.drop c.lo).take (c.hi + 1 - c.lo))∧ckAll cs F
def WL (X:FuncId→List AV→List Obj→Option (AV×List Obj)) (Γ:FuncId→Option SFunc):List DO→Fr→List Obj→List (List Obj)→List Ck→(St→Prop)→Prop
  | [],e,H,Hs,cs,K=>ckAll cs (Hs++[H])∧K ⟨e.env,H⟩
  | d::ds,e,H,Hs,cs,K=>match wanted d.o e with
    | none=>False
    | some false=>WL X Γ ds (dstDrop d.o.dst e) H (if d.k.seq then Hs++[H] else Hs) cs K
    | some true=>match d.k with
      | .write=>bindP (evOne X Γ d.o.op e H) fun v=>WL X Γ ds (dstPut d.o.dst e v.1) v.2 (Hs++[H]) cs K
      | .fresh=>bindP (evOp e H d.o.op) fun v=>WL X Γ ds (dstPut d.o.dst e v.1) v.2 (Hs++[H]) cs K
      | .lone=>bindP (evOne X Γ d.o.op e []) fun u=>bindP (loneV u) fun v=>(v.2 = []∧noRefs e d.o.op = true)∧WL X Γ ds (dstPut d.o.dst e v.1) H Hs cs K
      | .read=>bindP (evOp e H d.o.op) fun v=>WL X Γ ds (dstPut d.o.dst e v.1) H Hs (⟨d.o.op,e,v.1,d.lo,d.hi⟩::cs) K
      | _=>bindP (evOp e H d.o.op) fun v=>WL X Γ ds (dstPut d.o.dst e v.1) H Hs cs K
theorem WL_evDraw:∀ {ds:List DO} {e:Fr} {H:List Obj} {Hs:List (List Obj)} {cs:List Ck} {K:St→Prop},
    WL X Γ ds e H Hs cs K↔bindP (evDraw X Γ ds e H) fun r=>(ckAll cs (Hs++(r.stores++[r.s.H]))∧stables ds r.recs (Hs++(r.stores++[r.s.H])))∧K r.s
  | [],e,H,Hs,cs,K=>by rw [WL,drq_nil]; simp [bindP,stables]
  | d::ds,e,H,Hs,cs,K=>by
    rw [WL,drq_cons]
    cases wanted d.o e with
    | none=>simp [bindP]
    | some t =>
      cases t with
      | false =>
        simp only
        rw [WL_evDraw]
        cases evDraw X Γ ds (dstDrop d.o.dst e) H with
        | none=>simp [bindP]
        | some r=>cases hk:d.k.seq <;> simp [bindP,stables,hk]
      | true =>
        simp only
        cases hk:d.k with
        | write =>
          simp only
          cases evOne X Γ d.o.op e H with
          | none=>simp [bindP]
          | some v =>
            simp only [bindP_some,Option.bind_eq_bind,Option.bind_some]
            rw [WL_evDraw]
            cases evDraw X Γ ds (dstPut d.o.dst e v.1) v.2 <;> simp [bindP,stables,hk]
        | fresh =>
          simp only
          cases evOp e H d.o.op with
          | none=>simp [bindP]
          | some v =>
            simp only [bindP_some,Option.bind_eq_bind,Option.bind_some]
            rw [WL_evDraw]
            cases evDraw X Γ ds (dstPut d.o.dst e v.1) v.2 <;> simp [bindP,stables,hk]
        | lone =>
          simp only
          cases evOne X Γ d.o.op e [] with
          | none=>simp [bindP]
          | some u =>
           simp only [bindP_some,Option.bind_eq_bind,Option.bind_some]
           cases loneV u with
           | none=>simp [bindP]
           | some v =>
            simp only [bindP_some,Option.bind_some]
            rw [WL_evDraw]
            by_cases hc:v.2.isEmpty = true∧noRefs e d.o.op = true
            · rw [if_pos (by simpa using hc)]
              have h2:v.2 = []:=List.isEmpty_iff.1 hc.1
              cases evDraw X Γ ds (dstPut d.o.dst e v.1) H <;> simp [bindP,stables,hk,h2,hc.2]
            · rw [if_neg (by simpa using hc)]
              simp only [List.isEmpty_iff] at hc
              simp [bindP,hc]
        | read =>
          simp only
          cases evOp e H d.o.op with
          | none=>simp [bindP]
          | some v =>
            simp only [bindP_some,Option.bind_eq_bind,Option.bind_some]
            rw [WL_evDraw]
            cases evDraw X Γ ds (dstPut d.o.dst e v.1) H with
            | none=>simp [bindP]
            | some r =>
              simp [bindP,stables,hk,ckAll]
              intro _
              constructor
              · rintro ⟨⟨h1,h2⟩,h3⟩; exact ⟨h2,h1,h3⟩
              · rintro ⟨h2,h1,h3⟩; exact ⟨⟨h1,h2⟩,h3⟩
        | free =>
          simp only
          cases evOp e H d.o.op with
          | none=>simp [bindP]
          | some v =>
            simp only [bindP_some,Option.bind_eq_bind,Option.bind_some]
            rw [WL_evDraw]
            cases evDraw X Γ ds (dstPut d.o.dst e v.1) H <;> simp [bindP,stables,hk]
        | here =>
          simp only
          cases evOp e H d.o.op with
          | none=>simp [bindP]
          | some v =>
            simp only [bindP_some,Option.bind_eq_bind,Option.bind_some]
            rw [WL_evDraw]
            cases evDraw X Γ ds (dstPut d.o.dst e v.1) H <;> simp [bindP,stables,hk]
theorem W_draw {ds:List DO} {s:St} {Q:SExit→St→Prop}:W X Γ (.draw ds) s Q↔WL X Γ ds ⟨[],s.env⟩ s.H [] [] (Q .normal):=by
  rw [WL_evDraw]
  unfold W
  rw [exq_draw]
  cases evDraw X Γ ds ⟨[],s.env⟩ s.H with
  | none=>simp [bindP]
  | some r =>
    by_cases h:stables ds r.recs (r.stores++[r.s.H])
    · simp [bindP,checked,h,ckAll]
    · simp [bindP,checked,h,ckAll]
section
variable {e:Fr} {H:List Obj} {Hs:List (List Obj)} {cs:List Ck} {K:St→Prop} {ds:List DO} {d:SD} {op:SOp} {lo hi:Nat}
theorem ckAll_nil {F:List (List Obj)}:ckAll [] F↔True:=Iff.rfl
theorem ckAll_cons {c:Ck} {F:List (List Obj)}:ckAll (c::cs) F↔stable c.op c.e c.x ((F.drop c.lo).take (c.hi + 1 - c.lo))∧ckAll cs F:=Iff.rfl
theorem stable_nil {x:AV}:stable op e x []↔True:=Iff.rfl
theorem stable_cons {x:AV} {F:List (List Obj)}:stable op e x (H::F)↔evOp e H op = some (x,H)∧stable op e x F:=Iff.rfl
theorem WL_nil:WL X Γ [] e H Hs cs K↔ckAll cs (Hs++[H])∧K ⟨e.env,H⟩:=Iff.rfl
theorem WL_write {o:SO}:WL X Γ (⟨o,.write,lo,hi⟩::ds) e H Hs cs K↔WO X Γ [o] e H fun e' H'=>WL X Γ ds e' H' (Hs++[H]) cs K:=by
  rw [WL,WO]
  simp only [WO,DK.seq,if_true]
theorem WL_fresh:WL X Γ (⟨⟨d,op,none⟩,.fresh,lo,hi⟩::ds) e H Hs cs K↔bindP (evOp e H op) fun v=>WL X Γ ds (dstPut d e v.1) v.2 (Hs++[H]) cs K:=by
  rw [WL]; simp only [wanted]
theorem WL_free:WL X Γ (⟨⟨d,op,none⟩,.free,lo,hi⟩::ds) e H Hs cs K↔bindP (evOp e H op) fun v=>WL X Γ ds (dstPut d e v.1) H Hs cs K:=by
  rw [WL]; simp only [wanted]
theorem WL_here:WL X Γ (⟨⟨d,op,none⟩,.here,lo,hi⟩::ds) e H Hs cs K↔bindP (evOp e H op) fun v=>WL X Γ ds (dstPut d e v.1) H Hs cs K:=by
  rw [WL]; simp only [wanted]
theorem WL_read:WL X Γ (⟨⟨d,op,none⟩,.read,lo,hi⟩::ds) e H Hs cs K↔bindP (evOp e H op) fun v=>WL X Γ ds (dstPut d e v.1) H Hs (⟨op,e,v.1,lo,hi⟩::cs) K:=by
  rw [WL]; simp only [wanted]
theorem WL_g {a:SA} {b:Bool} {k:DK}:WL X Γ (⟨⟨d,op,some (a,b)⟩,k,lo,hi⟩::ds) e H Hs cs K↔bindP ((ev e a).bind (wantB b)) fun t=>if t = true then WL X Γ (⟨⟨d,op,none⟩,k,lo,hi⟩::ds) e H Hs cs K else WL X Γ ds (dstPut d e (.tup [])) H (if k.seq = true then Hs++[H] else Hs) cs K:=by
  have key:wanted ⟨d,op,some (a,b)⟩ e = (ev e a).bind (wantB b):=by
    simp only [wanted]
    cases ev e a with
    | none=>rfl
    | some v =>
      cases v with
      | p x=>cases x with
        | v y=>cases y <;> rfl
        | _=>rfl
      | tup l=>cases l <;> rfl
      | _=>rfl
  rw [WL,key]
  cases (ev e a).bind (wantB b) with
  | none=>simp [bindP]
  | some t =>
    cases t with
    | false=>simp [bindP,dstDrop]
    | true =>
      simp only [bindP_some,if_true]
      rw [WL]
      simp only [wanted]
theorem yieldAt_nil {l:Nat} {args:List AV}:yieldAt X Γ l args [] = none:=by
  rw [yq]; rfl
theorem WL_lone_call {f:SA} {aZ:List SA}:WL X Γ (⟨⟨d,.call f aZ,none⟩,.lone,lo,hi⟩::ds) e H Hs cs K↔bindP (ev e f) fun fv=>bindP (evs e aZ) fun args=>match fv with
      | .fn (.func g) first cap=>WC X Γ g (first++args++cap) [] fun v H'=>bindP (loneV (v,H')) fun v=>(v.2 = []∧noRefs e (.call f aZ) = true)∧WL X Γ ds (dstPut d e v.1) H Hs cs K
      | _=>False:=by
  rw [WL]
  simp only [wanted]
  rw [oneq]
  simp only [isCall]
  cases ev e f with
  | none=>simp [bindP]
  | some fv =>
    cases evs e aZ with
    | none=>cases fv <;> simp [bindP]
    | some args =>
      cases fv with
      | fn g a b=>cases g <;> simp [bindP,WC]
      | yld l=>simp [bindP,yieldAt_nil]
      | _=>simp [bindP]
theorem loneV_nil {a:AV}:loneV (a,[]) = some (a,[]):=rfl
theorem freeze_none:∀ ls:List Nat,freeze [] ls = []
  | []=>rfl
  | l::ls=>freeze_none ls
theorem WL_lone_op (h:isCall op = none) (h2:∀ v,evOp e [] op = some v→v.2 = []):WL X Γ (⟨⟨d,op,none⟩,.lone,lo,hi⟩::ds) e H Hs cs K↔bindP (evOp e [] op) fun v=>(v.2 = []∧noRefs e op = true)∧WL X Γ ds (dstPut d e v.1) H Hs cs K:=by
  rw [WL]
  simp only [wanted]
  rw [oneq]
  simp only [h]
  cases hv:evOp e [] op with
  | none=>simp [bindP]
  | some v =>
    have:=h2 v hv
    simp [bindP,loneV,this]
theorem WL_lone_slit {z:List PV} {n:Nat} {ps:List (Nat×SA)}:WL X Γ (⟨⟨d,.slit z n ps,none⟩,.lone,lo,hi⟩::ds) e H Hs cs K↔bindP (evOp e [] (.slit z n ps)) fun v=>(v.2 = []∧noRefs e (.slit z n ps) = true)∧WL X Γ ds (dstPut d e v.1) H Hs cs K:=WL_lone_op rfl (fun v hv=>by
  simp only [evOp,Option.map_eq_some_iff] at hv
  obtain ⟨_,_,rfl⟩:=hv
  exact freeze_none _)
theorem WL_lone_slice {es:Nat} {x:SA} {l h m:Option SA}:WL X Γ (⟨⟨d,.slice es x l h m,none⟩,.lone,lo,hi⟩::ds) e H Hs cs K↔bindP (evOp e [] (.slice es x l h m)) fun v=>(v.2 = []∧noRefs e (.slice es x l h m) = true)∧WL X Γ ds (dstPut d e v.1) H Hs cs K:=WL_lone_op rfl (fun v hv=>by
  simp only [evOp,Option.bind_eq_some_iff] at hv
  obtain ⟨a,_,n,_,l,_,m,_,k,_,hv⟩:=hv
  have key:∀ {l h:Nat} {t:Bool},sliceAV [] es a l h t = some v→v.2 = []:=fun {l h t} hv=>by
    unfold sliceAV at hv
    split at hv
    · split at hv <;> cases hv; rfl
    · split at hv <;> cases hv; rfl
    · split at hv <;> cases hv; rfl
    · split at hv <;> cases hv; rfl
    · cases hv
    · cases hv
  unfold sliceB at hv
  split at hv
  · split at hv
    · exact key hv
    · split at hv
      · exact key hv
      · cases hv
  · cases hv)
theorem WL_congr {e':Fr} {H':List Obj} {Hs':List (List Obj)} {p:Prop} (_h0:((0:Nat) = 0) = p) (h:e = e') (h':H = H') (h2:Hs = Hs'):WL X Γ ds e H Hs cs K↔WL X Γ ds e' H' Hs' cs K:=by rw [h,h',h2]
end
end
attribute [congr] WL_congr bindP_congr W_congr WO_congr WC_congr andThen_congr outOf_congr fin_congr
end Go.Proofs.YtepbfecmageleaaGreatDoor
namespace Go.Proofs.YtepbfecmageleaaGreatDoor
def val:List Nat→Nat
  | []=>0
  | a::l=>a + 4294967296 * val l
def Dig (l:List Nat):Prop:=∀ a ∈ l,a < 4294967296
def trim:List Nat→List Nat
  | []=>[]
  | a::l=>if trim l = [] then (if a = 0 then [] else [a]) else a::trim l
theorem Dig.nil:Dig []:=fun _ h=>by cases h
theorem Dig.cons {a:Nat} {l:List Nat} (ha:a < 4294967296) (h:Dig l):Dig (a::l):=fun b hb=>by
  rcases List.mem_cons.1 hb with rfl | hb
  · exact ha
  · exact h b hb
theorem Dig.tail {a:Nat} {l:List Nat} (h:Dig (a::l)):Dig l:=fun b hb=>h b (by simp [hb])
theorem Dig.append {l m:List Nat} (h:Dig l) (k:Dig m):Dig (l++m):=fun b hb=>by
  rcases List.mem_append.1 hb with hb | hb
  · exact h b hb
  · exact k b hb
theorem Dig.take {l:List Nat} (h:Dig l) (n:Nat):Dig (l.take n):=fun b hb=>h b (List.mem_of_mem_take hb)
theorem Dig.drop {l:List Nat} (h:Dig l) (n:Nat):Dig (l.drop n):=fun b hb=>h b (List.mem_of_mem_drop hb)
theorem Dig.get {l:List Nat} (h:Dig l) {i a:Nat} (hi:l[i]? = some a):a < 4294967296:=h a (List.mem_of_getElem? hi)
theorem Dig.set {l:List Nat} (h:Dig l) {i a:Nat} (ha:a < 4294967296):Dig (l.set i a):=fun b hb=>by
  rcases List.mem_or_eq_of_mem_set hb with hb | rfl
  · exact h b hb
  · exact ha
theorem Dig.replicate {n:Nat}:Dig (List.replicate n 0):=fun b hb=>by
  have:=(List.mem_replicate.1 hb).2; omega
theorem val_replicate {n:Nat}:val (List.replicate n 0) = 0:=by
  induction n with
  | zero=>rfl
  | succ n ih=>simp [List.replicate_succ,val,ih]
theorem trim_nil_of_val {l:List Nat}:val l = 0→trim l = []:=by
  induction l with
  | nil=>intro _; rfl
  | cons a l ih =>
    intro h
    simp only [val] at h
    have h1:a = 0:=by omega
    have h2:val l = 0:=by omega
    simp [trim,ih h2,h1]
theorem trim_of_last {l:List Nat} (h:∀ a,l[l.length - 1]? = some a→a ≠ 0):trim l = l:=by
  induction l with
  | nil=>rfl
  | cons b l ih =>
    by_cases hl:l = []
    · subst hl
      have:=h b (by simp)
      simp [trim,this]
    · have hlen:0 < l.length:=List.length_pos_iff.2 hl
      have ht:trim l = l:=ih fun a ha=>h a (by rw [List.length_cons,Nat.add_sub_cancel,List.getElem?_cons,if_neg (by omega)]; exact ha)
      simp [trim,ht,hl]
theorem trim_take {l:List Nat}:trim l = l.take (trim l).length:=by
  induction l with
  | nil=>rfl
  | cons a l ih =>
    simp only [trim]
    split
    · split <;> simp
    · rw [List.length_cons,List.take_succ_cons,← ih]
theorem trim_append_zero {l:List Nat} {n:Nat}:trim (l++List.replicate n 0) = trim l:=by
  induction l with
  | nil=>rw [List.nil_append]; exact trim_nil_of_val val_replicate
  | cons a l ih=>simp only [List.cons_append,trim,ih]
theorem trim_take_zero {l:List Nat} {m:Nat} (h:l[m]? = some 0):trim (l.take (m + 1)) = trim (l.take m):=by
  rw [List.take_add_one,h]
  have:=trim_append_zero (l:=l.take m) (n:=1)
  simpa using this
theorem trim_take_full {l:List Nat} {m a:Nat} (h:l[m]? = some a) (ha:a ≠ 0):trim (l.take (m + 1)) = l.take (m + 1):=by
  have hlt:=(List.getElem?_eq_some_iff.1 h).1
  refine trim_of_last fun b hb=>?_
  rw [List.length_take,Nat.min_eq_left (by omega),Nat.add_sub_cancel,List.getElem?_take,if_pos (by omega),h] at hb
  cases hb; exact ha
end Go.Proofs.YtepbfecmageleaaGreatDoor
namespace Go.Proofs.YtepbfecmageleaaGreatDoor
open Go
abbrev int (n:Int):AV:=.p (.v (.int .i64 n))
abbrev u64 (n:Nat):AV:=.p (.v (.int .u64 n))
abbrev u32 (n:Nat):AV:=.p (.v (.int .u32 n))
abbrev boo (b:Bool):AV:=.p (.v (.bool b))
def limb (n:Nat):List PV:=[.v (.int .u32 n)]
abbrev mag (l:List Nat):PV:=.sl (l.map limb)
section
variable {X:FuncId→List AV→List Obj→Option (AV×List Obj)} {Γ:FuncId→Option SFunc}
def WF (X:FuncId→List AV→List Obj→Option (AV×List Obj)) (Γ:FuncId→Option SFunc) (g:FuncId) (args:List AV) (H:List Obj) (Q:AV→List Obj→Prop):Prop:=bindP (call X Γ g args H) fun r=>Q r.1 r.2
theorem WF_intro {g:FuncId} {body:SCode} {res:List SOp} {raw:List Nat} {own:Bool} {ar:Nat} {args:List AV} {H:List Obj} {Q:AV→List Obj→Prop} (hg:Γ g = some ⟨body,res,raw,own,ar⟩) (ha:args.length = ar)
    (h:W X Γ body ⟨begin0 0 args,H⟩ (fin res Q)) (hX:X g args H = none:=by rfl):WF X Γ g args H Q:=by
  unfold W at h
  unfold WF
  rw [cq]
  simp only [hX,hg,ha,ne_eq,not_true_eq_false,if_false]
  cases he:exec X Γ body ⟨begin0 0 args,H⟩ with
  | none=>rw [he] at h; exact h.elim
  | some r =>
    obtain ⟨x,s⟩:=r
    rw [he] at h
    have h:fin res Q x s:=h
    have key:∀ {o:Option (List AV)},bindP o (fun rs=>Q (tupOf rs) s.H)→bindP (o.map (fun rs=>(tupOf rs,s.H))) fun r=>Q r.1 r.2:=fun {o} h=>by
      cases o with
      | none=>exact h.elim
      | some rs=>exact h
    cases x with
    | exit i=>exact h.elim
    | normal=>exact key h
    | ret=>exact key h
theorem bindP_some' {α:Type} {x:α} {K:α→Prop}:bindP (some x) K↔K x:=by simp [bindP]
theorem bindP_none' {α:Type} {K:α→Prop}:bindP (none:Option α) K↔False:=by simp [bindP]
theorem want_true {t:Bool}:wantB true (.p (.v (.bool t))) = some t:=by simp [wantB]
theorem want_false {t:Bool}:wantB false (.p (.v (.bool t))) = some !t:=by simp [wantB]
theorem want_tup {b:Bool}:wantB b (.tup []) = some false:=by simp [wantB]
theorem ev_t {l:Env} {e:Env} {n:Nat}:ev ⟨l,e⟩ (.t n) = lk l n:=by simp [ev]
theorem ev_x {l:Env} {e:Env} {n:Nat}:ev ⟨l,e⟩ (.x n) = lk e n:=by simp [ev]
theorem ev_c {e:Fr} {a:AV}:ev e (.c a) = some a:=by simp [ev]
theorem ev_f {e:Fr} {g:FuncId}:ev e (.f g) = some (.fn (.func g) [] []):=by simp [ev]
theorem lk_cons {m n:Nat} {v:AV} {e:Env}:lk ((m,v)::e) n = if m = n then some v else lk e n:=by simp [lk]
theorem put_t {n:Nat} {l e:Env} {v:AV}:dstPut (.t n) ⟨l,e⟩ v = ⟨(n,v)::l,e⟩:=by simp [dstPut]
theorem put_x {n:Nat} {l e:Env} {v:AV}:dstPut (.x n) ⟨l,e⟩ v = ⟨l,upd e n v⟩:=by simp [dstPut]
theorem put_no {e:Fr} {v:AV}:dstPut .no e v = e:=by simp [dstPut]
theorem evInt_int {e:Fr} {x:SA}:evInt e x = (ev e x).bind asInt:=by simp [evInt]
theorem evVal_val {e:Fr} {x:SA}:evVal e x = (ev e x).bind asVal:=by simp [evVal]
theorem evBool_bool {e:Fr} {x:SA}:evBool e x = (ev e x).bind asBoolA:=by simp [evBool]
theorem asInt_int {k:IntKind} {n:Int}:asInt (.p (.v (.int k n))) = some n:=by simp [asInt]
theorem asVal_val {v:Value}:asVal (.p (.v v)) = some v:=by simp [asVal]
theorem asBool_bool {t:Bool}:asBoolA (.p (.v (.bool t))) = some t:=by simp [asBoolA]
theorem evIntO_none {e:Fr} {d:Int}:evIntO e d none = some d:=by simp [evIntO]
theorem evIntO_some {e:Fr} {d:Int} {x:SA}:evIntO e d (some x) = evInt e x:=by simp [evIntO]
theorem evIntOO_none {e:Fr}:evIntOO e none = some none:=by simp [evIntOO]
theorem evIntOO_some {e:Fr} {x:SA}:evIntOO e (some x) = (evInt e x).map some:=by simp [evIntOO]
theorem evs_nil {e:Fr}:evs e [] = some []:=by simp [evs]
theorem evs_cons {e:Fr} {x:SA} {xs:List SA}:evs e (x::xs) = (ev e x).bind fun v=>(evs e xs).bind fun vs=>some (v::vs):=by simp [evs]
theorem evRes_nil {e:Fr} {H:List Obj}:evRes e H [] = some []:=by simp [evRes]
theorem evRes_mov {e:Fr} {H:List Obj} {x:SA} {os:List SOp}:evRes e H (.mov x::os) = (ev e x).bind fun v=>(evRes e H os).map fun rs=>v::rs:=by
  simp only [evRes,evOp]; cases ev e x <;> simp
theorem evRes_load1 {e:Fr} {H:List Obj} {x:SA} {os:List SOp}:evRes e H (.load1 x::os) = (ev e x).bind fun p=>(load1V H p).bind fun v=>(evRes e H os).map fun rs=>v::rs:=by
  simp only [evRes,evOp]
  cases ev e x with
  | none=>simp
  | some p=>simp; cases load1V H p <;> simp
theorem evRes_loadn {e:Fr} {H:List Obj} {n:Nat} {x:SA} {os:List SOp}:evRes e H (.loadn n x::os) = (ev e x).bind fun p=>(loadC H n p).bind fun v=>(evRes e H os).map fun rs=>.agg v::rs:=by
  simp only [evRes,evOp]
  cases ev e x with
  | none=>simp
  | some p=>simp; cases loadC H n p <;> simp
theorem tup_one {r:AV}:tupOf [r] = r:=by simp [tupOf]
theorem tup_two {r s:AV} {l:List AV}:tupOf (r::s::l) = .tup (r::s::l):=by simp [tupOf]
theorem begin0_nil {n:Nat}:begin0 n [] = []:=by simp [begin0]
theorem begin0_cons {n:Nat} {a:AV} {aZ:List AV}:begin0 n (a::aZ) = (n,a)::begin0 (n + 1) aZ:=by simp [begin0]
theorem len_nsl:lenOf (.p .nsl) = some 0:=by simp [lenOf]
theorem len_sl {r:List (List PV)}:lenOf (.p (.sl r)) = some r.length:=by simp [lenOf]
theorem len_lit {r:List (List PV)}:lenOf (.lit r) = some r.length:=by simp [lenOf]
theorem len_ar {l v o n:Nat}:lenOf (.ar l v o n) = some n:=by simp [lenOf]
section
variable {k:IntKind} {a b:Int}
theorem bin_add:binV .add (.int k a) (.int k b) = some (.int k (k.wrap (a + b))):=by simp [binV,binInt]
theorem bin_sub:binV .sub (.int k a) (.int k b) = some (.int k (k.wrap (a - b))):=by simp [binV,binInt]
theorem bin_mul:binV .mul (.int k a) (.int k b) = some (.int k (k.wrap (a * b))):=by simp [binV,binInt]
theorem bin_quo:binV .quo (.int k a) (.int k b) = if b ≠ 0 then some (.int k (k.wrap (a.tdiv b))) else none:=by by_cases b = 0 <;> simp [binV,binInt, *]
theorem bin_rem:binV .rem (.int k a) (.int k b) = if b ≠ 0 then some (.int k (a.tmod b)) else none:=by by_cases b = 0 <;> simp [binV,binInt, *]
theorem bin_eql:binV .eql (.int k a) (.int k b) = some (.bool (decide (a = b))):=by simp [binV,binInt]; rfl
theorem bin_neq:binV .neq (.int k a) (.int k b) = some (.bool (decide (a ≠ b))):=by
  simp only [binV,binInt,if_true,bne]
  by_cases h:a = b <;> simp [h]
theorem bin_lss:binV .lss (.int k a) (.int k b) = some (.bool (decide (a < b))):=by simp [binV,binInt]
theorem bin_leq:binV .leq (.int k a) (.int k b) = some (.bool (decide (a ≤ b))):=by simp [binV,binInt]
theorem bin_gtr:binV .gtr (.int k a) (.int k b) = some (.bool (decide (b < a))):=by simp [binV,binInt]
theorem bin_geq:binV .geq (.int k a) (.int k b) = some (.bool (decide (b ≤ a))):=by simp [binV,binInt]
theorem bin_shl {j:IntKind}:binV .shl (.int k a) (.int j b) = if 0 ≤ b then some (.int k (k.wrap (a * 2 ^ (min b.toNat k.bits)))) else none:=by
  simp only [binV,shift]; by_cases h:b < 0
  · rw [if_pos h,if_neg (by omega)]
  · rw [if_neg h,if_pos (by omega)]
theorem bin_shr {j:IntKind}:binV .shr (.int k a) (.int j b) = if 0 ≤ b then some (.int k (a.fdiv (2 ^ (min b.toNat k.bits)))) else none:=by
  simp only [binV,shift]; by_cases h:b < 0
  · rw [if_pos h,if_neg (by omega)]
  · rw [if_neg h,if_pos (by omega)]
theorem un_not {t:Bool}:un .not (.bool t) = some (.bool !t):=by simp [un]
theorem un_neg:un .neg (.int k a) = some (.int k (k.wrap (0 - a))):=by simp [un]
end
theorem cells_agg {cs:List AV}:cellsOf (.agg cs) = some cs:=by simp [cellsOf]
theorem cells_p {x:PV}:cellsOf (.p x) = some [.p x]:=by simp [cellsOf]
theorem cells_lit {x:List (List PV)}:cellsOf (.lit x) = some [.lit x]:=by simp [cellsOf]
theorem cells_ar {l v o n:Nat}:cellsOf (.ar l v o n) = some [.ar l v o n]:=by simp [cellsOf]
theorem cells_ptr {l o:Nat}:cellsOf (.ptr l o) = some [.ptr l o]:=by simp [cellsOf]
theorem cells_fn {f:Fn} {a b:List AV}:cellsOf (.fn f a b) = some [.fn f a b]:=by simp [cellsOf]
theorem fadr_ptr {n r o:Nat}:fadrV n (.ptr r o) = some (.ptr r (o + n)):=by simp [fadrV]
theorem fadr_elp {n l v i k:Nat}:fadrV n (.elp l v i k) = some (.elp l v i (k + n)):=by simp [fadrV]
theorem fadr_imm {n o:Nat} {c:List PV}:fadrV n (.imm c o) = some (.imm c (o + n)):=by simp [fadrV]
theorem nilck_ptr {r o:Nat}:nilckV (.ptr r o) = some (.ptr r o):=by simp [nilckV]
theorem nilck_fn {f:FuncId} {a b:List AV}:nilckV (.fn (.func f) a b) = some (.fn (.func f) a b):=by simp [nilckV]
theorem load1_eq {H:List Obj} {a:AV}:load1V H a = (loadC H 1 a).bind fun | [c]=>some c | _=>none:=by
  unfold load1V; cases loadC H 1 a with
  | none=>rfl
  | some l=>cases l with
    | nil=>rfl
    | cons x l=>cases l <;> rfl
def cellsAt (H:List Obj) (r:Nat):Option (List AV):=match H[r]? with | some (.cells c)=>some c | _=>none
structure ArrV where
  es:Nat
  fz:Option Nat
  ver:Nat
  rows:List (List PV)
def arrAt (H:List Obj) (l:Nat):Option ArrV:=match H[l]? with | some (.arr es fz ver rows)=>some ⟨es,fz,ver,rows⟩ | _=>none
theorem loadC_ptr {H:List Obj} {n r o:Nat}:loadC H n (.ptr r o) = (cellsAt H r).bind fun c=>if o + n ≤ c.length then some ((c.drop o).take n) else none:=by
  simp only [loadC,cellsAt]
  generalize H[r]? = o
  cases o with
  | none=>rfl
  | some o=>cases o <;> rfl
theorem loadC_imm {H:List Obj} {n o:Nat} {c:List PV}:loadC H n (.imm c o) = if o + n ≤ c.length then some (((c.drop o).take n).map .p) else none:=by simp [loadC]
theorem loadC_elp {H:List Obj} {n l v i k:Nat}:loadC H n (.elp l v i k) = (arrAt H l).bind fun a=>if seen a.fz a.ver v then (a.rows[i]?).bind fun row=>if k + n ≤ row.length then some (((row.drop k).take n).map .p) else none else none:=by
  simp only [loadC,arrAt]
  generalize H[l]? = o
  cases o with
  | none=>rfl
  | some o=>cases o <;> rfl
theorem idx_sl {H:List Obj} {es:Nat} {rows:List (List PV)} {n:Int}:idxSl H es (.p (.sl rows)) n = if 0 ≤ n then (rows[n.toNat]?).bind fun r=>if r.length = es then some (.imm r 0) else none else none:=by simp [idxSl]
theorem idx_lit {H:List Obj} {es:Nat} {rows:List (List PV)} {n:Int}:idxSl H es (.lit rows) n = if 0 ≤ n then (rows[n.toNat]?).bind fun r=>if r.length = es then some (.imm r 0) else none else none:=by simp [idxSl]
theorem idx_ar {H:List Obj} {es l v off len:Nat} {n:Int}:idxSl H es (.ar l v off len) n = if 0 ≤ n then (arrAt H l).bind fun a=>if seen a.fz a.ver v∧a.es = es∧n.toNat < len then some (.elp l v (off + n.toNat) 0) else none else none:=by
  simp only [idxSl,arrAt]
  split
  · generalize H[l]? = o
    cases o with
    | none=>rfl
    | some o=>cases o <;> rfl
  · rfl
theorem extract_tup {i:Nat} {vs:List AV}:extractV i (.tup vs) = vs[i]?:=by simp [extractV]
theorem sliceB_eq {H:List Obj} {es:Nat} {a:AV} {l h:Int} {m:Option Int}:sliceB H es a l h m = if 0 ≤ l∧0 ≤ h then (match m with
    | none=>sliceAV H es a l.toNat h.toNat false
    | some m=>if m = h then sliceAV H es a l.toNat h.toNat true else none) else none:=by cases m <;> simp [sliceB]
theorem slice_nsl {H:List Obj} {es l h:Nat} {m:Bool}:sliceAV H es (.p .nsl) l h m = if l = 0∧h = 0 then some (.p .nsl,H) else none:=by simp [sliceAV]
theorem slice_sl {H:List Obj} {es l h:Nat} {m:Bool} {rows:List (List PV)}:sliceAV H es (.p (.sl rows)) l h m = if l ≤ h∧h ≤ rows.length∧rows.all (fun r=>r.length == es) then some (if m then .lit ((rows.drop l).take (h - l)) else .p (.sl ((rows.drop l).take (h - l))),H) else none:=by simp [sliceAV]
theorem slice_lit {H:List Obj} {es l h:Nat} {m:Bool} {rows:List (List PV)}:sliceAV H es (.lit rows) l h m = if l ≤ h∧h ≤ rows.length∧rows.all (fun r=>r.length == es) then some (if m || rows.isEmpty then .lit ((rows.drop l).take (h - l)) else .p (.sl ((rows.drop l).take (h - l))),H) else none:=by
  cases rows with
  | nil=>simp [sliceAV]; split <;> split <;> first | rfl | omega
  | cons r rows=>simp [sliceAV]
theorem slice_ar {H:List Obj} {es l h r v off len:Nat} {m:Bool}:sliceAV H es (.ar r v off len) l h m = (arrAt H r).bind fun a=>if a.es = es∧l ≤ h∧h ≤ len∧off + len ≤ a.rows.length then
      (if m then (if seen a.fz a.ver v then some (.lit ((a.rows.drop (off + l)).take (h - l)),freeze H [r]) else none) else some (.ar r v (off + l) (h - l),H)) else none:=by
  simp only [sliceAV,arrAt]
  generalize H[r]? = o
  cases o with
  | none=>rfl
  | some o=>cases o <;> rfl
theorem rows_nsl {H:List Obj}:rowsOf H (.p .nsl) = some []:=by simp [rowsOf]
theorem rows_sl {H:List Obj} {r:List (List PV)}:rowsOf H (.p (.sl r)) = some r:=by simp [rowsOf]
theorem rows_lit {H:List Obj} {r:List (List PV)}:rowsOf H (.lit r) = some r:=by simp [rowsOf]
theorem rows_ar {H:List Obj} {l v off len:Nat}:rowsOf H (.ar l v off len) = (arrAt H l).bind fun a=>if seen a.fz a.ver v∧off + len ≤ a.rows.length then some ((a.rows.drop off).take len) else none:=by
  simp only [rowsOf,arrAt]
  generalize H[l]? = o
  cases o with
  | none=>rfl
  | some o=>cases o <;> rfl
theorem wrap_i64 {n:Int} (h:-9223372036854775808 ≤ n∧n ≤ 9223372036854775807):IntKind.i64.wrap n = n:=by
  simp [IntKind.wrap,IntKind.bits,IntKind.signed]; split <;> omega
theorem arrAt_zero {es ver:Nat} {fz:Option Nat} {rows:List (List PV)} {H:List Obj}:arrAt (.arr es fz ver rows::H) 0 = some ⟨es,fz,ver,rows⟩:=by simp [arrAt]
theorem arrAt_succ {o:Obj} {H:List Obj} {n:Nat}:arrAt (o::H) (n + 1) = arrAt H n:=by simp [arrAt]
theorem cellsAt_zero {c:List AV} {H:List Obj}:cellsAt (.cells c::H) 0 = some c:=by simp [cellsAt]
theorem cellsAt_succ {o:Obj} {H:List Obj} {n:Nat}:cellsAt (o::H) (n + 1) = cellsAt H n:=by simp [cellsAt]
theorem seen_none {v:Nat}:seen none v v = true:=by simp [seen]
theorem seen_some {f ver v:Nat}:seen (some f) ver v = decide (f ≤ v):=by simp [seen]
theorem canon_p {H:List Obj} {x:PV}:canon H (.p x) = some (.p x):=by simp [canon]
theorem canon_lit {H:List Obj} {r:List (List PV)}:canon H (.lit r) = some (.p (.sl r)):=by simp [canon]
theorem canon_ar {H:List Obj} {l v o n:Nat}:canon H (.ar l v o n) = (rowsOf H (.ar l v o n)).map fun r=>.p (.sl r):=by rw [canon]
theorem canon_agg {H:List Obj} {cs:List AV}:canon H (.agg cs) = (canons H cs).map .agg:=by rw [canon]
theorem canon_tup {H:List Obj} {cs:List AV}:canon H (.tup cs) = (canons H cs).map .tup:=by rw [canon]
theorem canons_nil {H:List Obj}:canons H [] = some []:=by rw [canons]
theorem canons_cons {H:List Obj} {a:AV} {aZ:List AV}:canons H (a::aZ) = (canon H a).bind fun b=>(canons H aZ).map fun bs=>b::bs:=by rw [canons]
theorem refs_p {x:PV}:refs (.p x) = []:=by simp [refs]
theorem refs_agg {cs:List AV}:refs (.agg cs) = refsL cs:=by rw [refs]
theorem refs_tup {cs:List AV}:refs (.tup cs) = refsL cs:=by rw [refs]
theorem refsL_nil':refsL [] = []:=by rw [refsL]
theorem refsL_cons' {a:AV} {aZ:List AV}:refsL (a::aZ) = refs a++refsL aZ:=by rw [refsL]
theorem take_limb {l:List Nat}:(l.map limb).take l.length = l.map limb:=List.take_of_length_le (by simp)
def bareO:Option AV→Bool
  | some a=>(refs a).isEmpty
  | none=>true
theorem bareO_some {a:AV}:bareO (some a) = (refs a).isEmpty:=by simp [bareO]
theorem noRefs_call {e:Fr} {f:SA} {aZ:List SA}:noRefs e (.call f aZ) = (bareO (ev e f) && aZ.all fun x=>bareO (ev e x)):=by
  simp only [noRefs,opKeys,List.all_cons]; rfl
theorem noRefs_slit {e:Fr} {z:List PV} {n:Nat} {ps:List (Nat×SA)}:noRefs e (.slit z n ps) = ps.all fun p=>bareO (ev e p.2):=by
  simp only [noRefs,opKeys,List.all_map]; rfl
theorem noRefs_slice {e:Fr} {n:Nat} {x:SA} {l h m:Option SA}:noRefs e (.slice n x l h m) = (bareO (ev e x) && (l.toList++h.toList++m.toList).all fun x=>bareO (ev e x)):=by
  simp only [noRefs,opKeys,List.all_cons]; rfl
theorem refs_fn' {g:Fn} {a b:List AV}:refs (.fn g a b) = refsL a++refsL b:=by rw [refs]
theorem refs_ptr {r o:Nat}:refs (.ptr r o) = [r]:=by simp [refs]
theorem refs_ar {l v o n:Nat}:refs (.ar l v o n) = [l]:=by simp [refs]
theorem refs_lit {r:List (List PV)}:refs (.lit r) = []:=by simp [refs]
theorem refs_imm {c:List PV} {o:Nat}:refs (.imm c o) = []:=by simp [refs]
theorem storeC_ptr {H:List Obj} {r o:Nat} {xs:List AV}:storeC H (.ptr r o) xs = (cellsAt H r).bind fun c=>(splice c o xs).map fun c=>H.set r (.cells c):=by
  simp only [storeC,cellsAt]
  generalize H[r]? = o
  cases o with
  | none=>rfl
  | some o=>cases o <;> rfl
theorem cellsAt_last {H:List Obj} {c:List AV}:cellsAt (H++[.cells c]) H.length = some c:=by simp [cellsAt]
theorem set_last {H:List Obj} {o o':Obj}:(H++[o]).set H.length o' = H++[o']:=by simp
theorem limb_len {n:Nat}:(limb n).length = 1:=by simp [limb]
theorem all_limb {l:List Nat}:(l.map limb).all (fun r=>r.length == 1) = true:=by simp [limb]
theorem passArgs_nil {H:List Obj}:∀ {n:Nat} {args:List AV},passArgs H [] n args = canons H args
  | n,[]=>rfl
  | n,a::aZ=>by simp [passArgs,canons,passArgs_nil]
theorem arsOf_cons {a:AV} {aZ:List AV}:arsOf (a::aZ) = arsA a++arsOf aZ:=by rw [arsOf]
theorem arsOf_one {a:AV}:arsOf [a] = arsA a:=by rw [arsOf_cons,arsOf]; simp
theorem passFrz_nil:∀ {n:Nat} {args:List AV},passFrz [] n args = arsOf args
  | n,[]=>by rw [passFrz,arsOf]
  | n,a::aZ=>by
    have:passFrz [] n (a::aZ) = arsOf [a]++passFrz [] (n + 1) aZ:=rfl
    rw [this,passFrz_nil,arsOf_one,← arsOf_cons]
mutual
theorem ren_bare (f:Nat→Nat):∀ a:AV,refs a = []→ren f a = a
  | .p x,_=>rfl
  | .lit r,_=>rfl
  | .imm c o,_=>rfl
  | .ar l v o n,h=>by simp [refs] at h
  | .ptr r o,h=>by simp [refs] at h
  | .elp l v i k,h=>by simp [refs] at h
  | .map r,h=>by simp [refs] at h
  | .emp,_=>rfl
  | .csl r o n,h=>by simp [refs] at h
  | .fn g a b,h=>by
    simp only [refs,List.append_eq_nil_iff] at h
    rw [ren,renL_bare f a h.1,renL_bare f b h.2]
  | .agg cs,h=>by rw [ren,renL_bare f cs (by simpa [refs] using h)]
  | .tup cs,h=>by rw [ren,renL_bare f cs (by simpa [refs] using h)]
theorem renL_bare (f:Nat→Nat):∀ aZ:List AV,refsL aZ = []→renL f aZ = aZ
  | [],_=>rfl
  | a::aZ,h=>by
    simp only [refsL,List.append_eq_nil_iff] at h
    rw [renL,ren_bare f a h.1,renL_bare f aZ h.2]
end
def WP (X:FuncId→List AV→List Obj→Option (AV×List Obj)) (Γ:FuncId→Option SFunc) (g:FuncId) (own:Bool) (args:List AV) (H H1:List Obj) (K:AV→List Obj→Prop):Prop :=
  bindP (call X Γ g args []) fun r=>bindP (comeBack H H1 [] own r.1 r.2) fun r=>K r.1 r.2
@[congr] theorem WP_congr {g:FuncId} {own:Bool} {aZ aZ':List AV} {H H' H1 H1':List Obj} {K:AV→List Obj→Prop} {p:Prop} (_h0:((0:Nat) = 0) = p) (h:aZ = aZ') (h':H = H') (h1:H1 = H1'):WP X Γ g own aZ H H1 K↔WP X Γ g own aZ' H' H1' K:=by rw [h,h',h1]
theorem WC_plain {g:FuncId} {fn:SFunc} {args args':List AV} {H:List Obj} {K:AV→List Obj→Prop} (_hX:True = True) (hG:Γ g = some fn) (hraw:fn.raw = []) (hc:canons H args = some args') (hr:refsL args' = []) :
    WC X Γ g args H K↔WP X Γ g fn.own args' H (freeze H (arsOf args)) K:=by
  unfold WC WP
  rw [caq]
  simp only [hG,hraw,passArgs_nil,passFrz_nil,hc,hr,List.contains_nil,Bool.false_and,Bool.false_eq_true,if_false]
  have hreach:∀ H' n,reach H' (n + 1) [] [] = []:=fun _ _=>rfl
  simp only [Nat.add_succ,Nat.add_zero,hreach,pickObjs,within,List.all_nil,nodupB,Bool.and_self,if_true,List.map_nil,renL_bare _ _ hr]
  cases call X Γ g args' [] <;> simp [bindP]
def WCx (X:FuncId→List AV→List Obj→Option (AV×List Obj)) (Γ:FuncId→Option SFunc) (g:FuncId) (args:List AV) (H:List Obj) (K:AV→List Obj→Prop):Prop:=WC X Γ g args H K
theorem WC_go {g:FuncId} {fn:SFunc} {own:Bool} {args:List AV} {H:List Obj} {K:AV→List Obj→Prop} (_hX:True = True) (hG:Γ g = some fn) (hraw:fn.raw = []) (hown:fn.own = own) :
    WC X Γ g args H K↔bindP (canons H args) fun aZ=>bif (refsL aZ).isEmpty then WP X Γ g own aZ H (freeze H (arsOf args)) K else WCx X Γ g args H K:=by
  subst hown
  cases hc:canons H args with
  | none =>
    simp only [bindP_none,iff_false]
    unfold WC
    rw [caq]
    simp [hG,hraw,passArgs_nil,hc,bindP]
  | some aZ =>
    simp only [bindP_some]
    cases hr:(refsL aZ).isEmpty with
    | false=>exact Iff.rfl
    | true=>simp only [cond_true]; exact WC_plain rfl hG hraw hc (List.isEmpty_iff.1 hr)
theorem arsOf_nil:arsOf [] = []:=by rw [arsOf]
theorem arsA_p {x:PV}:arsA (.p x) = []:=by simp [arsA]
theorem arsA_lit {x:List (List PV)}:arsA (.lit x) = []:=by simp [arsA]
theorem arsA_ar {l v o n:Nat}:arsA (.ar l v o n) = [l]:=by simp [arsA]
theorem arsA_agg {cs:List AV}:arsA (.agg cs) = arsOf cs:=by rw [arsA]
theorem arsA_ptr {r o:Nat}:arsA (.ptr r o) = []:=by simp [arsA]
theorem freeze_nil {H:List Obj}:freeze H [] = H:=rfl
theorem freeze_cons {H:List Obj} {l:Nat} {ls:List Nat}:freeze H (l::ls) = freeze (match H[l]? with
    | some (.arr es none ver rows)=>H.set l (.arr es (some ver) ver rows)
    | _=>H) ls:=rfl
def PF (X:FuncId→List AV→List Obj→Option (AV×List Obj)) (Γ:FuncId→Option SFunc) (g:FuncId) (args:List AV) (r':AV):Prop :=
  WF X Γ g args [] fun r H=>canon H r = some r'∧refs r' = []
theorem WP_flat {g:FuncId} {args:List AV} {r':AV} {H H1:List Obj} {K:AV→List Obj→Prop} (h:PF X Γ g args r') (hf:flat r' = true):WP X Γ g false args H H1 K↔K r' H:=by
  unfold PF WF at h
  unfold WP
  cases hc:call X Γ g args [] with
  | none=>rw [hc] at h; exact h.elim
  | some r =>
    rw [hc] at h
    obtain ⟨h2,h3⟩:=h
    simp [bindP,comeBack,h2,hf]
theorem WP_slice {g:FuncId} {args:List AV} {r':AV} {H H1:List Obj} {K:AV→List Obj→Prop} (h:PF X Γ g args r') (hf:flat r' = false):WP X Γ g false args H H1 K↔K r' H1:=by
  unfold PF WF at h
  unfold WP
  cases hc:call X Γ g args [] with
  | none=>rw [hc] at h; exact h.elim
  | some r =>
    rw [hc] at h
    obtain ⟨h2,h3⟩:=h
    simp [bindP,comeBack,h2,hf,h3,reach,within,nodupB,pickObjs,putBack,ren_bare _ _ h3]
end
def EV:=And.intro @W_skip <| And.intro @W_ret <| And.intro @W_exit <| And.intro @W_region <| And.intro @W_seq <| And.intro @W_cond <| And.intro @W_block <| And.intro @W_draw <| And.intro @WL_nil <| And.intro @WL_g <| And.intro @WL_write <| And.intro @WL_fresh <| And.intro @WL_free <| And.intro @WL_here <| And.intro @WL_read <| And.intro @WL_lone_call <| And.intro @loneV_nil <| And.intro @WL_lone_slit <| And.intro @WL_lone_slice <| And.intro @ckAll_nil <| And.intro @ckAll_cons <| And.intro @stable_nil <| And.intro @stable_cons <| And.intro @andThen_normal <| And.intro @andThen_exit <| And.intro @andThen_ret <| And.intro @outOf_normal <| And.intro @outOf_ret <| And.intro @outOf_exit <| And.intro @fin_ret <| And.intro @fin_normal <| And.intro @WO_nil <| And.intro @set_last <| And.intro @cellsAt_last <| And.intro @storeC_ptr <| And.intro @refs_imm <| And.intro @refs_lit <| And.intro @refs_ar <| And.intro @refs_ptr <| And.intro @refs_fn' <| And.intro @noRefs_slice <| And.intro @noRefs_slit <| And.intro @noRefs_call <| And.intro @bareO_some <| And.intro @take_limb <| And.intro @arsOf_nil <| And.intro @arsOf_cons <| And.intro @arsA_p <| And.intro @arsA_lit <| And.intro @arsA_ar <| And.intro @arsA_agg <| And.intro @arsA_ptr <| And.intro @freeze_nil <| And.intro @freeze_cons <| And.intro @arrAt_zero <| And.intro @arrAt_succ <| And.intro @cellsAt_zero <| And.intro @cellsAt_succ <| And.intro @seen_none <| And.intro @seen_some <| And.intro @canon_p <| And.intro @canon_lit <| And.intro @canon_ar <| And.intro @canon_agg <| And.intro @canon_tup <| And.intro @canons_nil <| And.intro @canons_cons <| And.intro @refs_p <| And.intro @refs_agg <| And.intro @refs_tup <| And.intro @refsL_nil' <| And.intro @refsL_cons' <| And.intro @WO_g <| And.intro @want_true <| And.intro @want_false <| And.intro @lk_upd <| And.intro @want_tup <| And.intro @WO_call <| And.intro @WO_mov <| And.intro @WO_pick <| And.intro @WO_alloc <| And.intro @WO_box <| And.intro @WO_build <| And.intro @WO_slit <| And.intro @WO_load1 <| And.intro @WO_loadn <| And.intro @WO_store <| And.intro @WO_nilck <| And.intro @WO_bin <| And.intro @WO_binB <| And.intro @WO_isnil <| And.intro @WO_un <| And.intro @WO_conv <| And.intro @WO_mkfn <| And.intro @WO_mkmap <| And.intro @WO_mkslice <| And.intro @WO_slice <| And.intro @WO_sliceS <| And.intro @WO_fadr <| And.intro @WO_idx <| And.intro @WO_idxA <| And.intro @WO_idxS <| And.intro @WO_idxV <| And.intro @WO_b2s <| And.intro @WO_extract <| And.intro @WO_len <| And.intro @WO_lenS <| And.intro @WO_append <| And.intro @WO_copy <| And.intro @WO_maxmin <| And.intro @WO_mapget <| And.intro @WO_mapset <| And.intro @bindP_ite <| And.intro @bindP_map <| And.intro @bindP_bind <| And.intro @bindP_some' <| And.intro @bindP_none' <| And.intro @ev_t <| And.intro @ev_x <| And.intro @ev_c <| And.intro @ev_f <| And.intro @lk_cons <| And.intro @put_t <| And.intro @put_x <| And.intro @put_no <| And.intro @evInt_int <| And.intro @evVal_val <| And.intro @evBool_bool <| And.intro @asInt_int <| And.intro @asVal_val <| And.intro @asBool_bool <| And.intro @evIntO_none <| And.intro @evIntO_some <| And.intro @evIntOO_none <| And.intro @evIntOO_some <| And.intro @evs_nil <| And.intro @evs_cons <| And.intro @evRes_nil <| And.intro @evRes_mov <| And.intro @evRes_load1 <| And.intro @evRes_loadn <| And.intro @tup_one <| And.intro @tup_two <| And.intro @begin0_nil <| And.intro @begin0_cons <| And.intro @len_nsl <| And.intro @len_sl <| And.intro @len_lit <| And.intro @len_ar <| And.intro @bin_add <| And.intro @bin_sub <| And.intro @bin_mul <| And.intro @bin_quo <| And.intro @bin_rem <| And.intro @bin_eql <| And.intro @bin_neq <| And.intro @bin_lss <| And.intro @bin_leq <| And.intro @bin_gtr <| And.intro @bin_geq <| And.intro @bin_shl <| And.intro @bin_shr <| And.intro @un_not <| And.intro @un_neg <| And.intro @cells_agg <| And.intro @cells_p <| And.intro @cells_lit <| And.intro @cells_ar <| And.intro @cells_ptr <| And.intro @cells_fn <| And.intro @fadr_ptr <| And.intro @fadr_elp <| And.intro @fadr_imm <| And.intro @nilck_ptr <| And.intro @nilck_fn <| And.intro @load1_eq <| And.intro @loadC_ptr <| And.intro @loadC_imm <| And.intro @loadC_elp <| And.intro @idx_sl <| And.intro @idx_lit <| And.intro @idx_ar <| And.intro @extract_tup <| And.intro @sliceB_eq <| And.intro @slice_nsl <| And.intro @slice_sl <| And.intro @slice_lit <| And.intro @slice_ar <| And.intro @rows_nsl <| And.intro @rows_sl <| And.intro @rows_lit <| And.intro @rows_ar <| And.intro @limb_len @all_limb
end Go.Proofs.YtepbfecmageleaaGreatDoor

/- Part of the proof of Rows.ExerciseMiddleCardSaid: EvW, EvNa. -/
import Derived.Test.YtjkdcddpicndgaaGreatDoorP10
set_option linter.all false
namespace Go.Proofs.YtjkdcddpicndgaaGreatDoor
open Go
def bindP {α:Type} (o:Option α) (K:α→Prop):Prop:=o.elim False K
theorem bindP_congr {α:Type} {o o':Option α} {K:α→Prop} {p:Prop} (_h0:((0:Nat) = 0) = p) (h:o = o'):bindP o K↔bindP o' K:=by rw [h]
theorem bindP_some {α:Type} {x:α} {K:α→Prop}:bindP (some x) K↔K x:=Iff.rfl
theorem bindP_none {α:Type} {K:α→Prop}:bindP (none:Option α) K↔False:=Iff.rfl
theorem bindP_ite {α:Type} {c:Prop} [Decidable c] {x:Option α} {K:α→Prop}:bindP (if c then x else none) K↔c∧bindP x K:=by
  split <;> simp [*,bindP]
theorem bindP_map {α β:Type} {o:Option α} {f:α→β} {K:β→Prop}:bindP (o.map f) K↔bindP o fun x=>K (f x):=by cases o <;> rfl
theorem bindP_bind {α β:Type} {o:Option α} {f:α→Option β} {K:β→Prop}:bindP (o.bind f) K↔bindP o fun x=>bindP (f x) K:=by cases o <;> rfl
theorem bindP_mono {α:Type} {o:Option α} {K K':α→Prop} (h:bindP o K) (hk:∀ x,K x→K' x):bindP o K':=by
  cases o with
  | none=>exact h
  | some x=>exact hk x h
section
variable (X:FuncId→List AV→List Obj→Option (AV×List Obj)) (Γ:FuncId→Option SFunc)
def W (c:SCode) (s:St) (Q:SExit→St→Prop):Prop:=bindP (exec X Γ c s) fun r=>Q r.1 r.2
def WO:List SO→Fr→List Obj→(Fr→List Obj→Prop)→Prop
  | [],e,H,K=>K e H
  | o :: os,e,H,K=>match wanted o e with
    | none=>False
    | some false=>WO os (dstDrop o.dst e) H K
    | some true=>bindP (evOne X Γ o.op e H) fun r=>WO os (dstPut o.dst e r.1) r.2 K
def WY (l:Nat) (args:List AV) (H:List Obj) (K:AV→List Obj→Prop):Prop:=bindP (yieldAt X Γ l args H) fun r=>K r.1 r.2
def WC (g:FuncId) (args:List AV) (H:List Obj) (K:AV→List Obj→Prop):Prop:=bindP (callAt X Γ g args H) fun r=>K r.1 r.2
def andThen (Q1:St→Prop) (Q:SExit→St→Prop):SExit→St→Prop
  | .normal,s=>Q1 s
  | x,s=>Q x s
def outOf (id:Nat) (Q:SExit→St→Prop):SExit→St→Prop
  | .exit i,s=>if i = id then Q .normal s else Q (.exit i) s
  | x,s=>Q x s
def fin (res:List SOp) (Q:AV→List Obj→Prop):SExit→St→Prop
  | .exit _,_=>False
  | _,s=>bindP (evRes ⟨[],s.env⟩ s.H res) fun rs=>Q (tupOf rs) s.H
variable {X Γ}
theorem W_congr {c:SCode} {s s':St} {Q:SExit→St→Prop} {p:Prop} (_h0:((0:Nat) = 0) = p) (h:s = s'):W X Γ c s Q↔W X Γ c s' Q:=by rw [h]
theorem WO_congr {ops:List SO} {e e':Fr} {H H':List Obj} {K:Fr→List Obj→Prop} {p:Prop} (_h0:((0:Nat) = 0) = p) (h:e = e') (h':H = H'):WO X Γ ops e H K↔WO X Γ ops e' H' K:=by rw [h,h']
theorem WC_congr {g:FuncId} {as as':List AV} {H H':List Obj} {K:AV→List Obj→Prop} {p:Prop} (_h0:((0:Nat) = 0) = p) (h:as = as') (h':H = H'):WC X Γ g as H K↔WC X Γ g as' H' K:=by rw [h,h']
theorem andThen_congr {Q1:St→Prop} {Q:SExit→St→Prop} {x x':SExit} {s s':St} {p:Prop} (_h0:((0:Nat) = 0) = p) (h:x = x') (h':s = s'):andThen Q1 Q x s↔andThen Q1 Q x' s':=by rw [h,h']
theorem outOf_congr {id:Nat} {Q:SExit→St→Prop} {x x':SExit} {s s':St} {p:Prop} (_h0:((0:Nat) = 0) = p) (h:x = x') (h':s = s'):outOf id Q x s↔outOf id Q x' s':=by rw [h,h']
theorem fin_congr {res:List SOp} {Q:AV→List Obj→Prop} {x x':SExit} {s s':St} {p:Prop} (_h0:((0:Nat) = 0) = p) (h:x = x') (h':s = s'):fin res Q x s↔fin res Q x' s':=by rw [h,h']
theorem andThen_normal {Q1:St→Prop} {Q:SExit→St→Prop} {s:St}:andThen Q1 Q .normal s↔Q1 s:=Iff.rfl
theorem andThen_exit {Q1:St→Prop} {Q:SExit→St→Prop} {s:St} {n:Nat}:andThen Q1 Q (.exit n) s↔Q (.exit n) s:=Iff.rfl
theorem andThen_ret {Q1:St→Prop} {Q:SExit→St→Prop} {s:St}:andThen Q1 Q .ret s↔Q .ret s:=Iff.rfl
theorem outOf_normal {id:Nat} {Q:SExit→St→Prop} {s:St}:outOf id Q .normal s↔Q .normal s:=Iff.rfl
theorem outOf_ret {id:Nat} {Q:SExit→St→Prop} {s:St}:outOf id Q .ret s↔Q .ret s:=Iff.rfl
theorem outOf_exit {id n:Nat} {Q:SExit→St→Prop} {s:St}:outOf id Q (.exit n) s↔if n = id then Q .normal s else Q (.exit n) s:=Iff.rfl
theorem fin_ret {res:List SOp} {Q:AV→List Obj→Prop} {s:St}:fin res Q .ret s↔bindP (evRes ⟨[],s.env⟩ s.H res) fun rs=>Q (tupOf rs) s.H:=Iff.rfl
theorem fin_normal {res:List SOp} {Q:AV→List Obj→Prop} {s:St}:fin res Q .normal s↔bindP (evRes ⟨[],s.env⟩ s.H res) fun rs=>Q (tupOf rs) s.H:=Iff.rfl
theorem W_mono {c:SCode} {s:St} {Q Q':SExit→St→Prop} (h:W X Γ c s Q) (hq:∀ x s,Q x s→Q' x s):W X Γ c s Q':=bindP_mono h fun r=>hq r.1 r.2
theorem W_skip {s:St} {Q:SExit→St→Prop}:W X Γ .skip s Q↔Q .normal s:=by simp [W,exec,bindP]
theorem W_ret {s:St} {Q:SExit→St→Prop}:W X Γ .ret s Q↔Q .ret s:=by simp [W,exec,bindP]
theorem W_exit {id:Nat} {s:St} {Q:SExit→St→Prop}:W X Γ (.exit id) s Q↔Q (.exit id) s:=by simp [W,exec,bindP]
theorem WO_evOps:∀ {ops:List SO} {e:Fr} {H:List Obj} {K:St→Prop},bindP (evOps X Γ ops e H) K↔WO X Γ ops e H fun e H=>K ⟨e.env,H⟩
  | [],e,H,K=>by rw [evOps]; rfl
  | o :: os,e,H,K=>by
    rw [evOps,WO]
    cases wanted o e with
    | none=>rfl
    | some t =>
      cases t with
      | false=>exact WO_evOps
      | true =>
        simp only
        cases evOne X Γ o.op e H with
        | none=>rfl
        | some r=>exact WO_evOps
theorem W_region {ops:List SO} {s:St} {Q:SExit→St→Prop}:W X Γ (.region ops) s Q↔WO X Γ ops ⟨[],s.env⟩ s.H fun e H=>Q .normal ⟨e.env,H⟩:=by
  rw [← WO_evOps (K:=Q .normal)]
  simp only [W,exec]
  cases evOps X Γ ops ⟨[],s.env⟩ s.H <;> simp [bindP]
theorem W_seq {a b:SCode} {s:St} {Q:SExit→St→Prop}:W X Γ (.seq a b) s Q↔W X Γ a s (andThen (fun s=>W X Γ b s Q) Q):=by
  simp only [W,exec]
  cases exec X Γ a s with
  | none=>simp [bindP]
  | some r=>obtain ⟨x,s'⟩:=r; cases x <;> simp [andThen,bindP]
theorem W_seq_cut {a b:SCode} {s:St} {Q:SExit→St→Prop} (I:St→Prop) (h1:W X Γ a s (andThen I Q)) (h2:∀ s,I s→W X Γ b s Q):W X Γ (.seq a b) s Q:=by
  rw [W_seq]
  refine W_mono h1 fun x s hx=>?_
  cases x with
  | normal=>exact h2 s hx
  | exit i=>exact hx
  | ret=>exact hx
theorem W_cond {c:SA} {a b:SCode} {s:St} {Q:SExit→St→Prop}:W X Γ (.cond c a b) s Q↔bindP (evBool ⟨[],s.env⟩ c) fun t=>if t = true then W X Γ a s Q else W X Γ b s Q:=by
  unfold W
  rw [exec]
  unfold evBool
  cases ev ⟨[],s.env⟩ c with
  | none=>simp [bindP]
  | some v =>
    cases v with
    | p x =>
      cases x with
      | v y =>
        cases y with
        | bool t=>cases t <;> simp [bindP,asBoolA]
        | _=>simp [bindP,asBoolA]
      | _=>simp [bindP,asBoolA]
    | _=>simp [bindP,asBoolA]
theorem W_block {id:Nat} {b:SCode} {s:St} {Q:SExit→St→Prop}:W X Γ (.block id b) s Q↔W X Γ b s (outOf id Q):=by
  simp only [W]
  rw [exec]
  cases exec X Γ b s with
  | none=>simp [bindP]
  | some r =>
    obtain ⟨x,s'⟩:=r
    cases x with
    | exit i=>by_cases h:i = id <;> simp [outOf,bindP,h]
    | _=>simp [outOf,bindP]
theorem W_loop1 {b:SCode} {s:St} {Q:SExit→St→Prop}:W X Γ (.loop b) s Q↔W X Γ b s (andThen (fun s=>W X Γ (.loop b) s Q) Q):=by
  unfold W
  conv=>lhs; rw [exec]
  cases exec X Γ b s with
  | none=>simp [bindP]
  | some r=>obtain ⟨x,s'⟩:=r; cases x <;> simp [andThen,bindP]
theorem W_loop {b:SCode} {Q:SExit→St→Prop} (I:Nat→St→Prop) (h:∀ n s,I n s→W X Γ b s (andThen (fun s'=>∃ m,m < n∧I m s') Q)):∀ n s,I n s→W X Γ (.loop b) s Q:=by
  intro n
  induction n using Nat.strongRecOn with
  | ind n ih =>
    intro s hs
    rw [W_loop1]
    refine W_mono (h n s hs) fun x s' hx=>?_
    cases x with
    | normal=>obtain ⟨m,hm,hI⟩:=hx; exact ih m hm s' hI
    | exit i=>exact hx
    | ret=>exact hx
theorem WO_nil {e:Fr} {H:List Obj} {K:Fr→List Obj→Prop}:WO X Γ [] e H K↔K e H:=Iff.rfl
def wantB (b:Bool):AV→Option Bool
  | .p (.v (.bool t))=>some (t == b)
  | .tup []=>some false
  | _=>none
theorem WO_g {d:SD} {op:SOp} {a:SA} {b:Bool} {os:List SO} {e:Fr} {H:List Obj} {K:Fr→List Obj→Prop} :
    WO X Γ (⟨d,op,some (a,b)⟩ :: os) e H K↔bindP ((ev e a).bind (wantB b)) fun t=>if t = true then WO X Γ (⟨d,op,none⟩ :: os) e H K else WO X Γ os (dstPut d e (.tup [])) H K:=by
  have key:wanted ⟨d,op,some (a,b)⟩ e = (ev e a).bind (wantB b):=by
    simp only [wanted]
    cases ev e a with
    | none=>rfl
    | some v =>
      cases v with
      | p x=>cases x with
        | v y=>cases y <;> rfl
        | _=>rfl
      | tup l=>cases l <;> rfl
      | _=>rfl
  rw [WO,key]
  cases (ev e a).bind (wantB b) with
  | none=>simp [bindP]
  | some t=>cases t <;> simp [bindP,WO,wanted,dstDrop]
theorem WO_cons {d:SD} {op:SOp} {os:List SO} {e:Fr} {H:List Obj} {K:Fr→List Obj→Prop} :
    WO X Γ (⟨d,op,none⟩ :: os) e H K↔bindP (evOne X Γ op e H) fun r=>WO X Γ os (dstPut d e r.1) r.2 K:=by
  rw [WO]
  simp only [wanted]
theorem WO_op {d:SD} {op:SOp} {os:List SO} {e:Fr} {H:List Obj} {K:Fr→List Obj→Prop} (h:isCall op = none) :
    WO X Γ (⟨d,op,none⟩ :: os) e H K↔bindP (evOp e H op) fun r=>WO X Γ os (dstPut d e r.1) r.2 K:=by
  rw [WO_cons,evOne]
  simp only [h]
theorem WO_call {d:SD} {f:SA} {as:List SA} {os:List SO} {e:Fr} {H:List Obj} {K:Fr→List Obj→Prop} :
    WO X Γ (⟨d,.call f as,none⟩ :: os) e H K↔bindP (ev e f) fun fv=>bindP (evs e as) fun args=>match fv with
      | .fn (.func g) first cap=>WC X Γ g (first ++ args ++ cap) H fun v H'=>WO X Γ os (dstPut d e v) H' K
      | .yld l=>WY X Γ l args H fun v H'=>WO X Γ os (dstPut d e v) H' K
      | _=>False:=by
  rw [WO_cons,evOne]
  simp only [isCall]
  cases ev e f with
  | none=>simp [bindP]
  | some fv =>
    cases evs e as with
    | none=>cases fv <;> simp [bindP]
    | some args =>
      cases fv with
      | fn g a b=>cases g <;> simp [bindP,WC]
      | yld l=>simp [bindP,WY]
      | _=>simp [bindP]
section
variable {d:SD} {os:List SO} {e:Fr} {H:List Obj} {K:Fr→List Obj→Prop}
theorem WO_mov {x:SA}:WO X Γ (⟨d,.mov x,none⟩ :: os) e H K↔bindP (ev e x) fun v=>WO X Γ os (dstPut d e v) H K:=by
  rw [WO_op rfl,evOp,bindP_map]
theorem WO_pick {c a b:SA}:WO X Γ (⟨d,.pick c a b,none⟩ :: os) e H K↔bindP (evBool e c) fun t=>if t = true then WO X Γ (⟨d,.mov a,none⟩ :: os) e H K else WO X Γ (⟨d,.mov b,none⟩ :: os) e H K:=by
  rw [WO_op rfl,evOp,bindP_bind]
  cases evBool e c with
  | none=>exact Iff.rfl
  | some t=>cases t <;> simp [bindP_some,bindP_map,WO_mov]
theorem WO_alloc {z:List AV}:WO X Γ (⟨d,.alloc z,none⟩ :: os) e H K↔WO X Γ os (dstPut d e (.ptr H.length 0)) (H ++ [.cells z]) K:=by
  rw [WO_op rfl,evOp,bindP_some]
theorem WO_box {x:SA}:WO X Γ (⟨d,.box x,none⟩ :: os) e H K↔bindP (ev e x) fun v=>bindP (cellsOf v) fun cs=>WO X Γ os (dstPut d e (.ptr H.length 0)) (H ++ [.cells cs]) K:=by
  rw [WO_op rfl,evOp]; simp only [bindP_bind,bindP_map]
theorem WO_build {z:List AV} {ps:List (Nat×Nat×SA)}:WO X Γ (⟨d,.build z ps,none⟩ :: os) e H K↔bindP (fill e z ps) fun cs=>WO X Γ os (dstPut d e (.agg cs)) H K:=by
  rw [WO_op rfl,evOp,bindP_map]
theorem WO_slit {z:List PV} {n:Nat} {ps:List (Nat×SA)}:WO X Γ (⟨d,.slit z n ps,none⟩ :: os) e H K↔bindP (fillRows H e z.length (List.replicate n z) ps) fun rows=>WO X Γ os (dstPut d e (.lit rows)) (freeze H (partArs e ps)) K:=by
  rw [WO_op rfl,evOp,bindP_map]
theorem WO_load1 {a:SA}:WO X Γ (⟨d,.load1 a,none⟩ :: os) e H K↔bindP (ev e a) fun p=>bindP (load1V H p) fun v=>WO X Γ os (dstPut d e v) H K:=by
  rw [WO_op rfl,evOp]; simp only [bindP_bind,bindP_map]
theorem WO_loadn {n:Nat} {a:SA}:WO X Γ (⟨d,.loadn n a,none⟩ :: os) e H K↔bindP (ev e a) fun p=>bindP (loadC H n p) fun cs=>WO X Γ os (dstPut d e (.agg cs)) H K:=by
  rw [WO_op rfl,evOp]; simp only [bindP_bind,bindP_map]
theorem WO_store {n:Nat} {a x:SA}:WO X Γ (⟨d,.store n a x,none⟩ :: os) e H K↔bindP (ev e a) fun p=>bindP (ev e x) fun v=>bindP (cellsOf v) fun cs=>cs.length = n∧bindP (storeC H p cs) fun H'=>WO X Γ os (dstPut d e (.p .nsl)) H' K:=by
  rw [WO_op rfl,evOp]; simp only [bindP_bind,bindP_map,bindP_ite]
theorem WO_nilck {x:SA}:WO X Γ (⟨d,.nilck x,none⟩ :: os) e H K↔bindP (ev e x) fun a=>bindP (nilckV a) fun v=>WO X Γ os (dstPut d e v) H K:=by
  rw [WO_op rfl,evOp]; simp only [bindP_bind,bindP_map]
theorem WO_bin {op:BinOp} {x y:SA}:WO X Γ (⟨d,.bin op x y,none⟩ :: os) e H K↔bindP (evVal e x) fun a=>bindP (evVal e y) fun b=>bindP (binV op a b) fun r=>WO X Γ os (dstPut d e (.p (.v r))) H K:=by
  rw [WO_op rfl,evOp]; simp only [bindP_bind,bindP_map]
theorem WO_binB {op:BinOp} {x y:SA}:WO X Γ (⟨d,.binB op x y,none⟩ :: os) e H K↔bindP (evVal e x) fun a=>bindP (evVal e y) fun b=>bindP (binB op a b) fun r=>WO X Γ os (dstPut d e (.p (.v r))) H K:=by
  rw [WO_op rfl,evOp]; simp only [bindP_bind,bindP_map]
theorem WO_isnil {neg:Bool} {x:SA}:WO X Γ (⟨d,.isnil neg x,none⟩ :: os) e H K↔bindP (ev e x) fun a=>bindP (isNil a) fun t=>WO X Γ os (dstPut d e (.p (.v (.bool (if neg then !t else t))))) H K:=by
  rw [WO_op rfl,evOp]; simp only [bindP_bind,bindP_map]
theorem WO_un {op:UnOp} {x:SA}:WO X Γ (⟨d,.un op x,none⟩ :: os) e H K↔bindP (evVal e x) fun a=>bindP (un op a) fun r=>WO X Γ os (dstPut d e (.p (.v r))) H K:=by
  rw [WO_op rfl,evOp]; simp only [bindP_bind,bindP_map]
theorem WO_conv {k:IntKind} {x:SA}:WO X Γ (⟨d,.conv k x,none⟩ :: os) e H K↔bindP (evInt e x) fun n=>WO X Γ os (dstPut d e (.p (.v (.int k (k.wrap n))))) H K:=by
  rw [WO_op rfl,evOp,bindP_map]
theorem WO_mkfn {f:Fn} {a b:List SA}:WO X Γ (⟨d,.mkfn f a b,none⟩ :: os) e H K↔bindP (evs e a) fun as=>bindP (evs e b) fun bs=>WO X Γ os (dstPut d e (.fn f as bs)) H K:=by
  rw [WO_op rfl,evOp]; simp only [bindP_bind,bindP_map]
theorem WO_mkmap:WO X Γ (⟨d,.mkmap,none⟩ :: os) e H K↔WO X Γ os (dstPut d e (.map H.length)) (H ++ [.map []]) K:=by
  rw [WO_op rfl,evOp,bindP_some]
theorem WO_mkslice {b:Nat} {z:List PV} {l c:SA}:WO X Γ (⟨d,.mkslice b z l c,none⟩ :: os) e H K↔bindP (evInt e l) fun n=>bindP (evInt e c) fun m=>(0 ≤ n∧n ≤ m∧b * m ≤ 281474976710656∧m ≤ 9223372036854775807) ∧
    WO X Γ os (dstPut d e (.ar H.length 0 0 n.toNat)) (H ++ [.arr z.length none 0 (List.replicate n.toNat z)]) K:=by
  rw [WO_op rfl,evOp]; simp only [bindP_bind,mkSlice,bindP_ite,bindP_some]
theorem WO_slice {es:Nat} {x:SA} {lo hi mx:Option SA}:WO X Γ (⟨d,.slice es x lo hi mx,none⟩ :: os) e H K↔bindP (ev e x) fun a=>bindP (lenOf a) fun n=>bindP (evIntO e 0 lo) fun l=>bindP (evIntO e n hi) fun h=>bindP (evIntOO e mx) fun m =>
    bindP (sliceB H es a l h m) fun r=>WO X Γ os (dstPut d e r.1) r.2 K:=by
  rw [WO_op rfl,evOp]; simp only [bindP_bind]
theorem WO_sliceS {x:SA} {lo hi:Option SA}:WO X Γ (⟨d,.sliceS x lo hi,none⟩ :: os) e H K↔bindP (evStr e x) fun s=>bindP (evIntO e 0 lo) fun l=>bindP (evIntO e s.size hi) fun h=>(0 ≤ l∧l ≤ h∧h ≤ s.size) ∧
    WO X Γ os (dstPut d e (.p (.v (.string (s.extract l.toNat h.toNat))))) H K:=by
  rw [WO_op rfl,evOp]; simp only [bindP_bind,bindP_ite,bindP_some]
theorem WO_fadr {n:Nat} {x:SA}:WO X Γ (⟨d,.fadr n x,none⟩ :: os) e H K↔bindP (ev e x) fun a=>bindP (fadrV n a) fun v=>WO X Γ os (dstPut d e v) H K:=by
  rw [WO_op rfl,evOp]; simp only [bindP_bind,bindP_map]
theorem WO_idx {es:Nat} {x i:SA}:WO X Γ (⟨d,.idx es x i,none⟩ :: os) e H K↔bindP (ev e x) fun a=>bindP (evInt e i) fun n=>bindP (idxSl H es a n) fun v=>WO X Γ os (dstPut d e v) H K:=by
  rw [WO_op rfl,evOp]; simp only [bindP_bind,bindP_map]
theorem WO_idxA {len es:Nat} {x i:SA}:WO X Γ (⟨d,.idxA len es x i,none⟩ :: os) e H K↔bindP (ev e x) fun a=>bindP (evInt e i) fun n=>bindP (idxArr len es a n) fun v=>WO X Γ os (dstPut d e v) H K:=by
  rw [WO_op rfl,evOp]; simp only [bindP_bind,bindP_map]
theorem WO_idxS {x i:SA}:WO X Γ (⟨d,.idxS x i,none⟩ :: os) e H K↔bindP (evStr e x) fun s=>bindP (evInt e i) fun n=>bindP (idxStr s n) fun v=>WO X Γ os (dstPut d e v) H K:=by
  rw [WO_op rfl,evOp]; simp only [bindP_bind,bindP_map]
theorem WO_idxV {len es:Nat} {g:Bool} {x i:SA}:WO X Γ (⟨d,.idxV len g es x i,none⟩ :: os) e H K↔bindP (ev e x) fun a=>bindP (evInt e i) fun n=>bindP (idxAgg len g es a n) fun v=>WO X Γ os (dstPut d e v) H K:=by
  rw [WO_op rfl,evOp]; simp only [bindP_bind,bindP_map]
theorem WO_b2s {x:SA}:WO X Γ (⟨d,.b2s x,none⟩ :: os) e H K↔bindP (ev e x) fun a=>bindP (rowsOf H a) fun rows=>bindP (bytesOf rows) fun l=>WO X Γ os (dstPut d e (.p (.v (.string ⟨l.toArray⟩)))) H K:=by
  rw [WO_op rfl,evOp]; simp only [bindP_bind,bindP_map]
theorem WO_extract {x:SA} {n:Nat}:WO X Γ (⟨d,.extract x n,none⟩ :: os) e H K↔bindP (ev e x) fun a=>bindP (extractV n a) fun v=>WO X Γ os (dstPut d e v) H K:=by
  rw [WO_op rfl,evOp]; simp only [bindP_bind,bindP_map]
theorem WO_len {x:SA}:WO X Γ (⟨d,.len x,none⟩ :: os) e H K↔bindP (ev e x) fun a=>bindP (lenOf a) fun (n:Nat)=>WO X Γ os (dstPut d e (.p (.v (.int .i64 (n:Int))))) H K:=by
  rw [WO_op rfl,evOp]; simp only [bindP_bind,bindP_map]
theorem WO_lenS {x:SA}:WO X Γ (⟨d,.lenS x,none⟩ :: os) e H K↔bindP (evStr e x) fun s=>WO X Γ os (dstPut d e (.p (.v (.int .i64 s.size)))) H K:=by
  rw [WO_op rfl,evOp,bindP_map]
theorem WO_append {b es:Nat} {x y:SA}:WO X Γ (⟨d,.append b es x y,none⟩ :: os) e H K↔bindP (ev e x) fun u=>bindP (ev e y) fun v=>bindP (appendV H b es u v) fun r=>WO X Γ os (dstPut d e r.1) r.2 K:=by
  rw [WO_op rfl,evOp]; simp only [bindP_bind]
theorem WO_copy {es:Nat} {x y:SA}:WO X Γ (⟨d,.copy es x y,none⟩ :: os) e H K↔bindP (ev e x) fun u=>bindP (ev e y) fun v=>bindP (copyV H es u v) fun r=>WO X Γ os (dstPut d e r.1) r.2 K:=by
  rw [WO_op rfl,evOp]; simp only [bindP_bind]
theorem WO_maxmin {m:Bool} {x y:SA}:WO X Γ (⟨d,.maxmin m x y,none⟩ :: os) e H K↔bindP (evVal e x) fun a=>bindP (evVal e y) fun b=>bindP (maxmin m a b) fun r=>WO X Γ os (dstPut d e (.p (.v r))) H K:=by
  rw [WO_op rfl,evOp]; simp only [bindP_bind,bindP_map]
theorem WO_mapget {x k:SA}:WO X Γ (⟨d,.mapget x k,none⟩ :: os) e H K↔bindP (evOp e H (.mapget x k)) fun r=>WO X Γ os (dstPut d e r.1) r.2 K:=WO_op rfl
theorem WO_mapset {x k v:SA}:WO X Γ (⟨d,.mapset x k v,none⟩ :: os) e H K↔bindP (evOp e H (.mapset x k v)) fun r=>WO X Γ os (dstPut d e r.1) r.2 K:=WO_op rfl
end
structure Ck where
  op:SOp
  e:Fr
  x:AV
  lo:Nat
  hi:Nat
def ckAll:List Ck→List (List Obj)→Prop
  | [],_=>True
  | c :: cs,F=>stable c.op c.e c.x ((F.drop c.lo).take (c.hi + 1 - c.lo))∧ckAll cs F
def WL (X:FuncId→List AV→List Obj→Option (AV×List Obj)) (Γ:FuncId→Option SFunc):List DO→Fr→List Obj→List (List Obj)→List Ck→(St→Prop)→Prop
  | [],e,H,Hs,cs,K=>ckAll cs (Hs ++ [H])∧K ⟨e.env,H⟩
  | d :: ds,e,H,Hs,cs,K=>match wanted d.o e with
    | none=>False
    | some false=>WL X Γ ds (dstDrop d.o.dst e) H (if d.k.seq then Hs ++ [H] else Hs) cs K
    | some true=>match d.k with
      | .write=>bindP (evOne X Γ d.o.op e H) fun v=>WL X Γ ds (dstPut d.o.dst e v.1) v.2 (Hs ++ [H]) cs K
      | .fresh=>bindP (evOp e H d.o.op) fun v=>WL X Γ ds (dstPut d.o.dst e v.1) v.2 (Hs ++ [H]) cs K
      | .lone=>bindP (evOne X Γ d.o.op e []) fun u=>bindP (loneV u) fun v=>(v.2 = []∧noRefs e d.o.op = true)∧WL X Γ ds (dstPut d.o.dst e v.1) H Hs cs K
      | .read=>bindP (evOp e H d.o.op) fun v=>WL X Γ ds (dstPut d.o.dst e v.1) H Hs (⟨d.o.op,e,v.1,d.lo,d.hi⟩ :: cs) K
      | _=>bindP (evOp e H d.o.op) fun v=>WL X Γ ds (dstPut d.o.dst e v.1) H Hs cs K
theorem WL_evDraw:∀ {ds:List DO} {e:Fr} {H:List Obj} {Hs:List (List Obj)} {cs:List Ck} {K:St→Prop},
    WL X Γ ds e H Hs cs K↔bindP (evDraw X Γ ds e H) fun r=>(ckAll cs (Hs ++ (r.stores ++ [r.s.H]))∧stables ds r.recs (Hs ++ (r.stores ++ [r.s.H])))∧K r.s
  | [],e,H,Hs,cs,K=>by rw [WL,evDraw]; simp [bindP,stables]
  | d :: ds,e,H,Hs,cs,K=>by
    rw [WL,evDraw]
    cases wanted d.o e with
    | none=>simp [bindP]
    | some t =>
      cases t with
      | false =>
        simp only
        rw [WL_evDraw]
        cases evDraw X Γ ds (dstDrop d.o.dst e) H with
        | none=>simp [bindP]
        | some r=>cases hk:d.k.seq <;> simp [bindP,stables,hk]
      | true =>
        simp only
        cases hk:d.k with
        | write =>
          simp only
          cases evOne X Γ d.o.op e H with
          | none=>simp [bindP]
          | some v =>
            simp only [bindP_some,Option.bind_eq_bind,Option.bind_some]
            rw [WL_evDraw]
            cases evDraw X Γ ds (dstPut d.o.dst e v.1) v.2 <;> simp [bindP,stables,hk]
        | fresh =>
          simp only
          cases evOp e H d.o.op with
          | none=>simp [bindP]
          | some v =>
            simp only [bindP_some,Option.bind_eq_bind,Option.bind_some]
            rw [WL_evDraw]
            cases evDraw X Γ ds (dstPut d.o.dst e v.1) v.2 <;> simp [bindP,stables,hk]
        | lone =>
          simp only
          cases evOne X Γ d.o.op e [] with
          | none=>simp [bindP]
          | some u =>
           simp only [bindP_some,Option.bind_eq_bind,Option.bind_some]
           cases loneV u with
           | none=>simp [bindP]
           | some v =>
            simp only [bindP_some,Option.bind_some]
            rw [WL_evDraw]
            by_cases hc:v.2.isEmpty = true∧noRefs e d.o.op = true
            · rw [if_pos (by simpa using hc)]
              have h2:v.2 = []:=List.isEmpty_iff.1 hc.1
              cases evDraw X Γ ds (dstPut d.o.dst e v.1) H <;> simp [bindP,stables,hk,h2,hc.2]
            · rw [if_neg (by simpa using hc)]
              simp only [List.isEmpty_iff] at hc
              simp [bindP,hc]
        | read =>
          simp only
          cases evOp e H d.o.op with
          | none=>simp [bindP]
          | some v =>
            simp only [bindP_some,Option.bind_eq_bind,Option.bind_some]
            rw [WL_evDraw]
            cases evDraw X Γ ds (dstPut d.o.dst e v.1) H with
            | none=>simp [bindP]
            | some r =>
              simp [bindP,stables,hk,ckAll]
              intro _
              constructor
              · rintro ⟨⟨h1,h2⟩,h3⟩; exact ⟨h2,h1,h3⟩
              · rintro ⟨h2,h1,h3⟩; exact ⟨⟨h1,h2⟩,h3⟩
        | free =>
          simp only
          cases evOp e H d.o.op with
          | none=>simp [bindP]
          | some v =>
            simp only [bindP_some,Option.bind_eq_bind,Option.bind_some]
            rw [WL_evDraw]
            cases evDraw X Γ ds (dstPut d.o.dst e v.1) H <;> simp [bindP,stables,hk]
        | here =>
          simp only
          cases evOp e H d.o.op with
          | none=>simp [bindP]
          | some v =>
            simp only [bindP_some,Option.bind_eq_bind,Option.bind_some]
            rw [WL_evDraw]
            cases evDraw X Γ ds (dstPut d.o.dst e v.1) H <;> simp [bindP,stables,hk]
theorem W_draw {ds:List DO} {s:St} {Q:SExit→St→Prop}:W X Γ (.draw ds) s Q↔WL X Γ ds ⟨[],s.env⟩ s.H [] [] (Q .normal):=by
  rw [WL_evDraw]
  unfold W
  rw [exec]
  cases evDraw X Γ ds ⟨[],s.env⟩ s.H with
  | none=>simp [bindP]
  | some r =>
    by_cases h:stables ds r.recs (r.stores ++ [r.s.H])
    · simp [bindP,checked,h,ckAll]
    · simp [bindP,checked,h,ckAll]
section
variable {e:Fr} {H:List Obj} {Hs:List (List Obj)} {cs:List Ck} {K:St→Prop} {ds:List DO} {d:SD} {op:SOp} {lo hi:Nat}
theorem ckAll_nil {F:List (List Obj)}:ckAll [] F↔True:=Iff.rfl
theorem ckAll_cons {c:Ck} {F:List (List Obj)}:ckAll (c :: cs) F↔stable c.op c.e c.x ((F.drop c.lo).take (c.hi + 1 - c.lo))∧ckAll cs F:=Iff.rfl
theorem stable_nil {x:AV}:stable op e x []↔True:=Iff.rfl
theorem stable_cons {x:AV} {F:List (List Obj)}:stable op e x (H :: F)↔evOp e H op = some (x,H)∧stable op e x F:=Iff.rfl
theorem WL_nil:WL X Γ [] e H Hs cs K↔ckAll cs (Hs ++ [H])∧K ⟨e.env,H⟩:=Iff.rfl
theorem WL_write {o:SO}:WL X Γ (⟨o,.write,lo,hi⟩ :: ds) e H Hs cs K↔WO X Γ [o] e H fun e' H'=>WL X Γ ds e' H' (Hs ++ [H]) cs K:=by
  rw [WL,WO]
  simp only [WO,DK.seq,if_true]
theorem WL_fresh:WL X Γ (⟨⟨d,op,none⟩,.fresh,lo,hi⟩ :: ds) e H Hs cs K↔bindP (evOp e H op) fun v=>WL X Γ ds (dstPut d e v.1) v.2 (Hs ++ [H]) cs K:=by
  rw [WL]; simp only [wanted]
theorem WL_free:WL X Γ (⟨⟨d,op,none⟩,.free,lo,hi⟩ :: ds) e H Hs cs K↔bindP (evOp e H op) fun v=>WL X Γ ds (dstPut d e v.1) H Hs cs K:=by
  rw [WL]; simp only [wanted]
theorem WL_here:WL X Γ (⟨⟨d,op,none⟩,.here,lo,hi⟩ :: ds) e H Hs cs K↔bindP (evOp e H op) fun v=>WL X Γ ds (dstPut d e v.1) H Hs cs K:=by
  rw [WL]; simp only [wanted]
theorem WL_read:WL X Γ (⟨⟨d,op,none⟩,.read,lo,hi⟩ :: ds) e H Hs cs K↔bindP (evOp e H op) fun v=>WL X Γ ds (dstPut d e v.1) H Hs (⟨op,e,v.1,lo,hi⟩ :: cs) K:=by
  rw [WL]; simp only [wanted]
theorem WL_g {a:SA} {b:Bool} {k:DK}:WL X Γ (⟨⟨d,op,some (a,b)⟩,k,lo,hi⟩ :: ds) e H Hs cs K↔bindP ((ev e a).bind (wantB b)) fun t=>if t = true then WL X Γ (⟨⟨d,op,none⟩,k,lo,hi⟩ :: ds) e H Hs cs K else WL X Γ ds (dstPut d e (.tup [])) H (if k.seq = true then Hs ++ [H] else Hs) cs K:=by
  have key:wanted ⟨d,op,some (a,b)⟩ e = (ev e a).bind (wantB b):=by
    simp only [wanted]
    cases ev e a with
    | none=>rfl
    | some v =>
      cases v with
      | p x=>cases x with
        | v y=>cases y <;> rfl
        | _=>rfl
      | tup l=>cases l <;> rfl
      | _=>rfl
  rw [WL,key]
  cases (ev e a).bind (wantB b) with
  | none=>simp [bindP]
  | some t =>
    cases t with
    | false=>simp [bindP,dstDrop]
    | true =>
      simp only [bindP_some,if_true]
      rw [WL]
      simp only [wanted]
theorem yieldAt_nil {l:Nat} {args:List AV}:yieldAt X Γ l args [] = none:=by
  rw [yieldAt.eq_def]; rfl
theorem WL_lone_call {f:SA} {as:List SA}:WL X Γ (⟨⟨d,.call f as,none⟩,.lone,lo,hi⟩ :: ds) e H Hs cs K↔bindP (ev e f) fun fv=>bindP (evs e as) fun args=>match fv with
      | .fn (.func g) first cap=>WC X Γ g (first ++ args ++ cap) [] fun v H'=>bindP (loneV (v,H')) fun v=>(v.2 = []∧noRefs e (.call f as) = true)∧WL X Γ ds (dstPut d e v.1) H Hs cs K
      | _=>False:=by
  rw [WL]
  simp only [wanted]
  rw [evOne]
  simp only [isCall]
  cases ev e f with
  | none=>simp [bindP]
  | some fv =>
    cases evs e as with
    | none=>cases fv <;> simp [bindP]
    | some args =>
      cases fv with
      | fn g a b=>cases g <;> simp [bindP,WC]
      | yld l=>simp [bindP,yieldAt_nil]
      | _=>simp [bindP]
theorem loneV_nil {a:AV}:loneV (a,[]) = some (a,[]):=rfl
theorem freeze_none:∀ ls:List Nat,freeze [] ls = []
  | []=>rfl
  | l :: ls=>freeze_none ls
theorem WL_lone_op (h:isCall op = none) (h2:∀ v,evOp e [] op = some v→v.2 = []):WL X Γ (⟨⟨d,op,none⟩,.lone,lo,hi⟩ :: ds) e H Hs cs K↔bindP (evOp e [] op) fun v=>(v.2 = []∧noRefs e op = true)∧WL X Γ ds (dstPut d e v.1) H Hs cs K:=by
  rw [WL]
  simp only [wanted]
  rw [evOne]
  simp only [h]
  cases hv:evOp e [] op with
  | none=>simp [bindP]
  | some v =>
    have:=h2 v hv
    simp [bindP,loneV,this]
theorem WL_lone_slit {z:List PV} {n:Nat} {ps:List (Nat×SA)}:WL X Γ (⟨⟨d,.slit z n ps,none⟩,.lone,lo,hi⟩ :: ds) e H Hs cs K↔bindP (evOp e [] (.slit z n ps)) fun v=>(v.2 = []∧noRefs e (.slit z n ps) = true)∧WL X Γ ds (dstPut d e v.1) H Hs cs K:=WL_lone_op rfl (fun v hv=>by
  simp only [evOp,Option.map_eq_some_iff] at hv
  obtain ⟨_,_,rfl⟩:=hv
  exact freeze_none _)
theorem WL_lone_slice {es:Nat} {x:SA} {l h m:Option SA}:WL X Γ (⟨⟨d,.slice es x l h m,none⟩,.lone,lo,hi⟩ :: ds) e H Hs cs K↔bindP (evOp e [] (.slice es x l h m)) fun v=>(v.2 = []∧noRefs e (.slice es x l h m) = true)∧WL X Γ ds (dstPut d e v.1) H Hs cs K:=WL_lone_op rfl (fun v hv=>by
  simp only [evOp,Option.bind_eq_some_iff] at hv
  obtain ⟨a,_,n,_,l,_,m,_,k,_,hv⟩:=hv
  have key:∀ {l h:Nat} {t:Bool},sliceAV [] es a l h t = some v→v.2 = []:=fun {l h t} hv=>by
    unfold sliceAV at hv
    split at hv
    · split at hv <;> cases hv; rfl
    · split at hv <;> cases hv; rfl
    · split at hv <;> cases hv; rfl
    · split at hv <;> cases hv; rfl
    · cases hv
    · cases hv
  unfold sliceB at hv
  split at hv
  · split at hv
    · exact key hv
    · split at hv
      · exact key hv
      · cases hv
  · cases hv)
theorem WL_congr {e':Fr} {H':List Obj} {Hs':List (List Obj)} {p:Prop} (_h0:((0:Nat) = 0) = p) (h:e = e') (h':H = H') (h2:Hs = Hs'):WL X Γ ds e H Hs cs K↔WL X Γ ds e' H' Hs' cs K:=by rw [h,h',h2]
end
end
attribute [congr] WL_congr bindP_congr W_congr WO_congr WC_congr andThen_congr outOf_congr fin_congr
end Go.Proofs.YtjkdcddpicndgaaGreatDoor
namespace Go.Proofs.YtjkdcddpicndgaaGreatDoor
def val:List Nat→Nat
  | []=>0
  | a :: l=>a + 4294967296 * val l
def Dig (l:List Nat):Prop:=∀ a ∈ l,a < 4294967296
def trim:List Nat→List Nat
  | []=>[]
  | a :: l=>if trim l = [] then (if a = 0 then [] else [a]) else a :: trim l
def digitsF:Nat→Nat→List Nat
  | 0,_=>[]
  | f + 1,n=>if n = 0 then [] else n % 4294967296 :: digitsF f (n / 4294967296)
def digits (n:Nat):List Nat:=digitsF (n.log2 + 1) n
theorem Dig.nil:Dig []:=fun _ h=>by cases h
theorem Dig.cons {a:Nat} {l:List Nat} (ha:a < 4294967296) (h:Dig l):Dig (a :: l):=fun b hb=>by
  rcases List.mem_cons.1 hb with rfl | hb
  · exact ha
  · exact h b hb
theorem Dig.head {a:Nat} {l:List Nat} (h:Dig (a :: l)):a < 4294967296:=h a (by simp)
theorem Dig.tail {a:Nat} {l:List Nat} (h:Dig (a :: l)):Dig l:=fun b hb=>h b (by simp [hb])
theorem Dig.append {l m:List Nat} (h:Dig l) (k:Dig m):Dig (l ++ m):=fun b hb=>by
  rcases List.mem_append.1 hb with hb | hb
  · exact h b hb
  · exact k b hb
theorem Dig.take {l:List Nat} (h:Dig l) (n:Nat):Dig (l.take n):=fun b hb=>h b (List.mem_of_mem_take hb)
theorem Dig.drop {l:List Nat} (h:Dig l) (n:Nat):Dig (l.drop n):=fun b hb=>h b (List.mem_of_mem_drop hb)
theorem Dig.get {l:List Nat} (h:Dig l) {i a:Nat} (hi:l[i]? = some a):a < 4294967296:=h a (List.mem_of_getElem? hi)
theorem Dig.set {l:List Nat} (h:Dig l) {i a:Nat} (ha:a < 4294967296):Dig (l.set i a):=fun b hb=>by
  rcases List.mem_or_eq_of_mem_set hb with hb | rfl
  · exact h b hb
  · exact ha
theorem Dig.replicate {n:Nat}:Dig (List.replicate n 0):=fun b hb=>by
  have:=(List.mem_replicate.1 hb).2; omega
theorem val_append {l m:List Nat}:val (l ++ m) = val l + 4294967296 ^ l.length * val m:=by
  induction l with
  | nil=>simp [val]
  | cons a l ih=>simp only [List.cons_append,val,ih,List.length_cons,Nat.pow_succ,Nat.mul_add,Nat.add_assoc]; congr 2; rw [Nat.mul_left_comm,Nat.mul_comm (4294967296 ^ l.length) 4294967296,Nat.mul_assoc,← Nat.mul_left_comm]
theorem val_lt {l:List Nat} (h:Dig l):val l < 4294967296 ^ l.length:=by
  induction l with
  | nil=>simp [val]
  | cons a l ih =>
    have h1:=h.head
    have h2:=ih h.tail
    simp only [val,List.length_cons,Nat.pow_succ]
    have:4294967296 * val l + 4294967296 ≤ 4294967296 * 4294967296 ^ l.length:=by rw [← Nat.mul_succ]; exact Nat.mul_le_mul_left _ h2
    rw [Nat.mul_comm (4294967296 ^ l.length)]
    omega
theorem val_replicate {n:Nat}:val (List.replicate n 0) = 0:=by
  induction n with
  | zero=>rfl
  | succ n ih=>simp [List.replicate_succ,val,ih]
theorem val_take_succ {l:List Nat} {i a:Nat} (hi:l[i]? = some a):val (l.take (i + 1)) = val (l.take i) + 4294967296 ^ i * a:=by
  have hlt:=(List.getElem?_eq_some_iff.1 hi).1
  rw [List.take_add_one,hi,val_append,List.length_take,Nat.min_eq_left (by omega)]
  simp [val]
theorem val_split {l:List Nat} (i:Nat) (h:i ≤ l.length):val l = val (l.take i) + 4294967296 ^ i * val (l.drop i):=by
  conv=>lhs; rw [← List.take_append_drop i l]
  rw [val_append,List.length_take,Nat.min_eq_left h]
theorem val_set {l:List Nat} {i a b:Nat} (hi:l[i]? = some a):val (l.set i b) + 4294967296 ^ i * a = val l + 4294967296 ^ i * b:=by
  induction l generalizing i with
  | nil=>simp at hi
  | cons c l ih =>
    cases i with
    | zero=>simp at hi; subst hi; simp [val]; omega
    | succ i =>
      simp only [List.getElem?_cons_succ] at hi
      have:=ih hi
      simp only [List.set_cons_succ,val,Nat.pow_succ]
      have e1:4294967296 ^ i * 4294967296 * a = 4294967296 * (4294967296 ^ i * a):=by rw [Nat.mul_comm (4294967296 ^ i),Nat.mul_assoc]
      have e2:4294967296 ^ i * 4294967296 * b = 4294967296 * (4294967296 ^ i * b):=by rw [Nat.mul_comm (4294967296 ^ i),Nat.mul_assoc]
      rw [e1,e2]
      omega
theorem trim_val (l:List Nat):val (trim l) = val l:=by
  induction l with
  | nil=>rfl
  | cons a l ih =>
    simp only [trim]
    split
    · rename_i h
      rw [h] at ih
      split
      · rename_i h0; simp [val,← ih,h0]
      · simp [val,← ih]
    · simp [val,ih]
theorem trim_nil_of_val {l:List Nat}:val l = 0→trim l = []:=by
  induction l with
  | nil=>intro _; rfl
  | cons a l ih =>
    intro h
    simp only [val] at h
    have h1:a = 0:=by omega
    have h2:val l = 0:=by omega
    simp [trim,ih h2,h1]
theorem val_pos_of_trim {l:List Nat} (h:trim l ≠ []):0 < val l:=Nat.pos_of_ne_zero fun h0=>h (trim_nil_of_val h0)
theorem digitsF_val:∀ (f:Nat) (l:List Nat),Dig l→val l < 2 ^ f→digitsF f (val l) = trim l
  | 0,l,_,h=>by
    have:val l = 0:=by simpa using h
    rw [trim_nil_of_val this]; rfl
  | f + 1,[],_,_=>by simp [digitsF,val,trim]
  | f + 1,a :: l,hd,h=>by
    have ha:=hd.head
    by_cases h0:val (a :: l) = 0
    · rw [trim_nil_of_val h0,h0]; simp [digitsF]
    · simp only [digitsF,if_neg h0]
      have e1:val (a :: l) % 4294967296 = a:=by simp only [val]; omega
      have e2:val (a :: l) / 4294967296 = val l:=by simp only [val]; omega
      rw [e1,e2,digitsF_val f l hd.tail (by
        rw [← e2]
        have:2 ^ (f + 1) = 2 * 2 ^ f:=by rw [Nat.pow_succ,Nat.mul_comm]
        omega)]
      simp only [trim]
      split
      · rename_i ht
        have:val l = 0:=by rw [← trim_val,ht]; rfl
        have:a ≠ 0:=fun e=>h0 (by simp [val,e,this])
        rw [if_neg this,ht]
      · rfl
theorem digits_val {l:List Nat} (h:Dig l):digits (val l) = trim l:=digitsF_val _ l h Nat.lt_log2_self
theorem digitsF_spec:∀ (f n:Nat),n < 2 ^ f→val (digitsF f n) = n∧Dig (digitsF f n)∧trim (digitsF f n) = digitsF f n
  | 0,n,h=>by
    have:n = 0:=by simpa using h
    subst this; exact ⟨rfl,Dig.nil,rfl⟩
  | f + 1,n,h=>by
    simp only [digitsF]
    split
    · rename_i h0; subst h0; exact ⟨rfl,Dig.nil,rfl⟩
    · rename_i h0
      obtain ⟨h1,h2,h3⟩:=digitsF_spec f (n / 4294967296) (by
        have:2 ^ (f + 1) = 2 * 2 ^ f:=by rw [Nat.pow_succ,Nat.mul_comm]
        omega)
      refine ⟨by simp only [val,h1]; omega,Dig.cons (by omega) h2,?_⟩
      simp only [trim,h3]
      split
      · rename_i ht
        rw [ht] at h1
        have:n % 4294967296 ≠ 0:=by
          have:val [] = 0:=rfl
          omega
        rw [if_neg this,ht]
      · rfl
theorem val_digits (n:Nat):val (digits n) = n:=(digitsF_spec _ n Nat.lt_log2_self).1
theorem dig_digits (n:Nat):Dig (digits n):=(digitsF_spec _ n Nat.lt_log2_self).2.1
theorem trim_digits (n:Nat):trim (digits n) = digits n:=(digitsF_spec _ n Nat.lt_log2_self).2.2
theorem digits_zero:digits 0 = []:=rfl
theorem digits_nil_iff {n:Nat}:digits n = []↔n = 0:=⟨fun h=>by rw [← val_digits n,h]; rfl,fun h=>by rw [h]; rfl⟩
theorem trim_last {l:List Nat} (h:trim l = l) {a:Nat} (ha:l[l.length - 1]? = some a):a ≠ 0:=by
  induction l with
  | nil=>simp at ha
  | cons b l ih =>
    simp only [trim] at h
    split at h
    · rename_i ht
      split at h
      · cases h
      · rename_i hb
        have:l = []:=by simpa using h.symm
        subst this
        simp at ha; omega
    · rename_i ht
      have hl:trim l = l:=by simpa using h
      have hne:l ≠ []:=by rw [← hl]; exact ht
      have hlen:0 < l.length:=List.length_pos_iff.2 hne
      rw [List.length_cons,Nat.add_sub_cancel,List.getElem?_cons,if_neg (by omega)] at ha
      exact ih hl ha
theorem trim_of_last {l:List Nat} (h:∀ a,l[l.length - 1]? = some a→a ≠ 0):trim l = l:=by
  induction l with
  | nil=>rfl
  | cons b l ih =>
    by_cases hl:l = []
    · subst hl
      have:=h b (by simp)
      simp [trim,this]
    · have hlen:0 < l.length:=List.length_pos_iff.2 hl
      have ht:trim l = l:=ih fun a ha=>h a (by rw [List.length_cons,Nat.add_sub_cancel,List.getElem?_cons,if_neg (by omega)]; exact ha)
      simp [trim,ht,hl]
theorem val_ge_of_trim {l:List Nat} (h:trim l = l) (hl:l ≠ []):4294967296 ^ (l.length - 1) ≤ val l:=by
  have hlen:0 < l.length:=List.length_pos_iff.2 hl
  obtain ⟨a,ha⟩:∃ a,l[l.length - 1]? = some a:=⟨l[l.length - 1],by simp⟩
  have h0:=trim_last h ha
  rw [val_split (l.length - 1) (by omega)]
  have:val (l.drop (l.length - 1)) = a:=by
    rw [List.drop_eq_getElem?_toList_append,ha]
    have:l.drop (l.length - 1 + 1) = []:=List.drop_eq_nil_of_le (by omega)
    rw [this]; simp [val]
  rw [this]
  have:4294967296 ^ (l.length - 1) * 1 ≤ 4294967296 ^ (l.length - 1) * a:=Nat.mul_le_mul_left _ (by omega)
  omega
theorem digits_length_le {n k:Nat}:(digits n).length ≤ k↔n < 4294967296 ^ k:=by
  constructor
  · intro h
    have h1:=val_lt (dig_digits n)
    rw [val_digits] at h1
    exact Nat.lt_of_lt_of_le h1 (Nat.pow_le_pow_right (by omega) h)
  · intro h
    refine Nat.le_of_not_lt fun hk=>?_
    have hne:digits n ≠ []:=fun e=>by rw [e] at hk; simp at hk
    have h1:=val_ge_of_trim (trim_digits n) hne
    rw [val_digits] at h1
    have:4294967296 ^ k ≤ 4294967296 ^ ((digits n).length - 1):=Nat.pow_le_pow_right (by omega) (by omega)
    omega
theorem trim_take {l:List Nat}:trim l = l.take (trim l).length:=by
  induction l with
  | nil=>rfl
  | cons a l ih =>
    simp only [trim]
    split
    · split <;> simp
    · rw [List.length_cons,List.take_succ_cons,← ih]
theorem trim_append_zero {l:List Nat} {n:Nat}:trim (l ++ List.replicate n 0) = trim l:=by
  induction l with
  | nil=>rw [List.nil_append]; exact trim_nil_of_val val_replicate
  | cons a l ih=>simp only [List.cons_append,trim,ih]
theorem trim_take_zero {l:List Nat} {m:Nat} (h:l[m]? = some 0):trim (l.take (m + 1)) = trim (l.take m):=by
  rw [List.take_add_one,h]
  have:=trim_append_zero (l:=l.take m) (n:=1)
  simpa using this
theorem trim_take_full {l:List Nat} {m a:Nat} (h:l[m]? = some a) (ha:a ≠ 0):trim (l.take (m + 1)) = l.take (m + 1):=by
  have hlt:=(List.getElem?_eq_some_iff.1 h).1
  refine trim_of_last fun b hb=>?_
  rw [List.length_take,Nat.min_eq_left (by omega),Nat.add_sub_cancel,List.getElem?_take,if_pos (by omega),h] at hb
  cases hb; exact ha
theorem trim_eq_of {l:List Nat} (h:Dig l):trim l = digits (val l):=(digits_val h).symm
def cmpN (a b:Nat):Int:=if a < b then -1 else if b < a then 1 else 0
theorem val_take_set {O:List Nat} {k r:Nat} (hk:k < O.length):val ((O.set k r).take (k + 1)) = val (O.take k) + 4294967296 ^ k * r:=by
  rw [val_take_succ (a:=r) (by simp [hk]),List.take_set_of_le (by omega)]
theorem val_take_over {y:List Nat} {k:Nat} (h:y.length ≤ k):val (y.take (k + 1)) = val (y.take k) + 4294967296 ^ k * 0:=by
  rw [List.take_of_length_le h,List.take_of_length_le (by omega)]; omega
theorem add_step {O x y:List Nat} {k c a d t:Nat} (hk:k < O.length) (hx:x[k]? = some a) (hy:val (y.take (k + 1)) = val (y.take k) + 4294967296 ^ k * d) (ht:t = a + d + c)
    (hv:val (O.take k) + c * 4294967296 ^ k = val (x.take k) + val (y.take k)) :
    val ((O.set k (t % 4294967296)).take (k + 1)) + t / 4294967296 * 4294967296 ^ (k + 1) = val (x.take (k + 1)) + val (y.take (k + 1)):=by
  rw [val_take_set hk,hy,val_take_succ hx,Nat.pow_succ]
  have h:t % 4294967296 + 4294967296 * (t / 4294967296) = a + d + c:=by omega
  grind
theorem sub_step {O x y:List Nat} {k w a d r w':Nat} (hk:k < O.length) (hx:x[k]? = some a) (hy:val (y.take (k + 1)) = val (y.take k) + 4294967296 ^ k * d) (hr:r + d + w = a + w' * 4294967296)
    (hv:val (O.take k) + val (y.take k) = val (x.take k) + w * 4294967296 ^ k) :
    val ((O.set k r).take (k + 1)) + val (y.take (k + 1)) = val (x.take (k + 1)) + w' * 4294967296 ^ (k + 1):=by
  rw [val_take_set hk,hy,val_take_succ hx,Nat.pow_succ]
  grind
theorem sub_end {O x y:List Nat} {w:Nat} (hO:Dig O) (hl:O.length = x.length) (hle:y.length ≤ x.length) (hxy:val y ≤ val x) (hv:val (O.take x.length) + val (y.take x.length) = val (x.take x.length) + w * 4294967296 ^ x.length) :
    trim O = digits (val x - val y):=by
  rw [List.take_of_length_le (by omega),List.take_of_length_le hle,List.take_of_length_le (Nat.le_refl _)] at hv
  have h1:=val_lt hO
  rw [hl] at h1
  have h2:w = 0:=by
    refine Nat.eq_zero_of_not_pos fun hw=>?_
    have:4294967296 ^ x.length ≤ w * 4294967296 ^ x.length:=Nat.le_mul_of_pos_left _ hw
    omega
  subst h2
  rw [trim_eq_of hO]
  congr 1
  omega
theorem mul_step {O y:List Nat} {i k c a d o V:Nat} (hk:O[i + k]? = some o) (hy:y[k]? = some d)
    (hv:val O + c * 4294967296 ^ (i + k) = V + a * val (y.take k) * 4294967296 ^ i) :
    val (O.set (i + k) ((a * d + o + c) % 4294967296)) + (a * d + o + c) / 4294967296 * 4294967296 ^ (i + (k + 1)) = V + a * val (y.take (k + 1)) * 4294967296 ^ i:=by
  have h1:=val_set (b:=(a * d + o + c) % 4294967296) hk
  rw [val_take_succ hy]
  have h2:(a * d + o + c) % 4294967296 + 4294967296 * ((a * d + o + c) / 4294967296) = a * d + o + c:=by omega
  generalize (a * d + o + c) % 4294967296 = r at *
  generalize (a * d + o + c) / 4294967296 = q at *
  have e1:4294967296 ^ (i + (k + 1)) = 4294967296 ^ i * 4294967296 ^ k * 4294967296:=by rw [← Nat.add_assoc,Nat.pow_succ,Nat.pow_add]
  have e2:4294967296 ^ (i + k) = 4294967296 ^ i * 4294967296 ^ k:=by rw [Nat.pow_add]
  rw [e1]
  rw [e2] at hv h1
  generalize 4294967296 ^ i = P at *
  generalize 4294967296 ^ k = R at *
  grind
theorem mul_end {O x y:List Nat} {i c a:Nat} (ho:O[i + y.length]? = some 0) (hx:x[i]? = some a)
    (hv:val O + c * 4294967296 ^ (i + y.length) = val (x.take i) * val y + a * val (y.take y.length) * 4294967296 ^ i) :
    val (O.set (i + y.length) c) = val (x.take (i + 1)) * val y:=by
  have h1:=val_set (b:=c) ho
  rw [List.take_of_length_le (Nat.le_refl _)] at hv
  rw [val_take_succ hx]
  generalize 4294967296 ^ (i + y.length) = R at *
  generalize 4294967296 ^ i = P at *
  grind
theorem cmp_at {x y:List Nat} {i a b:Nat} (hx:Dig x) (hxa:x[i]? = some a) (hyb:y[i]? = some b) (hd:x.drop (i + 1) = y.drop (i + 1)) (h:a < b):val x < val y:=by
  have hix:=(List.getElem?_eq_some_iff.1 hxa).1
  have hiy:=(List.getElem?_eq_some_iff.1 hyb).1
  rw [val_split (i + 1) (by omega),val_split (l:=y) (i + 1) (by omega),hd,val_take_succ hxa,val_take_succ hyb]
  have h1:=val_lt (hx.take i)
  rw [List.length_take,Nat.min_eq_left (by omega)] at h1
  have h2:4294967296 ^ i * (a + 1) ≤ 4294967296 ^ i * b:=Nat.mul_le_mul_left _ h
  rw [Nat.mul_add] at h2
  omega
theorem drop_step {x y:List Nat} {i a:Nat} (hx:x[i]? = some a) (hy:y[i]? = some a) (h:x.drop (i + 1) = y.drop (i + 1)):x.drop i = y.drop i:=by
  rw [List.drop_eq_getElem?_toList_append (l:=x) (i:=i),List.drop_eq_getElem?_toList_append (l:=y) (i:=i),hx,hy,h]
theorem length_lt_val {x y:List Nat} (hx:Dig x) (hy:trim y = y) (h:x.length < y.length):val x < val y:=by
  have h1:=val_lt hx
  have hne:y ≠ []:=fun e=>by rw [e] at h; simp at h
  have h2:=val_ge_of_trim hy hne
  have:4294967296 ^ x.length ≤ 4294967296 ^ (y.length - 1):=Nat.pow_le_pow_right (by omega) (by omega)
  omega
def cmpM (x y:List Nat):Int:=if x.length < y.length then -1 else if y.length < x.length then 1 else cmpN (val x) (val y)
theorem cmpM_eq {x y:List Nat} (hx:Dig x) (hy:Dig y) (tx:trim x = x) (ty:trim y = y):cmpM x y = cmpN (val x) (val y):=by
  unfold cmpM cmpN
  by_cases h1:x.length < y.length
  · have:=length_lt_val hx ty h1; simp [h1,this]
  · by_cases h2:y.length < x.length
    · have:=length_lt_val hy tx h2
      simp [h1,h2,this]; omega
    · simp [h1,h2]
theorem div_step {x O:List Nat} {i a d rest:Nat} (hx:x[i]? = some a) (hO:i < O.length) (hd:0 < d) (hv:val (x.drop (i + 1)) = val (O.drop (i + 1)) * d + rest) :
    val (x.drop i) = val ((O.set i ((rest * 4294967296 + a) / d)).drop i) * d + (rest * 4294967296 + a) % d:=by
  rw [List.drop_eq_getElem?_toList_append (l:=x) (i:=i),hx,List.drop_eq_getElem?_toList_append (l:=O.set i _) (i:=i),List.getElem?_set_self hO,List.drop_set_of_lt (by omega)]
  simp only [Option.toList_some,List.singleton_append,val,hv]
  have h:=Nat.div_add_mod (rest * 4294967296 + a) d
  generalize (rest * 4294967296 + a) / d = q at *
  generalize (rest * 4294967296 + a) % d = r at *
  grind
theorem val_two {l:List Nat} (hl:Dig l) (h:l.length ≤ 2):val l < 18446744073709551616:=by
  have:=val_lt hl
  have h2:4294967296 ^ l.length ≤ 4294967296 ^ 2:=Nat.pow_le_pow_right (by omega) h
  omega
theorem val_pair (n:Nat) (h:n < 18446744073709551616):val [n % 4294967296,n / 4294967296] = n:=by simp only [val]; omega
end Go.Proofs.YtjkdcddpicndgaaGreatDoor

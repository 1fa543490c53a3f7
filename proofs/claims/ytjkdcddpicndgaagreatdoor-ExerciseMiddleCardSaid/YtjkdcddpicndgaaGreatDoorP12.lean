/- Part of the proof of Rows.ExerciseMiddleCardSaid: EvL, EvG. -/
import Derived.Test.YtjkdcddpicndgaaGreatDoorP01
import Derived.Test.YtjkdcddpicndgaaGreatDoorP02
import Derived.Test.YtjkdcddpicndgaaGreatDoorP03
import Derived.Test.YtjkdcddpicndgaaGreatDoorP08
import Derived.Test.YtjkdcddpicndgaaGreatDoorP11
set_option linter.all false
namespace Go.Proofs.YtjkdcddpicndgaaGreatDoor
open Go
abbrev int (n:Int):AV:=.p (.v (.int .i64 n))
abbrev u64 (n:Nat):AV:=.p (.v (.int .u64 n))
abbrev u32 (n:Nat):AV:=.p (.v (.int .u32 n))
abbrev boo (b:Bool):AV:=.p (.v (.bool b))
def limb (n:Nat):List PV:=[.v (.int .u32 n)]
abbrev mag (l:List Nat):PV:=.sl (l.map limb)
section
variable {X:FuncId→List AV→List Obj→Option (AV×List Obj)} {Γ:FuncId→Option SFunc}
def WF (X:FuncId→List AV→List Obj→Option (AV×List Obj)) (Γ:FuncId→Option SFunc) (g:FuncId) (args:List AV) (H:List Obj) (Q:AV→List Obj→Prop):Prop:=bindP (call X Γ g args H) fun r=>Q r.1 r.2
theorem WF_intro {g:FuncId} {body:SCode} {res:List SOp} {raw:List Nat} {own:Bool} {ar:Nat} {args:List AV} {H:List Obj} {Q:AV→List Obj→Prop} (hg:Γ g = some ⟨body,res,raw,own,ar⟩) (ha:args.length = ar)
    (h:W X Γ body ⟨begin0 0 args,H⟩ (fin res Q)) (hX:X g args H = none:=by rfl):WF X Γ g args H Q:=by
  unfold W at h
  unfold WF
  rw [call]
  simp only [hX,hg,ha,ne_eq,not_true_eq_false,if_false]
  cases he:exec X Γ body ⟨begin0 0 args,H⟩ with
  | none=>rw [he] at h; exact h.elim
  | some r =>
    obtain ⟨x,s⟩:=r
    rw [he] at h
    have h:fin res Q x s:=h
    have key:∀ {o:Option (List AV)},bindP o (fun rs=>Q (tupOf rs) s.H)→bindP (o.map (fun rs=>(tupOf rs,s.H))) fun r=>Q r.1 r.2:=fun {o} h=>by
      cases o with
      | none=>exact h.elim
      | some rs=>exact h
    cases x with
    | exit i=>exact h.elim
    | normal=>exact key h
    | ret=>exact key h
theorem bindP_some' {α:Type} {x:α} {K:α→Prop}:bindP (some x) K↔K x:=by simp [bindP]
theorem bindP_none' {α:Type} {K:α→Prop}:bindP (none:Option α) K↔False:=by simp [bindP]
theorem want_true {t:Bool}:wantB true (.p (.v (.bool t))) = some t:=by simp [wantB]
theorem want_false {t:Bool}:wantB false (.p (.v (.bool t))) = some !t:=by simp [wantB]
theorem want_tup {b:Bool}:wantB b (.tup []) = some false:=by simp [wantB]
theorem ev_t {l:Env} {e:Env} {n:Nat}:ev ⟨l,e⟩ (.t n) = lk l n:=by simp [ev]
theorem ev_x {l:Env} {e:Env} {n:Nat}:ev ⟨l,e⟩ (.x n) = lk e n:=by simp [ev]
theorem ev_c {e:Fr} {a:AV}:ev e (.c a) = some a:=by simp [ev]
theorem ev_f {e:Fr} {g:FuncId}:ev e (.f g) = some (.fn (.func g) [] []):=by simp [ev]
theorem lk_cons {m n:Nat} {v:AV} {e:Env}:lk ((m,v) :: e) n = if m = n then some v else lk e n:=by simp [lk]
theorem put_t {n:Nat} {l e:Env} {v:AV}:dstPut (.t n) ⟨l,e⟩ v = ⟨(n,v) :: l,e⟩:=by simp [dstPut]
theorem put_x {n:Nat} {l e:Env} {v:AV}:dstPut (.x n) ⟨l,e⟩ v = ⟨l,upd e n v⟩:=by simp [dstPut]
theorem put_no {e:Fr} {v:AV}:dstPut .no e v = e:=by simp [dstPut]
theorem evInt_int {e:Fr} {x:SA}:evInt e x = (ev e x).bind asInt:=by simp [evInt]
theorem evVal_val {e:Fr} {x:SA}:evVal e x = (ev e x).bind asVal:=by simp [evVal]
theorem evBool_bool {e:Fr} {x:SA}:evBool e x = (ev e x).bind asBoolA:=by simp [evBool]
theorem asInt_int {k:IntKind} {n:Int}:asInt (.p (.v (.int k n))) = some n:=by simp [asInt]
theorem asVal_val {v:Value}:asVal (.p (.v v)) = some v:=by simp [asVal]
theorem asBool_bool {t:Bool}:asBoolA (.p (.v (.bool t))) = some t:=by simp [asBoolA]
theorem evIntO_none {e:Fr} {d:Int}:evIntO e d none = some d:=by simp [evIntO]
theorem evIntO_some {e:Fr} {d:Int} {x:SA}:evIntO e d (some x) = evInt e x:=by simp [evIntO]
theorem evIntOO_none {e:Fr}:evIntOO e none = some none:=by simp [evIntOO]
theorem evIntOO_some {e:Fr} {x:SA}:evIntOO e (some x) = (evInt e x).map some:=by simp [evIntOO]
theorem evs_nil {e:Fr}:evs e [] = some []:=by simp [evs]
theorem evs_cons {e:Fr} {x:SA} {xs:List SA}:evs e (x :: xs) = (ev e x).bind fun v=>(evs e xs).bind fun vs=>some (v :: vs):=by simp [evs]
theorem evRes_nil {e:Fr} {H:List Obj}:evRes e H [] = some []:=by simp [evRes]
theorem evRes_mov {e:Fr} {H:List Obj} {x:SA} {os:List SOp}:evRes e H (.mov x :: os) = (ev e x).bind fun v=>(evRes e H os).map fun rs=>v :: rs:=by
  simp only [evRes,evOp]; cases ev e x <;> simp
theorem evRes_load1 {e:Fr} {H:List Obj} {x:SA} {os:List SOp}:evRes e H (.load1 x :: os) = (ev e x).bind fun p=>(load1V H p).bind fun v=>(evRes e H os).map fun rs=>v :: rs:=by
  simp only [evRes,evOp]
  cases ev e x with
  | none=>simp
  | some p=>simp; cases load1V H p <;> simp
theorem evRes_loadn {e:Fr} {H:List Obj} {n:Nat} {x:SA} {os:List SOp}:evRes e H (.loadn n x :: os) = (ev e x).bind fun p=>(loadC H n p).bind fun v=>(evRes e H os).map fun rs=>.agg v :: rs:=by
  simp only [evRes,evOp]
  cases ev e x with
  | none=>simp
  | some p=>simp; cases loadC H n p <;> simp
theorem tup_one {r:AV}:tupOf [r] = r:=by simp [tupOf]
theorem tup_two {r s:AV} {l:List AV}:tupOf (r :: s :: l) = .tup (r :: s :: l):=by simp [tupOf]
theorem begin0_nil {n:Nat}:begin0 n [] = []:=by simp [begin0]
theorem begin0_cons {n:Nat} {a:AV} {as:List AV}:begin0 n (a :: as) = (n,a) :: begin0 (n + 1) as:=by simp [begin0]
theorem len_nsl:lenOf (.p .nsl) = some 0:=by simp [lenOf]
theorem len_sl {r:List (List PV)}:lenOf (.p (.sl r)) = some r.length:=by simp [lenOf]
theorem len_lit {r:List (List PV)}:lenOf (.lit r) = some r.length:=by simp [lenOf]
theorem len_ar {l v o n:Nat}:lenOf (.ar l v o n) = some n:=by simp [lenOf]
section
variable {k:IntKind} {a b:Int}
theorem bin_add:binV .add (.int k a) (.int k b) = some (.int k (k.wrap (a + b))):=by simp [binV,binInt]
theorem bin_sub:binV .sub (.int k a) (.int k b) = some (.int k (k.wrap (a - b))):=by simp [binV,binInt]
theorem bin_mul:binV .mul (.int k a) (.int k b) = some (.int k (k.wrap (a * b))):=by simp [binV,binInt]
theorem bin_quo:binV .quo (.int k a) (.int k b) = if b ≠ 0 then some (.int k (k.wrap (a.tdiv b))) else none:=by by_cases b = 0 <;> simp [binV,binInt, *]
theorem bin_rem:binV .rem (.int k a) (.int k b) = if b ≠ 0 then some (.int k (a.tmod b)) else none:=by by_cases b = 0 <;> simp [binV,binInt, *]
theorem bin_eql:binV .eql (.int k a) (.int k b) = some (.bool (decide (a = b))):=by simp [binV,binInt]; rfl
theorem bin_neq:binV .neq (.int k a) (.int k b) = some (.bool (decide (a ≠ b))):=by
  simp only [binV,binInt,if_true,bne]
  by_cases h:a = b <;> simp [h]
theorem bin_lss:binV .lss (.int k a) (.int k b) = some (.bool (decide (a < b))):=by simp [binV,binInt]
theorem bin_leq:binV .leq (.int k a) (.int k b) = some (.bool (decide (a ≤ b))):=by simp [binV,binInt]
theorem bin_gtr:binV .gtr (.int k a) (.int k b) = some (.bool (decide (b < a))):=by simp [binV,binInt]
theorem bin_geq:binV .geq (.int k a) (.int k b) = some (.bool (decide (b ≤ a))):=by simp [binV,binInt]
theorem bin_shl {j:IntKind}:binV .shl (.int k a) (.int j b) = if 0 ≤ b then some (.int k (k.wrap (a * 2 ^ (min b.toNat k.bits)))) else none:=by
  simp only [binV,shift]; by_cases h:b < 0
  · rw [if_pos h,if_neg (by omega)]
  · rw [if_neg h,if_pos (by omega)]
theorem bin_shr {j:IntKind}:binV .shr (.int k a) (.int j b) = if 0 ≤ b then some (.int k (a.fdiv (2 ^ (min b.toNat k.bits)))) else none:=by
  simp only [binV,shift]; by_cases h:b < 0
  · rw [if_pos h,if_neg (by omega)]
  · rw [if_neg h,if_pos (by omega)]
theorem un_not {t:Bool}:un .not (.bool t) = some (.bool !t):=by simp [un]
theorem un_neg:un .neg (.int k a) = some (.int k (k.wrap (0 - a))):=by simp [un]
end
theorem cells_agg {cs:List AV}:cellsOf (.agg cs) = some cs:=by simp [cellsOf]
theorem cells_p {x:PV}:cellsOf (.p x) = some [.p x]:=by simp [cellsOf]
theorem cells_lit {x:List (List PV)}:cellsOf (.lit x) = some [.lit x]:=by simp [cellsOf]
theorem cells_ar {l v o n:Nat}:cellsOf (.ar l v o n) = some [.ar l v o n]:=by simp [cellsOf]
theorem cells_ptr {l o:Nat}:cellsOf (.ptr l o) = some [.ptr l o]:=by simp [cellsOf]
theorem cells_fn {f:Fn} {a b:List AV}:cellsOf (.fn f a b) = some [.fn f a b]:=by simp [cellsOf]
theorem fadr_ptr {n r o:Nat}:fadrV n (.ptr r o) = some (.ptr r (o + n)):=by simp [fadrV]
theorem fadr_elp {n l v i k:Nat}:fadrV n (.elp l v i k) = some (.elp l v i (k + n)):=by simp [fadrV]
theorem fadr_imm {n o:Nat} {c:List PV}:fadrV n (.imm c o) = some (.imm c (o + n)):=by simp [fadrV]
theorem nilck_ptr {r o:Nat}:nilckV (.ptr r o) = some (.ptr r o):=by simp [nilckV]
theorem nilck_fn {f:FuncId} {a b:List AV}:nilckV (.fn (.func f) a b) = some (.fn (.func f) a b):=by simp [nilckV]
theorem load1_eq {H:List Obj} {a:AV}:load1V H a = (loadC H 1 a).bind fun | [c]=>some c | _=>none:=by
  unfold load1V; cases loadC H 1 a with
  | none=>rfl
  | some l=>cases l with
    | nil=>rfl
    | cons x l=>cases l <;> rfl
def cellsAt (H:List Obj) (r:Nat):Option (List AV):=match H[r]? with | some (.cells c)=>some c | _=>none
structure ArrV where
  es:Nat
  fz:Option Nat
  ver:Nat
  rows:List (List PV)
def arrAt (H:List Obj) (l:Nat):Option ArrV:=match H[l]? with | some (.arr es fz ver rows)=>some ⟨es,fz,ver,rows⟩ | _=>none
theorem loadC_ptr {H:List Obj} {n r o:Nat}:loadC H n (.ptr r o) = (cellsAt H r).bind fun c=>if o + n ≤ c.length then some ((c.drop o).take n) else none:=by
  simp only [loadC,cellsAt]
  generalize H[r]? = o
  cases o with
  | none=>rfl
  | some o=>cases o <;> rfl
theorem loadC_imm {H:List Obj} {n o:Nat} {c:List PV}:loadC H n (.imm c o) = if o + n ≤ c.length then some (((c.drop o).take n).map .p) else none:=by simp [loadC]
theorem loadC_elp {H:List Obj} {n l v i k:Nat}:loadC H n (.elp l v i k) = (arrAt H l).bind fun a=>if seen a.fz a.ver v then (a.rows[i]?).bind fun row=>if k + n ≤ row.length then some (((row.drop k).take n).map .p) else none else none:=by
  simp only [loadC,arrAt]
  generalize H[l]? = o
  cases o with
  | none=>rfl
  | some o=>cases o <;> rfl
theorem idx_sl {H:List Obj} {es:Nat} {rows:List (List PV)} {n:Int}:idxSl H es (.p (.sl rows)) n = if 0 ≤ n then (rows[n.toNat]?).bind fun r=>if r.length = es then some (.imm r 0) else none else none:=by simp [idxSl]
theorem idx_lit {H:List Obj} {es:Nat} {rows:List (List PV)} {n:Int}:idxSl H es (.lit rows) n = if 0 ≤ n then (rows[n.toNat]?).bind fun r=>if r.length = es then some (.imm r 0) else none else none:=by simp [idxSl]
theorem idx_ar {H:List Obj} {es l v off len:Nat} {n:Int}:idxSl H es (.ar l v off len) n = if 0 ≤ n then (arrAt H l).bind fun a=>if seen a.fz a.ver v∧a.es = es∧n.toNat < len then some (.elp l v (off + n.toNat) 0) else none else none:=by
  simp only [idxSl,arrAt]
  split
  · generalize H[l]? = o
    cases o with
    | none=>rfl
    | some o=>cases o <;> rfl
  · rfl
theorem extract_tup {i:Nat} {vs:List AV}:extractV i (.tup vs) = vs[i]?:=by simp [extractV]
theorem sliceB_eq {H:List Obj} {es:Nat} {a:AV} {l h:Int} {m:Option Int}:sliceB H es a l h m = if 0 ≤ l∧0 ≤ h then (match m with
    | none=>sliceAV H es a l.toNat h.toNat false
    | some m=>if m = h then sliceAV H es a l.toNat h.toNat true else none) else none:=by cases m <;> simp [sliceB]
theorem slice_nsl {H:List Obj} {es l h:Nat} {m:Bool}:sliceAV H es (.p .nsl) l h m = if l = 0∧h = 0 then some (.p .nsl,H) else none:=by simp [sliceAV]
theorem slice_sl {H:List Obj} {es l h:Nat} {m:Bool} {rows:List (List PV)}:sliceAV H es (.p (.sl rows)) l h m = if l ≤ h∧h ≤ rows.length∧rows.all (fun r=>r.length == es) then some (if m then .lit ((rows.drop l).take (h - l)) else .p (.sl ((rows.drop l).take (h - l))),H) else none:=by simp [sliceAV]
theorem slice_lit {H:List Obj} {es l h:Nat} {m:Bool} {rows:List (List PV)}:sliceAV H es (.lit rows) l h m = if l ≤ h∧h ≤ rows.length∧rows.all (fun r=>r.length == es) then some (if m || rows.isEmpty then .lit ((rows.drop l).take (h - l)) else .p (.sl ((rows.drop l).take (h - l))),H) else none:=by
  cases rows with
  | nil=>simp [sliceAV]; split <;> split <;> first | rfl | omega
  | cons r rows=>simp [sliceAV]
theorem slice_ar {H:List Obj} {es l h r v off len:Nat} {m:Bool}:sliceAV H es (.ar r v off len) l h m = (arrAt H r).bind fun a=>if a.es = es∧l ≤ h∧h ≤ len∧off + len ≤ a.rows.length then
      (if m then (if seen a.fz a.ver v then some (.lit ((a.rows.drop (off + l)).take (h - l)),freeze H [r]) else none) else some (.ar r v (off + l) (h - l),H)) else none:=by
  simp only [sliceAV,arrAt]
  generalize H[r]? = o
  cases o with
  | none=>rfl
  | some o=>cases o <;> rfl
theorem rows_nsl {H:List Obj}:rowsOf H (.p .nsl) = some []:=by simp [rowsOf]
theorem rows_sl {H:List Obj} {r:List (List PV)}:rowsOf H (.p (.sl r)) = some r:=by simp [rowsOf]
theorem rows_lit {H:List Obj} {r:List (List PV)}:rowsOf H (.lit r) = some r:=by simp [rowsOf]
theorem rows_ar {H:List Obj} {l v off len:Nat}:rowsOf H (.ar l v off len) = (arrAt H l).bind fun a=>if seen a.fz a.ver v∧off + len ≤ a.rows.length then some ((a.rows.drop off).take len) else none:=by
  simp only [rowsOf,arrAt]
  generalize H[l]? = o
  cases o with
  | none=>rfl
  | some o=>cases o <;> rfl
theorem wrap_i64 {n:Int} (h:-9223372036854775808 ≤ n∧n ≤ 9223372036854775807):IntKind.i64.wrap n = n:=by
  simp [IntKind.wrap,IntKind.bits,IntKind.signed]; split <;> omega
theorem wrap_u64 {n:Int} (h:0 ≤ n∧n ≤ 18446744073709551615):IntKind.u64.wrap n = n:=by
  simp [IntKind.wrap,IntKind.bits,IntKind.signed]; omega
theorem wrap_u32 {n:Int} (h:0 ≤ n∧n ≤ 4294967295):IntKind.u32.wrap n = n:=by
  simp [IntKind.wrap,IntKind.bits,IntKind.signed]; omega
theorem wrap_u64_mod {n:Int}:IntKind.u64.wrap n = n % 18446744073709551616:=by simp [IntKind.wrap,IntKind.bits,IntKind.signed]
theorem wrap_u32_mod {n:Int}:IntKind.u32.wrap n = n % 4294967296:=by simp [IntKind.wrap,IntKind.bits,IntKind.signed]
theorem arrAt_zero {es ver:Nat} {fz:Option Nat} {rows:List (List PV)} {H:List Obj}:arrAt (.arr es fz ver rows :: H) 0 = some ⟨es,fz,ver,rows⟩:=by simp [arrAt]
theorem arrAt_succ {o:Obj} {H:List Obj} {n:Nat}:arrAt (o :: H) (n + 1) = arrAt H n:=by simp [arrAt]
theorem cellsAt_zero {c:List AV} {H:List Obj}:cellsAt (.cells c :: H) 0 = some c:=by simp [cellsAt]
theorem cellsAt_succ {o:Obj} {H:List Obj} {n:Nat}:cellsAt (o :: H) (n + 1) = cellsAt H n:=by simp [cellsAt]
theorem seen_none {v:Nat}:seen none v v = true:=by simp [seen]
theorem seen_some {f ver v:Nat}:seen (some f) ver v = decide (f ≤ v):=by simp [seen]
theorem canon_p {H:List Obj} {x:PV}:canon H (.p x) = some (.p x):=by simp [canon]
theorem canon_lit {H:List Obj} {r:List (List PV)}:canon H (.lit r) = some (.p (.sl r)):=by simp [canon]
theorem canon_ar {H:List Obj} {l v o n:Nat}:canon H (.ar l v o n) = (rowsOf H (.ar l v o n)).map fun r=>.p (.sl r):=by rw [canon]
theorem canon_agg {H:List Obj} {cs:List AV}:canon H (.agg cs) = (canons H cs).map .agg:=by rw [canon]
theorem canon_tup {H:List Obj} {cs:List AV}:canon H (.tup cs) = (canons H cs).map .tup:=by rw [canon]
theorem canons_nil {H:List Obj}:canons H [] = some []:=by rw [canons]
theorem canons_cons {H:List Obj} {a:AV} {as:List AV}:canons H (a :: as) = (canon H a).bind fun b=>(canons H as).map fun bs=>b :: bs:=by rw [canons]
theorem refs_p {x:PV}:refs (.p x) = []:=by simp [refs]
theorem refs_agg {cs:List AV}:refs (.agg cs) = refsL cs:=by rw [refs]
theorem refs_tup {cs:List AV}:refs (.tup cs) = refsL cs:=by rw [refs]
theorem refsL_nil':refsL [] = []:=by rw [refsL]
theorem refsL_cons' {a:AV} {as:List AV}:refsL (a :: as) = refs a ++ refsL as:=by rw [refsL]
theorem take_limb {l:List Nat}:(l.map limb).take l.length = l.map limb:=List.take_of_length_le (by simp)
def bareO:Option AV→Bool
  | some a=>(refs a).isEmpty
  | none=>true
theorem bareO_some {a:AV}:bareO (some a) = (refs a).isEmpty:=by simp [bareO]
theorem noRefs_call {e:Fr} {f:SA} {as:List SA}:noRefs e (.call f as) = (bareO (ev e f) && as.all fun x=>bareO (ev e x)):=by
  simp only [noRefs,opKeys,List.all_cons]; rfl
theorem noRefs_slit {e:Fr} {z:List PV} {n:Nat} {ps:List (Nat×SA)}:noRefs e (.slit z n ps) = ps.all fun p=>bareO (ev e p.2):=by
  simp only [noRefs,opKeys,List.all_map]; rfl
theorem noRefs_slice {e:Fr} {n:Nat} {x:SA} {l h m:Option SA}:noRefs e (.slice n x l h m) = (bareO (ev e x) && (l.toList ++ h.toList ++ m.toList).all fun x=>bareO (ev e x)):=by
  simp only [noRefs,opKeys,List.all_cons]; rfl
theorem refs_fn' {g:Fn} {a b:List AV}:refs (.fn g a b) = refsL a ++ refsL b:=by rw [refs]
theorem refs_ptr {r o:Nat}:refs (.ptr r o) = [r]:=by simp [refs]
theorem refs_ar {l v o n:Nat}:refs (.ar l v o n) = [l]:=by simp [refs]
theorem refs_lit {r:List (List PV)}:refs (.lit r) = []:=by simp [refs]
theorem refs_imm {c:List PV} {o:Nat}:refs (.imm c o) = []:=by simp [refs]
theorem storeC_ptr {H:List Obj} {r o:Nat} {xs:List AV}:storeC H (.ptr r o) xs = (cellsAt H r).bind fun c=>(splice c o xs).map fun c=>H.set r (.cells c):=by
  simp only [storeC,cellsAt]
  generalize H[r]? = o
  cases o with
  | none=>rfl
  | some o=>cases o <;> rfl
theorem cellsAt_last {H:List Obj} {c:List AV}:cellsAt (H ++ [.cells c]) H.length = some c:=by simp [cellsAt]
theorem set_last {H:List Obj} {o o':Obj}:(H ++ [o]).set H.length o' = H ++ [o']:=by simp
theorem limb_len {n:Nat}:(limb n).length = 1:=by simp [limb]
theorem all_limb {l:List Nat}:(l.map limb).all (fun r=>r.length == 1) = true:=by simp [limb]
theorem passArgs_nil {H:List Obj}:∀ {n:Nat} {args:List AV},passArgs H [] n args = canons H args
  | n,[]=>rfl
  | n,a :: as=>by simp [passArgs,canons,passArgs_nil]
theorem arsOf_cons {a:AV} {as:List AV}:arsOf (a :: as) = arsA a ++ arsOf as:=by rw [arsOf]
theorem arsOf_one {a:AV}:arsOf [a] = arsA a:=by rw [arsOf_cons,arsOf]; simp
theorem passFrz_nil:∀ {n:Nat} {args:List AV},passFrz [] n args = arsOf args
  | n,[]=>by rw [passFrz,arsOf]
  | n,a :: as=>by
    have:passFrz [] n (a :: as) = arsOf [a] ++ passFrz [] (n + 1) as:=rfl
    rw [this,passFrz_nil,arsOf_one,← arsOf_cons]
mutual
theorem ren_bare (f:Nat→Nat):∀ a:AV,refs a = []→ren f a = a
  | .p x,_=>rfl
  | .lit r,_=>rfl
  | .imm c o,_=>rfl
  | .ar l v o n,h=>by simp [refs] at h
  | .ptr r o,h=>by simp [refs] at h
  | .elp l v i k,h=>by simp [refs] at h
  | .map r,h=>by simp [refs] at h
  | .emp,_=>rfl
  | .csl r o n,h=>by simp [refs] at h
  | .fn g a b,h=>by
    simp only [refs,List.append_eq_nil_iff] at h
    rw [ren,renL_bare f a h.1,renL_bare f b h.2]
  | .agg cs,h=>by rw [ren,renL_bare f cs (by simpa [refs] using h)]
  | .tup cs,h=>by rw [ren,renL_bare f cs (by simpa [refs] using h)]
theorem renL_bare (f:Nat→Nat):∀ as:List AV,refsL as = []→renL f as = as
  | [],_=>rfl
  | a :: as,h=>by
    simp only [refsL,List.append_eq_nil_iff] at h
    rw [renL,ren_bare f a h.1,renL_bare f as h.2]
end
def WP (X:FuncId→List AV→List Obj→Option (AV×List Obj)) (Γ:FuncId→Option SFunc) (g:FuncId) (own:Bool) (args:List AV) (H H1:List Obj) (K:AV→List Obj→Prop):Prop :=
  bindP (call X Γ g args []) fun r=>bindP (comeBack H H1 [] own r.1 r.2) fun r=>K r.1 r.2
@[congr] theorem WP_congr {g:FuncId} {own:Bool} {as as':List AV} {H H' H1 H1':List Obj} {K:AV→List Obj→Prop} {p:Prop} (_h0:((0:Nat) = 0) = p) (h:as = as') (h':H = H') (h1:H1 = H1'):WP X Γ g own as H H1 K↔WP X Γ g own as' H' H1' K:=by rw [h,h',h1]
theorem WC_plain {g:FuncId} {fn:SFunc} {args args':List AV} {H:List Obj} {K:AV→List Obj→Prop} (_hX:True = True) (hG:Γ g = some fn) (hraw:fn.raw = []) (hc:canons H args = some args') (hr:refsL args' = []) :
    WC X Γ g args H K↔WP X Γ g fn.own args' H (freeze H (arsOf args)) K:=by
  unfold WC WP
  rw [callAt]
  simp only [hG,hraw,passArgs_nil,passFrz_nil,hc,hr,List.contains_nil,Bool.false_and,Bool.false_eq_true,if_false]
  have hreach:∀ H' n,reach H' (n + 1) [] [] = []:=fun _ _=>rfl
  simp only [Nat.add_succ,Nat.add_zero,hreach,pickObjs,within,List.all_nil,nodupB,Bool.and_self,if_true,List.map_nil,renL_bare _ _ hr]
  cases call X Γ g args' [] <;> simp [bindP]
theorem copyV_at {H:List Obj} {r v:Nat} {rows ys:List (List PV)} {b:AV} {es n:Nat} (h:H[r]? = some (.arr es none v rows)) (hn:n = rows.length) (hb:rowsOf H b = some ys) (hy:∀ r ∈ ys,r.length = es) (hl:ys.length ≤ rows.length) :
    copyV H es (.ar r v 0 n) b = some (.p (.v (.int .i64 ys.length)),H.set r (.arr es none v (ys ++ rows.drop ys.length))):=by
  subst hn
  have hall:(ys.all fun r=>r.length == es) = true:=by simpa using hy
  simp only [copyV,hb,Option.bind_some,lenOf,h]
  split
  · rename_i h0
    have:ys = []:=List.eq_nil_of_length_eq_zero (by omega)
    subst this
    have hr:H.set r (.arr es none v rows) = H:=by
      refine List.ext_getElem? fun i=>?_
      rw [List.getElem?_set]
      split
      · rename_i e; subst e; rw [h,if_pos (List.getElem?_eq_some_iff.1 h).1]
      · rfl
    simp [hr]
  · rw [if_pos (by simpa using hall)]
    simp [Nat.min_eq_right hl,List.take_of_length_le hl]
theorem storeC_limb {H:List Obj} {r v k:Nat} {O:List Nat} {x:Int} (h:H[r]? = some (.arr 1 none v (O.map limb))) (hk:k < O.length) (hx:0 ≤ x) :
    storeC H (.elp r v k 0) [.p (.v (.int .u32 x))] = some (H.set r (.arr 1 none v ((O.set k x.toNat).map limb))):=by
  have hg:(O.map limb)[k]? = some (limb O[k]):=by simp [hk]
  have ha:arsOf [AV.p (PV.v (Value.int .u32 x))] = []:=by rw [arsOf_one]; simp [arsA]
  have hx':(x.toNat:Int) = x:=Int.toNat_of_nonneg hx
  simp only [storeC,ha,h,List.contains_nil,Bool.false_eq_true,if_false,if_true,hg,Option.bind_some,toPVs,toPV,canon,Option.map_some,limb,splice,freeze]
  rw [List.map_set]
  simp [hx',limb]
def WCx (X:FuncId→List AV→List Obj→Option (AV×List Obj)) (Γ:FuncId→Option SFunc) (g:FuncId) (args:List AV) (H:List Obj) (K:AV→List Obj→Prop):Prop:=WC X Γ g args H K
theorem WC_go {g:FuncId} {fn:SFunc} {own:Bool} {args:List AV} {H:List Obj} {K:AV→List Obj→Prop} (_hX:True = True) (hG:Γ g = some fn) (hraw:fn.raw = []) (hown:fn.own = own) :
    WC X Γ g args H K↔bindP (canons H args) fun as=>bif (refsL as).isEmpty then WP X Γ g own as H (freeze H (arsOf args)) K else WCx X Γ g args H K:=by
  subst hown
  cases hc:canons H args with
  | none =>
    simp only [bindP_none,iff_false]
    unfold WC
    rw [callAt]
    simp [hG,hraw,passArgs_nil,hc,bindP]
  | some as =>
    simp only [bindP_some]
    cases hr:(refsL as).isEmpty with
    | false=>exact Iff.rfl
    | true=>simp only [cond_true]; exact WC_plain rfl hG hraw hc (List.isEmpty_iff.1 hr)
theorem arsOf_nil:arsOf [] = []:=by rw [arsOf]
theorem arsA_p {x:PV}:arsA (.p x) = []:=by simp [arsA]
theorem arsA_lit {x:List (List PV)}:arsA (.lit x) = []:=by simp [arsA]
theorem arsA_ar {l v o n:Nat}:arsA (.ar l v o n) = [l]:=by simp [arsA]
theorem arsA_agg {cs:List AV}:arsA (.agg cs) = arsOf cs:=by rw [arsA]
theorem arsA_ptr {r o:Nat}:arsA (.ptr r o) = []:=by simp [arsA]
theorem freeze_nil {H:List Obj}:freeze H [] = H:=rfl
theorem freeze_cons {H:List Obj} {l:Nat} {ls:List Nat}:freeze H (l :: ls) = freeze (match H[l]? with
    | some (.arr es none ver rows)=>H.set l (.arr es (some ver) ver rows)
    | _=>H) ls:=rfl
def PF (X:FuncId→List AV→List Obj→Option (AV×List Obj)) (Γ:FuncId→Option SFunc) (g:FuncId) (args:List AV) (r':AV):Prop :=
  WF X Γ g args [] fun r H=>canon H r = some r'∧refs r' = []
theorem WP_flat {g:FuncId} {args:List AV} {r':AV} {H H1:List Obj} {K:AV→List Obj→Prop} (h:PF X Γ g args r') (hf:flat r' = true):WP X Γ g false args H H1 K↔K r' H:=by
  unfold PF WF at h
  unfold WP
  cases hc:call X Γ g args [] with
  | none=>rw [hc] at h; exact h.elim
  | some r =>
    rw [hc] at h
    obtain ⟨h2,h3⟩:=h
    simp [bindP,comeBack,h2,hf]
theorem WP_slice {g:FuncId} {args:List AV} {r':AV} {H H1:List Obj} {K:AV→List Obj→Prop} (h:PF X Γ g args r') (hf:flat r' = false):WP X Γ g false args H H1 K↔K r' H1:=by
  unfold PF WF at h
  unfold WP
  cases hc:call X Γ g args [] with
  | none=>rw [hc] at h; exact h.elim
  | some r =>
    rw [hc] at h
    obtain ⟨h2,h3⟩:=h
    simp [bindP,comeBack,h2,hf,h3,reach,within,nodupB,pickObjs,putBack,ren_bare _ _ h3]
end
def EV:=And.intro @W_skip <| And.intro @W_ret <| And.intro @W_exit <| And.intro @W_region <| And.intro @W_seq <| And.intro @W_cond <| And.intro @W_block <| And.intro @W_draw <| And.intro @WL_nil <| And.intro @WL_g <| And.intro @WL_write <| And.intro @WL_fresh <| And.intro @WL_free <| And.intro @WL_here <| And.intro @WL_read <| And.intro @WL_lone_call <| And.intro @loneV_nil <| And.intro @WL_lone_slit <| And.intro @WL_lone_slice <| And.intro @ckAll_nil <| And.intro @ckAll_cons <| And.intro @stable_nil <| And.intro @stable_cons <| And.intro @andThen_normal <| And.intro @andThen_exit <| And.intro @andThen_ret <| And.intro @outOf_normal <| And.intro @outOf_ret <| And.intro @outOf_exit <| And.intro @fin_ret <| And.intro @fin_normal <| And.intro @WO_nil <| And.intro @set_last <| And.intro @cellsAt_last <| And.intro @storeC_ptr <| And.intro @refs_imm <| And.intro @refs_lit <| And.intro @refs_ar <| And.intro @refs_ptr <| And.intro @refs_fn' <| And.intro @noRefs_slice <| And.intro @noRefs_slit <| And.intro @noRefs_call <| And.intro @bareO_some <| And.intro @take_limb <| And.intro @arsOf_nil <| And.intro @arsOf_cons <| And.intro @arsA_p <| And.intro @arsA_lit <| And.intro @arsA_ar <| And.intro @arsA_agg <| And.intro @arsA_ptr <| And.intro @freeze_nil <| And.intro @freeze_cons <| And.intro @arrAt_zero <| And.intro @arrAt_succ <| And.intro @cellsAt_zero <| And.intro @cellsAt_succ <| And.intro @seen_none <| And.intro @seen_some <| And.intro @canon_p <| And.intro @canon_lit <| And.intro @canon_ar <| And.intro @canon_agg <| And.intro @canon_tup <| And.intro @canons_nil <| And.intro @canons_cons <| And.intro @refs_p <| And.intro @refs_agg <| And.intro @refs_tup <| And.intro @refsL_nil' <| And.intro @refsL_cons' <| And.intro @WO_g <| And.intro @want_true <| And.intro @want_false <| And.intro @lk_upd <| And.intro @want_tup <| And.intro @WO_call <| And.intro @WO_mov <| And.intro @WO_pick <| And.intro @WO_alloc <| And.intro @WO_box <| And.intro @WO_build <| And.intro @WO_slit <| And.intro @WO_load1 <| And.intro @WO_loadn <| And.intro @WO_store <| And.intro @WO_nilck <| And.intro @WO_bin <| And.intro @WO_binB <| And.intro @WO_isnil <| And.intro @WO_un <| And.intro @WO_conv <| And.intro @WO_mkfn <| And.intro @WO_mkmap <| And.intro @WO_mkslice <| And.intro @WO_slice <| And.intro @WO_sliceS <| And.intro @WO_fadr <| And.intro @WO_idx <| And.intro @WO_idxA <| And.intro @WO_idxS <| And.intro @WO_idxV <| And.intro @WO_b2s <| And.intro @WO_extract <| And.intro @WO_len <| And.intro @WO_lenS <| And.intro @WO_append <| And.intro @WO_copy <| And.intro @WO_maxmin <| And.intro @WO_mapget <| And.intro @WO_mapset <| And.intro @bindP_ite <| And.intro @bindP_map <| And.intro @bindP_bind <| And.intro @bindP_some' <| And.intro @bindP_none' <| And.intro @ev_t <| And.intro @ev_x <| And.intro @ev_c <| And.intro @ev_f <| And.intro @lk_cons <| And.intro @put_t <| And.intro @put_x <| And.intro @put_no <| And.intro @evInt_int <| And.intro @evVal_val <| And.intro @evBool_bool <| And.intro @asInt_int <| And.intro @asVal_val <| And.intro @asBool_bool <| And.intro @evIntO_none <| And.intro @evIntO_some <| And.intro @evIntOO_none <| And.intro @evIntOO_some <| And.intro @evs_nil <| And.intro @evs_cons <| And.intro @evRes_nil <| And.intro @evRes_mov <| And.intro @evRes_load1 <| And.intro @evRes_loadn <| And.intro @tup_one <| And.intro @tup_two <| And.intro @begin0_nil <| And.intro @begin0_cons <| And.intro @len_nsl <| And.intro @len_sl <| And.intro @len_lit <| And.intro @len_ar <| And.intro @bin_add <| And.intro @bin_sub <| And.intro @bin_mul <| And.intro @bin_quo <| And.intro @bin_rem <| And.intro @bin_eql <| And.intro @bin_neq <| And.intro @bin_lss <| And.intro @bin_leq <| And.intro @bin_gtr <| And.intro @bin_geq <| And.intro @bin_shl <| And.intro @bin_shr <| And.intro @un_not <| And.intro @un_neg <| And.intro @cells_agg <| And.intro @cells_p <| And.intro @cells_lit <| And.intro @cells_ar <| And.intro @cells_ptr <| And.intro @cells_fn <| And.intro @fadr_ptr <| And.intro @fadr_elp <| And.intro @fadr_imm <| And.intro @nilck_ptr <| And.intro @nilck_fn <| And.intro @load1_eq <| And.intro @loadC_ptr <| And.intro @loadC_imm <| And.intro @loadC_elp <| And.intro @idx_sl <| And.intro @idx_lit <| And.intro @idx_ar <| And.intro @extract_tup <| And.intro @sliceB_eq <| And.intro @slice_nsl <| And.intro @slice_sl <| And.intro @slice_lit <| And.intro @slice_ar <| And.intro @rows_nsl <| And.intro @rows_sl <| And.intro @rows_lit <| And.intro @rows_ar <| And.intro @limb_len @all_limb
end Go.Proofs.YtjkdcddpicndgaaGreatDoor
namespace Go.Proofs.YtjkdcddpicndgaaGreatDoor
open Go
def Gam (n:FuncId):Option SFunc:=(cond (Nat.ble n 160)
 (cond (Nat.ble n 96)
 (cond (Nat.ble n 56)
 (cond (Nat.ble n 33)
 (cond (Nat.ble n 19)
 (cond (Nat.ble n 12)
 (cond (Nat.ble n 6)
 (cond (Nat.beq n 6) (some K6) none)
 (cond (Nat.ble n 11)
 (cond (Nat.beq n 11) (some K11) none)
 (cond (Nat.beq n 12) (some K12) none)))
 (cond (Nat.ble n 13)
 (cond (Nat.beq n 13) (some K13) none)
 (cond (Nat.ble n 16)
 (cond (Nat.beq n 16) (some K16) none)
 (cond (Nat.beq n 19) (some K19) none))))
 (cond (Nat.ble n 25)
 (cond (Nat.ble n 22)
 (cond (Nat.beq n 22) (some K22) none)
 (cond (Nat.ble n 24)
 (cond (Nat.beq n 24) (some K24) none)
 (cond (Nat.beq n 25) (some K25) none)))
 (cond (Nat.ble n 29)
 (cond (Nat.beq n 29) (some K29) none)
 (cond (Nat.ble n 32)
 (cond (Nat.beq n 32) (some K32) none)
 (cond (Nat.beq n 33) (some K33) none)))))
 (cond (Nat.ble n 42)
 (cond (Nat.ble n 39)
 (cond (Nat.ble n 34)
 (cond (Nat.beq n 34) (some K34) none)
 (cond (Nat.ble n 35)
 (cond (Nat.beq n 35) (some K35) none)
 (cond (Nat.beq n 39) (some K39) none)))
 (cond (Nat.ble n 40)
 (cond (Nat.beq n 40) (some K40) none)
 (cond (Nat.ble n 41)
 (cond (Nat.beq n 41) (some K41) none)
 (cond (Nat.beq n 42) (some K42) none))))
 (cond (Nat.ble n 48)
 (cond (Nat.ble n 43)
 (cond (Nat.beq n 43) (some K43) none)
 (cond (Nat.ble n 47)
 (cond (Nat.beq n 47) (some K47) none)
 (cond (Nat.beq n 48) (some K48) none)))
 (cond (Nat.ble n 52)
 (cond (Nat.beq n 52) (some K52) none)
 (cond (Nat.ble n 53)
 (cond (Nat.beq n 53) (some K53) none)
 (cond (Nat.beq n 56) (some K56) none))))))
 (cond (Nat.ble n 75)
 (cond (Nat.ble n 64)
 (cond (Nat.ble n 61)
 (cond (Nat.ble n 57)
 (cond (Nat.beq n 57) (some K57) none)
 (cond (Nat.ble n 60)
 (cond (Nat.beq n 60) (some K60) none)
 (cond (Nat.beq n 61) (some K61) none)))
 (cond (Nat.ble n 62)
 (cond (Nat.beq n 62) (some K62) none)
 (cond (Nat.ble n 63)
 (cond (Nat.beq n 63) (some K63) none)
 (cond (Nat.beq n 64) (some K64) none))))
 (cond (Nat.ble n 72)
 (cond (Nat.ble n 65)
 (cond (Nat.beq n 65) (some K65) none)
 (cond (Nat.ble n 71)
 (cond (Nat.beq n 71) (some K71) none)
 (cond (Nat.beq n 72) (some K72) none)))
 (cond (Nat.ble n 73)
 (cond (Nat.beq n 73) (some K73) none)
 (cond (Nat.ble n 74)
 (cond (Nat.beq n 74) (some K74) none)
 (cond (Nat.beq n 75) (some K75) none)))))
 (cond (Nat.ble n 87)
 (cond (Nat.ble n 80)
 (cond (Nat.ble n 78)
 (cond (Nat.beq n 78) (some K78) none)
 (cond (Nat.ble n 79)
 (cond (Nat.beq n 79) (some K79) none)
 (cond (Nat.beq n 80) (some K80) none)))
 (cond (Nat.ble n 81)
 (cond (Nat.beq n 81) (some K81) none)
 (cond (Nat.ble n 83)
 (cond (Nat.beq n 83) (some K83) none)
 (cond (Nat.beq n 87) (some K87) none))))
 (cond (Nat.ble n 93)
 (cond (Nat.ble n 91)
 (cond (Nat.beq n 91) (some K91) none)
 (cond (Nat.ble n 92)
 (cond (Nat.beq n 92) (some K92) none)
 (cond (Nat.beq n 93) (some K93) none)))
 (cond (Nat.ble n 94)
 (cond (Nat.beq n 94) (some K94) none)
 (cond (Nat.ble n 95)
 (cond (Nat.beq n 95) (some K95) none)
 (cond (Nat.beq n 96) (some K96) none)))))))
 (cond (Nat.ble n 130)
 (cond (Nat.ble n 115)
 (cond (Nat.ble n 102)
 (cond (Nat.ble n 99)
 (cond (Nat.ble n 97)
 (cond (Nat.beq n 97) (some K97) none)
 (cond (Nat.ble n 98)
 (cond (Nat.beq n 98) (some K98) none)
 (cond (Nat.beq n 99) (some K99) none)))
 (cond (Nat.ble n 100)
 (cond (Nat.beq n 100) (some K100) none)
 (cond (Nat.ble n 101)
 (cond (Nat.beq n 101) (some K101) none)
 (cond (Nat.beq n 102) (some K102) none))))
 (cond (Nat.ble n 105)
 (cond (Nat.ble n 103)
 (cond (Nat.beq n 103) (some K103) none)
 (cond (Nat.ble n 104)
 (cond (Nat.beq n 104) (some K104) none)
 (cond (Nat.beq n 105) (some K105) none)))
 (cond (Nat.ble n 106)
 (cond (Nat.beq n 106) (some K106) none)
 (cond (Nat.ble n 114)
 (cond (Nat.beq n 114) (some K114) none)
 (cond (Nat.beq n 115) (some K115) none)))))
 (cond (Nat.ble n 124)
 (cond (Nat.ble n 118)
 (cond (Nat.ble n 116)
 (cond (Nat.beq n 116) (some K116) none)
 (cond (Nat.ble n 117)
 (cond (Nat.beq n 117) (some K117) none)
 (cond (Nat.beq n 118) (some K118) none)))
 (cond (Nat.ble n 122)
 (cond (Nat.beq n 122) (some K122) none)
 (cond (Nat.ble n 123)
 (cond (Nat.beq n 123) (some K123) none)
 (cond (Nat.beq n 124) (some K124) none))))
 (cond (Nat.ble n 127)
 (cond (Nat.ble n 125)
 (cond (Nat.beq n 125) (some K125) none)
 (cond (Nat.ble n 126)
 (cond (Nat.beq n 126) (some K126) none)
 (cond (Nat.beq n 127) (some K127) none)))
 (cond (Nat.ble n 128)
 (cond (Nat.beq n 128) (some K128) none)
 (cond (Nat.ble n 129)
 (cond (Nat.beq n 129) (some K129) none)
 (cond (Nat.beq n 130) (some K130) none))))))
 (cond (Nat.ble n 148)
 (cond (Nat.ble n 142)
 (cond (Nat.ble n 139)
 (cond (Nat.ble n 137)
 (cond (Nat.beq n 137) (some K137) none)
 (cond (Nat.ble n 138)
 (cond (Nat.beq n 138) (some K138) none)
 (cond (Nat.beq n 139) (some K139) none)))
 (cond (Nat.ble n 140)
 (cond (Nat.beq n 140) (some K140) none)
 (cond (Nat.ble n 141)
 (cond (Nat.beq n 141) (some K141) none)
 (cond (Nat.beq n 142) (some K142) none))))
 (cond (Nat.ble n 145)
 (cond (Nat.ble n 143)
 (cond (Nat.beq n 143) (some K143) none)
 (cond (Nat.ble n 144)
 (cond (Nat.beq n 144) (some K144) none)
 (cond (Nat.beq n 145) (some K145) none)))
 (cond (Nat.ble n 146)
 (cond (Nat.beq n 146) (some K146) none)
 (cond (Nat.ble n 147)
 (cond (Nat.beq n 147) (some K147) none)
 (cond (Nat.beq n 148) (some K148) none)))))
 (cond (Nat.ble n 154)
 (cond (Nat.ble n 151)
 (cond (Nat.ble n 149)
 (cond (Nat.beq n 149) (some K149) none)
 (cond (Nat.ble n 150)
 (cond (Nat.beq n 150) (some K150) none)
 (cond (Nat.beq n 151) (some K151) none)))
 (cond (Nat.ble n 152)
 (cond (Nat.beq n 152) (some K152) none)
 (cond (Nat.ble n 153)
 (cond (Nat.beq n 153) (some K153) none)
 (cond (Nat.beq n 154) (some K154) none))))
 (cond (Nat.ble n 157)
 (cond (Nat.ble n 155)
 (cond (Nat.beq n 155) (some K155) none)
 (cond (Nat.ble n 156)
 (cond (Nat.beq n 156) (some K156) none)
 (cond (Nat.beq n 157) (some K157) none)))
 (cond (Nat.ble n 158)
 (cond (Nat.beq n 158) (some K158) none)
 (cond (Nat.ble n 159)
 (cond (Nat.beq n 159) (some K159) none)
 (cond (Nat.beq n 160) (some K160) none))))))))
 (cond (Nat.ble n 237)
 (cond (Nat.ble n 196)
 (cond (Nat.ble n 184)
 (cond (Nat.ble n 176)
 (cond (Nat.ble n 173)
 (cond (Nat.ble n 161)
 (cond (Nat.beq n 161) (some K161) none)
 (cond (Nat.ble n 172)
 (cond (Nat.beq n 172) (some K172) none)
 (cond (Nat.beq n 173) (some K173) none)))
 (cond (Nat.ble n 174)
 (cond (Nat.beq n 174) (some K174) none)
 (cond (Nat.ble n 175)
 (cond (Nat.beq n 175) (some K175) none)
 (cond (Nat.beq n 176) (some K176) none))))
 (cond (Nat.ble n 181)
 (cond (Nat.ble n 177)
 (cond (Nat.beq n 177) (some K177) none)
 (cond (Nat.ble n 178)
 (cond (Nat.beq n 178) (some K178) none)
 (cond (Nat.beq n 181) (some K181) none)))
 (cond (Nat.ble n 182)
 (cond (Nat.beq n 182) (some K182) none)
 (cond (Nat.ble n 183)
 (cond (Nat.beq n 183) (some K183) none)
 (cond (Nat.beq n 184) (some K184) none)))))
 (cond (Nat.ble n 190)
 (cond (Nat.ble n 187)
 (cond (Nat.ble n 185)
 (cond (Nat.beq n 185) (some K185) none)
 (cond (Nat.ble n 186)
 (cond (Nat.beq n 186) (some K186) none)
 (cond (Nat.beq n 187) (some K187) none)))
 (cond (Nat.ble n 188)
 (cond (Nat.beq n 188) (some K188) none)
 (cond (Nat.ble n 189)
 (cond (Nat.beq n 189) (some K189) none)
 (cond (Nat.beq n 190) (some K190) none))))
 (cond (Nat.ble n 193)
 (cond (Nat.ble n 191)
 (cond (Nat.beq n 191) (some K191) none)
 (cond (Nat.ble n 192)
 (cond (Nat.beq n 192) (some K192) none)
 (cond (Nat.beq n 193) (some K193) none)))
 (cond (Nat.ble n 194)
 (cond (Nat.beq n 194) (some K194) none)
 (cond (Nat.ble n 195)
 (cond (Nat.beq n 195) (some K195) none)
 (cond (Nat.beq n 196) (some K196) none))))))
 (cond (Nat.ble n 208)
 (cond (Nat.ble n 202)
 (cond (Nat.ble n 199)
 (cond (Nat.ble n 197)
 (cond (Nat.beq n 197) (some K197) none)
 (cond (Nat.ble n 198)
 (cond (Nat.beq n 198) (some K198) none)
 (cond (Nat.beq n 199) (some K199) none)))
 (cond (Nat.ble n 200)
 (cond (Nat.beq n 200) (some K200) none)
 (cond (Nat.ble n 201)
 (cond (Nat.beq n 201) (some K201) none)
 (cond (Nat.beq n 202) (some K202) none))))
 (cond (Nat.ble n 205)
 (cond (Nat.ble n 203)
 (cond (Nat.beq n 203) (some K203) none)
 (cond (Nat.ble n 204)
 (cond (Nat.beq n 204) (some K204) none)
 (cond (Nat.beq n 205) (some K205) none)))
 (cond (Nat.ble n 206)
 (cond (Nat.beq n 206) (some K206) none)
 (cond (Nat.ble n 207)
 (cond (Nat.beq n 207) (some K207) none)
 (cond (Nat.beq n 208) (some K208) none)))))
 (cond (Nat.ble n 228)
 (cond (Nat.ble n 211)
 (cond (Nat.ble n 209)
 (cond (Nat.beq n 209) (some K209) none)
 (cond (Nat.ble n 210)
 (cond (Nat.beq n 210) (some K210) none)
 (cond (Nat.beq n 211) (some K211) none)))
 (cond (Nat.ble n 226)
 (cond (Nat.beq n 226) (some K226) none)
 (cond (Nat.ble n 227)
 (cond (Nat.beq n 227) (some K227) none)
 (cond (Nat.beq n 228) (some K228) none))))
 (cond (Nat.ble n 234)
 (cond (Nat.ble n 229)
 (cond (Nat.beq n 229) (some K229) none)
 (cond (Nat.ble n 230)
 (cond (Nat.beq n 230) (some K230) none)
 (cond (Nat.beq n 234) (some K234) none)))
 (cond (Nat.ble n 235)
 (cond (Nat.beq n 235) (some K235) none)
 (cond (Nat.ble n 236)
 (cond (Nat.beq n 236) (some K236) none)
 (cond (Nat.beq n 237) (some K237) none)))))))
 (cond (Nat.ble n 274)
 (cond (Nat.ble n 249)
 (cond (Nat.ble n 243)
 (cond (Nat.ble n 240)
 (cond (Nat.ble n 238)
 (cond (Nat.beq n 238) (some K238) none)
 (cond (Nat.ble n 239)
 (cond (Nat.beq n 239) (some K239) none)
 (cond (Nat.beq n 240) (some K240) none)))
 (cond (Nat.ble n 241)
 (cond (Nat.beq n 241) (some K241) none)
 (cond (Nat.ble n 242)
 (cond (Nat.beq n 242) (some K242) none)
 (cond (Nat.beq n 243) (some K243) none))))
 (cond (Nat.ble n 246)
 (cond (Nat.ble n 244)
 (cond (Nat.beq n 244) (some K244) none)
 (cond (Nat.ble n 245)
 (cond (Nat.beq n 245) (some K245) none)
 (cond (Nat.beq n 246) (some K246) none)))
 (cond (Nat.ble n 247)
 (cond (Nat.beq n 247) (some K247) none)
 (cond (Nat.ble n 248)
 (cond (Nat.beq n 248) (some K248) none)
 (cond (Nat.beq n 249) (some K249) none)))))
 (cond (Nat.ble n 264)
 (cond (Nat.ble n 252)
 (cond (Nat.ble n 250)
 (cond (Nat.beq n 250) (some K250) none)
 (cond (Nat.ble n 251)
 (cond (Nat.beq n 251) (some K251) none)
 (cond (Nat.beq n 252) (some K252) none)))
 (cond (Nat.ble n 262)
 (cond (Nat.beq n 262) (some K262) none)
 (cond (Nat.ble n 263)
 (cond (Nat.beq n 263) (some K263) none)
 (cond (Nat.beq n 264) (some K264) none))))
 (cond (Nat.ble n 271)
 (cond (Nat.ble n 266)
 (cond (Nat.beq n 266) (some K266) none)
 (cond (Nat.ble n 270)
 (cond (Nat.beq n 270) (some K270) none)
 (cond (Nat.beq n 271) (some K271) none)))
 (cond (Nat.ble n 272)
 (cond (Nat.beq n 272) (some K272) none)
 (cond (Nat.ble n 273)
 (cond (Nat.beq n 273) (some K273) none)
 (cond (Nat.beq n 274) (some K274) none))))))
 (cond (Nat.ble n 299)
 (cond (Nat.ble n 280)
 (cond (Nat.ble n 277)
 (cond (Nat.ble n 275)
 (cond (Nat.beq n 275) (some K275) none)
 (cond (Nat.ble n 276)
 (cond (Nat.beq n 276) (some K276) none)
 (cond (Nat.beq n 277) (some K277) none)))
 (cond (Nat.ble n 278)
 (cond (Nat.beq n 278) (some K278) none)
 (cond (Nat.ble n 279)
 (cond (Nat.beq n 279) (some K279) none)
 (cond (Nat.beq n 280) (some K280) none))))
 (cond (Nat.ble n 283)
 (cond (Nat.ble n 281)
 (cond (Nat.beq n 281) (some K281) none)
 (cond (Nat.ble n 282)
 (cond (Nat.beq n 282) (some K282) none)
 (cond (Nat.beq n 283) (some K283) none)))
 (cond (Nat.ble n 284)
 (cond (Nat.beq n 284) (some K284) none)
 (cond (Nat.ble n 285)
 (cond (Nat.beq n 285) (some K285) none)
 (cond (Nat.beq n 299) (some K299) none)))))
 (cond (Nat.ble n 308)
 (cond (Nat.ble n 304)
 (cond (Nat.ble n 300)
 (cond (Nat.beq n 300) (some K300) none)
 (cond (Nat.ble n 301)
 (cond (Nat.beq n 301) (some K301) none)
 (cond (Nat.beq n 304) (some K304) none)))
 (cond (Nat.ble n 306)
 (cond (Nat.beq n 306) (some K306) none)
 (cond (Nat.ble n 307)
 (cond (Nat.beq n 307) (some K307) none)
 (cond (Nat.beq n 308) (some K308) none))))
 (cond (Nat.ble n 311)
 (cond (Nat.ble n 309)
 (cond (Nat.beq n 309) (some K309) none)
 (cond (Nat.ble n 310)
 (cond (Nat.beq n 310) (some K310) none)
 (cond (Nat.beq n 311) (some K311) none)))
 (cond (Nat.ble n 323)
 (cond (Nat.ble n 322)
 (cond (Nat.beq n 322) (some K322) none)
 (cond (Nat.beq n 323) (some K323) none))
 (cond (Nat.ble n 329)
 (cond (Nat.beq n 329) (some K329) none)
 (cond (Nat.beq n 334) (some K334) none)))))))))
def X0:FuncId→List AV→List Obj→Option (AV×List Obj):=fun _ _ _=>none
section
variable {a:List AV} {H:List Obj} {K:AV→List Obj→Prop}
theorem C62:WC X0 Gam 62 a H K↔bindP (canons H a) fun as=>bif (refsL as).isEmpty then WP X0 Gam 62 false as H (freeze H (arsOf a)) K else WCx X0 Gam 62 a H K:=WC_go rfl rfl rfl rfl
theorem C78:WC X0 Gam 78 a H K↔bindP (canons H a) fun as=>bif (refsL as).isEmpty then WP X0 Gam 78 false as H (freeze H (arsOf a)) K else WCx X0 Gam 78 a H K:=WC_go rfl rfl rfl rfl
theorem C94:WC X0 Gam 94 a H K↔bindP (canons H a) fun as=>bif (refsL as).isEmpty then WP X0 Gam 94 false as H (freeze H (arsOf a)) K else WCx X0 Gam 94 a H K:=WC_go rfl rfl rfl rfl
theorem C95:WC X0 Gam 95 a H K↔bindP (canons H a) fun as=>bif (refsL as).isEmpty then WP X0 Gam 95 false as H (freeze H (arsOf a)) K else WCx X0 Gam 95 a H K:=WC_go rfl rfl rfl rfl
theorem C96:WC X0 Gam 96 a H K↔bindP (canons H a) fun as=>bif (refsL as).isEmpty then WP X0 Gam 96 false as H (freeze H (arsOf a)) K else WCx X0 Gam 96 a H K:=WC_go rfl rfl rfl rfl
theorem C97:WC X0 Gam 97 a H K↔bindP (canons H a) fun as=>bif (refsL as).isEmpty then WP X0 Gam 97 false as H (freeze H (arsOf a)) K else WCx X0 Gam 97 a H K:=WC_go rfl rfl rfl rfl
theorem C122:WC X0 Gam 122 a H K↔bindP (canons H a) fun as=>bif (refsL as).isEmpty then WP X0 Gam 122 false as H (freeze H (arsOf a)) K else WCx X0 Gam 122 a H K:=WC_go rfl rfl rfl rfl
theorem C123:WC X0 Gam 123 a H K↔bindP (canons H a) fun as=>bif (refsL as).isEmpty then WP X0 Gam 123 false as H (freeze H (arsOf a)) K else WCx X0 Gam 123 a H K:=WC_go rfl rfl rfl rfl
theorem C139:WC X0 Gam 139 a H K↔bindP (canons H a) fun as=>bif (refsL as).isEmpty then WP X0 Gam 139 false as H (freeze H (arsOf a)) K else WCx X0 Gam 139 a H K:=WC_go rfl rfl rfl rfl
theorem C140:WC X0 Gam 140 a H K↔bindP (canons H a) fun as=>bif (refsL as).isEmpty then WP X0 Gam 140 false as H (freeze H (arsOf a)) K else WCx X0 Gam 140 a H K:=WC_go rfl rfl rfl rfl
theorem C141:WC X0 Gam 141 a H K↔bindP (canons H a) fun as=>bif (refsL as).isEmpty then WP X0 Gam 141 false as H (freeze H (arsOf a)) K else WCx X0 Gam 141 a H K:=WC_go rfl rfl rfl rfl
theorem C142:WC X0 Gam 142 a H K↔bindP (canons H a) fun as=>bif (refsL as).isEmpty then WP X0 Gam 142 false as H (freeze H (arsOf a)) K else WCx X0 Gam 142 a H K:=WC_go rfl rfl rfl rfl
theorem C147:WC X0 Gam 147 a H K↔bindP (canons H a) fun as=>bif (refsL as).isEmpty then WP X0 Gam 147 false as H (freeze H (arsOf a)) K else WCx X0 Gam 147 a H K:=WC_go rfl rfl rfl rfl
theorem C152:WC X0 Gam 152 a H K↔bindP (canons H a) fun as=>bif (refsL as).isEmpty then WP X0 Gam 152 false as H (freeze H (arsOf a)) K else WCx X0 Gam 152 a H K:=WC_go rfl rfl rfl rfl
theorem C153:WC X0 Gam 153 a H K↔bindP (canons H a) fun as=>bif (refsL as).isEmpty then WP X0 Gam 153 false as H (freeze H (arsOf a)) K else WCx X0 Gam 153 a H K:=WC_go rfl rfl rfl rfl
theorem C172:WC X0 Gam 172 a H K↔bindP (canons H a) fun as=>bif (refsL as).isEmpty then WP X0 Gam 172 false as H (freeze H (arsOf a)) K else WCx X0 Gam 172 a H K:=WC_go rfl rfl rfl rfl
theorem C173:WC X0 Gam 173 a H K↔bindP (canons H a) fun as=>bif (refsL as).isEmpty then WP X0 Gam 173 false as H (freeze H (arsOf a)) K else WCx X0 Gam 173 a H K:=WC_go rfl rfl rfl rfl
theorem C182:WC X0 Gam 182 a H K↔bindP (canons H a) fun as=>bif (refsL as).isEmpty then WP X0 Gam 182 false as H (freeze H (arsOf a)) K else WCx X0 Gam 182 a H K:=WC_go rfl rfl rfl rfl
theorem C183:WC X0 Gam 183 a H K↔bindP (canons H a) fun as=>bif (refsL as).isEmpty then WP X0 Gam 183 false as H (freeze H (arsOf a)) K else WCx X0 Gam 183 a H K:=WC_go rfl rfl rfl rfl
theorem C184:WC X0 Gam 184 a H K↔bindP (canons H a) fun as=>bif (refsL as).isEmpty then WP X0 Gam 184 false as H (freeze H (arsOf a)) K else WCx X0 Gam 184 a H K:=WC_go rfl rfl rfl rfl
theorem C185:WC X0 Gam 185 a H K↔bindP (canons H a) fun as=>bif (refsL as).isEmpty then WP X0 Gam 185 false as H (freeze H (arsOf a)) K else WCx X0 Gam 185 a H K:=WC_go rfl rfl rfl rfl
theorem C186:WC X0 Gam 186 a H K↔bindP (canons H a) fun as=>bif (refsL as).isEmpty then WP X0 Gam 186 false as H (freeze H (arsOf a)) K else WCx X0 Gam 186 a H K:=WC_go rfl rfl rfl rfl
theorem C188:WC X0 Gam 188 a H K↔bindP (canons H a) fun as=>bif (refsL as).isEmpty then WP X0 Gam 188 false as H (freeze H (arsOf a)) K else WCx X0 Gam 188 a H K:=WC_go rfl rfl rfl rfl
theorem C189:WC X0 Gam 189 a H K↔bindP (canons H a) fun as=>bif (refsL as).isEmpty then WP X0 Gam 189 false as H (freeze H (arsOf a)) K else WCx X0 Gam 189 a H K:=WC_go rfl rfl rfl rfl
theorem C196:WC X0 Gam 196 a H K↔bindP (canons H a) fun as=>bif (refsL as).isEmpty then WP X0 Gam 196 false as H (freeze H (arsOf a)) K else WCx X0 Gam 196 a H K:=WC_go rfl rfl rfl rfl
theorem C197:WC X0 Gam 197 a H K↔bindP (canons H a) fun as=>bif (refsL as).isEmpty then WP X0 Gam 197 false as H (freeze H (arsOf a)) K else WCx X0 Gam 197 a H K:=WC_go rfl rfl rfl rfl
theorem C200:WC X0 Gam 200 a H K↔bindP (canons H a) fun as=>bif (refsL as).isEmpty then WP X0 Gam 200 false as H (freeze H (arsOf a)) K else WCx X0 Gam 200 a H K:=WC_go rfl rfl rfl rfl
theorem C202:WC X0 Gam 202 a H K↔bindP (canons H a) fun as=>bif (refsL as).isEmpty then WP X0 Gam 202 false as H (freeze H (arsOf a)) K else WCx X0 Gam 202 a H K:=WC_go rfl rfl rfl rfl
theorem C205:WC X0 Gam 205 a H K↔bindP (canons H a) fun as=>bif (refsL as).isEmpty then WP X0 Gam 205 false as H (freeze H (arsOf a)) K else WCx X0 Gam 205 a H K:=WC_go rfl rfl rfl rfl
theorem C206:WC X0 Gam 206 a H K↔bindP (canons H a) fun as=>bif (refsL as).isEmpty then WP X0 Gam 206 false as H (freeze H (arsOf a)) K else WCx X0 Gam 206 a H K:=WC_go rfl rfl rfl rfl
theorem C207:WC X0 Gam 207 a H K↔bindP (canons H a) fun as=>bif (refsL as).isEmpty then WP X0 Gam 207 false as H (freeze H (arsOf a)) K else WCx X0 Gam 207 a H K:=WC_go rfl rfl rfl rfl
theorem C209:WC X0 Gam 209 a H K↔bindP (canons H a) fun as=>bif (refsL as).isEmpty then WP X0 Gam 209 false as H (freeze H (arsOf a)) K else WCx X0 Gam 209 a H K:=WC_go rfl rfl rfl rfl
theorem C226:WC X0 Gam 226 a H K↔bindP (canons H a) fun as=>bif (refsL as).isEmpty then WP X0 Gam 226 false as H (freeze H (arsOf a)) K else WCx X0 Gam 226 a H K:=WC_go rfl rfl rfl rfl
theorem C227:WC X0 Gam 227 a H K↔bindP (canons H a) fun as=>bif (refsL as).isEmpty then WP X0 Gam 227 false as H (freeze H (arsOf a)) K else WCx X0 Gam 227 a H K:=WC_go rfl rfl rfl rfl
theorem C234:WC X0 Gam 234 a H K↔bindP (canons H a) fun as=>bif (refsL as).isEmpty then WP X0 Gam 234 false as H (freeze H (arsOf a)) K else WCx X0 Gam 234 a H K:=WC_go rfl rfl rfl rfl
theorem C243:WC X0 Gam 243 a H K↔bindP (canons H a) fun as=>bif (refsL as).isEmpty then WP X0 Gam 243 false as H (freeze H (arsOf a)) K else WCx X0 Gam 243 a H K:=WC_go rfl rfl rfl rfl
theorem C244:WC X0 Gam 244 a H K↔bindP (canons H a) fun as=>bif (refsL as).isEmpty then WP X0 Gam 244 false as H (freeze H (arsOf a)) K else WCx X0 Gam 244 a H K:=WC_go rfl rfl rfl rfl
theorem C246:WC X0 Gam 246 a H K↔bindP (canons H a) fun as=>bif (refsL as).isEmpty then WP X0 Gam 246 false as H (freeze H (arsOf a)) K else WCx X0 Gam 246 a H K:=WC_go rfl rfl rfl rfl
theorem C251:WC X0 Gam 251 a H K↔bindP (canons H a) fun as=>bif (refsL as).isEmpty then WP X0 Gam 251 false as H (freeze H (arsOf a)) K else WCx X0 Gam 251 a H K:=WC_go rfl rfl rfl rfl
theorem C262:WC X0 Gam 262 a H K↔bindP (canons H a) fun as=>bif (refsL as).isEmpty then WP X0 Gam 262 false as H (freeze H (arsOf a)) K else WCx X0 Gam 262 a H K:=WC_go rfl rfl rfl rfl
theorem C263:WC X0 Gam 263 a H K↔bindP (canons H a) fun as=>bif (refsL as).isEmpty then WP X0 Gam 263 false as H (freeze H (arsOf a)) K else WCx X0 Gam 263 a H K:=WC_go rfl rfl rfl rfl
theorem C266:WC X0 Gam 266 a H K↔bindP (canons H a) fun as=>bif (refsL as).isEmpty then WP X0 Gam 266 false as H (freeze H (arsOf a)) K else WCx X0 Gam 266 a H K:=WC_go rfl rfl rfl rfl
theorem C281:WC X0 Gam 281 a H K↔bindP (canons H a) fun as=>bif (refsL as).isEmpty then WP X0 Gam 281 false as H (freeze H (arsOf a)) K else WCx X0 Gam 281 a H K:=WC_go rfl rfl rfl rfl
theorem C284:WC X0 Gam 284 a H K↔bindP (canons H a) fun as=>bif (refsL as).isEmpty then WP X0 Gam 284 false as H (freeze H (arsOf a)) K else WCx X0 Gam 284 a H K:=WC_go rfl rfl rfl rfl
theorem C285:WC X0 Gam 285 a H K↔bindP (canons H a) fun as=>bif (refsL as).isEmpty then WP X0 Gam 285 false as H (freeze H (arsOf a)) K else WCx X0 Gam 285 a H K:=WC_go rfl rfl rfl rfl
theorem C310:WC X0 Gam 310 a H K↔bindP (canons H a) fun as=>bif (refsL as).isEmpty then WP X0 Gam 310 false as H (freeze H (arsOf a)) K else WCx X0 Gam 310 a H K:=WC_go rfl rfl rfl rfl
theorem C311:WC X0 Gam 311 a H K↔bindP (canons H a) fun as=>bif (refsL as).isEmpty then WP X0 Gam 311 false as H (freeze H (arsOf a)) K else WCx X0 Gam 311 a H K:=WC_go rfl rfl rfl rfl
end
end Go.Proofs.YtjkdcddpicndgaaGreatDoor

/- Part of the proof of Rows.ProverMiddlesCardSaid: EvO3, EvO4, EvO5, EvO6. -/
import Derived.Laws.MakeOwn
import Derived.Test.YtepbfecmageleaaGreatDoorP05
set_option linter.all false
namespace Go.Proofs.YtepbfecmageleaaGreatDoor
open Go
variable [Sub]
section
variable {P:Program} {w:World} {g:Gh} {H:List Obj}
variable {a:Act} {dst:Option Tmp} {ty:TypeId} {pos:String} {after:Array Edge} {gd:Option (Nat×Bool)}
def BdOk (v:Option Value) (d n:Nat):Prop:=(v = none∧n = d)∨∃ k,v = some (.int k n)
theorem run_bounds {isSlice:Bool} {len cap l h m:Nat} {lo hi mx:Option Value} (hl:BdOk lo 0 l) (hh:BdOk hi len h) (hm:BdOk mx cap m) (hhm:mx.isSome = true→hi.isSome = true)
    (h1:l ≤ h) (h2:h ≤ m) (h3:m ≤ cap):(Instr.sliceBounds isSlice len cap lo hi mx).run P w = .ok (l,h,m) w:=by
  rcases hl with ⟨rfl,rfl⟩ | ⟨kl,rfl⟩ <;> rcases hh with ⟨rfl,rfl⟩ | ⟨kh,rfl⟩ <;> rcases hm with ⟨rfl,rfl⟩ | ⟨km,rfl⟩ <;>
    first
    | (simp at hhm; done)
    | (simp [Instr.sliceBounds,Instr.sliceBound,asIntOf,h1,h2,h3]; done)
theorem run_sliceV {t e:TypeId} {ti:TypeInfo} {x:Operand} {lo hi mx:Option Operand} {p:Option Addr} {len cap l h m:Nat} (ht:P.underlying t = some (.slice e)) (hi':P.info? e = some ti)
    (hc:a.eval x = .slice p len cap) (hl:BdOk (lo.map a.eval) 0 l) (hh:BdOk (hi.map a.eval) len h) (hm:BdOk (mx.map a.eval) cap m) (hhm:mx.isSome = true→hi.isSome = true)
    (h1:l ≤ h) (h2:h ≤ m) (h3:m ≤ cap) :
    (execOp a.eval ⟨dst,.slice t x lo hi mx,ty,pos,after,gd⟩).run P w = .ok (.value (.slice (if m = l then p else p.map (·.add (l * ti.size))) (h - l) (m - l))) w:=by
  have hb:=run_bounds (P:=P) (w:=w) (isSlice:=true) hl hh hm (by simpa using hhm) h1 h2 h3
  simp [execOp,hc,Instr.sliceAt,Instr.slice,run_underlying ht,hb,sizeOf,typeInfo,hi']
theorem sliceAV_rep {p:Option Addr} {n cap es L h:Nat} {mf:Bool} {u v:AV} {H':List Obj} (hs:StRel w g H) (hx:Rep w g H (.slice p n cap) u) (hn:lenOf u = some n)
    (hv:sliceAV H es u L h mf = some (v,H')):L ≤ h∧h ≤ n∧n ≤ cap∧∀ m,(m = if mf then h else cap) →
      ∃ g',Evo w g H w g' H'∧StRel w g' H'∧Rep w g' H' (.slice (if m = L then p else p.map (·.add (L * es))) (h - L) (m - L)) v:=by
  have still:∀ (mf:Bool) (rows:List (List PV)),RepP w g.D (.slice p n cap) (.sl rows)→rows.length = n→n ≤ cap →
      (if L ≤ h∧h ≤ rows.length∧rows.all (fun r=>r.length == es) then some (if mf then AV.lit ((rows.drop L).take (h - L)) else .p (.sl ((rows.drop L).take (h - L))),H) else none) = some (v,H') →
      L ≤ h∧h ≤ n∧n ≤ cap∧∀ m,(m = if mf then h else cap)→∃ g',Evo w g H w g' H'∧StRel w g' H'∧Rep w g' H' (.slice (if m = L then p else p.map (·.add (L * es))) (h - L) (m - L)) v:=fun mf rows hr hl hnc hv=>by
    split at hv
    · rename_i hcond
      obtain ⟨c1,c2,c3⟩:=hcond
      cases hv
      refine ⟨c1,by omega,hnc,fun m hm=>⟨g,.refl _ _ _,hs,?_⟩⟩
      cases mf with
      | true =>
        simp only [if_true] at hm ⊢
        subst hm
        exact .lit (hr.sub (all_len c3) c1 (by omega) m (by omega) (by omega) rfl)
      | false =>
        simp only [Bool.false_eq_true,if_false] at hm ⊢
        subst hm
        exact .p (hr.sub (all_len c3) c1 (by omega) m (by omega) (by omega) rfl)
    · cases hv
  cases hx with
  | p hp =>
    cases hp with
    | v=>cases hn
    | h=>cases hn
    | nsl =>
      simp only [sliceAV] at hv
      split at hv
      · rename_i hcond
        obtain ⟨rfl,rfl⟩:=hcond
        cases hv
        refine ⟨by omega,by omega,by omega,fun m hm=>⟨g,.refl _ _ _,hs,?_⟩⟩
        cases mf <;> simp at hm <;> subst hm <;> exact .p .nsl
      · cases hv
    | nil=>exact still mf _ .nil rfl (Nat.le_refl _) hv
    | sl cs h1 h2 h3 h4 h5 h6=>exact still mf _ (.sl cs h1 h2 h3 h4 h5 h6) h1 h2 hv
  | lit hp =>
    simp only [lenOf,Option.some.injEq] at hn
    rename_i rows
    cases rows with
    | cons r0 rows=>exact still mf _ hp hn (Nat.le_refl _) hv
    | nil =>
      simp only [sliceAV] at hv
      split at hv
      · rename_i hcond
        obtain ⟨rfl,rfl⟩:=hcond
        cases hv
        have hn0:n = 0:=by simpa using hn.symm
        subst hn0
        refine ⟨by omega,by omega,by omega,fun m hm=>⟨g,.refl _ _ _,hs,?_⟩⟩
        have hm0:m = 0:=by rw [hm]; split <;> rfl
        subst hm0
        simpa using .lit hp
      · cases hv
  | @ar l v' off _ _ _ hA =>
    obtain ⟨h1,h2,es',fz,ver,rows,hH,hv',hoff,hf⟩:=id hA
    simp only [sliceAV,hH] at hv
    split at hv
    · rename_i hcond
      obtain ⟨rfl,c1,c2,c3⟩:=hcond
      refine ⟨c1,c2,h1,fun m hm=>?_⟩
      cases mf with
      | false =>
        simp only [Bool.false_eq_true,if_false,Option.some.injEq,Prod.mk.injEq] at hv hm
        obtain ⟨rfl,rfl⟩:=hv
        subst hm
        refine ⟨g,.refl _ _ _,hs,.ar ⟨by omega,?_,es',fz,ver,rows,hH,hv',by omega,fun hsn=>⟨?_,fun e1 e2=>?_,fun e1=>by have:=(hf hsn).2.2 e1; omega⟩⟩⟩
        · rcases h2 with ⟨rfl,rfl⟩ | ⟨b,o,rfl⟩
          · exact .inl ⟨by split <;> rfl,by omega⟩
          · refine .inr ?_
            split
            · exact ⟨b,o,rfl⟩
            · exact ⟨b,o + L * es',by simp [addr_add]⟩
        · obtain ⟨h3,_,_⟩:=hf hsn
          cases fz with
          | none =>
            intro h0
            have:=h3 (by omega)
            subst this
            have hne:¬ m = L:=by omega
            rw [if_neg hne]
            simp only [Option.map_some,addr_add,Nat.add_mul]
            rw [Nat.add_assoc]
          | some f =>
            have h3':RepP w g.D (.slice p n m) (.sl ((rows.drop off).take n)):=h3
            obtain ⟨_,hes,_⟩:=hs.objs _ _ hH
            have:=h3'.sub (l:=L) (h:=h) (cap':=m - L) (es:=es') (fun r hr=>hes r (List.mem_of_mem_drop (List.mem_of_mem_take hr))) c1 c2 m (by omega) (Nat.le_refl _) rfl
            rw [List.drop_take,List.take_take,List.drop_drop,Nat.min_eq_left (by omega)] at this
            exact this
        · obtain ⟨_,h3,_⟩:=hf hsn
          have hL:L = 0:=by omega
          have ho:off = 0:=by omega
          subst hL
          subst ho
          obtain ⟨e4,e5⟩:=h3 e1 rfl
          subst e4
          refine ⟨?_,by omega⟩
          split
          · rfl
          · simp [addr_add]
      | true =>
        simp only [if_true] at hv hm
        subst hm
        split at hv
        · rename_i hsn
          simp only [Option.some.injEq,Prod.mk.injEq] at hv
          obtain ⟨rfl,rfl⟩:=hv
          obtain ⟨g',he,hs'⟩:=evo_freeze [l] hs
          refine ⟨g',he,hs',?_⟩
          have hl:l < H.length:=(List.getElem?_eq_some_iff.1 hH).1
          have hr:=he.rep _ _ (.ar hA)
          cases hr with
          | ar hA' =>
            obtain ⟨_,_,es2,fz2,ver2,rows2,hH2,_,_,hf2⟩:=hA'
            have hfz:∃ f,(freeze H [l])[l]? = some (.arr es' (some f) ver rows)∧seen (some f) ver v' = true:=by
              cases fz with
              | none =>
                refine ⟨ver,by simp only [freeze,hH]; exact List.getElem?_set_self hl,?_⟩
                simp only [seen,beq_iff_eq] at hsn
                simp [seen,hsn]
              | some f=>exact ⟨f,by simp [freeze,hH],hsn⟩
            obtain ⟨f,e1,e2⟩:=hfz
            rw [e1] at hH2
            cases hH2
            obtain ⟨h3,_⟩:=hf2 e2
            have h3':RepP w g'.D (.slice p n cap) (.sl ((rows.drop off).take n)):=h3
            obtain ⟨_,hes,_⟩:=hs.objs _ _ hH
            have:=h3'.sub (l:=L) (h:=m) (cap':=m - L) (es:=es') (fun r hr=>hes r (List.mem_of_mem_drop (List.mem_of_mem_take hr))) c1 c2 m (by omega) (by omega) rfl
            rw [List.drop_take,List.take_take,List.drop_drop,Nat.min_eq_left (by omega)] at this
            exact .lit this
        · cases hv
    · cases hv
  | emp=>simp [sliceAV] at hv
  | csl=>simp [sliceAV] at hv
  | _=>cases hn
def BdA (a:Act) (x:Option Operand) (d n:Int):Prop:=(x = none∧n = d)∨∃ y k,x = some y∧a.eval y = .int k n
theorem BdA.ok {x:Option Operand} {d:Nat} {n:Int} (h:BdA a x d n) (h0:0 ≤ n):BdOk (x.map a.eval) d n.toNat:=by
  rcases h with ⟨rfl,rfl⟩ | ⟨y,k,rfl,h⟩
  · exact .inl ⟨rfl,by omega⟩
  · exact .inr ⟨k,by simp [h,Int.toNat_of_nonneg h0]⟩
theorem sim_slice {t e:TypeId} {ti:TypeInfo} {x:Operand} {lo hi mx:Option Operand} {u v:AV} {l h:Int} {m:Option Int} {n:Nat} {H':List Obj} (hs:StRel w g H)
    (ht:P.underlying t = some (.slice e)) (hi':P.info? e = some ti) (hx:Rep w g H (a.eval x) u) (hn:lenOf u = some n)
    (hl:BdA a lo 0 l) (hh:BdA a hi n h) (hm:(mx = none∧m = none)∨∃ y k m',mx = some y∧m = some m'∧a.eval y = .int k m') (hhm:mx.isSome = true→hi.isSome = true)
    (hv:sliceB H ti.size u l h m = some (v,H')):OpSim P a w g H ⟨dst,.slice t x lo hi mx,ty,pos,after,gd⟩ v H':=by
  unfold sliceB at hv
  split at hv
  · rename_i h0
    obtain ⟨hl0,hh0⟩:=h0
    obtain ⟨p,cap,hc,hncap⟩:=len_rep hx hn
    rw [hc] at hx
    have hL:=hl.ok hl0
    have hH:=hh.ok hh0
    rcases hm with ⟨rfl,rfl⟩ | ⟨y,k,m',rfl,rfl,hy⟩
    · simp only at hv
      obtain ⟨c1,c2,c3,hrep⟩:=sliceAV_rep hs hx hn hv
      obtain ⟨g',e1,e2,e3⟩:=hrep cap rfl
      exact ⟨_,w,g',.inl (run_sliceV ht hi' hc hL hH (.inl ⟨rfl,rfl⟩) hhm c1 (by omega) (Nat.le_refl _)),e1,e2,.inr e3⟩
    · simp only at hv
      split at hv
      · rename_i hmh
        subst hmh
        obtain ⟨c1,c2,c3,hrep⟩:=sliceAV_rep hs hx hn hv
        obtain ⟨g',e1,e2,e3⟩:=hrep _ rfl
        simp only [if_true] at e3
        exact ⟨_,w,g',.inl (run_sliceV ht hi' hc hL hH (.inr ⟨k,by simp [hy,Int.toNat_of_nonneg hh0]⟩) hhm c1 (Nat.le_refl _) (by omega)),e1,e2,.inr e3⟩
      · cases hv
  · cases hv
theorem run_sliceS {t:TypeId} {x:Operand} {lo hi:Option Operand} {s:ByteArray} {l h:Int} (ht:P.underlying t = some .string) (hx:Rep w g H (a.eval x) (.p (.v (.string s))))
    (hl:BdA a lo 0 l) (hh:BdA a hi s.size h) (h0:0 ≤ l) (h1:l ≤ h) (h2:h ≤ s.size):RunV P a w g H ⟨dst,.slice t x lo hi none,ty,pos,after,gd⟩ (.p (.v (.string (s.extract l.toNat h.toNat)))):=by
  have hb:=run_bounds (P:=P) (w:=w) (isSlice:=false) (len:=s.size) (cap:=s.size) (hl.ok h0) (hh.ok (by omega)) (.inl ⟨rfl,rfl⟩) (by simp) (by omega) (by omega) (Nat.le_refl _)
  exact ⟨_,by simp [execOp,hx.val.1,Instr.sliceAt,Instr.slice,run_underlying ht,hb],.v rfl⟩
theorem rows_rep {es:Nat} {c:Value} {v:AV} {ys:List (List PV)} (hs:StRel w g H) (h:Rep w g H c v) (hy:rowsOf H v = some ys) (hes:∀ r ∈ ys,r.length = es) :
    ∃ p cap,c = .slice p ys.length cap∧ys.length ≤ cap∧(0 < ys.length→∃ b o,p = some ⟨b,o,none⟩ ∧
      ∀ (i j:Nat) (row:List PV) (x:PV),ys[i]? = some row→row[j]? = some x→∃ u,cellAt w b (o + i * es + j) = some u∧RepP w g.D u x):=by
  have still:∀ {p:Option Addr} {n cap:Nat} {rows:List (List PV)},RepP w g.D (.slice p n cap) (.sl rows)→(∀ r ∈ rows,r.length = es) →
      ∃ p' cap',Value.slice p n cap = .slice p' rows.length cap'∧rows.length ≤ cap'∧(0 < rows.length→∃ b o,p' = some ⟨b,o,none⟩ ∧
        ∀ (i j:Nat) (row:List PV) (x:PV),rows[i]? = some row→row[j]? = some x→∃ u,cellAt w b (o + i * es + j) = some u∧RepP w g.D u x):=fun {p n cap rows} hr hl=>by
    obtain ⟨h1,h2,h3,h4⟩:=hr.rows hl
    refine ⟨p,cap,by rw [h1],by omega,fun h0=>?_⟩
    obtain ⟨b,o,e,h5⟩:=h4 (by omega)
    exact ⟨b,o,e,fun i j row x a b=>(h5 i j row x a b).2⟩
  cases h with
  | p hp =>
    cases hp with
    | v=>cases hy
    | h=>cases hy
    | nsl=>cases hy; exact ⟨none,0,rfl,Nat.le_refl _,fun h=>by simp at h⟩
    | nil=>cases hy; exact ⟨none,0,rfl,Nat.le_refl _,fun h=>by simp at h⟩
    | sl cs h1 h2 h3 h4 h5 h6=>cases hy; exact still (.sl cs h1 h2 h3 h4 h5 h6) hes
  | lit hp=>cases hy; exact still hp hes
  | @ar l v' off n p cap hA =>
    obtain ⟨h1,h2,es',fz,ver,rows,hH,hv',hoff,hf⟩:=hA
    simp only [rowsOf,hH] at hy
    split at hy
    · rename_i hcond
      obtain ⟨hsn,hle⟩:=hcond
      cases hy
      obtain ⟨h3,_⟩:=hf hsn
      have hlen:((rows.drop off).take n).length = n:=by simp; omega
      cases fz with
      | some f =>
        have:=still (rows:=(rows.drop off).take n) (p:=p) (n:=n) (cap:=cap) h3 hes
        exact this
      | none =>
        refine ⟨p,cap,by rw [hlen],by omega,fun h0=>?_⟩
        have hp:=h3 (by omega)
        obtain ⟨_,hes',_,h5,_⟩:=hs.objs _ _ hH
        refine ⟨_,_,hp,fun i j row x hi hj=>?_⟩
        have hi':rows[off + i]? = some row:=by
          rw [List.getElem?_take] at hi
          split at hi
          · rwa [List.getElem?_drop] at hi
          · cases hi
        have he:es' = es:=by rw [← hes row (List.mem_of_getElem? hi),hes' row (List.mem_of_getElem? hi')]
        subst he
        obtain ⟨u,e1,e2⟩:=h5 (off + i) j row x hi' hj
        exact ⟨u,by rw [← e1,Nat.add_mul]; congr 1; omega,e2⟩
    · cases hy
  | emp=>cases hy; exact ⟨_,_,rfl,Nat.zero_le _,fun h=>by simp at h⟩
  | _=>cases hy
end
end Go.Proofs.YtepbfecmageleaaGreatDoor
namespace Go.Proofs.YtepbfecmageleaaGreatDoor
open Go
variable [Sub]
section
variable {P:Program} {w:World} {g:Gh} {H:List Obj}
variable {a:Act} {dst:Option Tmp} {ty:TypeId} {pos:String} {after:Array Edge} {gd:Option (Nat×Bool)}
theorem bytesOf_ints:∀ {rows:List (List PV)} {l:List UInt8},bytesOf rows = some l→∃ xs:List Int,rows = xs.map (fun n=>[.v (.int .u8 n)])∧l = xs.map fun n=>UInt8.ofNat n.toNat
  | [],l,h=>by cases h; exact ⟨[],rfl,rfl⟩
  | r::rs,l,h=>by
    unfold bytesOf at h
    split at h
    · rename_i he; cases he
    · rename_i n r' he
      cases he
      simp only [Option.map_eq_some_iff] at h
      obtain ⟨l',hl,rfl⟩:=h
      obtain ⟨xs,rfl,rfl⟩:=bytesOf_ints hl
      exact ⟨n::xs,rfl,rfl⟩
    · cases h
theorem run_b2s {s d e:TypeId} {x:Operand} {u:AV} {rows:List (List PV)} {l:List UInt8} (h0:StRel w g H) (hs:P.underlying s = some (.slice e)) (he:P.underlying e = some (.int .u8)) (hd:P.underlying d = some .string)
    (hx:Rep w g H (a.eval x) u) (hr:rowsOf H u = some rows) (hb:bytesOf rows = some l):RunV P a w g H ⟨dst,.convert s d x,ty,pos,after,gd⟩ (.p (.v (.string ⟨l.toArray⟩))):=by
  obtain ⟨xs,rfl,rfl⟩:=bytesOf_ints hb
  obtain ⟨p,cap,hc,hcap,hcell⟩:=rows_rep (es:=1) h0 hx hr (fun r hr=>by simp at hr; obtain ⟨n,_,rfl⟩:=hr; rfl)
  refine ⟨_,?_,.v rfl⟩
  simp only [List.length_map] at hc hcell
  cases p with
  | none =>
    have h0:xs = []:=by
      cases xs with
      | nil=>rfl
      | cons y ys=>obtain ⟨b,o,e,_⟩:=hcell (by simp); cases e
    subst h0
    have:=run_convert_bytes_nil (P:=P) w s e hs he 0 cap d hd
    simp [execOp,hc,this]
    rfl
  | some ad =>
    cases xs with
    | nil =>
      have hrun:(Go.convert s d (.slice (some ad) 0 cap)).run P w = .ok (.string ByteArray.empty) w:=by
        rw [run_convert_bytes_string w s d e (some ad) 0 cap hs he hd]
        simp [Conv.bytesToString,loadCells,loadCellsFrom]
      simp at hc
      simp [execOp,hc,hrun]
      rfl
    | cons y ys =>
      obtain ⟨b,o,e1,hcell2⟩:=hcell (by simp)
      cases e1
      have:=run_convert_bytes_arg (P:=P) w s e hs he b o (y::ys).length cap (y::ys) rfl (fun i hi=>by
        obtain ⟨c,h1,h2⟩:=hcell2 i 0 [.v (.int .u8 ((y::ys)[i]))] (.v (.int .u8 ((y::ys)[i]))) (by rw [List.getElem?_map,List.getElem?_eq_getElem hi]; rfl) rfl
        simp only [Nat.mul_one,Nat.add_zero] at h1
        rw [h2.int] at h1
        have h3:w.cell? ⟨b,o + i,none⟩ = some (Value.int .u8 (y::ys)[i]):=h1
        rw [h3,List.getD_eq_getElem?_getD,List.getElem?_eq_getElem hi]; rfl) d hd
      simp only [List.length_cons] at this
      simp [execOp,hc,this,strOfNums]
theorem byteArray_beq {a b:ByteArray} (h:(a == b) = true):a = b:=by
  have h':ByteArray.beq a b = true:=h
  unfold ByteArray.beq at h'
  cases a; cases b
  simp at h'
  simp [h']
theorem byteArray_beq_self (a:ByteArray):(a == a) = true:=by
  show ByteArray.beq a a = true
  unfold ByteArray.beq
  cases a
  simp
theorem sim_newCells {o:Oper} {w':World} {vs:Array Value} {e:TypeId} {cs:List AV} (hs:StRel w g H) (hr:(execOp a.eval o).run P w = .ok (.value (.pointer (some ⟨w.heap.size,0,none⟩))) w')
    (hp:Pushed w w' (.cells vs e (0,0))) (hsz:vs.size = cs.length) (hcs:∀ (i:Nat) (c:Value) (x:AV),vs[i]? = some c→cs[i]? = some x→Rep w g H c x∧c.oneCell' = true) :
    OpSim P a w g H o (.ptr H.length 0) (H++[.cells cs]):=by
  obtain ⟨e1,e2⟩:=evo_new (cap:=0) (o:=.cells cs) hp hs (fun _ _ _ _ h=>by cases h) (fun hr=>⟨vs,e,by rw [Gh.add_eq.1]; exact hp.new,hsz,fun i v x hv hx=>⟨hr _ _ (hcs i v x hv hx).1,(hcs i v x hv hx).2⟩⟩)
  refine ⟨_,w',_,.inl hr,e1,e2,.inr ?_⟩
  have:Rep w' (g.add H.length w.heap.size 0 0) (H++[.cells cs]) (.pointer (some ⟨(g.add H.length w.heap.size 0 0).blk H.length,0,none⟩)) (.ptr H.length 0):=.ptr (c:=cs) (by simp)
  rwa [Gh.add_eq.1] at this
theorem mapM_some {α β:Type} {f:α→Option β}:∀ {l:List α} {r:List β},l.mapM f = some r→l.length = r.length∧∀ (i:Nat) (x:α) (y:β),l[i]? = some x→r[i]? = some y→f x = some y
  | [],r,h=>by simp at h; subst h; exact ⟨rfl,fun i x y h=>by simp at h⟩
  | x::l,r,h=>by
    simp only [List.mapM_cons,Option.bind_eq_bind,Option.bind_eq_some_iff,Option.pure_def,Option.some.injEq] at h
    obtain ⟨y,hy,r',hr,rfl⟩:=h
    obtain ⟨h1,h2⟩:=mapM_some hr
    refine ⟨by simp [h1],fun i u v hu hv=>?_⟩
    cases i with
    | zero=>simp at hu hv; subst hu; subst hv; exact hy
    | succ i=>simp at hu hv; exact h2 i u v hu hv
theorem cvt_one {keep:Bool} {v:Value} {x:AV} (h:cvt keep v = some x):v.oneCell' = true:=by
  unfold cvt at h
  split at h <;> first | rfl | (cases h; done) | skip
  cases v <;> first | rfl | simp_all
theorem cvtP_rep {D:Nat→Nat→Prop} {keep:Bool} {v:Value} {x:PV} (h:cvtP keep v = some x):RepP w D v x:=by
  unfold cvtP at h
  split at h
  · cases h
    cases keep
    · exact .nil
    · exact .nsl
  all_goals first | (cases h; done) | skip
  cases h
  refine .v ?_
  cases v <;> first | rfl | skip
  case chan r _ _ _ _ _ _ _ _ _=>cases r <;> simp_all [Scalar]
  all_goals simp_all
theorem zeroT_rep {kn:TypeId→Bool} {t:TypeId} {zero:List AV} (h:zeroT P kn t = some zero):∃ i z,P.info? t = some i∧i.zero = some z∧z.cells.size = zero.length ∧
    ∀ (j:Nat) (c:Value) (x:AV),z.cells[j]? = some c→zero[j]? = some x→Rep w g H c x∧c.oneCell' = true:=by
  unfold zeroT at h
  simp only [Option.bind_eq_some_iff] at h
  obtain ⟨z,⟨i,hi,hz⟩,hm⟩:=h
  obtain ⟨h1,h2⟩:=mapM_some hm
  exact ⟨i,z,hi,hz,by simpa using h1,fun j c x hc hx=>⟨cvt_rep (h2 j c x (by simpa using hc) hx),cvt_one (h2 j c x (by simpa using hc) hx)⟩⟩
theorem zeroP_rep {kn:TypeId→Bool} {t:TypeId} {zero:List PV} (h:zeroP P kn t = some zero):∃ i z,P.info? t = some i∧i.zero = some z∧z.cells.size = zero.length ∧
    ∀ (D:Nat→Nat→Prop) (j:Nat) (c:Value) (x:PV),z.cells[j]? = some c→zero[j]? = some x→RepP w D c x:=by
  unfold zeroP at h
  simp only [Option.bind_eq_some_iff] at h
  obtain ⟨z,⟨i,hi,hz⟩,hm⟩:=h
  obtain ⟨h1,h2⟩:=mapM_some hm
  exact ⟨i,z,hi,hz,by simpa using h1,fun D j c x hc hx=>cvtP_rep (h2 j c x (by simpa using hc) hx)⟩
theorem sim_alloc {kn:TypeId→Bool} {t:TypeId} {zero:List AV} (hs:StRel w g H) (h:zeroT P kn t = some zero):OpSim P a w g H ⟨dst,.alloc t,ty,pos,after,gd⟩ (.ptr H.length 0) (H++[.cells zero]):=by
  obtain ⟨i,z,hi,hz,hl,hr⟩:=zeroT_rep (w:=w) (g:=g) (H:=H) h
  exact sim_newCells (w':={ w with heap:=w.heap.push (.cells z.cells t) }) (vs:=z.cells) (e:=t) hs (by simp [execOp,Instr.alloc,zeroValue,typeInfo,hi,hz,newVar,newRow]) ⟨rfl,rfl,rfl,⟨rfl,by first | exact Nat.le_refl _ | exact Nat.le_succ _⟩⟩ hl hr
theorem sim_box {t:TypeId} {x:Operand} {u:AV} {cs:List AV} (hs:StRel w g H) (hx:Rep w g H (a.eval x) u) (hc:cellsOf u = some cs) :
    OpSim P a w g H ⟨dst,.box t x,ty,pos,after,gd⟩ (.ptr H.length 0) (H++[.cells cs]):=by
  obtain ⟨h1,h2⟩:=cellsOf_rep hx hc
  exact sim_newCells (w':={ w with heap:=w.heap.push (.cells (a.eval x).cells t) }) (vs:=(a.eval x).cells) (e:=t) hs (by simp [execOp,Instr.box,newVar,newRow]) ⟨rfl,rfl,rfl,⟨rfl,by first | exact Nat.le_refl _ | exact Nat.le_succ _⟩⟩ h1 h2
theorem sim_mkmap {t:TypeId} (hs:StRel w g H):OpSim P a w g H ⟨dst,.makeMap t none,ty,pos,after,gd⟩ (.map H.length) (H++[.map []]):=by
  have hp:Pushed w { w with heap:=w.heap.push (.map #[] 0) } (.map #[] 0):=⟨rfl,rfl,rfl,⟨rfl,Nat.le_refl _⟩⟩
  obtain ⟨e1,e2⟩:=evo_new (cap:=0) (o:=.map []) hp hs (fun _ _ _ _ h=>by cases h) (fun _=>⟨#[],0,⟨by rw [Gh.add_eq.1]; exact hp.new,by simp,by simp⟩,rfl,fun i e p h=>by simp at h⟩)
  refine ⟨.map (some w.heap.size),_,_,.inl (by simp [execOp,Instr.makeMap]),e1,e2,.inr ?_⟩
  have:Rep { w with heap:=w.heap.push (.map #[] 0) } (g.add H.length w.heap.size 0 0) (H++[.map []]) (.map (some ((g.add H.length w.heap.size 0 0).blk H.length))) (.map H.length):=.map (es:=[]) (by simp)
  rwa [Gh.add_eq.1] at this
theorem sim_newArr {o:Oper} {w':World} {vs:Array Value} {e:TypeId} {es cap:Nat} {rows:List (List PV)} (hs:StRel w g H) (hr:(execOp a.eval o).run P w = .ok (.value (.slice (some ⟨w.heap.size,0,none⟩) rows.length cap)) w')
    (hp:Pushed w w' (.cells vs e (0,0))) (hcap:rows.length ≤ cap) (hes:∀ r ∈ rows,r.length = es) (hsz:cap * es ≤ vs.size)
    (hcs:∀ (i j:Nat) (row:List PV) (x:PV),rows[i]? = some row→row[j]? = some x→∃ c,vs[i * es + j]? = some c∧RepP w g.D c x) :
    OpSim P a w g H o (.ar H.length 0 0 rows.length) (H++[.arr es none 0 rows]):=by
  have hcell:∀ b i,g.D b i→cellAt w' b i = cellAt w b i:=fun b i hd=>cellAt_heap (hp.old (hs.dom b i hd)) i
  obtain ⟨e1,e2⟩:=evo_new (cap:=cap) (o:=.arr es none 0 rows) hp hs (fun _ _ _ _ h=>by cases h) (fun _=>⟨by rw [Gh.add_eq.2.2]; exact hcap,hes,⟨vs,e,by rw [Gh.add_eq.1]; exact hp.new,by rw [Gh.add_eq.2.1,Gh.add_eq.2.2]; omega⟩,
    fun i j row x hi hj=>by
      obtain ⟨c,h1,h2⟩:=hcs i j row x hi hj
      exact ⟨c,by rw [Gh.add_eq.1,Gh.add_eq.2.1,cellAt_cells hp.new,Nat.zero_add]; exact h1,h2.mono (fun _ _ h=>h) hcell⟩,fun i j h=>by cases h⟩)
  refine ⟨_,w',_,.inl hr,e1,e2,.inr (.ar ⟨hcap,.inr ⟨_,_,rfl⟩,es,none,0,rows,by simp,Nat.le_refl _,by omega,fun _=>⟨fun _=>?_,fun _ _=>?_,fun _=>by omega⟩⟩)⟩
  · rw [Gh.add_eq.1,Gh.add_eq.2.1]; simp
  · rw [Gh.add_eq.1,Gh.add_eq.2.1,Gh.add_eq.2.2]; exact ⟨rfl,rfl⟩
theorem madeCells_get {z:Array Value} {n size i j:Nat} (hz:z.size = size) (hi:i < n) (hj:j < size):(madeCells z (n * size))[i * size + j]? = z[j]?:=by
  have h1:i * size + j < n * size:=by
    have:=Nat.mul_le_mul_right size (show i + 1 ≤ n by omega)
    rw [Nat.add_mul,Nat.one_mul] at this; omega
  have h2:(i * size + j) % size = j:=by rw [Nat.mul_comm,Nat.mul_add_mod,Nat.mod_eq_of_lt hj]
  have h3:j < z.size:=by omega
  simp [madeCells,h1,hz,h2]
  rw [getElem!_pos z j h3,Array.getElem?_eq_getElem h3]
theorem sim_mkslice {kn:TypeId→Bool} {t e:TypeId} {ti:TypeInfo} {x y:Operand} {zero:List PV} {j k:IntKind} {n m:Int} {v:AV} {H':List Obj} (hs:StRel w g H) (ht:P.underlying t = some (.slice e)) (hi:P.info? e = some ti)
    (hz:zeroP P kn e = some zero) (hl:zero.length = ti.size) (hx:Rep w g H (a.eval x) (.p (.v (.int j n)))) (hy:Rep w g H (a.eval y) (.p (.v (.int k m)))) (h:mkSlice H ti.bytes zero n m = some (v,H')) :
    OpSim P a w g H ⟨dst,.makeSlice t x y,ty,pos,after,gd⟩ v H':=by
  unfold mkSlice at h
  split at h
  · rename_i hc
    obtain ⟨c1,c2,c3,c4⟩:=hc
    cases h
    obtain ⟨i,z,hi',hz',hzl,hzr⟩:=zeroP_rep (w:=w) hz
    rw [hi] at hi'
    cases hi'
    have hr:=run_make (P:=P) w t e ti z ht hi hz' j k n m c1 c2 c3 c4
    have hlen:(List.replicate n.toNat zero).length = n.toNat:=by simp
    have:=sim_newArr (P:=P) (a:=a) (o:=⟨dst,.makeSlice t x y,ty,pos,after,gd⟩) (rows:=List.replicate n.toNat zero) (es:=zero.length) (cap:=m.toNat) (w':=w.alloc (.cells (madeCells z.cells (m.toNat * ti.size)) e)) hs
      (by rw [hlen]; simp [execOp,hx.val.1,hy.val.1,hr]) ⟨rfl,rfl,rfl,⟨rfl,by first | exact Nat.le_refl _ | exact Nat.le_succ _⟩⟩ (by rw [hlen]; omega) (fun r hr=>by simp at hr; rw [hr.2]) (by rw [size_madeCells,hl]; exact Nat.le_refl _) (fun i j row x hrow hx'=>by
        rw [List.getElem?_replicate] at hrow
        split at hrow
        · rename_i hin
          cases hrow
          have hj:j < zero.length:=(List.getElem?_eq_some_iff.1 hx').1
          have hjz:j < z.cells.size:=by omega
          refine ⟨z.cells[j],?_,hzr _ j _ _ (by simp [hjz]) hx'⟩
          rw [hl,madeCells_get (by omega) (by omega) (by omega)]
          simp [hjz]
        · cases hrow)
    rwa [hlen] at this
  · cases h
end
end Go.Proofs.YtepbfecmageleaaGreatDoor
namespace Go.Proofs.YtepbfecmageleaaGreatDoor
open Go
variable [Sub]
theorem splice_eq {α:Type}:∀ {cs:List α} {n:Nat} {xs cs':List α},splice cs n xs = some cs'→n + xs.length ≤ cs.length∧cs' = cs.take n++xs++cs.drop (n + xs.length)
  | c::cs,n + 1,xs,cs',h=>by
    simp only [splice,Option.map_eq_some_iff] at h
    obtain ⟨r,hr,rfl⟩:=h
    obtain ⟨h1,rfl⟩:=splice_eq hr
    refine ⟨by simp; omega,?_⟩
    rw [Nat.add_right_comm]
    simp
  | [],0,[],cs',h=>by simp only [splice,Option.some.injEq] at h; subst h; simp
  | c::cs,0,[],cs',h=>by simp only [splice,Option.some.injEq] at h; subst h; simp
  | c::cs,0,x::xs,cs',h=>by
    simp only [splice,Option.map_eq_some_iff] at h
    obtain ⟨r,hr,rfl⟩:=h
    obtain ⟨h1,rfl⟩:=splice_eq hr
    refine ⟨by simp at h1 ⊢; omega,?_⟩
    simp
  | [],n + 1,xs,cs',h=>by simp [splice] at h
  | [],0,x::xs,cs',h=>by simp [splice] at h
theorem seg_get {α:Type} {cs xs:List α} {n:Nat} (h:n + xs.length ≤ cs.length) (i:Nat) :
    (cs.take n++xs++cs.drop (n + xs.length))[i]? = if n ≤ i∧i < n + xs.length then xs[i - n]? else cs[i]?:=by
  have hl:(cs.take n).length = n:=by simp; omega
  rw [List.append_assoc,List.getElem?_append,hl]
  by_cases h1:i < n
  · rw [if_pos h1,if_neg (by omega),List.getElem?_take,if_pos h1]
  · rw [if_neg h1,List.getElem?_append]
    by_cases h2:i < n + xs.length
    · rw [if_pos (by omega),if_pos ⟨by omega,h2⟩]
    · rw [if_neg (by omega),if_neg (by omega),List.getElem?_drop]
      congr 1
      omega
theorem splice_len {α:Type} {cs xs cs':List α} {n:Nat} (h:splice cs n xs = some cs'):cs'.length = cs.length:=by
  obtain ⟨h1,rfl⟩:=splice_eq h
  simp; omega
theorem splice_get {α:Type} {cs xs cs':List α} {n:Nat} (h:splice cs n xs = some cs') (i:Nat):cs'[i]? = if n ≤ i∧i < n + xs.length then xs[i - n]? else cs[i]?:=by
  obtain ⟨h1,rfl⟩:=splice_eq h
  exact seg_get h1 i
theorem fold_list (off:Nat):∀ (xs:List Value) (k:Nat) (cs:Array Value),off + k + xs.length ≤ cs.size →
    ((xs.zipIdx k).foldl (fun cs (c,j)=>cs.setIfInBounds (off + j) c) cs).size = cs.size ∧
    ∀ i,((xs.zipIdx k).foldl (fun cs (c,j)=>cs.setIfInBounds (off + j) c) cs)[i]? = if off + k ≤ i∧i < off + k + xs.length then xs[i - (off + k)]? else cs[i]?
  | [],k,cs,h=>⟨rfl,fun i=>by
      rw [if_neg (by simp)]; rfl⟩
  | x::xs,k,cs,h=>by
    simp only [List.length_cons] at h
    obtain ⟨h1,h2⟩:=fold_list off xs (k + 1) (cs.setIfInBounds (off + k) x) (by simp; omega)
    simp only [List.zipIdx_cons,List.foldl_cons]
    refine ⟨h1.trans (by simp),fun i=>?_⟩
    rw [h2 i]
    simp only [List.length_cons]
    by_cases c1:off + (k + 1) ≤ i∧i < off + (k + 1) + xs.length
    · rw [if_pos c1,if_pos (by omega),show i - (off + k) = (i - (off + (k + 1))) + 1 by omega,List.getElem?_cons_succ]
    · rw [if_neg c1,Array.getElem?_setIfInBounds]
      by_cases c2:off + k = i
      · rw [if_pos c2,if_pos (by omega),if_pos (by omega),show i - (off + k) = 0 by omega]; rfl
      · rw [if_neg c2,if_neg (by omega)]
theorem fold_get (off:Nat) (xs cs:Array Value) (h:off + xs.size ≤ cs.size) :
    (xs.zipIdx.foldl (fun cs (c,j)=>cs.setIfInBounds (off + j) c) cs).size = cs.size ∧
    ∀ i,(xs.zipIdx.foldl (fun cs (c,j)=>cs.setIfInBounds (off + j) c) cs)[i]? = if off ≤ i∧i < off + xs.size then xs[i - off]? else cs[i]?:=by
  have:=fold_list off xs.toList 0 cs (by simpa using h)
  rw [← Array.foldl_toList,Array.toList_zipIdx]
  simpa using this
section
variable {P:Program} {w:World} {g:Gh} {H:List Obj}
variable {a:Act} {dst:Option Tmp} {ty:TypeId} {pos:String} {after:Array Edge} {gd:Option (Nat×Bool)}
def CellsRep (w:World) (g:Gh) (H:List Obj) (A:Array Value) (cs:List AV):Prop :=
  A.size = cs.length∧∀ (i:Nat) (c:Value) (x:AV),A[i]? = some c→cs[i]? = some x→Rep w g H c x∧c.oneCell' = true
theorem fill_rep {kn:TypeId→Bool} {e:Fr} (he:EnvRel w g H a.tmps e) {own:List Nat} {place:Nat→Option (Nat×TypeId)} {mplace:Nat→Option (Nat×Nat)}
    (hp:∀ i off t n,place i = some (off,t)→sizeT P t = some n→mplace i = some (off,n)):∀ {ps:List (Nat×Operand)} {sps:List (Nat×Nat×SA)} {A:Array Value} {zero cs:List AV},
    compFields P kn own place ps = some sps→fill e zero sps = some cs→CellsRep w g H A zero →
    ∃ A',Instr.fill mplace A (ps.map fun p=>(p.1,a.eval p.2)) = some A'∧CellsRep w g H A' cs
  | [],sps,A,zero,cs,h1,h2,hA=>by
    simp only [compFields,Option.some.injEq] at h1
    subst h1
    simp only [fill,Option.some.injEq] at h2
    subst h2
    exact ⟨A,rfl,hA⟩
  | (i,x)::ps,sps,A,zero,cs,h1,h2,hA=>by
    simp only [compFields,Option.bind_eq_some_iff,Option.map_eq_some_iff] at h1
    obtain ⟨⟨off,t⟩,hpl,n,hn,sa,hsa,sps',hsps,rfl⟩:=h1
    simp only [fill,Option.bind_eq_some_iff] at h2
    obtain ⟨v,hv,xs,hxs,h2⟩:=h2
    split at h2
    · rename_i hlen
      simp only [Option.bind_eq_some_iff] at h2
      obtain ⟨z',hz',h2⟩:=h2
      obtain ⟨hA1,hA2⟩:=hA
      obtain ⟨hc1,hc2⟩:=cellsOf_rep (arg_rep he hsa hv) hxs
      obtain ⟨hb,_⟩:=splice_eq hz'
      have hfit:off + (a.eval x).cells.size ≤ A.size:=by omega
      obtain ⟨hf1,hf2⟩:=fold_get off (a.eval x).cells A hfit
      obtain ⟨A',hA',hrep⟩:=fill_rep he hp (A:=(a.eval x).cells.zipIdx.foldl (fun cs (c,j)=>cs.setIfInBounds (off + j) c) A) hsps h2 ⟨by rw [hf1,splice_len hz']; exact hA1,fun j c y hc hy=>by
        rw [hf2] at hc
        rw [splice_get hz'] at hy
        by_cases hj:off ≤ j∧j < off + xs.length
        · rw [if_pos (by omega)] at hc
          rw [if_pos hj] at hy
          exact hc2 _ _ _ hc hy
        · rw [if_neg (by omega)] at hc
          rw [if_neg hj] at hy
          exact hA2 _ _ _ hc hy⟩
      refine ⟨A',?_,hrep⟩
      have hm:=hp i off t n hpl hn
      have h1':¬ (a.eval x).cells.size ≠ n:=by omega
      have h2':¬ (off + (a.eval x).cells.size > A.size):=by omega
      simp only [List.map_cons,Instr.fill,hm]
      rw [if_neg (by simp; omega)]
      exact hA'
    · cases h2
theorem run_build' {t:TypeId} {ps:Array (Nat×Operand)} {cells:Array Value} {cs:List AV} (h:P.built t (ps.toList.map fun p=>(p.1,a.eval p.2)) = some cells) (hr:CellsRep w g H cells cs) :
    RunV P a w g H ⟨dst,.build t ps,ty,pos,after,gd⟩ (.agg cs):=by
  have:=run_build (P:=P) w t (ps.map fun p=>(p.1,a.eval p.2)) cells (by simpa using h)
  exact ⟨.agg cells,by simp [execOp,this],.agg hr.1 (fun i c hc=>by
    have hi:i < cs.length:=by have:=(Array.getElem?_eq_some_iff.1 hc).1; rw [← hr.1]; exact this
    exact (hr.2 i c cs[i] hc (by simp [hi])).2) (fun i c x hc hx=>(hr.2 i c x hc hx).1)⟩
theorem freeze_get:∀ (ls:List Nat) {H:List Obj} {l es ver:Nat} {fz:Option Nat} {rows:List (List PV)},H[l]? = some (.arr es fz ver rows) →
    ∃ fz',(freeze H ls)[l]? = some (.arr es fz' ver rows)∧((l ∈ ls∨fz.isSome = true)→fz'.isSome = true)∧(l ∉ ls→fz' = fz)∧∀ v,v ≤ ver→seen fz ver v = true→seen fz' ver v = true
  | [],H,l,es,ver,fz,rows,h=>⟨fz,h,fun h=>h.elim (fun h=>by cases h) id,fun _=>rfl,fun _ _ h=>h⟩
  | k::ls,H,l,es,ver,fz,rows,h=>by
    have hlt:l < H.length:=(List.getElem?_eq_some_iff.1 h).1
    simp only [freeze]
    by_cases hk:k = l
    · subst hk
      cases fz with
      | none =>
        have:(H.set k (.arr es (some ver) ver rows))[k]? = some (.arr es (some ver) ver rows):=List.getElem?_set_self hlt
        obtain ⟨fz',h1,h2,_,h3⟩:=freeze_get ls this
        refine ⟨fz',by rw [h]; exact h1,fun _=>h2 (.inr rfl),fun hn=>absurd (List.mem_cons_self ..) hn,fun v hv hs=>h3 v hv ?_⟩
        simp only [seen,beq_iff_eq] at hs
        simp [seen,hs]
      | some f =>
        obtain ⟨fz',h1,h2,h4,h3⟩:=freeze_get ls h
        exact ⟨fz',by rw [h]; exact h1,fun _=>h2 (.inr rfl),fun hn=>absurd (List.mem_cons_self ..) hn,h3⟩
    · have hkeep:(match H[k]? with
        | some (.arr es none ver rows)=>H.set k (.arr es (some ver) ver rows)
        | _=>H)[l]? = some (.arr es fz ver rows):=by
        split
        · rw [List.getElem?_set_ne hk]; exact h
        · exact h
      obtain ⟨fz',h1,h2,h4,h3⟩:=freeze_get ls hkeep
      refine ⟨fz',h1,fun hm=>h2 ?_,fun hn=>h4 (fun hm=>hn (List.mem_cons_of_mem _ hm)),h3⟩
      rcases hm with hm | hm
      · rcases List.mem_cons.1 hm with hm | hm
        · exact absurd hm.symm hk
        · exact .inl hm
      · exact .inr hm
theorem toPV_rep {g':Gh} {ls:List Nat} {c:Value} {v:AV} {x:PV} (he:Evo w g H w g' (freeze H ls)) (hr:Rep w g H c v) (hx:toPV H v = some x)
    (hl:∀ l v' o n,v = .ar l v' o n→l ∈ ls):RepP w g'.D c x:=by
  cases hr with
  | p h=>simp only [toPV,canon,Option.some.injEq] at hx; subst hx; exact h.mono he.D (fun _ _ _=>rfl)
  | lit h=>simp only [toPV,canon,Option.some.injEq] at hx; subst hx; exact h.mono he.D (fun _ _ _=>rfl)
  | @ar l v' off n p cap hA =>
    have hm:=hl l v' off n rfl
    obtain ⟨_,_,es,fz,ver,rows,hH,hv,hoff,_⟩:=id hA
    have h2:=he.rep _ _ (.ar hA)
    obtain ⟨fz',e1,e2,_,e3⟩:=freeze_get ls hH
    simp only [toPV,canon,rowsOf,hH] at hx
    split at hx
    · rename_i y hy
      split at hy
      · rename_i hc
        simp only [Option.map_some,Option.some.injEq,AV.p.injEq] at hy
        simp only [Option.some.injEq] at hx
        subst hx
        subst hy
        cases h2 with
        | ar hA' =>
          obtain ⟨_,_,es2,fz2,ver2,rows2,hH2,_,_,hf2⟩:=hA'
          rw [e1] at hH2
          cases hH2
          obtain ⟨h3,_⟩:=hf2 (e3 v' hv hc.1)
          cases fz' with
          | none=>have:=e2 (.inl hm); cases this
          | some f=>exact h3
      · cases hy
    · cases hx
  | agg=>simp only [toPV,canon] at hx; split at hx <;> simp_all
  | tup=>simp only [toPV,canon] at hx; split at hx <;> simp_all
  | _=>simp [toPV,canon] at hx
theorem toPVs_rep {g':Gh} {ls:List Nat} (he:Evo w g H w g' (freeze H ls)):∀ {vs:List AV} {xs:List PV},toPVs H vs = some xs→(∀ l v' o n,AV.ar l v' o n ∈ vs→l ∈ ls) →
    vs.length = xs.length∧∀ (i:Nat) (c:Value) (v:AV) (x:PV),vs[i]? = some v→xs[i]? = some x→Rep w g H c v→RepP w g'.D c x
  | [],xs,h,_=>by cases h; exact ⟨rfl,fun i c v x h=>by simp at h⟩
  | v::vs,xs,h,hl=>by
    simp only [toPVs,Option.bind_eq_some_iff,Option.map_eq_some_iff] at h
    obtain ⟨x,hx,xs',hxs,rfl⟩:=h
    obtain ⟨h1,h2⟩:=toPVs_rep he hxs (fun l v' o n hm=>hl l v' o n (List.mem_cons_of_mem _ hm))
    refine ⟨by simp [h1],fun i c u y hu hy hr=>?_⟩
    cases i with
    | zero=>simp at hu hy; subst hu; subst hy; exact toPV_rep he hr hx (fun l v' o n e=>hl l v' o n (by rw [e]; exact List.mem_cons_self ..))
    | succ i=>simp at hu hy; exact h2 i c u y hu hy hr
theorem mem_arsOf:∀ {vs:List AV} {l:Nat},l ∈ arsOf vs↔∃ a ∈ vs,l ∈ arsA a
  | [],l=>by simp [arsOf]
  | a::aZ,l=>by simp [arsOf,mem_arsOf (vs:=aZ)]
theorem arsOf_mem {vs:List AV} {l v o n:Nat} (h:AV.ar l v o n ∈ vs):l ∈ arsOf vs:=mem_arsOf.2 ⟨_,h,by simp [arsA]⟩
theorem cellsOf_ars {u:AV} {cs:List AV} (h:cellsOf u = some cs) {l v o n:Nat} (hm:AV.ar l v o n ∈ cs):l ∈ arsOf [u]:=by
  cases u <;> simp only [cellsOf,Option.some.injEq] at h <;> try (subst h; simp at hm; done)
  case agg cs' =>
    subst h
    simp only [arsOf,arsA,List.append_nil]
    exact arsOf_mem hm
  case ar=>subst h; simp at hm; simp [arsOf,arsA,hm]
  case tup=>cases h
end
end Go.Proofs.YtepbfecmageleaaGreatDoor
namespace Go.Proofs.YtepbfecmageleaaGreatDoor
open Go
variable [Sub]
section
variable {P:Program} {w:World} {g:Gh} {H:List Obj}
variable {a:Act} {dst:Option Tmp} {ty:TypeId} {pos:String} {after:Array Edge} {gd:Option (Nat×Bool)}
def RowsIn (w:World) (D:Nat→Nat→Prop) (es:Nat) (A:Array Value) (rows:List (List PV)):Prop :=
  A.size = rows.length * es∧(∀ r ∈ rows,r.length = es)∧∀ (i j:Nat) (row:List PV) (x:PV),rows[i]? = some row→row[j]? = some x→∃ c,A[i * es + j]? = some c∧RepP w D c x
theorem row_fit {i n es:Nat} (h:i < n):i * es + es ≤ n * es:=by
  have:=Nat.mul_le_mul_right es (show i + 1 ≤ n by omega)
  rwa [Nat.add_mul,Nat.one_mul] at this
theorem row_out {i k j es:Nat} (h:i ≠ k) (hj:j < es):¬ (k * es ≤ i * es + j∧i * es + j < k * es + es):=by
  intro hc
  rcases Nat.lt_or_ge i k with h1 | h1
  · have:=row_fit (es:=es) h1; omega
  · have:=row_fit (es:=es) (show k < i by omega); omega
theorem fillRows_rep {kn:TypeId→Bool} {e:Fr} (he:EnvRel w g H a.tmps e) {own:List Nat} {es:Nat} {el:TypeId} {g':Gh} {ls:List Nat} (hev:Evo w g H w g' (freeze H ls)) :
    ∀ {ps:List (Nat×Operand)} {sps:List (Nat×SA)} {A:Array Value} {z rows:List (List PV)},
    compParts kn own (fun i=>some (i,el)) ps = some sps→fillRows H e es z sps = some rows→(∀ l ∈ partArs e sps,l ∈ ls)→RowsIn w g'.D es A z →
    ∃ A',Instr.fill (fun i=>some (i * es,es)) A (ps.map fun p=>(p.1,a.eval p.2)) = some A'∧RowsIn w g'.D es A' rows
  | [],sps,A,z,rows,h1,h2,_,hA=>by
    simp only [compParts,Option.some.injEq] at h1
    subst h1
    simp only [fillRows,Option.some.injEq] at h2
    subst h2
    exact ⟨A,rfl,hA⟩
  | (i,x)::ps,sps,A,z,rows,h1,h2,hls,hA=>by
    simp only [compParts,Option.bind_eq_some_iff,Option.map_eq_some_iff,Option.some.injEq] at h1
    obtain ⟨⟨off,t⟩,hpl,sa,hsa,sps',hsps,rfl⟩:=h1
    cases hpl
    simp only [fillRows,Option.bind_eq_some_iff] at h2
    obtain ⟨v,hv,cs,hcs,r,hr,h2⟩:=h2
    split at h2
    · rename_i hlen
      simp only [Option.bind_eq_some_iff] at h2
      obtain ⟨z',hz',h2⟩:=h2
      obtain ⟨hA1,hA2,hA3⟩:=hA
      obtain ⟨hc1,hc2⟩:=cellsOf_rep (arg_rep he hsa hv) hcs
      obtain ⟨ht1,ht2⟩:=toPVs_rep (vs:=cs) (ls:=ls) hev hr (fun l v' o n hm=>hls l (by
        simp only [partArs,hv,List.mem_append]; exact .inl (cellsOf_ars hcs hm)))
      obtain ⟨hb,_⟩:=splice_eq hz'
      simp only [List.length_singleton] at hb
      have hin:i < z.length:=by omega
      have hrf:=row_fit (es:=es) hin
      have hfit:i * es + (a.eval x).cells.size ≤ A.size:=by omega
      obtain ⟨hf1,hf2⟩:=fold_get (i * es) (a.eval x).cells A hfit
      have hmem:∀ q ∈ z',q.length = es:=fun q hq=>by
        obtain ⟨j,hj⟩:=List.mem_iff_getElem?.1 hq
        rw [splice_get hz'] at hj
        split at hj
        · have:=List.mem_of_getElem? hj
          simp at this; rw [this]; exact hlen
        · exact hA2 _ (List.mem_of_getElem? hj)
      obtain ⟨A',hA',hrep⟩:=fillRows_rep he hev (A:=(a.eval x).cells.zipIdx.foldl (fun cs (c,j)=>cs.setIfInBounds (i * es + j) c) A) hsps h2
        (fun l hl=>hls l (by simp only [partArs,List.mem_append]; exact .inr hl)) ⟨by rw [hf1,splice_len hz']; exact hA1,hmem,fun k j row y hk hj=>by
          rw [hf2]
          have hjl:j < es:=by rw [← hmem row (List.mem_of_getElem? hk)]; exact (List.getElem?_eq_some_iff.1 hj).1
          rw [splice_get hz'] at hk
          simp only [List.length_singleton] at hk
          by_cases hki:k = i
          · subst hki
            rw [if_pos (by omega),Nat.sub_self] at hk
            simp only [List.getElem?_cons_zero,Option.some.injEq] at hk
            subst hk
            rw [if_pos (by omega),show k * es + j - k * es = j by omega]
            have hjc:j < (a.eval x).cells.size:=by omega
            refine ⟨(a.eval x).cells[j],by simp [hjc],?_⟩
            have hjcs:j < cs.length:=by omega
            exact ht2 j _ cs[j] y (by simp [hjcs]) hj (hc2 j _ cs[j] (by simp [hjc]) (by simp [hjcs])).1
          · rw [if_neg (by omega)] at hk
            have:=row_out (es:=es) hki hjl
            rw [if_neg (by omega)]
            exact hA3 k j row y hk hj⟩
      refine ⟨A',?_,hrep⟩
      simp only [List.map_cons,Instr.fill]
      rw [if_neg (by simp; omega)]
      exact hA'
    · cases h2
theorem sim_slit {kn:TypeId→Bool} {e:Fr} (he:EnvRel w g H a.tmps e) {own:List Nat} {t el:TypeId} {ti:TypeInfo} {zero:List PV} {n:Nat} {ps:Array (Nat×Operand)} {sps:List (Nat×SA)} {rows:List (List PV)}
    (hs:StRel w g H) (ht:P.underlying t = some (.slice el)) (hi:P.info? el = some ti) (hz:zeroP P kn el = some zero) (hl:zero.length = ti.size) (hb:n * ti.size ≤ 16777216)
    (hc:compParts kn own (fun i=>some (i,el)) ps.toList = some sps) (hf:fillRows H e zero.length (List.replicate n zero) sps = some rows) :
    OpSim P a w g H ⟨dst,.buildSlice t n ps,ty,pos,after,gd⟩ (.lit rows) (freeze H (partArs e sps)):=by
  obtain ⟨g1,e1,s1⟩:=evo_freeze (partArs e sps) hs
  obtain ⟨i,z,hi',hz',hzl,hzr⟩:=zeroP_rep (w:=w) hz
  rw [hi] at hi'
  cases hi'
  have h0:RowsIn w g1.D zero.length (madeCells z.cells (n * ti.size)) (List.replicate n zero):=by
    refine ⟨by rw [size_madeCells,hl]; simp,fun r hr=>by simp at hr; rw [hr.2],fun i j row x hrow hx'=>?_⟩
    rw [List.getElem?_replicate] at hrow
    split at hrow
    · rename_i hin
      cases hrow
      have hj:j < zero.length:=(List.getElem?_eq_some_iff.1 hx').1
      have hjz:j < z.cells.size:=by omega
      refine ⟨z.cells[j],?_,hzr _ j _ _ (by simp [hjz]) hx'⟩
      rw [hl,madeCells_get (by omega) (by omega) (by omega)]
      simp [hjz]
    · cases hrow
  obtain ⟨A',hA',hr1,hr2,hr3⟩:=fillRows_rep he e1 hc hf (fun l hl=>hl) h0
  have hrl:∀ {ps:List (Nat×SA)} {z rows:List (List PV)},fillRows H e zero.length z ps = some rows→rows.length = z.length:=by
    intro ps
    induction ps with
    | nil=>intro z rows h; simp only [fillRows,Option.some.injEq] at h; rw [h]
    | cons p ps ih =>
      intro z rows h
      simp only [fillRows,Option.bind_eq_some_iff] at h
      obtain ⟨v,hv,cs,hcs,r,hr,h⟩:=h
      split at h
      · simp only [Option.bind_eq_some_iff] at h
        obtain ⟨z',hz',h⟩:=h
        rw [ih h,splice_len hz']
      · cases h
  have hlen:rows.length = n:=by rw [hrl hf]; simp
  have hp:Pushed w (w.alloc (.cells A' el)) (.cells A' el (0,0)):=⟨rfl,rfl,rfl,⟨rfl,Nat.le_refl _⟩⟩
  obtain ⟨e2,s2⟩:=evo_lit hp s1
  have hfill:Instr.fill (fun i=>some (i * ti.size,ti.size)) (madeCells z.cells (n * ti.size)) (ps.toList.map fun p=>(p.1,a.eval p.2)) = some A':=by rw [hl] at hA'; exact hA'
  have hrun:(Instr.buildSlice t n (ps.map fun p=>(p.1,a.eval p.2))).run P w = .ok (.slice (some ⟨w.heap.size,0,none⟩) n n) (w.alloc (.cells A' el)):=by
    have hb':¬ (16777216 < n * ti.size):=by omega
    by_cases hn:n * ti.size = 0
    · have hmz:madeCells z.cells (n * ti.size) = #[]:=by rw [hn]; simp [madeCells,Array.range_zero']
      rw [hmz] at hfill
      simp [Instr.buildSlice,run_underlying ht,sizeOf,typeInfo,hi,hn,hfill,newRow,Array.range_zero']
    · unfold madeCells at hfill
      simp [Instr.buildSlice,run_underlying ht,sizeOf,typeInfo,zeroValue,hz',hi,hb',hn,hfill,newRow]
  refine ⟨.slice (some ⟨w.heap.size,0,none⟩) n n,w.alloc (.cells A' el),_,.inl (by simp [execOp,hrun]),e1.trans e2,s2,.inr ?_⟩
  refine .lit (RepP.of_rows (es:=zero.length) hlen (Nat.le_refl _) hr2 (fun i j row x hrow hx=>⟨.inr rfl,?_⟩))
  obtain ⟨c,h1,h2⟩:=hr3 i j row x hrow hx
  refine ⟨c,?_,h2.mono e2.D e2.cells⟩
  rw [cellAt_cells hp.new,Nat.zero_add]
  exact h1
theorem sim_slitA {kn:TypeId→Bool} {e:Fr} (he:EnvRel w g H a.tmps e) {own:List Nat} {t el:TypeId} {ti:TypeInfo} {zero:List PV} {n:Nat} {ps:Array (Nat×Operand)} {sps:List (Nat×SA)} {rows:List (List PV)}
    (hs:StRel w g H) (ht:P.underlying t = some (.slice el)) (hi:P.info? el = some ti) (hz:zeroP P kn el = some zero) (hl:zero.length = ti.size) (hb:n * ti.size ≤ 16777216)
    (hc:compParts kn own (fun i=>some (i,el)) ps.toList = some sps) (hf:fillRows H e zero.length (List.replicate n zero) sps = some rows) :
    OpSim P a w g H ⟨dst,.buildSlice t n ps,ty,pos,after,gd⟩ (.ar (freeze H (partArs e sps)).length 0 0 rows.length) (freeze H (partArs e sps)++[.arr zero.length none 0 rows]):=by
  obtain ⟨g1,e1,s1⟩:=evo_freeze (partArs e sps) hs
  obtain ⟨i,z,hi',hz',hzl,hzr⟩:=zeroP_rep (w:=w) hz
  rw [hi] at hi'
  cases hi'
  have h0:RowsIn w g1.D zero.length (madeCells z.cells (n * ti.size)) (List.replicate n zero):=by
    refine ⟨by rw [size_madeCells,hl]; simp,fun r hr=>by simp at hr; rw [hr.2],fun i j row x hrow hx'=>?_⟩
    rw [List.getElem?_replicate] at hrow
    split at hrow
    · rename_i hin
      cases hrow
      have hj:j < zero.length:=(List.getElem?_eq_some_iff.1 hx').1
      have hjz:j < z.cells.size:=by omega
      refine ⟨z.cells[j],?_,hzr _ j _ _ (by simp [hjz]) hx'⟩
      rw [hl,madeCells_get (by omega) (by omega) (by omega)]
      simp [hjz]
    · cases hrow
  obtain ⟨A',hA',hr1,hr2,hr3⟩:=fillRows_rep he e1 hc hf (fun l hl=>hl) h0
  have hrl:∀ {ps:List (Nat×SA)} {z rows:List (List PV)},fillRows H e zero.length z ps = some rows→rows.length = z.length:=by
    intro ps
    induction ps with
    | nil=>intro z rows h; simp only [fillRows,Option.some.injEq] at h; rw [h]
    | cons p ps ih =>
      intro z rows h
      simp only [fillRows,Option.bind_eq_some_iff] at h
      obtain ⟨v,hv,cs,hcs,r,hr,h⟩:=h
      split at h
      · simp only [Option.bind_eq_some_iff] at h
        obtain ⟨z',hz',h⟩:=h
        rw [ih h,splice_len hz']
      · cases h
  have hlen:rows.length = n:=by rw [hrl hf]; simp
  have hp:Pushed w (w.alloc (.cells A' el)) (.cells A' el (0,0)):=⟨rfl,rfl,rfl,⟨rfl,Nat.le_refl _⟩⟩
  have hfill:Instr.fill (fun i=>some (i * ti.size,ti.size)) (madeCells z.cells (n * ti.size)) (ps.toList.map fun p=>(p.1,a.eval p.2)) = some A':=by rw [hl] at hA'; exact hA'
  have hrun:(Instr.buildSlice t n (ps.map fun p=>(p.1,a.eval p.2))).run P w = .ok (.slice (some ⟨w.heap.size,0,none⟩) n n) (w.alloc (.cells A' el)):=by
    have hb':¬ (16777216 < n * ti.size):=by omega
    by_cases hn:n * ti.size = 0
    · have hmz:madeCells z.cells (n * ti.size) = #[]:=by rw [hn]; simp [madeCells,Array.range_zero']
      rw [hmz] at hfill
      simp [Instr.buildSlice,run_underlying ht,sizeOf,typeInfo,hi,hn,hfill,newRow,Array.range_zero']
    · unfold madeCells at hfill
      simp [Instr.buildSlice,run_underlying ht,sizeOf,typeInfo,zeroValue,hz',hi,hb',hn,hfill,newRow]
  obtain ⟨cv,w',g',q1,q2,q3,q4⟩:=sim_newArr (P:=P) (a:=a) (o:=⟨dst,.buildSlice t n ps,ty,pos,after,gd⟩) (cap:=n) (rows:=rows) (es:=zero.length) s1 (by rw [hlen]; simp [execOp,hrun]) hp (by omega) hr2 (by rw [hr1,hlen]; exact Nat.le_refl _) hr3
  exact ⟨cv,w',g',q1,e1.trans q2,q3,q4⟩
theorem run_storeVar_at {t:TypeId} {ti:TypeInfo} {b o:Nat} {cur:Array Value} {e:TypeId} {v:Value} (hi:P.info? t = some ti) (hb:w.heap[b]? = some (.cells cur e (0,0))) (hsz:v.cells.size = ti.size)
    (hfit:o + ti.size ≤ cur.size) (h1:∀ c ∈ v.cells.toList,c.oneCell' = true) :
    (storeVar t ⟨b,o,none⟩ v).run P w = .ok () (w.setRow b (cur.toList.take o++v.cells.toList++cur.toList.drop (o + v.cells.toList.length)).toArray):=by
  have:=run_storeCells_at P b o e v.cells.toList 0 cur w hb (by simp; omega) h1
  simp only [Nat.add_zero] at this
  simp [storeVar,sizeOf,typeInfo,hi,hsz,this]
theorem setRow_only {b:Nat} {cur new:Array Value} {e:TypeId} {D:Nat→Nat→Prop} (hb:w.heap[b]? = some (.cells cur e (0,0))) (hsz:new.size = cur.size) (hD:∀ i,D b i→new[i]? = cur[i]?):Only w (w.setRow b new) b D :=
  ⟨fun k hk=>setRow_other w b k new hk,setRow_size w b new,rfl,rfl,⟨rfl,Nat.le_refl _⟩,fun vs e' f h=>by
    rw [hb] at h
    cases h
    exact ⟨new,setRow_heap w b cur new e _ hb,hsz,hD⟩,fun h=>absurd hb (h _ _ _)⟩
theorem new_get {vs:Array Value} {cs:List Value} {o:Nat} (hfit:o + cs.length ≤ vs.size) (i:Nat) :
    ((vs.toList.take o++cs++vs.toList.drop (o + cs.length)).toArray)[i]? = if o ≤ i∧i < o + cs.length then cs[i - o]? else vs[i]?:=by
  have:=seg_get (cs:=vs.toList) (xs:=cs) (n:=o) (by simpa using hfit) i
  rw [List.getElem?_toArray,this]
  simp
theorem new_size {vs:Array Value} {cs:List Value} {o:Nat} (hfit:o + cs.length ≤ vs.size):((vs.toList.take o++cs++vs.toList.drop (o + cs.length)).toArray).size = vs.size:=by
  simp; omega
theorem evo_cells {r off:Nat} {c c' cs:List AV} {vals:List Value} (hs:StRel w g H) (hH:H[r]? = some (.cells c)) (hsp:splice c off cs = some c') (hlen:vals.length = cs.length)
    (hv:∀ (i:Nat) (u:Value) (x:AV),vals[i]? = some u→cs[i]? = some x→Rep w g H u x∧u.oneCell' = true):∃ vs e,w.heap[g.blk r]? = some (.cells vs e (0,0))∧off + vals.length ≤ vs.size ∧
    Evo w g H (w.setRow (g.blk r) (vs.toList.take off++vals++vs.toList.drop (off + vals.length)).toArray) g (H.set r (.cells c')) ∧
    StRel (w.setRow (g.blk r) (vs.toList.take off++vals++vs.toList.drop (off + vals.length)).toArray) g (H.set r (.cells c')):=by
  obtain ⟨vs,e,h1,h2,h3⟩:=hs.objs _ _ hH
  obtain ⟨hb,_⟩:=splice_eq hsp
  have hfit:off + vals.length ≤ vs.size:=by omega
  have hnoD:∀ i,¬ g.D (g.blk r) i:=hs.stand r _ hH
  have hlt:r < H.length:=(List.getElem?_eq_some_iff.1 hH).1
  refine ⟨vs,e,h1,hfit,evo_obj (g':=g) (o':=.cells c') (Q:=fun _=>False) hs hH rfl rfl rfl (fun b i=>by simp) (setRow_only h1 (new_size hfit) (fun i hd=>absurd hd (hnoD i)))
    (.cells hH (List.getElem?_set_self hlt) rfl) (fun hr=>⟨_,e,setRow_heap w (g.blk r) vs _ e _ h1,by rw [new_size hfit,splice_len hsp]; exact h2,fun i v x hv' hx=>?_⟩) hnoD⟩
  rw [new_get hfit] at hv'
  rw [splice_get hsp] at hx
  by_cases hi:off ≤ i∧i < off + vals.length
  · rw [if_pos hi] at hv'
    rw [if_pos (by omega)] at hx
    exact ⟨hr _ _ (hv _ _ _ hv' hx).1,(hv _ _ _ hv' hx).2⟩
  · rw [if_neg hi] at hv'
    rw [if_neg (by omega)] at hx
    exact ⟨hr _ _ (h3 _ _ _ hv' hx).1,(h3 _ _ _ hv' hx).2⟩
theorem evo_row {l es ver i k:Nat} {rows:List (List PV)} {row row' ps:List PV} {vals:List Value} (hs:StRel w g H) (hH:H[l]? = some (.arr es none ver rows)) (hrow:rows[i]? = some row) (hsp:splice row k ps = some row')
    (hlen:vals.length = ps.length) (hv:∀ (j:Nat) (u:Value) (x:PV),vals[j]? = some u→ps[j]? = some x→RepP w g.D u x):∃ vs e,w.heap[g.blk l]? = some (.cells vs e (0,0))∧g.base l + i * es + k + vals.length ≤ vs.size ∧
    Evo w g H (w.setRow (g.blk l) (vs.toList.take (g.base l + i * es + k)++vals++vs.toList.drop (g.base l + i * es + k + vals.length)).toArray) g (H.set l (.arr es none ver (rows.set i row'))) ∧
    StRel (w.setRow (g.blk l) (vs.toList.take (g.base l + i * es + k)++vals++vs.toList.drop (g.base l + i * es + k + vals.length)).toArray) g (H.set l (.arr es none ver (rows.set i row'))):=by
  obtain ⟨h1,h2,⟨vs,e,h3,h4⟩,h5,h6⟩:=hs.objs _ _ hH
  obtain ⟨hb,_⟩:=splice_eq hsp
  have hnoD:∀ i,¬ g.D (g.blk l) i:=hs.stand l _ hH
  have hlt:l < H.length:=(List.getElem?_eq_some_iff.1 hH).1
  have hil:i < rows.length:=(List.getElem?_eq_some_iff.1 hrow).1
  have hrl:row.length = es:=h2 row (List.mem_of_getElem? hrow)
  have hrf:=row_fit (es:=es) (show i < g.cap l by omega)
  have hfit:g.base l + i * es + k + vals.length ≤ vs.size:=by omega
  have ho:=setRow_only (D:=g.D) h3 (new_size hfit) (fun i hd=>absurd hd (hnoD i))
  refine ⟨vs,e,h3,hfit,evo_obj (g':=g) (o':=.arr es none ver (rows.set i row')) (Q:=fun _=>False) hs hH rfl rfl rfl (fun b i=>by simp) ho
    (.store hH (List.getElem?_set_self hlt) (by simp) rfl rfl rfl) (fun _=>⟨by simpa using h1,fun r hr=>?_,⟨_,e,setRow_heap w (g.blk l) vs _ e _ h3,by rw [new_size hfit]; exact h4⟩,fun i' j r x hi' hj=>?_,fun _ _ hf=>by cases hf⟩) hnoD⟩
  · rcases List.mem_or_eq_of_mem_set hr with h | h
    · exact h2 r h
    · rw [h,splice_len hsp,hrl]
  · rw [cellAt_cells (setRow_heap w (g.blk l) vs _ e _ h3),new_get hfit]
    rw [List.getElem?_set] at hi'
    by_cases hii:i = i'
    · subst hii
      rw [if_pos rfl,if_pos hil] at hi'
      cases hi'
      have hjl:j < es:=by have:=(List.getElem?_eq_some_iff.1 hj).1; rw [splice_len hsp,hrl] at this; exact this
      rw [splice_get hsp] at hj
      by_cases hjk:k ≤ j∧j < k + ps.length
      · rw [if_pos hjk] at hj
        rw [if_pos (by omega),show g.base l + i * es + j - (g.base l + i * es + k) = j - k by omega]
        have hjv:j - k < vals.length:=by omega
        exact ⟨vals[j - k],by simp [hjv],(hv (j - k) _ x (by simp [hjv]) hj).mono (fun _ _ h=>h) ho.cells⟩
      · rw [if_neg hjk] at hj
        rw [if_neg (by omega)]
        obtain ⟨c,e1,e2⟩:=h5 i j row x hrow hj
        exact ⟨c,by rw [← cellAt_cells h3]; exact e1,e2.mono (fun _ _ h=>h) ho.cells⟩
    · rw [if_neg hii] at hi'
      have hjl:j < es:=by rw [← h2 r (List.mem_of_getElem? hi')]; exact (List.getElem?_eq_some_iff.1 hj).1
      have:=row_out (es:=es) (Ne.symm hii) hjl
      rw [if_neg (by omega)]
      obtain ⟨c,e1,e2⟩:=h5 i' j r x hi' hj
      exact ⟨c,by rw [← cellAt_cells h3]; exact e1,e2.mono (fun _ _ h=>h) ho.cells⟩
theorem Rep.elp_inv {c:Value} {l v i k:Nat} (h:Rep w g H c (.elp l v i k)):∃ b o,c = .pointer (some ⟨b,o,none⟩)∧ElpOk w g H l v i k b o:=by
  cases h with
  | elp h=>exact ⟨_,_,rfl,h⟩
theorem Rep.ar_inv {c:Value} {l v off len:Nat} (h:Rep w g H c (.ar l v off len)):∃ p cap,c = .slice p len cap∧ArOk w g H l v off len p cap:=by
  cases h with
  | ar h=>exact ⟨_,_,rfl,h⟩
theorem sim_store {t:TypeId} {ti:TypeInfo} {x y:Operand} {u v:AV} {cs:List AV} {H':List Obj} (hs:StRel w g H) (hi:P.info? t = some ti) (hx:Rep w g H (a.eval x) u) (hy:Rep w g H (a.eval y) v)
    (hc:cellsOf v = some cs) (hl:cs.length = ti.size) (h:storeC H u cs = some H'):OpSim P a w g H ⟨none,.store t x y,ty,pos,after,gd⟩ (.p .nsl) H':=by
  obtain ⟨hc1,hc2⟩:=cellsOf_rep hy hc
  have hone:∀ c ∈ (a.eval y).cells.toList,c.oneCell' = true:=fun c hm=>by
    obtain ⟨i,hi⟩:=List.mem_iff_getElem?.1 hm
    have hil:i < cs.length:=by have:=(List.getElem?_eq_some_iff.1 hi).1; simp at this; omega
    exact (hc2 i c cs[i] (by simpa using hi) (by simp [hil])).2
  generalize hp:a.eval x = p at hx
  cases hx with
  | @ptr r off c hH =>
    simp only [storeC,hH,Option.map_eq_some_iff] at h
    obtain ⟨c',hsp,rfl⟩:=h
    obtain ⟨vs,e,h1,hfit,e1,e2⟩:=evo_cells (vals:=(a.eval y).cells.toList) hs hH hsp (by simpa using hc1) (fun i u x hu hx=>hc2 i u x (by simpa using hu) hx)
    have hr:=run_storeVar_at (P:=P) (v:=a.eval y) hi h1 (by omega) (o:=off) (by simp at hfit; omega) hone
    exact ⟨undef,_,g,.inr ⟨by simp [execOp,hp,Instr.storeAt,Instr.sureAddr,hr],rfl⟩,e1,e2,.inl rfl⟩
  | @elp l v' i k b o he =>
    obtain ⟨es,fz,ver,rows,hH,hv,hil,hf⟩:=he
    unfold storeC at h
    simp only at h
    split at h
    · cases h
    · rename_i hnc
      simp only [hH] at h
      cases fz with
      | some f=>cases h
      | none =>
        simp only at h
        split at h
        · rename_i hvv
          subst hvv
          simp only [Option.bind_eq_some_iff,Option.map_eq_some_iff] at h
          obtain ⟨row,hrow,ps,hps,row',hsp,rfl⟩:=h
          obtain ⟨rfl,rfl⟩:=hf (by simp [seen])
          obtain ⟨g1,f1,s1⟩:=evo_freeze (arsOf cs) hs
          have hnl:l ∉ arsOf cs:=by simpa using hnc
          obtain ⟨fz',q1,_,q2,_⟩:=freeze_get (arsOf cs) hH
          rw [q2 hnl] at q1
          obtain ⟨t1,t2⟩:=toPVs_rep (vs:=cs) (ls:=arsOf cs) f1 hps (fun l v' o n hm=>arsOf_mem hm)
          have hblk:g1.blk l = g.blk l∧g1.base l = g.base l:=by
            have:=f1.rep _ _ (.elp (v:=v') (i:=i) (k:=k) ⟨es,none,v',rows,hH,Nat.le_refl _,hil,fun _=>⟨rfl,rfl⟩⟩)
            obtain ⟨b2,o2,hbo,es2,fz2,ver2,rows2,hH2,_,_,hf2⟩:=this.elp_inv
            rw [q1] at hH2
            cases hH2
            obtain ⟨d1,d2⟩:=hf2 (by simp [seen])
            simp only [Value.pointer.injEq,Option.some.injEq,Addr.mk.injEq] at hbo
            exact ⟨by rw [← d1]; exact hbo.1.symm,by omega⟩
          obtain ⟨vs,e,h1,hfit,e1,e2⟩:=evo_row (vals:=(a.eval y).cells.toList) s1 q1 hrow hsp (by simp; omega) (fun j u x hu hx=>by
            have hj:j < cs.length:=by have:=(List.getElem?_eq_some_iff.1 hx).1; omega
            exact t2 j u cs[j] x (by simp [hj]) hx (hc2 j u cs[j] (by simpa using hu) (by simp [hj])).1)
          simp only [hblk.1,hblk.2] at h1 hfit e1 e2
          have hr:=run_storeVar_at (P:=P) (v:=a.eval y) hi h1 (by omega) (o:=g.base l + i * es + k) (by simp at hfit; omega) hone
          exact ⟨undef,_,g1,.inr ⟨by simp [execOp,hp,Instr.storeAt,Instr.sureAddr,hr],rfl⟩,f1.trans e1,e2,.inl rfl⟩
        · cases h
  | _=>simp [storeC] at h
end
end Go.Proofs.YtepbfecmageleaaGreatDoor

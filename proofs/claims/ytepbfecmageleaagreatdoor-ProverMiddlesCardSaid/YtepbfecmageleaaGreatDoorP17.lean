/- Part of the proof of Rows.ProverMiddlesCardSaid: EvD7, EvL2, EvH. -/
import Derived.Test.YtepbfecmageleaaGreatDoorP13
import Derived.Test.YtepbfecmageleaaGreatDoorP16
set_option linter.all false
namespace Go.Proofs.YtepbfecmageleaaGreatDoor
open Go
variable [Sub]
theorem wanted_congr {so:SO} {e e':Fr} (h:∀ a b,so.guard = some (a,b)→ev e' a = ev e a):wanted so e' = wanted so e:=by
  unfold wanted
  cases hg:so.guard with
  | none=>rfl
  | some ab=>obtain ⟨a,b⟩:=ab; simp only; rw [h a b hg]
def tKeys (op:SOp):List Nat:=(opKeys op).flatMap fun | .t n=>[n] | _=>[]
def xKeys (op:SOp):List Nat:=(opKeys op).flatMap fun | .x n=>[n] | _=>[]
theorem mem_tKeys {op:SOp} {n:Nat}:n ∈ tKeys op↔SA.t n ∈ opKeys op:=by
  simp only [tKeys,List.mem_flatMap]
  constructor
  · rintro ⟨x,hx,hn⟩
    cases x <;> simp at hn
    subst hn; exact hx
  · intro h; exact ⟨_,h,by simp⟩
theorem mem_xKeys {op:SOp} {n:Nat}:n ∈ xKeys op↔SA.x n ∈ opKeys op:=by
  simp only [xKeys,List.mem_flatMap]
  constructor
  · rintro ⟨x,hx,hn⟩
    cases x <;> simp at hn
    subst hn; exact hx
  · intro h; exact ⟨_,h,by simp⟩
def onlyKeys (op:SOp) (e:Fr):Fr:=⟨e.loc.filter (fun p=>(tKeys op).contains p.1),e.env.filter (fun p=>(xKeys op).contains p.1)⟩
theorem lk_filter {ks:List Nat}:∀ {e:Env} {n:Nat},lk (e.filter fun p=>ks.contains p.1) n = if n ∈ ks then lk e n else none
  | [],n=>by simp [lk]
  | (m,v)::e,n=>by
    simp only [List.filter_cons]
    by_cases hm:ks.contains m = true
    · rw [if_pos hm]
      simp only [lk,lk_filter (e:=e)]
      by_cases hmn:m = n
      · subst hmn; rw [if_pos rfl,if_pos rfl,if_pos (by simpa using hm)]
      · rw [if_neg hmn,if_neg hmn]
    · rw [if_neg hm,lk_filter (e:=e)]
      simp only [lk]
      by_cases hmn:m = n
      · subst hmn; rw [if_neg (by simpa using hm),if_neg (by simpa using hm)]
      · rw [if_neg hmn]
theorem EnvRel.toB {w:World} {g:Gh} {H:List Obj} {tmps:Array Value} {e:Fr} {hid:Nat→Prop} (h:EnvRel w g H tmps e):EnvB w g H tmps e hid:=⟨fun t v hv _=>h.loc t v hv,fun t v hv _=>h.env t v hv⟩
theorem EnvB.congr {w:World} {g:Gh} {H:List Obj} {tmps:Array Value} {e e':Fr} {hid:Nat→Prop} (h:EnvB w g H tmps e hid) (he:∀ k,ev e' k = ev e k):EnvB w g H tmps e' hid :=
  ⟨fun t v hv=>h.loc t v ((he (.t t)).symm.trans hv),fun t v hv=>h.env t v ((he (.x t)).symm.trans hv)⟩
theorem EnvB.evo {w w':World} {g g':Gh} {H H':List Obj} {tmps:Array Value} {e:Fr} {hid:Nat→Prop} (h:EnvB w g H tmps e hid) (he:Evo w g H w' g' H'):EnvB w' g' H' tmps e hid :=
  ⟨fun t v hv hn=>he.rep _ _ (h.loc t v hv hn),fun t v hv hn=>he.rep _ _ (h.env t v hv hn)⟩
theorem put_get {a:Act} {nt n:Nat} {cv:Value} (hlt:n < nt) (hn:nt ≤ a.tmps.size) (t:Nat):(a.put (some n) cv).tmps.getD t undef = if n = t then cv else a.tmps.getD t undef:=by
  simp only [Act.put,Array.getD_eq_getD_getElem?,Array.getElem?_setIfInBounds]
  by_cases h:n = t
  · subst h; simp [Nat.lt_of_lt_of_le hlt hn]
  · simp [h]
theorem put_size {a:Act} {d:Option Tmp} {cv:Value}:(a.put d cv).tmps.size = a.tmps.size:=by cases d <;> simp [Act.put]
theorem put_defers {a:Act} {d:Option Tmp} {cv:Value}:(a.put d cv).defers = a.defers:=by cases d <;> rfl
theorem put_other {a:Act} {nt:Nat} {vars:List Nat} {d:Option Tmp} {sd:SD} {cv:Value} (hd:DstOk nt vars d sd) (hn:nt ≤ a.tmps.size) {t:Nat} (ht:t ∉ sd.key):(a.put d cv).tmps.getD t undef = a.tmps.getD t undef:=by
  rcases hd with ⟨rfl,rfl⟩ | ⟨n,rfl,hlt,hd⟩
  · rfl
  · rw [put_get hlt hn,if_neg]
    intro e
    subst e
    rcases hd with ⟨_,rfl⟩ | ⟨_,rfl⟩ <;> exact ht (by simp [SD.key])
theorem put_key {a:Act} {nt:Nat} {vars:List Nat} {d:Option Tmp} {sd:SD} {cv:Value} (hd:DstOk nt vars d sd) (hn:nt ≤ a.tmps.size) {t:Nat} (ht:t ∈ sd.key):(a.put d cv).tmps.getD t undef = cv:=by
  rcases hd with ⟨rfl,rfl⟩ | ⟨n,rfl,hlt,hd⟩
  · simp [SD.key] at ht
  · have:n = t:=by rcases hd with ⟨_,rfl⟩ | ⟨_,rfl⟩ <;> simp [SD.key] at ht <;> exact ht.symm
    rw [put_get hlt hn,if_pos this]
theorem frOk_put {nt:Nat} {vars:List Nat} {d:Option Tmp} {sd:SD} {e:Fr} {v:AV} (hf:FrOk vars e) (hd:DstOk nt vars d sd):FrOk vars (dstPut sd e v):=by
  rcases hd with ⟨rfl,rfl⟩ | ⟨n,rfl,hlt,⟨hin,rfl⟩ | ⟨hin,rfl⟩⟩
  · exact hf
  · refine ⟨hf.loc,fun t u h=>?_⟩
    simp only [dstPut,lk_upd] at h
    split at h
    · rename_i e1; exact e1 ▸ hin
    · exact hf.env t u h
  · refine ⟨fun t u h=>?_,hf.env⟩
    simp only [dstPut,lk] at h
    split at h
    · rename_i e1; exact e1 ▸ hin
    · exact hf.loc t u h
theorem envB_put {nt:Nat} {vars:List Nat} {d:Option Tmp} {sd:SD} {e:Fr} {v:AV} {w:World} {g:Gh} {H:List Obj} {tmps tmps':Array Value} {hid hid':Nat→Prop} (he:EnvB w g H tmps e hid) (hf:FrOk vars e) (hd:DstOk nt vars d sd)
    (hh:∀ t,t ∉ sd.key→¬ hid' t→¬ hid t) (ho:∀ t,t ∉ sd.key→tmps'.getD t undef = tmps.getD t undef) (hk:∀ t,t ∈ sd.key→Rep w g H (tmps'.getD t undef) v):EnvB w g H tmps' (dstPut sd e v) hid':=by
  rcases hd with ⟨rfl,rfl⟩ | ⟨n,rfl,hlt,⟨hin,rfl⟩ | ⟨hin,rfl⟩⟩
  · exact ⟨fun t u h hn=>by rw [ho t (by simp [SD.key])]; exact he.loc t u h (hh t (by simp [SD.key]) hn),fun t u h hn=>by rw [ho t (by simp [SD.key])]; exact he.env t u h (hh t (by simp [SD.key]) hn)⟩
  · refine ⟨fun t u h hn=>?_,fun t u h hn=>?_⟩
    · have ht:t ∉ (SD.x n).key:=by simp only [SD.key,List.mem_singleton]; intro e1; subst e1; exact hf.loc t u h hin
      rw [ho t ht]; exact he.loc t u h (hh t ht hn)
    · simp only [dstPut,lk_upd] at h
      split at h
      · rename_i e1; cases h; exact hk t (by simp [SD.key,e1])
      · rename_i e1
        have ht:t ∉ (SD.x n).key:=by simp [SD.key]; exact Ne.symm e1
        rw [ho t ht]; exact he.env t u h (hh t ht hn)
  · refine ⟨fun t u h hn=>?_,fun t u h hn=>?_⟩
    · simp only [dstPut,lk] at h
      split at h
      · rename_i e1; cases h; exact hk t (by simp [SD.key,e1])
      · rename_i e1
        have ht:t ∉ (SD.t n).key:=by simp [SD.key]; exact Ne.symm e1
        rw [ho t ht]; exact he.loc t u h (hh t ht hn)
    · have ht:t ∉ (SD.t n).key:=by simp only [SD.key,List.mem_singleton]; intro e1; subst e1; exact hin (hf.env t u h)
      rw [ho t ht]; exact he.env t u h (hh t ht hn)
theorem Pend.other {n0:Nat} {w:World} {g g':Gh} {H H':List Obj} {b:Nat} {cv:Value} {o:Obj} (h:Pend n0 w g H b cv o) (hn:¬ IsBlk g' H' b) (hD:g'.D = g.D) (hr:∀ c a,Rep w g H c a→Rep w g' H' c a):Pend n0 w g' H' b cv o:=by
  refine ⟨h.ge,h.lt,hn,by rw [hD]; exact h.free,?_⟩
  have hh:=h.holds
  cases o with
  | cells c =>
    obtain ⟨h1,vs,e,h2,h3,h4⟩:=hh
    exact ⟨h1,vs,e,h2,h3,fun i v x hv hx=>⟨hr _ _ (h4 i v x hv hx).1,(h4 i v x hv hx).2⟩⟩
  | arr es fz ver rows =>
    cases fz with
    | some f=>exact hh.elim
    | none =>
      cases ver with
      | succ k=>exact hh.elim
      | zero =>
        obtain ⟨cap,vs,e,h1,h2,h3,h4,h5,h6⟩:=hh
        exact ⟨cap,vs,e,h1,h2,h3,h4,h5,fun i j row x hi hj=>let ⟨c,k1,k2⟩:=h6 i j row x hi hj; ⟨c,k1,by rw [hD]; exact k2⟩⟩
  | map es=>exact hh.elim
  | loop=>exact hh.elim
section
variable {P:Program} {kn:TypeId→Bool} {nt:Nat} {vars:List Nat} {ops:Array Oper} {sos:List SO} {ds:List DO} {e0:Fr} {H0:List Obj} {r:Tr} {w0:World} {g0:Gh} {a0:Act}
variable {L S:Nat→Bool} {a:Act} {w:World} {i:Nat} {Q:Exit→Act→World→Prop}
theorem Reg.dst (R:Reg P kn nt vars ops sos ds e0 H0 r) (hi:i < ds.length):∃ o,ops.toList[i]? = some o∧DstOk nt vars o.dst (dstOf ds i):=by
  obtain ⟨hl1,hget⟩:=compOps_get R.comp
  have hlo:i < ops.toList.length:=by rw [← hl1,← R.ok.len]; exact hi
  have hd:ds[i]? = some ds[i]:=List.getElem?_eq_getElem hi
  obtain ⟨own,_,hdst,_⟩:=hget i _ _ (List.getElem?_eq_getElem hlo) (R.ok.op i _ hd)
  exact ⟨_,List.getElem?_eq_getElem hlo,by simpa [dstOf,hd] using hdst⟩
theorem Reg.clash (R:Reg P kn nt vars ops sos ds e0 H0 r) {i j n:Nat} {so:SO} (hso:sos[i]? = some so) (hn:n ∈ soKeys so) (hj:n ∈ (dstOf ds j).key) (hne:j ≠ i):Need ops.toList i j∨Need ops.toList j i:=by
  have hdj:∃ d,ds[j]? = some d∧n ∈ d.o.dst.key:=by
    unfold dstOf at hj
    split at hj
    · rename_i d hd; exact ⟨d,hd,hj⟩
    · simp [SD.key] at hj
  obtain ⟨d,hd,hk⟩:=hdj
  exact R.ok.keys i j so _ hso (R.ok.op j d hd) hne n hk hn
theorem Reg.adopt (R:Reg P kn nt vars ops sos ds e0 H0 r) (hI:InvS w0 g0 H0 a0 vars ops ds e0 r L S a w) {p:Nat} (hp:L p = true) (hS:S p = false) (hall:∀ k,k < p→isW ds k = true→S k = true) :
    InvS w0 g0 H0 a0 vars ops ds e0 r L (fun j=>j == p || S j) a w:=by
  have hpl:=hI.lt p hp
  have hF:=hI.fr p hp hS
  have hW:=isF_isW hF
  obtain ⟨o,ho,hdst⟩:=R.dst hpl
  have hd:ds[p]? = some ds[p]:=List.getElem?_eq_getElem hpl
  have hr:∀ o' e,ops.toList[p]? = some o'→e ∈ o'.after.toList→Region.binds .any e = true→S e.on = true:=fun o' e ho' he hb=>by
    have h1:=hI.shutL p o' e ho' hp he hb
    have h2:=R.ok.down p o' e ho' he hb
    cases hs:S e.on with
    | true=>rfl
    | false=>rw [← hs]; exact hall e.on h2 (isF_isW (hI.fr _ h1 hs))
  have hdown:∀ j,p < j→isW ds j = true→S j = false:=fun j hj hw=>by
    cases hs:S j with
    | false=>rfl
    | true=>have:=hI.down j p hs hw hj hW; rw [hS] at this; cases this
  have hcnt:=Reg.count hpl hS hall hdown
  obtain ⟨g,H,bf,hT,hev,hst,henv,hfr,hwt,hinj⟩:=hI.st
  obtain ⟨cv,ob,Hj,hpend,t1,t2,hval,htm⟩:=hwt p hp hS
  rw [hcnt,t1] at hT
  cases hT
  obtain ⟨g',a1,a2,a3,a4,a5,a6⟩:=hpend.adopt hev hst
  have hm:mOf ds (fun j=>j == p || S j) ds.length = cnt ds p + 1:=by
    rw [mOf_add hS,hcnt]; simp [hpl,hW]
  have hframe:∀ x,ev (envL e0 (dstOf ds) (valOf r.recs) (fun j=>j == p || S j) ds.length) x = ev (dstPut (dstOf ds p) (envL e0 (dstOf ds) (valOf r.recs) S ds.length) (valOf r.recs p)) x:=fun x=>R.frame hI.shut hpl hS x
  refine ⟨hI.lt,hI.shutL,fun j hj=>?_,fun j hj hs=>?_,fun k o' e hk hSk he hb=>?_,fun j k hj hw hk hwk=>?_,⟨g',H++[ob],bf,by rw [hm]; exact t2,a1,a2,?_,?_,fun j hj hs=>?_,fun j k hj hs hk hs' hne=>?_⟩,hI.defers,hI.size⟩
  · simp only [Bool.or_eq_true,beq_iff_eq] at hj
    rcases hj with rfl | hj
    · exact hp
    · exact hI.sub j hj
  · simp only [Bool.or_eq_false_iff] at hs; exact hI.fr j hj hs.2
  · simp only [Bool.or_eq_true,beq_iff_eq] at hSk ⊢
    rcases hSk with rfl | h
    · exact .inr (hr o' e hk he hb)
    · exact .inr (hI.shut k o' e hk h he hb)
  · simp only [Bool.or_eq_true,beq_iff_eq] at hj ⊢
    rcases hj with rfl | hj
    · exact .inr (hall k hk hwk)
    · exact .inr (hI.down j k hj hw hk hwk)
  · refine EnvB.congr ?_ hframe
    refine envB_put (hid:=Hid ds L S) ⟨fun t v hv hn=>a3 _ _ (henv.loc t v hv hn),fun t v hv hn=>a3 _ _ (henv.env t v hv hn)⟩ hfr hdst (fun t ht hn hh=>hn ?_) (fun _ _=>rfl) (fun t ht=>?_)
    · obtain ⟨j,h1,h2,h3⟩:=hh
      refine ⟨j,h1,?_,h3⟩
      simp only [h2,Bool.or_false,beq_eq_false_iff_ne]
      rintro rfl; exact ht h3
    · rw [htm t ht,hval]
      cases ob <;> exact a6
  · exact FrOk.congr (frOk_put hfr hdst) hframe
  · simp only [Bool.or_eq_false_iff,beq_eq_false_iff_ne] at hs
    obtain ⟨cv',ob',Hj',q1,q2,q3,q4,q5⟩:=hwt j hj hs.2
    exact ⟨cv',ob',Hj',q1.other (a5 _ (hinj j p hj hs.2 hp hS hs.1) q1.own) a4 a3,q2,q3,q4,q5⟩
  · simp only [Bool.or_eq_false_iff] at hs hs'
    exact hinj j k hj hs.2 hk hs'.2 hne
theorem Reg.settle (R:Reg P kn nt vars ops sos ds e0 H0 r) (hI:InvS w0 g0 H0 a0 vars ops ds e0 r L S a w) (hsub:∀ j,S j = true→setl ds L j = true):Inv w0 g0 H0 a0 vars ops ds e0 r L a w:=by
  have key:∀ k,InvS w0 g0 H0 a0 vars ops ds e0 r L (fun j=>S j || (decide (j < k) && setl ds L j)) a w:=by
    intro k
    induction k with
    | zero =>
      have:(fun j=>S j || (decide (j < 0) && setl ds L j)) = S:=by funext j; simp
      rw [this]; exact hI
    | succ k ih =>
      by_cases h1:setl ds L k = true
      · by_cases h2:S k = true
        · have:(fun j=>S j || (decide (j < k + 1) && setl ds L j)) = fun j=>S j || (decide (j < k) && setl ds L j):=by
            funext j
            by_cases hj:j = k
            · subst hj; simp [h2]
            · have:decide (j < k + 1) = decide (j < k):=by simp; omega
              rw [this]
          rw [this]; exact ih
        · have e1:(fun j=>S j || (decide (j < k + 1) && setl ds L j)) = fun j=>j == k || (fun j=>S j || (decide (j < k) && setl ds L j)) j:=by
            funext j
            by_cases hj:j = k
            · subst hj; simp [h1]
            · have:decide (j < k + 1) = decide (j < k):=by simp; omega
              rw [this]; simp [hj]
          rw [e1]
          refine R.adopt ih (setl_sub h1) (by simp [h2]) (fun m hm hw=>?_)
          have hF:isF ds k = true:=hI.fr k (setl_sub h1) (by simpa using h2)
          have:=setl_down R.ok hI.shutL h1 (isF_isW hF) hm hw
          simp [this,hm]
      · have:(fun j=>S j || (decide (j < k + 1) && setl ds L j)) = fun j=>S j || (decide (j < k) && setl ds L j):=by
          funext j
          by_cases hj:j = k
          · subst hj; simp [h1]
          · have:decide (j < k + 1) = decide (j < k):=by simp; omega
            rw [this]
        rw [this]; exact ih
  have:=key ds.length
  have e1:(fun j=>S j || (decide (j < ds.length) && setl ds L j)) = setl ds L:=by
    funext j
    cases hs:S j with
    | true=>simp [hsub j hs]
    | false =>
      cases hl:setl ds L j with
      | false=>simp
      | true=>simp [hI.lt j (setl_sub hl)]
  rw [e1] at this
  exact this
def onlyN (ks:List Nat) (e:Fr):Fr:=⟨e.loc.filter (fun p=>ks.contains p.1),e.env.filter (fun p=>ks.contains p.1)⟩
theorem onlyN_ev {ks:List Nat} {e:Fr} {x:SA} (h:∀ n ∈ x.key,n ∈ ks):ev (onlyN ks e) x = ev e x:=by
  cases x with
  | t n=>simp only [onlyN,ev,lk_filter]; rw [if_pos (h n (by simp [SA.key]))]
  | x n=>simp only [onlyN,ev,lk_filter]; rw [if_pos (h n (by simp [SA.key]))]
  | c b=>rfl
  | f g=>rfl
theorem Reg.step (R:Reg P kn nt vars ops sos ds e0 H0 r) {r0:Option Nat} (hcd0:g0.cd = CD P kn) (hI:Inv w0 g0 H0 a0 vars ops ds e0 r L a w) (hn:nt ≤ a0.tmps.size) (hi:i < ds.length) (hL:L i = false)
    (hr0:∀ o e,ops.toList[i]? = some o→e ∈ o.after.toList→Region.binds .any e = true→L e.on = true) :
    wpOpIn (FR r0) 0 P ops Q i (Inv w0 g0 H0 a0 vars ops ds e0 r (fun j=>j == i || L j)) a w:=by
  obtain ⟨S,hSdef⟩:∃ S,setl ds L = S:=⟨_,rfl⟩
  have hSi:S i = false:=by rw [← hSdef]; cases h:setl ds L i with | false=>rfl | true=>have:=setl_sub h; rw [hL] at this; cases this
  have hr:∀ o e,ops.toList[i]? = some o→e ∈ o.after.toList→Region.binds .any e = true→S e.on = true:=by rw [← hSdef]; exact setl_ready R.ok hI.shutL hr0
  have hshutL':Shut' ops.toList (fun j=>j == i || L j):=fun k o' e hk hLk he hb=>by
    simp only [Bool.or_eq_true,beq_iff_eq] at hLk ⊢
    rcases hLk with h | h
    · subst h; exact .inr (hr0 o' e hk he hb)
    · exact .inr (hI.shutL k o' e hk h he hb)
  have hmono:∀ j,S j = true→setl ds (fun j=>j == i || L j) j = true:=fun j hj=>by rw [← hSdef] at hj; exact setl_mono (fun k hk=>by simp [hk]) hj
  have hI:InvS w0 g0 H0 a0 vars ops ds e0 r L S a w:=by rw [← hSdef]; exact hI
  have hshut:Shut' ops.toList S:=hI.shut
  obtain ⟨hl1,hget⟩:=compOps_get R.comp
  have hlo:i < ops.toList.length:=by rw [← hl1,← R.ok.len]; exact hi
  have hol:ops.toList[i]? = some ops.toList[i]:=List.getElem?_eq_getElem hlo
  generalize ops.toList[i] = o at hol
  have ho:ops[i]? = some o:=by rw [← Array.getElem?_toList]; exact hol
  have hd:ds[i]? = some ds[i]:=List.getElem?_eq_getElem hi
  generalize ds[i] = d at hd
  have hso:=R.ok.op i d hd
  obtain ⟨own,hcomp,hdst,hguard⟩:=hget i o d.o hol hso
  obtain ⟨v,Hi,hrec,hwant,hTi,hop⟩:=R.rc.at_ i d hd
  obtain ⟨g,H,bf,hT,hev,hst,henvB,hfr,hwt,hinj⟩:=hI.st
  have hval:valOf r.recs i = dval v:=by simp [valOf,hrec]
  have hdd:dstOf ds i = d.o.dst:=by simp [dstOf,hd]
  have hsz:nt ≤ a.tmps.size:=by rw [hI.size]; exact hn
  have hW:isW ds i = d.k.seq:=by simp [isW,hd]
  have hF:isF ds i = (d.k == .fresh):=by simp [isF,hd]
  have hno:∀ j,L j = true→S j = false→∀ n ∈ (dstOf ds j).key,n ∉ soKeys d.o:=fun j h1 h2 n hn1 hn2=>by
    have hne:j ≠ i:=by rintro rfl; rw [hL] at h1; cases h1
    rcases R.clash hso hn2 hn1 hne with h | h
    · have:=ready_need hshut hr h; rw [h2] at this; cases this
    · have:=hI.shutL.need h h1; rw [hL] at this; cases this
  have hnoH:∀ n ∈ soKeys d.o,¬ Hid ds L S n:=fun n hn ⟨j,h1,h2,h3⟩=>hno j h1 h2 n h3 hn
  obtain ⟨F,hFr⟩:∃ F,onlyN (soKeys d.o) (envL e0 (dstOf ds) (valOf r.recs) S ds.length) = F:=⟨_,rfl⟩
  have henv:EnvRel w g H a.tmps F:=by
    rw [← hFr]
    refine ⟨fun t v hv=>?_,fun t v hv=>?_⟩
    · simp only [onlyN,lk_filter] at hv
      split at hv
      · rename_i hm; exact henvB.loc t v hv (hnoH t hm)
      · cases hv
    · simp only [onlyN,lk_filter] at hv
      split at hv
      · rename_i hm; exact henvB.env t v hv (hnoH t hm)
      · cases hv
  have hag:∀ x,(∀ n ∈ x.key,n ∈ soKeys d.o)→ev F x = ev (envs e0 ds r.recs i) x:=fun x hx=>by
    rw [← hFr,onlyN_ev hx]; exact R.agree hshut hi hSi hr hso hx
  have hagk:∀ x ∈ opKeys d.o.op,ev F x = ev (envs e0 ds r.recs i) x:=fun x hx=>hag x (fun n hnk=>by
    simp only [soKeys,List.mem_append,List.mem_flatMap]
    exact .inl (.inr ⟨x,hx,hnk⟩))
  have hwl:wanted d.o F = some v.isSome:=by
    rw [← hwant]
    exact wanted_congr fun x b hg=>hag x (fun n hnk=>by
      simp only [soKeys,hg,List.mem_append]
      exact .inr hnk)
  have hreg:=wanted_rep (ops:=ops) (o:=o) henv hguard hwl
  have hdk:∀ t,t ∈ d.o.dst.key→t ∈ soKeys d.o:=fun t ht=>by simp only [soKeys,List.mem_append]; exact .inl (.inl ht)
  have done:∀ (cv:Value) (w':World) (g':Gh) (H':List Obj),(isW ds i = true→∀ k,k < i→isW ds k = true→S k = true)→(r.stores++[r.s.H])[mOf ds S ds.length + if isW ds i then 1 else 0]? = some H'→Evo w g H w' g' H'→StRel w' g' H' →
      (o.dst = none∨Rep w' g' H' cv (dval v))→Inv w0 g0 H0 a0 vars ops ds e0 r (fun j=>j == i || L j) (a.put o.dst cv) w':=fun cv w' g' H' h0 h1 h2 h3 h4=>by
    have hm:mOf ds (fun j=>j == i || S j) ds.length = mOf ds S ds.length + if isW ds i then 1 else 0:=by
      rw [mOf_add hSi]; simp [hi]
    have hframe:∀ x,ev (envL e0 (dstOf ds) (valOf r.recs) (fun j=>j == i || S j) ds.length) x = ev (dstPut d.o.dst (envL e0 (dstOf ds) (valOf r.recs) S ds.length) (dval v)) x:=fun x=>by rw [R.frame hshut hi hSi x,hdd,hval]
    refine R.settle (S:=fun j=>j == i || S j) ⟨fun j hj=>?_,hshutL',fun j hj=>?_,fun j hj hs=>?_,fun k o' e hk hSk he hb=>?_,fun j k hj hw hk hwk=>?_,⟨g',H',bf,by rw [hm]; exact h1,hev.trans h2,h3,?_,?_,fun j hj hs=>?_,fun j k hj hs hk hs' hne=>?_⟩,put_defers.trans hI.defers,put_size.trans hI.size⟩ (fun j hj=>?_)
    · simp only [Bool.or_eq_true,beq_iff_eq] at hj
      rcases hj with rfl | hj
      · exact hi
      · exact hI.lt j hj
    · simp only [Bool.or_eq_true,beq_iff_eq] at hj ⊢
      exact hj.imp id (hI.sub j)
    · simp only [Bool.or_eq_false_iff,beq_eq_false_iff_ne] at hs
      simp only [Bool.or_eq_true,beq_iff_eq] at hj
      exact hI.fr j (hj.resolve_left hs.1) hs.2
    · simp only [Bool.or_eq_true,beq_iff_eq] at hSk ⊢
      rcases hSk with rfl | h
      · exact .inr (hr o' e hk he hb)
      · exact .inr (hshut k o' e hk h he hb)
    · simp only [Bool.or_eq_true,beq_iff_eq] at hj ⊢
      rcases hj with rfl | hj
      · exact .inr (h0 hw k hk hwk)
      · exact .inr (hI.down j k hj hw hk hwk)
    · refine EnvB.congr ?_ hframe
      refine envB_put (henvB.evo h2) hfr hdst (fun t ht hn hh=>hn ?_) (fun t ht=>put_other hdst hsz ht) (fun t ht=>?_)
      · obtain ⟨j,q1,q2,q3⟩:=hh
        have hne:j ≠ i:=by rintro rfl; rw [hL] at q1; cases q1
        exact ⟨j,by simp [q1],by simp [q2,hne],q3⟩
      · rw [put_key hdst hsz ht]
        exact h4.resolve_left fun e1=>by
          rcases hdst with ⟨_,e2⟩ | ⟨n,e2,_⟩
          · rw [e2] at ht; simp [SD.key] at ht
          · rw [e1] at e2; cases e2
    · exact FrOk.congr (frOk_put hfr hdst) hframe
    · simp only [Bool.or_eq_false_iff,beq_eq_false_iff_ne] at hs
      simp only [Bool.or_eq_true,beq_iff_eq] at hj
      have hj':=hj.resolve_left hs.1
      obtain ⟨cv',ob',Hj',q1,q2,q3,q4,q5⟩:=hwt j hj' hs.2
      exact ⟨cv',ob',Hj',q1.keep h2 h3,q2,q3,q4,fun n hn=>by rw [put_other hdst hsz (fun h=>hno j hj' hs.2 n hn (hdk n h))]; exact q5 n hn⟩
    · simp only [Bool.or_eq_false_iff,beq_eq_false_iff_ne] at hs hs'
      simp only [Bool.or_eq_true,beq_iff_eq] at hj hk
      exact hinj j k (hj.resolve_left hs.1) hs.2 (hk.resolve_left hs'.1) hs'.2 hne
    · simp only [Bool.or_eq_true,beq_iff_eq] at hj
      rcases hj with rfl | hj
      · exact setl_of (by simp) fun hf k hk hwk=>by simp [hI.sub k (h0 (isF_isW hf) k hk hwk)]
      · exact hmono j hj
  have hbelow:isW ds i = true→isF ds i = false→∀ k,k < i→isW ds k = true→S k = true:=fun h1 h2 k hk hw=>ready_need hshut hr (R.ok.ws i k h1 h2 hw hk)
  have hcnt:isW ds i = true→(∀ k,k < i→isW ds k = true→S k = true)→mOf ds S ds.length = cnt ds i∧H = Hi:=fun h1 h2=>by
    have hc:=Reg.count hi hSi h2 (fun j hj hw=>by
      cases hs:S j with
      | false=>rfl
      | true=>have:=hI.down j i hs hw hj h1; rw [hSi] at this; cases this)
    rw [hc,hTi] at hT
    cases hT
    exact ⟨hc,rfl⟩
  unfold wpOpIn
  simp only [ho,hreg]
  cases v with
  | none =>
    simp only [Option.isSome_none,Bool.false_eq_true,if_false]
    have hnf:isF ds i = false:=by
      cases hf:isF ds i with
      | false=>rfl
      | true =>
        exfalso
        rw [hF] at hf
        have:=(R.ok.fresh i d hd (by simpa using hf)).2
        simp [wanted,this] at hwant
    refine ⟨fun _ _=>trivial,done undef w g H (fun h=>hbelow h hnf) ?_ (.refl _ _ _) hst (.inr undef_rep)⟩
    by_cases hk:d.k.seq = true
    · have hw1:isW ds i = true:=by rw [hW,hk]
      obtain ⟨c1,rfl⟩:=hcnt hw1 (hbelow hw1 hnf)
      rw [if_pos hw1,c1]
      exact hop hk
    · have:¬ isW ds i = true:=by rw [hW]; exact hk
      rw [if_neg this]; exact hT
  | some x =>
    simp only [Option.isSome_some,if_true]
    have quiet:d.k.seq = false→evOp F H d.o.op = some (x,H)→o.wpIn (FR r0) 0 P a w (Inv w0 g0 H0 a0 vars ops ds e0 r (fun j=>j == i || L j)) Q:=fun hk he=>by
      have hnw:¬ isW ds i = true:=by rw [hW,hk]; simp
      exact (op_sim henv hst hcomp he).one _ _ _ (fun cv w' g' h1 h2 h3=>done cv w' g' H (fun h=>absurd h hnw) (by rw [if_neg hnw]; exact hT) h1 h2 h3)
    simp only [OpM] at hop
    cases hk:d.k with
    | write =>
      simp only [hk] at hop
      obtain ⟨H',hT',hone⟩:=hop
      have hw1:isW ds i = true:=by rw [hW,hk]; rfl
      have hb:=hbelow hw1 (by rw [hF,hk]; rfl)
      obtain ⟨c1,rfl⟩:=hcnt hw1 hb
      exact hone _ hagk o own a w g hcomp henv (hev.cd.trans hcd0) hst _ _ _ (fun cv w' g' h1 h2 h3=>done cv w' g' H' (fun _=>hb) (by rw [if_pos hw1,c1]; exact hT') h1 h2 h3)
    | fresh =>
      simp only [hk] at hop
      obtain ⟨H',hT',he⟩:=hop
      have hw1:isW ds i = true:=by rw [hW,hk]; rfl
      have hf1:isF ds i = true:=by rw [hF,hk]; rfl
      have heF:evOp F Hi d.o.op = some (x,H'):=by rw [evOp_congr hagk]; exact he
      obtain ⟨ob,q1,q2⟩:=fresh_sim (a:=a) (R.ok.fresh i d hd hk).1 heF hcomp
      by_cases hb:∀ k,k < i→isW ds k = true→S k = true
      · obtain ⟨c1,rfl⟩:=hcnt hw1 hb
        exact (op_sim henv hst hcomp heF).one _ _ _ (fun cv w' g' h1 h2 h3=>done cv w' g' H' (fun _=>hb) (by rw [if_pos hw1,c1]; exact hT') h1 h2 h3)
      · obtain ⟨cv,w',k1,k2,k3,k4⟩:=q2 w g H henv hst
        have hxH:x = freshV Hi.length ob∧H' = Hi++[ob]:=by
          have:=q1 Hi
          rw [heF] at this
          simpa using this
        obtain ⟨rfl,rfl⟩:=hxH
        refine ⟨fun _ _=>trivial,?_⟩
        rw [Oper.semAt_eq _ _ _ (fun c hc=>by
          obtain ⟨dst,op,ty,pos,after,gd⟩:=o
          cases hc
          simp only [execOp,Sem.run_bind,Sem.run_pure] at k1
          generalize (resolve a.eval c ty).run P w = x at k1
          cases x <;> simp [Result.andThen] at k1),k1]
        show Inv w0 g0 H0 a0 vars ops ds e0 r (fun j=>j == i || L j) (a.put o.dst cv) w'
        have hsize:w0.heap.size ≤ w.heap.size:=hev.keep.2.2.2.1
        refine R.settle (S:=S) ⟨fun j hj=>?_,hshutL',fun j hj=>by simp [hI.sub j hj],fun j hj hs=>?_,hshut,hI.down,⟨g,H,fun j=>if j = i then w.heap.size else bf j,hT,hev.trans k2,k3,?_,hfr,fun j hj hs=>?_,fun j k hj hs hk hs' hne=>?_⟩,put_defers.trans hI.defers,put_size.trans hI.size⟩ hmono
        · simp only [Bool.or_eq_true,beq_iff_eq] at hj
          rcases hj with rfl | hj
          · exact hi
          · exact hI.lt j hj
        · simp only [Bool.or_eq_true,beq_iff_eq] at hj
          rcases hj with rfl | hj
          · exact hf1
          · exact hI.fr j hj hs
        · have hkey:∀ t,¬ Hid ds (fun j=>j == i || L j) S t→t ∉ d.o.dst.key∧¬ Hid ds L S t:=fun t ht=>⟨fun hm=>ht ⟨i,by simp,hSi,by rw [hdd]; exact hm⟩,fun ⟨j,j1,j2,j3⟩=>ht ⟨j,by simp [j1],j2,j3⟩⟩
          refine ⟨fun t u hu ht=>?_,fun t u hu ht=>?_⟩
          · rw [put_other hdst hsz (hkey t ht).1]; exact k2.rep _ _ (henvB.loc t u hu (hkey t ht).2)
          · rw [put_other hdst hsz (hkey t ht).1]; exact k2.rep _ _ (henvB.env t u hu (hkey t ht).2)
        · simp only [Bool.or_eq_true,beq_iff_eq] at hj
          by_cases hji:j = i
          · subst hji
            refine ⟨cv,ob,Hi,?_,hTi,hT',by rw [hval]; rfl,fun n hn=>?_⟩
            · simp only [if_true]
              exact ⟨hsize,k4.lt,k4.own,k4.free,k4.holds⟩
            · rw [hdd] at hn; exact put_key hdst hsz hn
          · have hj':=hj.resolve_left hji
            obtain ⟨cv',ob',Hj',p1,p2,p3,p4,p5⟩:=hwt j hj' hs
            refine ⟨cv',ob',Hj',?_,p2,p3,p4,fun n hn=>?_⟩
            · simp only [if_neg hji]; exact p1.keep k2 k3
            · rw [put_other hdst hsz (fun h=>hno j hj' hs n hn (hdk n h))]; exact p5 n hn
        · simp only [Bool.or_eq_true,beq_iff_eq] at hj hk
          have hlt:∀ m,m = i∨L m = true→S m = false→m ≠ i→bf m < w.heap.size:=fun m h1 h2 h3=>by
            obtain ⟨_,_,_,p1,_⟩:=hwt m (h1.resolve_left h3) h2
            exact p1.lt
          by_cases h1:j = i
          · subst h1
            simp only [if_true,if_neg (Ne.symm hne)]
            have:=hlt k hk hs' (Ne.symm hne); omega
          · by_cases h2:k = i
            · subst h2
              simp only [if_true,if_neg h1]
              have:=hlt j hj hs h1; omega
            · simp only [if_neg h1,if_neg h2]
              exact hinj j k (hj.resolve_left h1) hs (hk.resolve_left h2) hs' hne
    | lone =>
      simp only [hk] at hop
      obtain ⟨hno',hone⟩:=hop
      have hnw:¬ isW ds i = true:=by rw [hW,hk]; simp [DK.seq]
      have hno2:∀ y ∈ opKeys d.o.op,∀ v,ev F y = some v→refs v = []:=fun y hy v hv=>by
        have:=List.all_eq_true.1 hno' y hy
        rw [← hagk y hy,hv] at this
        simpa using this
      have henv':EnvRel w g [] a.tmps (onlyKeys d.o.op F):=by
        refine ⟨fun t v hv=>?_,fun t v hv=>?_⟩
        · simp only [onlyKeys,lk_filter] at hv
          split at hv
          · rename_i hm
            exact (henv.loc t v hv).bare (hno2 _ (mem_tKeys.1 hm) v hv)
          · cases hv
        · simp only [onlyKeys,lk_filter] at hv
          split at hv
          · rename_i hm
            exact (henv.env t v hv).bare (hno2 _ (mem_xKeys.1 hm) v hv)
          · cases hv
      have hag':∀ y ∈ opKeys d.o.op,ev (onlyKeys d.o.op F) y = ev (envs e0 ds r.recs i) y:=fun y hy=>by
        rw [← hagk y hy]
        cases y with
        | t n=>simp only [onlyKeys,ev,lk_filter]; rw [if_pos (mem_tKeys.2 hy)]
        | x n=>simp only [onlyKeys,ev,lk_filter]; rw [if_pos (mem_xKeys.2 hy)]
        | c b=>rfl
        | f g=>rfl
      refine hone _ hag' o own a w g hcomp henv' (hev.cd.trans hcd0) (st_empty hst) _ _ _ (fun cv w' g' h1 h2 h3=>?_)
      obtain ⟨q1,q2⟩:=evo_frame h1 hst h2
      exact done cv w' { g with D:=g'.D } H (fun h=>absurd h hnw) (by rw [if_neg hnw]; exact hT) q1 q2 (h3.imp id fun h=>by
        have h':Rep w' g' [] cv x:=h
        have:=Rep.lift (H:=H) (g:=g') (g2:={ g with D:=g'.D }) rfl h'
        exact this)
    | free =>
      simp only [hk] at hop
      obtain ⟨H',he⟩:=hop
      refine quiet (by rw [hk]; rfl) ?_
      rw [evOp_congr hagk]
      exact evOp_free (R.ok.free i d hd hk) he H
    | here =>
      simp only [hk] at hop
      obtain ⟨H',he⟩:=hop
      refine quiet (by rw [hk]; rfl) ?_
      rw [evOp_congr hagk]
      obtain ⟨k1,_,_,k4⟩:=R.ok.read i d hd (.inl hk)
      obtain ⟨q1,q2⟩:=R.window hshut hSi hr hd (.inl hk)
      have:=evOp_read k1 he
      subst this
      have hlow:∀ o' e k,ops.toList[k]? = some o'→e ∈ o'.after.toList→Region.binds .any e = true→e.on < k:=fun o' e k h1 h2 h3=>R.ok.down k o' e h1 h2 h3
      obtain ⟨s1,s2⟩:=R.window (L:=fun j=>decide (j < i)) (fun k o' e h1 h2 h3 h4=>by have:=hlow o' e k h1 h3 h4; simp at h2 ⊢; omega) (by simp) (fun o' e h1 h2 h3=>by simpa using hlow o' e i h1 h2 h3) hd (.inl hk)
      rw [mOf_below (by omega),← cnt_mOf (by omega)] at s1 s2
      have hc:mOf ds S ds.length = cnt ds i:=by have:=k4 hk; omega
      rw [hc,hTi] at hT
      cases hT
      exact he
    | read =>
      refine quiet (by rw [hk]; rfl) ?_
      rw [evOp_congr hagk]
      obtain ⟨q1,q2⟩:=R.window hshut hSi hr hd (.inr hk)
      exact stables_get R.rc.len R.st i d _ x hd hrec hk _ H q1 q2 hT
theorem Reg.any (R:Reg P kn nt vars ops sos ds e0 H0 r) {r0:Option Nat} (hcd0:g0.cd = CD P kn) (hn:nt ≤ a0.tmps.size)
    (hQ:∀ a w,Inv w0 g0 H0 a0 vars ops ds e0 r (fun j=>decide (j < ds.length)) a w→Q .normal a w):∀ (fuel:Nat) (listed:Array Bool) (a:Act) (w:World),
    listed.size = ops.size→((List.range ops.size).filter fun j=>!listed.getD j false).length ≤ fuel→Inv w0 g0 H0 a0 vars ops ds e0 r (fun j=>listed.getD j false) a w→wpAnyIn (FR r0) 0 P .any ops Q fuel listed a w:=by
  have hlen:ds.length = ops.size:=by rw [R.ok.len,(compOps_get R.comp).1]; simp
  have all:∀ (listed:Array Bool),listed.size = ops.size→Region.ready .any ops listed = []→∀ j,j < ops.size→listed.getD j false = true:=fun listed hls hr j=>by
    induction j using Nat.strongRecOn with
    | _ j ih =>
      intro hj
      refine Classical.byContradiction fun hf=>?_
      have hmem:j ∈ Region.ready .any ops listed:=mem_ready.2 ⟨by simpa [Array.getD_eq_getD_getElem?,hls,hj] using hf,ops[j],by simp [hj],fun e he hb=>by
        have:=R.ok.down j ops[j] e (by simp [hj]) (by simpa using he) hb
        exact ih e.on this (by omega)⟩
      rw [hr] at hmem
      cases hmem
  have fin:∀ (listed:Array Bool) (a:Act) (w:World),listed.size = ops.size→Inv w0 g0 H0 a0 vars ops ds e0 r (fun j=>listed.getD j false) a w→Region.ready .any ops listed = []→Q .normal a w:=fun listed a w hls hI hr=>by
    refine hQ a w ?_
    have:(fun j=>listed.getD j false) = fun j=>decide (j < ds.length):=by
      funext j
      by_cases hj:j < ops.size
      · rw [all listed hls hr j hj]; simp [hlen,hj]
      · simp [Array.getD_eq_getD_getElem?,hls,hj,hlen]
    rwa [this] at hI
  intro fuel
  induction fuel with
  | zero =>
    intro listed a w hls hf hI
    have hr:Region.ready .any ops listed = []:=by
      cases hrr:Region.ready .any ops listed with
      | nil=>rfl
      | cons j rs =>
        exfalso
        have hm:j ∈ Region.ready .any ops listed:=by rw [hrr]; exact List.mem_cons_self ..
        obtain ⟨h1,o,h2,_⟩:=mem_ready.1 hm
        have hj:j < ops.size:=(Array.getElem?_eq_some_iff.1 h2).1
        have:j ∈ (List.range ops.size).filter fun j=>!listed.getD j false:=List.mem_filter.2 ⟨List.mem_range.2 hj,by simpa [Array.getD_eq_getD_getElem?,hls,hj] using h1⟩
        have:=List.length_pos_of_mem this
        omega
    exact ⟨hr,fin listed a w hls hI hr⟩
  | succ fuel ih =>
    intro listed a w hls hf hI
    refine ⟨fun hr=>fin listed a w hls hI hr,fun i hm=>?_⟩
    obtain ⟨h1,o,h2,h3⟩:=mem_ready.1 hm
    have hi:i < ops.size:=(Array.getElem?_eq_some_iff.1 h2).1
    have hfalse:listed.getD i false = false:=by simpa [Array.getD_eq_getD_getElem?,hls,hi] using h1
    have hset:∀ j,(listed.setIfInBounds i true).getD j false = (j == i || listed.getD j false):=fun j=>by
      by_cases hj:j = i
      · subst hj; simp [Array.getD_eq_getD_getElem?,hls,hi]
      · rw [getD_set_ne false (Ne.symm hj)]; simp [hj]
    refine wpOpIn_mono (fun a' w' hI'=>ih (listed.setIfInBounds i true) a' w' (by simpa using hls) ?_ ?_) (R.step hcd0 hI hn (by omega) hfalse (fun o' e ho' he hb=>?_))
    · have hle:((List.range ops.size).filter fun j=>!(listed.setIfInBounds i true).getD j false).length < ((List.range ops.size).filter fun j=>!listed.getD j false).length:=by
        have e1:((List.range ops.size).filter fun j=>!(listed.setIfInBounds i true).getD j false) = ((List.range ops.size).filter fun j=>!listed.getD j false).filter fun j=>!(j == i):=by
          rw [List.filter_filter]
          congr 1
          funext j
          rw [hset]
          cases (j == i) <;> cases listed.getD j false <;> rfl
        rw [e1]
        refine List.length_filter_lt_length_iff_exists.2 ⟨i,List.mem_filter.2 ⟨List.mem_range.2 hi,by simp [hfalse]⟩,by simp⟩
      omega
    · have:(fun j=>(listed.setIfInBounds i true).getD j false) = fun j=>j == i || listed.getD j false:=funext hset
      rw [this]; exact hI'
    · have:ops[i]? = some o':=by rw [← Array.getElem?_toList]; exact ho'
      rw [h2] at this
      cases this
      exact h3 e (by simpa using he) hb
theorem draw_sound (hm:P.follows .mixedOrders = true) {s:St} (hT:TrM P kn ds ⟨[],s.env⟩ s.H r) (hst:stables ds r.recs (r.stores++[r.s.H])):DrawM P kn ds s r.s:=by
  intro n0 r0 lone nt vars code hc a w g hp
  cases hc with
  | @draw id ops sos _ hcomp hd =>
    have R:Reg P kn nt vars ops sos ds ⟨[],s.env⟩ s.H r:=⟨hcomp,compDraw_ok hd,trM_rec hT,hst⟩
    have hstill:Still w w.drew:=⟨rfl,rfl,rfl,⟨rfl,Nat.le_succ _⟩⟩
    obtain ⟨v1,v2⟩:=evo_still hstill hp.st
    refine wpIn_region_any hm ?_
    have e0:∀ k,envL ⟨[],s.env⟩ (dstOf ds) (valOf r.recs) (fun _=>false) k = ⟨[],s.env⟩:=fun k=>by
      induction k with
      | zero=>rfl
      | succ k ih=>simp only [envL,Bool.false_eq_true,if_false,ih]
    have m0:∀ k,mOf ds (fun _=>false) k = 0:=fun k=>by
      induction k with
      | zero=>rfl
      | succ k ih=>simp [mOf,ih]
    have hL:(fun j=>(Array.replicate ops.size false).getD j false) = fun _=>false:=by
      funext j
      rw [Array.getD_eq_getD_getElem?,Array.getElem?_replicate]
      split <;> rfl
    have hpre:EnvRel w g s.H a.tmps ⟨[],s.env⟩:=hp.env
    refine R.any (w0:=w) (g0:=g) (a0:=a) hp.cd hp.size (fun a' w' hI=>?_) ops.size (Array.replicate ops.size false) a w.drew (by simp) (by
      refine Nat.le_trans (List.length_filter_le _ _) ?_; simp) ?_
    · have hse:(setl ds fun j=>decide (j < ds.length)) = fun j=>decide (j < ds.length):=by
        funext j
        cases hj:decide (j < ds.length) with
        | false=>simp only [setl,hj,Bool.false_and]
        | true=>exact setl_of (L:=fun j=>decide (j < ds.length)) hj fun _ k hk _=>by have:=of_decide_eq_true hj; simp; omega
      obtain ⟨g',H',bf,h1,h2,h3,h4,h5,_,_⟩:=hI.st
      have hnh:∀ n,¬ Hid ds (fun j=>decide (j < ds.length)) (setl ds fun j=>decide (j < ds.length)) n:=fun n ⟨j,j1,j2,_⟩=>by rw [hse] at j2; rw [j1] at j2; cases j2
      have e1:mOf ds (fun j=>decide (j < ds.length)) ds.length = cnt ds ds.length:=by rw [cnt_mOf (Nat.le_refl _),mOf_below (Nat.le_refl _)]
      rw [hse,e1,R.rc.last] at h1
      cases h1
      have e2:envL ⟨[],s.env⟩ (dstOf ds) (valOf r.recs) (fun j=>decide (j < ds.length)) ds.length = envs ⟨[],s.env⟩ ds r.recs ds.length:=by rw [envs_envL R.rc.len (Nat.le_refl _),envL_below (Nat.le_refl _)]
      have h4':EnvRel w' g' r.s.H a'.tmps (envL ⟨[],s.env⟩ (dstOf ds) (valOf r.recs) (setl ds fun j=>decide (j < ds.length)) ds.length):=⟨fun t v hv=>h4.loc t v hv (hnh t),fun t v hv=>h4.env t v hv (hnh t)⟩
      rw [hse,e2] at h4'
      rw [hse,e2] at h5
      refine ⟨trivial,g',h2,h3,?_,?_,by rw [hI.defers]; exact hp.mks.evo h2,hI.size⟩
      · show EnvRel w' g' r.s.H a'.tmps ⟨[],r.s.env⟩
        rw [R.rc.fin]
        exact ⟨fun t v hv=>(by cases hv),h4'.env⟩
      · show FrOk vars ⟨[],r.s.env⟩
        rw [R.rc.fin]
        exact ⟨fun t v hv=>(by cases hv),h5.env⟩
    · rw [hL]
      have hse:(setl ds fun _=>false) = fun _=>false:=by funext j; simp [setl]
      refine ⟨fun j h=>(by cases h),fun k o e _ h=>(by cases h),fun j h=>(by rw [hse] at h; cases h),fun j h=>(by cases h),fun k o e _ h=>(by rw [hse] at h; cases h),fun j k h=>(by rw [hse] at h; cases h),⟨g,s.H,fun _=>0,by rw [hse,m0]; exact R.rc.zero,v1,v2,?_,?_,fun j h=>(by cases h),fun j k h=>(by cases h)⟩,rfl,rfl⟩
      · rw [hse,e0]; exact (EnvRel.evo hpre v1).toB
      · rw [hse,e0]; exact hp.fr
end
theorem call_sound {P:Program} {kn:TypeId→Bool} {X:FuncId→List AV→List Obj→Option (AV×List Obj)} {Γ:FuncId→Option SFunc} (hm:P.follows .mixedOrders = true) (hX:RuleOk P kn X) (hG:∀ f F,Γ f = some F→CodeOk P kn f F) :
    ∀ f args H r,call X Γ f args H = some r→CallSim P kn f args H r :=
  sound_all hX hG fun _ _ _ hT hst=>draw_sound hm hT hst
theorem parts_sound {P:Program} {kn:TypeId→Bool} {X:FuncId→List AV→List Obj→Option (AV×List Obj)} {Γ:FuncId→Option SFunc} (hm:P.follows .mixedOrders = true) (hX:RuleOk P kn X) (hG:∀ f F,Γ f = some F→CodeOk P kn f F) :
    (∀ f args H r,call X Γ f args H = some r→CallSim P kn f args H r)∧(∀ c s r,exec X Γ c s = some r→ExecM P kn c s r)∧(∀ ops e H r,evOps X Γ ops e H = some r→OpsM P kn ops e H r) :=
  sound_parts hX hG fun _ _ _ hT hst=>draw_sound hm hT hst
end Go.Proofs.YtepbfecmageleaaGreatDoor
namespace Go.Proofs.YtepbfecmageleaaGreatDoor
open Go
section
variable {X:FuncId→List AV→List Obj→Option (AV×List Obj)} {Γ:FuncId→Option SFunc}
@[congr] theorem WF_congr {g:FuncId} {aZ aZ':List AV} {H H':List Obj} {Q:AV→List Obj→Prop} {p:Prop} (_h0:((0:Nat) = 0) = p) (h:aZ = aZ') (h':H = H'):WF X Γ g aZ H Q↔WF X Γ g aZ' H' Q:=by rw [h,h']
noncomputable def callOn (X:FuncId→List AV→List Obj→Option (AV×List Obj)) (Γ:FuncId→Option SFunc) (g:FuncId) (aZ:List AV) (H1:List Obj):Option (AV×List Obj) :=
  (pickObjs H1 (reach H1 (4 * H1.length * H1.length + 4) (refsL aZ) [])).bind fun os =>
    if within (reach H1 (4 * H1.length * H1.length + 4) (refsL aZ) []) (refsL aZ) && os.all (fun o=>within (reach H1 (4 * H1.length * H1.length + 4) (refsL aZ) []) (objRefs o)) && nodupB (reach H1 (4 * H1.length * H1.length + 4) (refsL aZ) []) then
      call X Γ g (renL (reach H1 (4 * H1.length * H1.length + 4) (refsL aZ) []).idxOf aZ) (os.map (renO (reach H1 (4 * H1.length * H1.length + 4) (refsL aZ) []).idxOf)) else none
def WR (X:FuncId→List AV→List Obj→Option (AV×List Obj)) (Γ:FuncId→Option SFunc) (g:FuncId) (own:Bool) (aZ:List AV) (H H1:List Obj) (K:AV→List Obj→Prop):Prop :=
  bindP (callOn X Γ g aZ H1) fun r=>bindP (comeBack H H1 (reach H1 (4 * H1.length * H1.length + 4) (refsL aZ) []) own r.1 r.2) fun r=>K r.1 r.2
@[congr] theorem WR_congr {g:FuncId} {own:Bool} {aZ aZ':List AV} {H H' H1 H1':List Obj} {K:AV→List Obj→Prop} {p:Prop} (_h0:((0:Nat) = 0) = p) (h:aZ = aZ') (h':H = H') (h1:H1 = H1'):WR X Γ g own aZ H H1 K↔WR X Γ g own aZ' H' H1' K:=by rw [h,h',h1]
end
end Go.Proofs.YtepbfecmageleaaGreatDoor
namespace Go.Proofs.YtepbfecmageleaaGreatDoor
open Go
variable [Sub]
mutual
def subP:PV→PV
  | .v x=>.v x
  | .nsl=>.nsl
  | .sl rows=>.sl (subPss rows)
  | .h s n=>Sub.val s n
def subPs:List PV→List PV
  | []=>[]
  | x::xs=>subP x::subPs xs
def subPss:List (List PV)→List (List PV)
  | []=>[]
  | r::rs=>subPs r::subPss rs
end
theorem subPs_eq:∀ l:List PV,subPs l = l.map subP
  | []=>by simp [subPs]
  | x::xs=>by simp [subPs,subPs_eq xs]
theorem subPss_eq:∀ l:List (List PV),subPss l = l.map subPs
  | []=>by simp [subPss]
  | x::xs=>by simp [subPss,subPss_eq xs]
mutual
def subA:AV→AV
  | .p x=>.p (subP x)
  | .lit rows=>.lit (subPss rows)
  | .agg cs=>.agg (subAs cs)
  | .tup cs=>.tup (subAs cs)
  | a=>a
def subAs:List AV→List AV
  | []=>[]
  | a::aZ=>subA a::subAs aZ
end
theorem subAs_eq:∀ l:List AV,subAs l = l.map subA
  | []=>by simp [subAs]
  | x::xs=>by simp [subAs,subAs_eq xs]
section
variable {w w':World} {g g':Gh} {H H':List Obj} {D:Nat→Nat→Prop}
theorem RepP.put {c:Value} {x:PV} (h:RepP w D c x):RepP w D c (subP x):=by
  induction h with
  | v h=>rw [subP]; exact .v h
  | nsl=>rw [subP]; exact .nsl
  | nil=>rw [subP,subPss]; exact .nil
  | h h _=>rw [subP]; exact h
  | sl cs hn hc hes hD hcell _ ih =>
    rw [subP,subPss_eq]
    refine .sl cs (by simpa using hn) hc (fun r hr=>?_) hD hcell (fun i j row x h1 h2=>?_)
    · obtain ⟨r0,h0,rfl⟩:=List.mem_map.1 hr
      rw [subPs_eq,List.length_map]
      exact hes r0 h0
    · rw [List.getElem?_map] at h1
      obtain ⟨r0,h0,rfl⟩:=Option.map_eq_some_iff.1 h1
      rw [subPs_eq,List.getElem?_map] at h2
      obtain ⟨x0,hx0,rfl⟩:=Option.map_eq_some_iff.1 h2
      exact ih i j r0 x0 h0 hx0
mutual
theorem repP_out:∀ (x:PV) {c:Value},RepP w D c (subP x)→RepP w D c x
  | .v _,_,h=>by rw [subP] at h; exact h
  | .nsl,_,h=>by rw [subP] at h; exact h
  | .h _ _,_,h=>by rw [subP] at h; exact .h h
  | .sl rows,c,h=>by
    rw [subP] at h
    have hm:=repP_outss rows
    rw [subPss_eq] at h
    generalize hy:PV.sl (rows.map subPs) = y at h
    cases h with
    | nil =>
      cases rows with
      | nil=>exact .nil
      | cons=>simp at hy
    | sl cs hn hc hes hD hcell hr =>
      cases hy
      refine .sl cs (by simpa using hn) hc (fun r h1=>?_) hD hcell (fun i j row x h1 h2=>?_)
      · have:=hes (subPs r) (List.mem_map.2 ⟨r,h1,rfl⟩)
        rwa [subPs_eq,List.length_map] at this
      · exact hm row (List.mem_of_getElem? h1) x (List.mem_of_getElem? h2) _ (hr i j (subPs row) (subP x) (by rw [List.getElem?_map,h1]; rfl) (by rw [subPs_eq,List.getElem?_map,h2]; rfl))
    | v=>cases hy
    | nsl=>cases hy
    | h=>cases hy
theorem repP_outs:∀ (l:List PV),∀ x ∈ l,∀ c:Value,RepP w D c (subP x)→RepP w D c x
  | [],_,hx,_,_=>by cases hx
  | y::ys,x,hx,c,h=>by
    rcases List.mem_cons.1 hx with e | e
    · rw [e] at h ⊢; exact repP_out y h
    · exact repP_outs ys x e c h
theorem repP_outss:∀ (l:List (List PV)),∀ r ∈ l,∀ x ∈ r,∀ c:Value,RepP w D c (subP x)→RepP w D c x
  | [],_,hr,_,_,_,_=>by cases hr
  | y::ys,r,hr,x,hx,c,h=>by
    rcases List.mem_cons.1 hr with e | e
    · rw [e] at hx; exact repP_outs y x hx c h
    · exact repP_outss ys r e x hx c h
end
theorem Rep.put {c:Value} {a:AV} (h:Rep w g H c a):Rep w g H c (subA a):=by
  induction h with
  | p h=>rw [subA]; exact .p h.put
  | lit h=>rw [subA]; have:=h.put; rw [subP] at this; exact .lit this
  | agg ha h1 _ ih =>
    rw [subA,subAs_eq]
    refine .agg (by simpa using ha) h1 (fun i c x h1 h2=>?_)
    rw [List.getElem?_map] at h2
    obtain ⟨x0,hx0,rfl⟩:=Option.map_eq_some_iff.1 h2
    exact ih i c x0 h1 hx0
  | tup ha _ ih =>
    rw [subA,subAs_eq]
    refine .tup (by simpa using ha) (fun i c x h1 h2=>?_)
    rw [List.getElem?_map] at h2
    obtain ⟨x0,hx0,rfl⟩:=Option.map_eq_some_iff.1 h2
    exact ih i c x0 h1 hx0
  | ar h=>rw [subA]; exact .ar h; all_goals simp
  | ptr h=>rw [subA]; exact .ptr h; all_goals simp
  | elp h=>rw [subA]; exact .elp h; all_goals simp
  | imm cs a b c=>rw [subA]; exact .imm cs a b c; all_goals simp
  | fn a b c d _ _=>rw [subA]; exact .fn a b c d; all_goals simp
  | map h=>rw [subA]; exact .map h; all_goals simp
  | emp=>rw [subA]; exact .emp; all_goals simp
  | csl h1 h2=>rw [subA]; exact .csl h1 h2; all_goals simp
  | yld h=>rw [subA]; exact .yld h; all_goals simp
mutual
theorem Rep.out:∀ (a:AV) {c:Value},Rep w g H c (subA a)→Rep w g H c a
  | .p x,c,h=>by
    rw [subA] at h
    generalize hy:AV.p (subP x) = y at h
    cases h with
    | p hp=>cases hy; exact .p (repP_out x hp)
    | _=>cases hy
  | .lit rows,c,h=>by
    rw [subA] at h
    generalize hy:AV.lit (subPss rows) = y at h
    cases h with
    | lit hp=>cases hy; exact .lit (repP_out (.sl rows) (by rw [subP]; exact hp))
    | _=>cases hy
  | .agg cs,c,h=>by
    rw [subA,subAs_eq] at h
    have ih:=Rep.outs cs
    generalize hy:AV.agg (cs.map subA) = y at h
    cases h with
    | agg ha h1 hr =>
      cases hy
      refine .agg (by simpa using ha) h1 (fun i c x q1 q2=>?_)
      exact ih x (List.mem_of_getElem? q2) _ (hr i c (subA x) q1 (by rw [List.getElem?_map,q2]; rfl))
    | _=>cases hy
  | .tup cs,c,h=>by
    rw [subA,subAs_eq] at h
    have ih:=Rep.outs cs
    generalize hy:AV.tup (cs.map subA) = y at h
    cases h with
    | tup ha hr =>
      cases hy
      refine .tup (by simpa using ha) (fun i c x q1 q2=>?_)
      exact ih x (List.mem_of_getElem? q2) _ (hr i c (subA x) q1 (by rw [List.getElem?_map,q2]; rfl))
    | _=>cases hy
  | .ar _ _ _ _,_,h | .ptr _ _,_,h | .elp _ _ _ _,_,h | .imm _ _,_,h | .fn _ _ _,_,h | .map _,_,h | .yld _,_,h | .emp,_,h | .csl _ _ _,_,h=>by rw [subA] at h; exact h; all_goals simp
theorem Rep.outs:∀ (l:List AV),∀ a ∈ l,∀ c:Value,Rep w g H c (subA a)→Rep w g H c a
  | [],_,ha,_,_=>by cases ha
  | b::bs,a,ha,c,h=>by
    rcases List.mem_cons.1 ha with e | e
    · rw [e] at h ⊢; exact Rep.out b h
    · exact Rep.outs bs a e c h
end
end
section
variable {P:Program} {kn:TypeId→Bool} {X:FuncId→List AV→List Obj→Option (AV×List Obj)} {Γ:FuncId→Option SFunc}
theorem callSim_plain (h:∀ f args H r,call X Γ f args H = some r→CallSim P kn f args H r) {g:FuncId} {args:List AV} {r':AV} (hp:PF X Γ g args r'):CallSim P kn g args [] (r',[]):=by
  unfold PF WF at hp
  cases hc:call X Γ g args [] with
  | none=>rw [hc] at hp; exact hp.elim
  | some r =>
    rw [hc] at hp
    obtain ⟨h2,h3⟩:=hp
    have hcb:comeBack [] [] [] false r.1 r.2 = some (r',[]):=by
      cases hf:flat r' with
      | true=>simp [comeBack,h2,hf]
      | false=>simp [comeBack,h2,hf,h3,reach,within,nodupB,pickObjs,putBack,ren_bare _ _ h3]
    intro w gh cs hcd hs ha
    refine (h g args [] r hc w gh cs hcd hs ha).mono fun e w' he=>?_
    obtain ⟨v,g',rfl,h1,h4,h5⟩:=he
    have hv0:Evo w (gh.part []) ([].map (renO [].idxOf)) w' g' r.2:=by
      have ho:∀ (g2:Gh) b i,¬ OwnAny g2 [] b i:=fun g2 b i ho=>by obtain ⟨⟨l,hl,_⟩,_⟩:=ho; simp at hl
      exact ⟨h1.D,h1.cells,fun c x hr=>h1.rep c x (Rep.lift (g:=gh.part []) (g2:=gh) rfl (show Rep w (gh.part []) [] c x from hr)),h1.keep.mono fun b i hb=>absurd hb (ho _ b i),fun b i hb=>(h1.own b i hb).elim (fun hb=>absurd hb (ho _ b i)) .inr,
        fun b i hb=>(h1.newD b i hb).elim .inl fun hb=>hb.elim (fun hb=>absurd hb (ho _ b i)) fun hb=>.inr (.inr hb),h1.cd⟩
    obtain ⟨g2,q1,q2,q3⟩:=comeBack_sound (H:=[]) (H1:=[]) (sub:=[]) (os:=[]) (own:=false) hs (.refl _ _ _) hs rfl rfl rfl hv0 h4 h5 hcb
    exact ⟨v,g2,rfl,q1,q2,q3⟩
theorem argsRep_map {w:World} {g:Gh} {H:List Obj} {f:AV→AV} (hf:∀ c a,Rep w g H c a→Rep w g H c (f a)) {cs:Array Value} {aZ:List AV} (h:ArgsRep w g H cs aZ):ArgsRep w g H cs (aZ.map f) :=
  ⟨by rw [h.1,List.length_map],fun i c x hc hx=>by
    rw [List.getElem?_map] at hx
    obtain ⟨x0,hx0,rfl⟩:=Option.map_eq_some_iff.1 hx
    exact hf _ _ (h.2 i c x0 hc hx0)⟩
theorem callSim_out {g:FuncId} {args:List AV} {r:AV} (h:CallSim P kn g (args.map subA) [] (subA r,[])):CallSim P kn g args [] (r,[]):=by
  intro w gh cs hcd hs ha
  refine (h w gh cs hcd hs (argsRep_map (fun _ _ hr=>hr.put) ha)).mono fun e w' he=>?_
  obtain ⟨v,g',rfl,h1,h4,h5⟩:=he
  exact ⟨v,g',rfl,h1,h4,Rep.out r h5⟩
theorem callSim_args {g:FuncId} {args args':List AV} {r:AV} (hl:∀ w gh cs,ArgsRep w gh [] cs args→ArgsRep w gh [] cs args') (h:CallSim P kn g args' [] (r,[])):CallSim P kn g args [] (r,[]) :=
  fun w gh cs hcd hs ha=>h w gh cs hcd hs (hl _ _ _ ha)
end
abbrev XR:=FuncId→List AV→List Obj→Option (AV×List Obj)
def orX (A B:XR):XR:=fun f a H=>match A f a H with
  | some r=>some r
  | none=>B f a H
theorem RuleOk.or {P:Program} {kn:TypeId→Bool} {A B:XR} (ha:RuleOk P kn A) (hb:RuleOk P kn B):RuleOk P kn (orX A B):=fun g args H r h=>by
  unfold orX at h
  split at h
  · cases h; exact ha g args H _ (by assumption)
  · exact hb g args H r h
end Go.Proofs.YtepbfecmageleaaGreatDoor

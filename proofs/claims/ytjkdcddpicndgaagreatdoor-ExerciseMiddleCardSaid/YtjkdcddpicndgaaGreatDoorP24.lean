/- Part of the proof of Rows.ExerciseMiddleCardSaid: EvH5, EvJ1, EvH6, EvH7, EvH8. -/
import Derived.Test.YtjkdcddpicndgaaGreatDoorP20
import Derived.Test.YtjkdcddpicndgaaGreatDoorP22
import Derived.Test.YtjkdcddpicndgaaGreatDoorP23
set_option linter.all false
namespace Go.Proofs.YtjkdcddpicndgaaGreatDoor
open Go
def eqVVs:List (Value×Value)→List (Value×Value)→Bool
  | [],[]=>true
  | a :: l,b :: m=>eqV a.1 b.1 && (eqV a.2 b.2 && eqVVs l m)
  | _,_=>false
theorem eqVVs_sound:∀ {l m:List (Value×Value)},eqVVs l m = true→l = m
  | [],[],_=>rfl
  | a :: l,b :: m,h=>by
    simp only [eqVVs,Bool.and_eq_true] at h
    rw [eqVVs_sound h.2.2,Prod.ext (eqV_sound h.1) (eqV_sound h.2.1)]
  | [],_ :: _,h | _ :: _,[],h=>by cases h
def eqOb:Obj→Obj→Bool
  | .cells a,.cells b=>eqAVs a b
  | .arr es fz ver rows,.arr es' fz' ver' rows'=>Nat.beq es es' && (fz == fz' && (Nat.beq ver ver' && eqPVss rows rows'))
  | .map a,.map b=>eqVVs a b
  | _,_=>false
theorem eqOb_sound:∀ {a b:Obj},eqOb a b = true→a = b
  | .cells a,.cells b,h=>by rw [eqOb] at h; rw [eqAVs_sound _ _ h]
  | .arr ..,.arr ..,h=>by
    simp only [eqOb,Bool.and_eq_true,beq_iff_eq] at h
    rw [Nat.eq_of_beq_eq_true h.1,h.2.1,Nat.eq_of_beq_eq_true h.2.2.1,eqPVss_sound h.2.2.2]
  | .map a,.map b,h=>by rw [eqOb] at h; rw [eqVVs_sound h]
  | .cells _,.arr ..,h | .cells _,.map _,h | .cells _,.loop ..,h | .arr ..,.cells _,h | .arr ..,.map _,h | .arr ..,.loop ..,h | .map _,.cells _,h | .map _,.arr ..,h | .map _,.loop ..,h | .loop ..,_,h=>by cases h
def eqObs:List Obj→List Obj→Bool
  | [],[]=>true
  | a :: l,b :: m=>eqOb a b && eqObs l m
  | _,_=>false
theorem eqObs_sound:∀ {l m:List Obj},eqObs l m = true→l = m
  | [],[],_=>rfl
  | a :: l,b :: m,h=>by
    simp only [eqObs,Bool.and_eq_true] at h
    rw [eqOb_sound h.1,eqObs_sound h.2]
  | [],_ :: _,h | _ :: _,[],h=>by cases h
def agree:List (Option (AV×List Obj))→Option (AV×List Obj)
  | []=>none
  | none :: _=>none
  | [some r]=>some r
  | some r :: x :: l=>match agree (x :: l) with
    | some q=>if eqAV r.1 q.1 && eqObs r.2 q.2 then some q else none
    | none=>none
theorem agree_all:∀ {l:List (Option (AV×List Obj))} {r:AV×List Obj},agree l = some r→∀ x ∈ l,x = some r
  | [],_,h,_,_=>by cases h
  | none :: _,_,h,_,_=>by cases h
  | [some r],_,h,x,hx=>by cases h; simpa using hx
  | some r :: y :: l,r',h,x,hx=>by
    rw [agree] at h
    cases hq:agree (y :: l) with
    | none=>rw [hq] at h; cases h
    | some q =>
      rw [hq] at h
      simp only at h
      split at h
      · rename_i he
        cases h
        simp only [Bool.and_eq_true] at he
        have h1:r = r':=Prod.ext (eqAV_sound _ _ he.1) (eqObs_sound he.2)
        rcases List.mem_cons.1 hx with e | e
        · rw [e,h1]
        · exact agree_all hq x e
      · cases h
structure Sp where
  rows:List (List PV)
  X:List XR
def spFind (W:List Sp) (rows:List (List PV)):Option (List XR):=match W with
  | []=>none
  | e :: W=>if eqPVss e.rows rows then some e.X else spFind W rows
theorem spFind_some:∀ {W:List Sp} {rows:List (List PV)} {l:List XR},spFind W rows = some l→∃ e ∈ W,e.X = l
  | [],_,_,h=>by cases h
  | e :: W,rows,l,h=>by
    rw [spFind] at h
    split at h
    · cases h; exact ⟨e,List.mem_cons_self ..,rfl⟩
    · obtain ⟨e',q1,q2⟩:=spFind_some h
      exact ⟨e',List.mem_cons_of_mem _ q1,q2⟩
noncomputable def splitGo (n:Nat) (W:List Sp) (f:Nat) (args:List AV) (H:List Obj):Option (AV×List Obj) :=
  match args with
  | [_,.p (.sl rows)]=>match spFind W rows with
    | some l=>agree (l.map fun X=>(itK Gam X n).call f args H)
    | none=>none
  | _=>none
noncomputable def splitX (n f0:Nat) (W:List Sp):XR:=fun f args H=>Bool.rec none (splitGo n W f args H) (Nat.beq f f0)
section
variable {P:Program} {kn:TypeId→Bool}
theorem split_ok (hA:SoundAll P kn) {S:Sub} {n f0:Nat} {W:List Sp} (hW:∀ e ∈ W,∃ X ∈ e.X,@RuleOk S P kn X):@RuleOk S P kn (splitX n f0 W):=fun g args H r hx=>by
  unfold splitX at hx
  cases hg:Nat.beq g f0 with
  | false=>rw [hg] at hx; cases hx
  | true =>
    rw [hg] at hx
    have hx:splitGo n W g args H = some r:=hx
    unfold splitGo at hx
    split at hx
    · rename_i a rows
      split at hx
      · rename_i l hl
        obtain ⟨e,he,rfl⟩:=spFind_some hl
        obtain ⟨X,hX,hok⟩:=hW e he
        have:=agree_all hx _ (List.mem_map.2 ⟨X,hX,rfl⟩)
        rw [itK_eq] at this
        exact hA S X hok _ _ _ _ ((itE_good n).call this)
      · cases hx
    · cases hx
noncomputable def pats (t:List Et):List Sg→List Et→List XR
  | _,[]=>[]
  | pre,e :: es=>sgX (pre ++ [⟨t,e,1⟩]) :: sgX (pre ++ [⟨t,e,-1⟩]) :: pats t (pre ++ [⟨t,e,0⟩]) es
theorem sgnZ_unit (z:Int):sgnZ z = -1∨sgnZ z = 0∨sgnZ z = 1:=by unfold sgnZ; split <;> (try split) <;> simp
theorem sgZ_unit (t:List (List Int)):∀ (j:Nat) (x:List Int),sgZ t j x = -1∨sgZ t j x = 0∨sgZ t j x = 1
  | 0,x=>sgnZ_unit _
  | j + 1,x=>by
    unfold sgZ
    have h1:=sgZ_unit t j (x.take (2 ^ j))
    have h2:=sgZ_unit t j (x.drop (2 ^ j))
    have h3:=sgZ_unit t j (normZ t j x)
    split
    · exact h1
    · split
      · exact h2
      · rcases h1 with h1 | h1 | h1 <;> rcases h3 with h3 | h3 | h3 <;> rw [h1,h3] <;> decide
theorem pats_ok (h0:Sound0 P kn) {s:Vals} {vb:Nat→Nat} {L B:List Nat} (hR:1 ≤ vb 5) (hRm:vb 5 < mostZ) (hv:∀ k,(s.v k).natAbs ≤ vb k) (hk:Known3 s L B) {t:List Et}:∀ {es:List Et} {pre:List Sg},(∀ e ∈ pre,e.chk vb L B = true∧e.val s L = e.s) →
    (∀ e ∈ es,(Sg.mk t e 0).chk vb L B = true)→(∃ e ∈ es,(Sg.mk t e 0).val s L ≠ 0)→∃ X ∈ pats t pre es,@RuleOk s.sub P kn X
  | [],_,_,_,h=>by obtain ⟨e,he,_⟩:=h; cases he
  | e :: es,pre,hp,hc,hn=>by
    have c0:=hc e (List.mem_cons_self ..)
    have mk:∀ i:Int,(Sg.mk t e 0).val s L = i→∀ u ∈ pre ++ [⟨t,e,i⟩],u.chk vb L B = true∧u.val s L = u.s:=fun i hi u hu=>by
      rcases List.mem_append.1 hu with h | h
      · exact hp u h
      · rw [List.mem_singleton] at h
        subst h
        exact ⟨c0,hi⟩
    have all:∀ i:Int,(Sg.mk t e 0).val s L = i→@RuleOk s.sub P kn (sgX (pre ++ [⟨t,e,i⟩])):=fun i hi=>sg_ok h0 hR hRm hv hk (fun u hu=>(mk i hi u hu).1) (fun u hu=>(mk i hi u hu).2)
    rcases sgZ_unit (t.map s.val) (e.lev L) (s.val e) with h | h | h
    · exact ⟨_,List.mem_cons_of_mem _ (List.mem_cons_self ..),all (-1) h⟩
    · obtain ⟨u,hu,hne⟩:=hn
      have hu':u ∈ es:=by
        rcases List.mem_cons.1 hu with q | q
        · rw [q] at hne; exact absurd h hne
        · exact q
      obtain ⟨X,hX,hok⟩:=pats_ok h0 hR hRm hv hk (es:=es) (pre:=pre ++ [⟨t,e,0⟩]) (mk 0 h) (fun u hu=>hc u (List.mem_cons_of_mem _ hu)) ⟨u,hu',hne⟩
      exact ⟨X,List.mem_cons_of_mem _ (List.mem_cons_of_mem _ hX),hok⟩
    · exact ⟨_,List.mem_cons_self ..,all 1 h⟩
def rowA (k:Nat):AV:=.agg [.p (.h false (2 * k)),.p (.h false (2 * k + 1)),.p (.v (.bool false)),.p oneP]
def numGo (f:Nat) (args:List AV):Option AV :=
  match args with
  | [.agg (.p (.h false a) :: _)]=>if Nat.beq f 62 then (if eqAVs args [rowA (a / 2)] then some (.p (.v (.bool true))) else none)
    else if Nat.beq f 281 then (if eqAVs args [.agg [.p (.h false (2 * (a / 2))),.p (.h false (2 * (a / 2) + 1))]] then some (.agg [.p (.h false (2 * (a / 2))),.p (.h false (2 * (a / 2) + 1))]) else none) else none
  | [.p (.sl [.h false a :: _])]=>if Nat.beq f 146 then (if eqAVs args [.p (etP (.V (a / 2)))] then some (.p (etP (.V (a / 2)))) else none) else none
  | [.p (.h true n)]=>if Nat.beq f 146 then some (.p (.h true n)) else none
  | _=>none
def numX:XR:=fun f args H=>match H with
  | []=>(numGo f args).map fun r=>(r,[])
  | _=>none
theorem subA_row (s:Vals) (k:Nat):@subA s.sub (rowA k) = qA (s.v k:Rat):=by
  have h:=subP_row s k
  simp only [rowV,subPs] at h
  simp only [rowA,subA,subAs]
  have q:qA (s.v k:Rat) = .agg ((qrow (s.v k:Rat)).map .p):=rfl
  rw [q,← h]
  rfl
theorem valid_pf {r:Rat} (h:SmQ r):PF X0 Gam 62 [qA r] (boo true):=by
  have:=ValidR_pf (decide (r.num < 0)) (digits r.num.natAbs) false (digits r.den) (dig_digits _) (dig_digits _) (digits_len h.1) (digits_len (show r.den < _ from h.2))
  rwa [qA_val h] at this
theorem num_ok (h0:Sound0 P kn) {s:Vals} {vb:Nat→Nat} (hv:∀ k,(s.v k).natAbs ≤ vb k) (hvb:∀ k,vb k < mostZ) (hV:∀ n,∃ j B,j ≤ 5∧(s.V n).length = 2 ^ j∧BdZ B (s.V n)∧B < mostZ):@RuleOk s.sub P kn numX:=fun g args H r hx=>by
  unfold numX at hx
  split at hx
  · simp only [Option.map_eq_some_iff] at hx
    obtain ⟨x,hx,rfl⟩:=hx
    have sm:∀ k,SmQ (s.v k:Rat):=fun k=>SmQ_cast (Sm_of (hv k) (hvb k))
    unfold numGo at hx
    split at hx
    · rename_i a rest
      split at hx
      · rename_i hf
        have hf:=Nat.eq_of_beq_eq_true hf
        subst hf
        split at hx
        · rename_i he
          cases hx
          rw [eqAVs_sound _ _ he]
          exact h0.pf s (valid_pf (sm (a / 2))) (by simp only [List.map_cons,List.map_nil,subA_row]) (by simp only [subA,subP])
        · cases hx
      · split at hx
        · rename_i hf
          have hf:=Nat.eq_of_beq_eq_true hf
          subst hf
          split at hx
          · rename_i he
            cases hx
            rw [eqAVs_sound _ _ he]
            have hs:=sm (a / 2)
            have hd:(digits (s.v (a / 2)).natAbs).length ≤ 1000000000000:=by
              have:=digits_len hs.1
              rwa [Rat.num_intCast] at this
            refine h0.pf s (limbs_pf (decide (s.v (a / 2) < 0)) (digits (s.v (a / 2)).natAbs) hd) ?_ ?_
            · simp only [List.map_cons,List.map_nil,subA,subAs,subP,sub_even,sub_odd]
            · simp only [subA,subAs,subP,sub_even,sub_odd]
          · cases hx
        · cases hx
    · rename_i a rest
      split at hx
      · rename_i hf
        have hf:=Nat.eq_of_beq_eq_true hf
        subst hf
        split at hx
        · rename_i he
          cases hx
          rw [eqAVs_sound _ _ he]
          have hp:=ownAll_pf (x:=castL [s.v (a / 2)]) (fun r hr=>by simp [castL] at hr; rw [hr]; exact sm _) (by simp [castL])
          exact h0.pf s hp (by simp only [List.map_cons,List.map_nil,subA,subP_et s (e:=.V (a / 2)) trivial,Vals.val]) (by simp only [subA,subP_et s (e:=.V (a / 2)) trivial,Vals.val])
        · cases hx
      · cases hx
    · rename_i n
      split at hx
      · rename_i hf
        have hf:=Nat.eq_of_beq_eq_true hf
        subst hf
        cases hx
        obtain ⟨j,B,hj,h1,h2,h3⟩:=hV n
        have hne:(Et.H n).ok s:=fun h=>by
          have h:s.V n = []:=h
          rw [h,List.length_nil] at h1
          have:=Nat.two_pow_pos j
          omega
        have h32:2 ^ j ≤ 2 ^ 5:=Nat.pow_le_pow_right (by decide) hj
        have hp:=ownAll_pf (x:=castL (s.V n)) (El_cast h1 h2 h3).2 (by rw [castL_len,h1]; omega)
        have hs:=subP_et s hne
        simp only [etP] at hs
        exact h0.pf s hp (by simp only [List.map_cons,List.map_nil,subA,hs,Vals.val]) (by simp only [subA,hs,Vals.val])
      · cases hx
    · cases hx
  · cases hx
end
end Go.Proofs.YtjkdcddpicndgaaGreatDoor
namespace Go.Proofs.YtjkdcddpicndgaaGreatDoor
open Go
def blanks:List UInt8→Nat
  | b :: l=>bif Nat.beq b.toNat 32 then blanks l + 1 else 0
  | []=>0
def peekN (l:List UInt8) (n:Nat):Nat:=n + blanks (l.drop n)
def peekB (l:List UInt8) (n:Nat):Nat:=((l[peekN l n]?).map UInt8.toNat).getD 0
theorem blanks_le:∀ l:List UInt8,blanks l ≤ l.length
  | []=>Nat.le_refl _
  | b :: l=>by
    have:=blanks_le l
    unfold blanks
    cases Nat.beq b.toNat 32 <;> simp <;> omega
theorem str_at {s:ByteArray} {l:List UInt8} (hs:s.data.toList = l) (n:Nat):idxStr s (n:Int) = (l[n]?).map fun b=>.p (.v (.int .u8 b.toNat)):=by
  rw [← idxStrK_eq,idxStrK,if_pos (by omega),hs]
  rfl
theorem str_size {s:ByteArray} {l:List UInt8} (hs:s.data.toList = l):s.size = l.length:=by rw [← hs]; rfl
theorem drop_at {l:List UInt8} {n:Nat} {b:UInt8} (h:l[n]? = some b):l.drop n = b :: l.drop (n + 1):=by
  obtain ⟨hl,rfl⟩:=List.getElem?_eq_some_iff.1 h
  exact List.drop_eq_getElem_cons hl
abbrev rdH (s:ByteArray) (n:Nat):List Obj:=[.cells [.p (.v (.string s)),int n]]
theorem peek_wf {s:ByteArray} {l:List UInt8} (hs:s.data.toList = l) {n:Nat} (hn:n ≤ l.length) (hl:peekN l n < 4611686018427387904) :
    WF X0 Gam 271 [.ptr 0 0] (rdH s n) fun r H=>r = .p (.v (.int .u8 (peekB l n)))∧H = rdH s (peekN l n):=by
  have hsz:=str_size hs
  refine WF_intro rfl rfl ?_
  simp [EV,EVR]
  refine W_loop (fun m st=>∃ k:Nat,m = blanks (l.drop k)∧k ≤ l.length∧peekN l k = peekN l n∧lk st.env 0 = some (.ptr 0 0)∧st.H = rdH s k) ?_ (blanks (l.drop n)) _ ?_
  · rintro m ⟨env,H⟩ ⟨k,rfl,hk,hpk,h0,rfl⟩
    simp only at h0
    by_cases hkl:k < l.length
    · obtain ⟨b,hb⟩:∃ b,l[k]? = some b:=⟨l[k],by simp [hkl]⟩
      have hd:=drop_at hb
      have hi:=str_at hs k
      rw [hb] at hi
      have w5:IntKind.i64.wrap ((k:Int) + 1) = k + 1:=wrap_i64 (by have:k ≤ peekN l k:=Nat.le_add_right ..; omega)
      have hne:¬ k = l.length:=by omega
      by_cases h32:b.toNat = 32
      · have hbl:blanks (l.drop k) = blanks (l.drop (k + 1)) + 1:=by rw [hd,blanks,h32]; rfl
        simp [EV,EVR,evOp,evStr,asStr,h0,hsz,hkl,hi,h32,splice,w5]
        refine ⟨blanks (l.drop (k + 1)),by omega,k + 1,rfl,by omega,?_,rfl⟩
        rw [← hpk,peekN,peekN]; omega
      · have hbl:blanks (l.drop k) = 0:=by
          rw [hd,blanks]
          have:Nat.beq b.toNat 32 = false:=by
            cases h:Nat.beq b.toNat 32 with
            | false=>rfl
            | true=>exact absurd (Nat.eq_of_beq_eq_true h) h32
          rw [this]; rfl
        have h32':¬ ((b.toNat:Int) = 32):=by omega
        have hp:peekN l n = k:=by rw [← hpk,peekN,hbl]; omega
        simp [EV,EVR,evOp,evStr,asStr,h0,hsz,hkl,hi,h32',splice,w5,hne]
        rw [if_neg (by omega),hp,peekB,hp,hb]
        exact ⟨rfl,rfl⟩
    · have ek:k = l.length:=by omega
      subst ek
      have hp:peekN l n = l.length:=by rw [← hpk,peekN,List.drop_length]; rfl
      simp [EV,EVR,evOp,evStr,asStr,h0,hsz,splice]
      rw [hp,peekB,hp,List.getElem?_eq_none (Nat.le_refl _)]
      exact ⟨rfl,rfl⟩
  · exact ⟨n,rfl,hn,rfl,by simp [EV],by simp [EV]⟩
theorem P271 {s:ByteArray} {l:List UInt8} (hs:s.data.toList = l) {n:Nat} (hn:n ≤ l.length) (hl:peekN l n < 4611686018427387904) {K:AV→List Obj→Prop}
    (hK:K (.p (.v (.int .u8 (peekB l n)))) (rdH s (peekN l n))):WR X0 Gam 271 false [.ptr 0 0] (rdH s n) (rdH s n) K:=by
  refine WR_step [0] (rdH s n) [.ptr 0 0] rfl (rdH s n) rfl rfl rfl rfl (WF_mono (peek_wf hs hn hl) ?_)
  rintro r H2 ⟨rfl,rfl⟩
  exact hK
def isWd (b:UInt8):Bool:=(Nat.ble 97 b.toNat && Nat.ble b.toNat 122) || (Nat.ble 48 b.toNat && Nat.ble b.toNat 57)
theorem isWd_iff {b:UInt8}:isWd b = true↔(97 ≤ b.toNat∧b.toNat ≤ 122)∨(48 ≤ b.toNat∧b.toNat ≤ 57):=by
  simp only [isWd,Bool.or_eq_true,Bool.and_eq_true,Nat.ble_eq]
theorem isWd_no {b:UInt8} (h:¬ ((97 ≤ b.toNat∧b.toNat ≤ 122)∨(48 ≤ b.toNat∧b.toNat ≤ 57))):isWd b = false:=by
  cases hw:isWd b with
  | false=>rfl
  | true=>exact absurd (isWd_iff.1 hw) h
def letters:List UInt8→Nat
  | b :: l=>bif isWd b then letters l + 1 else 0
  | []=>0
def wordN (l:List UInt8) (n:Nat):Nat:=n + letters (l.drop n)
theorem word_wf {s:ByteArray} {l:List UInt8} (hs:s.data.toList = l) {n:Nat} (hn:n ≤ l.length) (hl:wordN l (peekN l n) < 4611686018427387904) :
    WF X0 Gam 272 [.ptr 0 0] (rdH s n) fun r H=>r = .p (.v (.string (s.extract (peekN l n) (wordN l (peekN l n)))))∧H = rdH s (wordN l (peekN l n)):=by
  have hsz:=str_size hs
  obtain ⟨p,hp⟩:∃ p,peekN l n = p:=⟨_,rfl⟩
  have hpl:p ≤ l.length:=by
    have:=blanks_le (l.drop n)
    rw [List.length_drop] at this
    rw [← hp,peekN]; omega
  refine WF_intro rfl rfl ?_
  simp [EV,EVR,R271]
  refine P271 hs hn (Nat.lt_of_le_of_lt (Nat.le_add_right ..) hl) ?_
  simp [EV,EVR,evOp,hp]
  refine W_loop (fun m st=>∃ k:Nat,m = letters (l.drop k)∧k ≤ l.length∧p ≤ k∧wordN l k = wordN l p∧lk st.env 0 = some (.ptr 0 0)∧lk st.env 3 = some (int p)∧st.H = rdH s k) ?_ (letters (l.drop p)) _ ?_
  · rintro m ⟨env,H⟩ ⟨k,rfl,hk,hpk,hwk,h0,h3,rfl⟩
    simp only at h0 h3
    by_cases hkl:k < l.length
    · obtain ⟨b,hb⟩:∃ b,l[k]? = some b:=⟨l[k],by simp [hkl]⟩
      have hd:=drop_at hb
      have hi:=str_at hs k
      rw [hb] at hi
      have w5:IntKind.i64.wrap ((k:Int) + 1) = k + 1:=wrap_i64 (by have:k ≤ wordN l k:=Nat.le_add_right ..; rw [hp] at hl; omega)
      have yes:isWd b = true→∃ a:Nat,a < letters (l.drop k)∧∃ k':Nat,a = letters (l.drop k')∧k' = k + 1∧k' ≤ l.length∧p ≤ k'∧wordN l k' = wordN l p:=fun hw=>by
        have hbl:letters (l.drop k) = letters (l.drop (k + 1)) + 1:=by rw [hd,letters,hw]; rfl
        exact ⟨letters (l.drop (k + 1)),by omega,k + 1,rfl,rfl,by omega,by omega,by rw [← hwk,wordN,wordN]; omega⟩
      have no:isWd b = false→wordN l p = k:=fun hw=>by
        have hbl:letters (l.drop k) = 0:=by rw [hd,letters,hw]; rfl
        rw [← hwk,wordN,hbl]; omega
      have kl:(k:Int) ≤ l.length:=by omega
      have pk:(p:Int) ≤ k:=by omega
      by_cases h1:(b.toNat:Int) < 97 <;> by_cases h2:(122:Int) < b.toNat <;> by_cases h5:(b.toNat:Int) < 48 <;> by_cases h4:(57:Int) < b.toNat <;> try omega
      all_goals simp [EV,EVR,evOp,evStr,asStr,h0,h3,hsz,hkl,hi,splice,w5,h1,h2,h5,h4]
      all_goals first
        | (have hw:isWd b = false:=isWd_no (by omega)
           rw [hp,no hw]
           exact ⟨⟨by omega,by omega⟩,rfl,rfl⟩)
        | (obtain ⟨a,q1,k',q2,rfl,q3,q4,q5⟩:=yes (isWd_iff.2 (by omega))
           exact ⟨a,q1,k + 1,q2,q3,q4,q5,rfl⟩)
    · have ek:k = l.length:=by omega
      subst ek
      have hq:wordN l p = l.length:=by rw [← hwk,wordN,List.drop_length]; rfl
      simp [EV,EVR,evOp,evStr,asStr,h0,h3,hsz,splice]
      rw [hp,hq]
      exact ⟨hpl,rfl,rfl⟩
  · exact ⟨p,rfl,hpl,Nat.le_refl _,rfl,by simp [EV],by simp [EV],by simp [EV]⟩
noncomputable def dropU (l:List UInt8):Nat→List UInt8:=List.rec (fun _=>[]) (fun a l ih n=>Nat.rec (a :: l) (fun m _=>ih m) n) l
theorem dropU_eq:∀ (l:List UInt8) (n:Nat),dropU l n = l.drop n
  | [],n=>by simp [dropU]
  | a :: l,0=>rfl
  | a :: l,n + 1=>dropU_eq l n
noncomputable def blU {ρ:Type} (r:List UInt8) (k:Nat→List UInt8→ρ):Nat→ρ:=List.rec (fun p=>k p []) (fun b r ih p=>Bool.rec (k p (b :: r)) (ih (Nat.succ p)) (Nat.beq b.toNat 32)) r
theorem blU_eq {ρ:Type} (k:Nat→List UInt8→ρ):∀ (r:List UInt8) (p:Nat),blU r k p = k (p + blanks r) (r.drop (blanks r))
  | [],p=>rfl
  | b :: r,p=>by
    have h1:blU (b :: r) k p = Bool.rec (k p (b :: r)) (blU r k (p + 1)) (Nat.beq b.toNat 32):=rfl
    rw [h1,blanks]
    cases Nat.beq b.toNat 32 with
    | false=>rfl
    | true =>
      show blU r k (p + 1) = k (p + (blanks r + 1)) (r.drop (blanks r))
      rw [blU_eq k r (p + 1)]
      congr 1
      omega
noncomputable def isWU (b:UInt8):Bool:=Bool.rec (Bool.rec false (Nat.ble b.toNat 57) (Nat.ble 48 b.toNat)) (Bool.rec (Bool.rec false (Nat.ble b.toNat 57) (Nat.ble 48 b.toNat)) true (Nat.ble b.toNat 122)) (Nat.ble 97 b.toNat)
theorem isWU_eq (b:UInt8):isWU b = isWd b:=by
  unfold isWU isWd
  cases Nat.ble 97 b.toNat <;> cases Nat.ble b.toNat 122 <;> cases Nat.ble 48 b.toNat <;> cases Nat.ble b.toNat 57 <;> rfl
noncomputable def ltU {ρ:Type} (r:List UInt8):(List UInt8→Nat→ρ)→ρ:=List.rec (fun k=>k [] 0) (fun b _ ih k=>Bool.rec (k [] 0) (ih fun w c=>k (b :: w) (Nat.succ c)) (isWU b)) r
theorem ltU_eq {ρ:Type}:∀ (r:List UInt8) (k:List UInt8→Nat→ρ),ltU r k = k (r.take (letters r)) (letters r)
  | [],k=>rfl
  | b :: r,k=>by
    have h1:ltU (b :: r) k = Bool.rec (k [] 0) (ltU r fun w c=>k (b :: w) (Nat.succ c)) (isWU b):=rfl
    rw [h1,isWU_eq,letters]
    cases isWd b with
    | false=>rfl
    | true =>
      show (ltU r fun w c=>k (b :: w) (Nat.succ c)) = _
      rw [ltU_eq r]
      rfl
noncomputable def okU (l:List UInt8) (n p:Nat) (r0:List UInt8):Bool:=Bool.rec false (List.rec (Nat.beq n (lenK l)) (fun _ _ _=>true) r0) (Nat.ble p 4611686018427387903)
theorem okU_sound {l:List UInt8} {n p:Nat} (h:okU l n p (l.drop n) = true):n ≤ l.length∧p < 4611686018427387904:=by
  unfold okU at h
  cases hp:Nat.ble p 4611686018427387903 with
  | false=>rw [hp] at h; cases h
  | true =>
    rw [hp] at h
    have hp:=Nat.le_of_ble_eq_true hp
    refine ⟨?_,by omega⟩
    cases hd:l.drop n with
    | nil =>
      rw [hd] at h
      have h:Nat.beq n (lenK l) = true:=h
      rw [lenK_eq] at h
      exact Nat.le_of_eq (Nat.eq_of_beq_eq_true h)
    | cons b r =>
      have:=congrArg List.length hd
      simp at this
      omega
noncomputable def pkU (s:ByteArray) (l:List UInt8) (n:Nat):Option (AV×List Obj) :=
  blU (dropU l n) (fun p r=>fN p fun p=>Bool.rec none (List.rec (some (.p (.v (.int .u8 0)),rdH s p)) (fun b _ _=>fN b.toNat fun c=>some (.p (.v (.int .u8 (.ofNat c))),rdH s p)) r) (okU l n p (dropU l n))) n
noncomputable def wdU (s:ByteArray) (l:List UInt8) (n:Nat):Option (AV×List Obj) :=
  blU (dropU l n) (fun p r=>ltU r fun w c=>fN (Nat.add p c) fun e=>Bool.rec none (some (.p (.v (.string ⟨⟨w⟩⟩)),rdH s e)) (okU l n e (dropU l n))) n
theorem fin_wf {g:Nat} {s:ByteArray} {n:Nat} {v:AV} {H':List Obj} (hw:WF X0 Gam g [.ptr 0 0] (rdH s n) (fun r H=>r = v∧H = H')):call X0 Gam g [.ptr 0 0] (rdH s n) = some (v,H'):=by
  unfold WF at hw
  cases hq:call X0 Gam g [.ptr 0 0] (rdH s n) with
  | none=>rw [hq] at hw; exact hw.elim
  | some q=>rw [hq] at hw; exact congrArg some (Prod.ext hw.1 hw.2)
theorem pkU_ok {s:ByteArray} {n:Nat} {r:AV×List Obj} (h:pkU s s.data.toList n = some r):call X0 Gam 271 [.ptr 0 0] (rdH s n) = some r:=by
  unfold pkU at h
  rw [blU_eq,fN_eq,dropU_eq] at h
  cases ho:okU s.data.toList n (n + blanks (s.data.toList.drop n)) (s.data.toList.drop n) with
  | false=>rw [ho] at h; cases h
  | true =>
    rw [ho] at h
    obtain ⟨q1,q2⟩:=okU_sound ho
    rw [fin_wf (peek_wf rfl q1 q2),← h]
    congr 1
    unfold peekB peekN
    have hg:s.data.toList[n + blanks (s.data.toList.drop n)]? = ((s.data.toList.drop n).drop (blanks (s.data.toList.drop n)))[0]?:=by simp
    rw [hg]
    cases ((s.data.toList.drop n).drop (blanks (s.data.toList.drop n))) with
    | nil=>rfl
    | cons b l=>show _ = fN _ _; rw [fN_eq]; rfl
theorem wdU_ok {s:ByteArray} {n:Nat} {r:AV×List Obj} (h:wdU s s.data.toList n = some r):call X0 Gam 272 [.ptr 0 0] (rdH s n) = some r:=by
  unfold wdU at h
  rw [blU_eq,ltU_eq,fN_eq,dropU_eq] at h
  have he:(n + blanks (s.data.toList.drop n)).add (letters ((s.data.toList.drop n).drop (blanks (s.data.toList.drop n)))) = wordN s.data.toList (peekN s.data.toList n):=by
    unfold wordN peekN
    rw [List.drop_drop]
    rfl
  rw [he] at h
  cases ho:okU s.data.toList n (wordN s.data.toList (peekN s.data.toList n)) (s.data.toList.drop n) with
  | false=>rw [ho] at h; cases h
  | true =>
    rw [ho] at h
    obtain ⟨q1,q2⟩:=okU_sound ho
    rw [fin_wf (word_wf rfl q1 q2),← h]
    have e:∀ a b:Nat,(⟨((s.data.toList.drop a).take (b - a)).toArray⟩:ByteArray) = s.extract a b:=fun a b=>ba_ext (by
      rw [ByteArray.data_extract]
      simp [Array.toList_extract,List.extract_eq_take_drop])
    rw [← e]
    have h2:wordN s.data.toList (peekN s.data.toList n) - peekN s.data.toList n = letters (s.data.toList.drop (peekN s.data.toList n)):=by unfold wordN; omega
    rw [h2]
    simp only [peekN,List.drop_drop]
noncomputable def rdGo (f:Nat) (args:List AV) (H:List Obj):Option (AV×List Obj) :=
  match args,H with
  | [.ptr 0 0],[.cells [.p (.v (.string s)),.p (.v (.int .i64 (.ofNat n)))]]=>Bool.rec (wdU s s.data.toList n) (pkU s s.data.toList n) (Nat.beq f 271)
  | _,_=>none
noncomputable def rdX:FuncId→List AV→List Obj→Option (AV×List Obj):=fun f args H=>Bool.rec (Bool.rec none (rdGo f args H) (Nat.beq f 272)) (rdGo f args H) (Nat.beq f 271)
theorem rdGo_ok {f:Nat} {args:List AV} {H:List Obj} {r:AV×List Obj} (hf:f = 271∨f = 272) (h:rdGo f args H = some r):call X0 Gam f args H = some r:=by
  unfold rdGo at h
  split at h
  · rcases hf with rfl | rfl
    · exact pkU_ok h
    · exact wdU_ok h
  · cases h
theorem rd_ok {f:Nat} {args:List AV} {H:List Obj} {r:AV×List Obj} (h:rdX f args H = some r):call X0 Gam f args H = some r:=by
  unfold rdX at h
  cases h1:Nat.beq f 271 with
  | true=>rw [h1] at h; exact rdGo_ok (.inl (Nat.eq_of_beq_eq_true h1)) h
  | false =>
    rw [h1] at h
    cases h2:Nat.beq f 272 with
    | true=>rw [h2] at h; exact rdGo_ok (.inr (Nat.eq_of_beq_eq_true h2)) h
    | false=>rw [h2] at h; cases h
end Go.Proofs.YtjkdcddpicndgaaGreatDoor
namespace Go.Proofs.YtjkdcddpicndgaaGreatDoor
open Go
structure SFact where
  f:Nat
  args:List AV
  H:List Obj
  r:AV
  H':List Obj
noncomputable def stFind (T:List SFact) (f:Nat) (args:List AV) (H:List Obj):Option (AV×List Obj) :=
  List.rec none (fun e _ ih=>Bool.rec ih (Bool.rec ih (Bool.rec ih (some (e.r,e.H')) (eqObs e.H H)) (eqAVs e.args args)) (Nat.beq e.f f)) T
noncomputable def stX (T:List SFact):XR:=fun f args H=>stFind T f args H
theorem stFind_some {T:List SFact} {f:Nat} {args:List AV} {H:List Obj} {r:AV×List Obj} (h:stFind T f args H = some r):∃ e ∈ T,e.f = f∧e.args = args∧e.H = H∧r = (e.r,e.H'):=by
  induction T with
  | nil=>cases h
  | cons e T ih =>
    have h1:stFind (e :: T) f args H = Bool.rec (stFind T f args H) (Bool.rec (stFind T f args H) (Bool.rec (stFind T f args H) (some (e.r,e.H')) (eqObs e.H H)) (eqAVs e.args args)) (Nat.beq e.f f):=rfl
    rw [h1] at h
    have go:stFind T f args H = some r→∃ e' ∈ e :: T,e'.f = f∧e'.args = args∧e'.H = H∧r = (e'.r,e'.H'):=fun h=>by
      obtain ⟨e',q1,q2⟩:=ih h
      exact ⟨e',List.mem_cons_of_mem _ q1,q2⟩
    cases hf:Nat.beq e.f f with
    | false=>rw [hf] at h; exact go h
    | true =>
      rw [hf] at h
      cases ha:eqAVs e.args args with
      | false=>rw [ha] at h; exact go h
      | true =>
        rw [ha] at h
        cases hH:eqObs e.H H with
        | false=>rw [hH] at h; exact go h
        | true =>
          rw [hH] at h
          cases h
          exact ⟨e,List.mem_cons_self ..,Nat.eq_of_beq_eq_true hf,eqAVs_sound _ _ ha,eqObs_sound hH,rfl⟩
noncomputable def SFact.run (X:XR) (n:Nat) (e:SFact):Bool:=match (itK Gam X n).call e.f e.args e.H with
  | some r=>eqAV r.1 e.r && eqObs r.2 e.H'
  | none=>false
noncomputable def Fact.run (X:XR) (n:Nat) (e:Fact):Bool:=pfK X Gam n e.f e.args e.r
section
variable {P:Program} {kn:TypeId→Bool}
theorem SFact.sim (hA:SoundAll P kn) {S:Sub} {X:XR} (hX:@RuleOk S P kn X) {n:Nat} {e:SFact} (h:e.run X n = true):@CallSim S P kn e.f e.args e.H (e.r,e.H'):=by
  unfold SFact.run at h
  split at h
  · rename_i r hr
    simp only [Bool.and_eq_true] at h
    rw [itK_eq] at hr
    have hc:=(itE_good n).call hr
    have:=hA S X hX _ _ _ _ hc
    rwa [show r = (e.r,e.H') from Prod.ext (eqAV_sound _ _ h.1) (eqObs_sound h.2)] at this
  · cases h
theorem st_ok (hA:SoundAll P kn) {S:Sub} {X:XR} (hX:@RuleOk S P kn X) {n:Nat} {T:List SFact} (h:∀ e ∈ T,e.run X n = true):@RuleOk S P kn (stX T):=fun g args H r hx=>by
  obtain ⟨e,he,rfl,rfl,rfl,rfl⟩:=stFind_some hx
  exact SFact.sim hA hX (h e he)
theorem Fact.sim (hA:SoundAll P kn) {S:Sub} {X:XR} (hX:@RuleOk S P kn X) {n:Nat} {e:Fact} (h:e.run X n = true):@CallSim S P kn e.f e.args [] (e.r,[]) :=
  @callSim_plain S P kn X Gam (fun f a H r hc=>hA S X hX f a H r hc) e.f e.args e.r (pf_of_evalK h)
theorem facts_ok (hA:SoundAll P kn) {S:Sub} {X:XR} (hX:@RuleOk S P kn X) {n:Nat} {T:List Fact} (h:∀ e ∈ T,e.run X n = true):@RuleOk S P kn (factX T):=fact_ok fun e he=>Fact.sim hA hX (h e he)
theorem rdX_ok (hA:SoundAll P kn) {S:Sub}:@RuleOk S P kn rdX:=fun g args H r h=>hA S X0 (fun _ _ _ _ h=>by cases h) _ _ _ _ (rd_ok h)
theorem all_nil {α:Type} {p:α→Prop}:∀ e ∈ ([]:List α),p e:=fun _ h=>by cases h
theorem all_cons {α:Type} {p:α→Prop} {a:α} {l:List α} (h:p a) (hl:∀ e ∈ l,p e):∀ e ∈ a :: l,p e:=fun e he=>(List.mem_cons.1 he).elim (fun q=>q ▸ h) (hl e)
end
end Go.Proofs.YtjkdcddpicndgaaGreatDoor
namespace Go.Proofs.YtjkdcddpicndgaaGreatDoor
open Go
noncomputable def onX (f0:Nat) (X:XR):XR:=fun f a H=>Bool.rec none (X f a H) (Nat.beq f f0)
section
variable {P:Program} {kn:TypeId→Bool}
theorem on_ok {S:Sub} {f0:Nat} {X:XR} (h:@RuleOk S P kn X):@RuleOk S P kn (onX f0 X):=fun g args H r hx=>by
  unfold onX at hx
  cases hg:Nat.beq g f0 with
  | false=>rw [hg] at hx; cases hx
  | true=>rw [hg] at hx; exact h g args H r hx
def En.con (e:En):Bool:=match e.t,e.x,e.y,e.r with
  | [],.C x,.C y,.C r=>decide (r = opZ e.f [] (max (Nat.log2 x.length) (Nat.log2 y.length)) x y)
  | _,_,_,_=>false
theorem con_eqs (s:Vals):∀ {T:List En} {L:List Nat},(∀ e ∈ T,e.con = true)→Eqs s L T
  | [],_,_=>trivial
  | e :: T,L,h=>by
    have he:=h e (List.mem_cons_self ..)
    unfold En.con at he
    split at he
    · rename_i x y r ht hx hy hr
      refine ⟨?_,?_⟩
      · rw [ht,hx,hy,hr]
        exact of_decide_eq_true he
      · rw [hr]
        exact con_eqs s fun e' h'=>h e' (List.mem_cons_of_mem _ h')
    · cases he
def Sg.con (e:Sg):Bool:=match e.t,e.x with
  | [],.C x=>decide (sgZ [] (Nat.log2 x.length) x = e.s)
  | _,_=>false
theorem con_sg (s:Vals) {L:List Nat} {e:Sg} (h:e.con = true):e.val s L = e.s:=by
  unfold Sg.con at h
  split at h
  · rename_i x ht hx
    unfold Sg.val
    rw [ht,hx]
    exact of_decide_eq_true h
  · cases h
end
end Go.Proofs.YtjkdcddpicndgaaGreatDoor
namespace Go.Proofs.YtjkdcddpicndgaaGreatDoor
open Go
mutual
def noH:PV→Bool
  | .v _=>true
  | .nsl=>true
  | .sl rows=>noHss rows
  | .h _ _=>false
def noHs:List PV→Bool
  | []=>true
  | x :: xs=>noH x && noHs xs
def noHss:List (List PV)→Bool
  | []=>true
  | r :: rs=>noHs r && noHss rs
end
mutual
def noHA:AV→Bool
  | .p x=>noH x
  | .lit rows=>noHss rows
  | .agg cs=>noHAs cs
  | .tup cs=>noHAs cs
  | _=>false
def noHAs:List AV→Bool
  | []=>true
  | a :: as=>noHA a && noHAs as
end
theorem noHs_mem:∀ {l:List PV},noHs l = true→∀ x ∈ l,noH x = true
  | [],_,_,h=>by cases h
  | y :: ys,h,x,hx=>by
    simp only [noHs,Bool.and_eq_true] at h
    rcases List.mem_cons.1 hx with e | e
    · rw [e]; exact h.1
    · exact noHs_mem h.2 x e
theorem noHss_mem:∀ {l:List (List PV)},noHss l = true→∀ r ∈ l,noHs r = true
  | [],_,_,h=>by cases h
  | y :: ys,h,x,hx=>by
    simp only [noHss,Bool.and_eq_true] at h
    rcases List.mem_cons.1 hx with e | e
    · rw [e]; exact h.1
    · exact noHss_mem h.2 x e
theorem noHAs_mem:∀ {l:List AV},noHAs l = true→∀ x ∈ l,noHA x = true
  | [],_,_,h=>by cases h
  | y :: ys,h,x,hx=>by
    simp only [noHAs,Bool.and_eq_true] at h
    rcases List.mem_cons.1 hx with e | e
    · rw [e]; exact h.1
    · exact noHAs_mem h.2 x e
theorem repP_any {S S':Sub} {w:World} {D:Nat→Nat→Prop} {c:Value} {x:PV} (h:@RepP S w D c x):noH x = true→@RepP S' w D c x:=by
  induction h with
  | v h=>intro _; exact .v h
  | nsl=>intro _; exact .nsl
  | nil=>intro _; exact .nil
  | h h _=>intro hn; cases hn
  | sl cs hn hc hes hD hcell _ ih =>
    intro hh
    rw [noH] at hh
    exact .sl cs hn hc hes hD hcell fun i j row x h1 h2=>ih i j row x h1 h2 (noHs_mem (noHss_mem hh row (List.mem_of_getElem? h1)) x (List.mem_of_getElem? h2))
theorem rep_any {S S':Sub} {w:World} {g:Gh} {H:List Obj} {c:Value} {a:AV} (h:@Rep S w g H c a):noHA a = true→@Rep S' w g [] c a:=by
  induction h with
  | p h=>intro hn; rw [noHA] at hn; exact .p (repP_any h hn)
  | lit h=>intro hn; rw [noHA] at hn; exact .lit (repP_any h (by rw [noH]; exact hn))
  | agg ha h1 _ ih=>intro hn; rw [noHA] at hn; exact .agg ha h1 fun i c x q1 q2=>ih i c x q1 q2 (noHAs_mem hn x (List.mem_of_getElem? q2))
  | tup ha _ ih=>intro hn; rw [noHA] at hn; exact .tup ha fun i c x q1 q2=>ih i c x q1 q2 (noHAs_mem hn x (List.mem_of_getElem? q2))
  | _=>intro hn; simp [noHA] at hn
section
variable {P:Program} {kn:TypeId→Bool}
theorem stRel_any {S S':Sub} {w:World} {g:Gh} (h:@StRel S w g []):@StRel S' w g [] :=
  ⟨fun l o hl=>by simp at hl,fun l k hl=>by simp at hl,fun l o hl=>by simp at hl,@StRel.dom S _ _ _ h⟩
theorem evo_any {S S':Sub} {w w':World} {g g':Gh} (h:@Evo S w g [] w' g' []):@Evo S' w g [] w' g' [] :=
  ⟨@Evo.D S _ _ _ _ _ _ h,@Evo.cells S _ _ _ _ _ _ h,fun c a hr=>@Rep.step S' _ _ _ _ _ _ (@Evo.D S _ _ _ _ _ _ h) (@Evo.cells S _ _ _ _ _ _ h) (fun l o hl=>by simp at hl) _ _ hr,@Evo.keep S _ _ _ _ _ _ h,@Evo.own S _ _ _ _ _ _ h,@Evo.newD S _ _ _ _ _ _ h,@Evo.cd S _ _ _ _ _ _ h⟩
theorem callSim_any {S S':Sub} {f:FuncId} {args:List AV} {r:AV} (ha:noHAs args = true) (hr:noHA r = true) (h:@CallSim S P kn f args [] (r,[])):@CallSim S' P kn f args [] (r,[]):=by
  intro w gh cs hcd hs hargs
  refine (h w gh cs hcd (stRel_any hs) ⟨hargs.1,fun i c x q1 q2=>rep_any (hargs.2 i c x q1 q2) (noHAs_mem ha x (List.mem_of_getElem? q2))⟩).mono fun e w' he=>?_
  obtain ⟨v,g',rfl,h1,h4,h5⟩:=he
  exact ⟨v,g',rfl,evo_any h1,stRel_any h4,rep_any h5 hr⟩
theorem or_ok {S:Sub} {A B:XR} (ha:@RuleOk S P kn A) (hb:@RuleOk S P kn B):@RuleOk S P kn (orX A B):=@RuleOk.or S P kn A B ha hb
theorem callSim_put {S:Sub} {f:FuncId} {args:List AV} {r:AV} (h:@CallSim S P kn f args [] (r,[])):@CallSim S P kn f (args.map (@subA S)) [] (r,[]):=by
  refine @callSim_args S P kn f (args.map (@subA S)) args r (fun w gh cs ha=>⟨by rw [ha.1,List.length_map],fun i c x q1 q2=>?_⟩) h
  exact @Rep.out S _ _ _ x _ (ha.2 i c (@subA S x) q1 (by rw [List.getElem?_map,q2]; rfl))
end
end Go.Proofs.YtjkdcddpicndgaaGreatDoor

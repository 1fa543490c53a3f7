/- Part of the proof of Rows.ExerciseMiddleCardSaid: EvQ7, EvN7, EvN8, EvN9, EvN10, EvN11, EvN12, EvN13, EvG2. -/
import Derived.Test.YtjkdcddpicndgaaGreatDoorP15
import Derived.Test.YtjkdcddpicndgaaGreatDoorP17
set_option linter.all false
namespace Go.Proofs.YtjkdcddpicndgaaGreatDoor
open Go
theorem div_done {a b u o S:Nat} (hS:0 < S) (h:a * S = u + o * (b * S)) (hu:u < b * S):o = a / b∧u / S = a % b:=by
  have hb:0 < b:=Nat.pos_of_ne_zero fun e=>by subst e; simp at hu
  have e1:u = (a - o * b) * S:=by
    rw [Nat.sub_mul,h,Nat.mul_assoc,Nat.add_sub_cancel]
  have hob:o * b * S ≤ a * S:=by rw [h,Nat.mul_assoc]; exact Nat.le_add_left _ _
  have hob':o * b ≤ a:=Nat.le_of_mul_le_mul_right hob hS
  rw [e1] at hu
  have h2:a - o * b < b:=Nat.lt_of_mul_lt_mul_right hu
  obtain ⟨d,hd⟩:∃ d,a = o * b + d:=⟨a - o * b,by omega⟩
  have h3:a - o * b = d:=by omega
  rw [h3] at h2 e1
  rw [e1,Nat.mul_div_cancel _ hS,hd]
  constructor
  · rw [Nat.add_comm,Nat.add_mul_div_right _ _ hb,Nat.div_eq_of_lt h2,Nat.zero_add]
  · rw [Nat.add_comm,Nat.add_mul_mod_self_right,Nat.mod_eq_of_lt h2]
set_option maxHeartbeats 2000000 in
theorem divideL_wf {a b:List Nat} {n t:Nat} (ha:Dig a) (hb:Dig b) (ta:trim a = a) (tb:trim b = b) (hn:b.length = n + 2) (ht:b[n + 1]? = some t) (la:a.length ≤ 1000) (lb0:b.length ≤ 1000) :
    PF X0 Gam 140 [.p (mag a),.p (mag b)] (.tup [.p (mag (digits (val a / val b))),.p (mag (digits (val a % val b)))]):=by
  have bt:=hb.get ht
  have t0:0 < t:=Nat.pos_of_ne_zero (trim_last tb (by rw [hn]; exact ht))
  refine WF_intro rfl rfl ?_
  by_cases hlt:cmpM a b < 0
  · have h:val a < val b:=by
      rw [cmpM_eq ha hb ta tb] at hlt
      unfold cmpN at hlt
      refine Nat.lt_of_not_le fun h=>?_
      rw [if_neg (by omega)] at hlt
      split at hlt <;> omega
    have lb:b.length ≤ 1000000:=by omega
    have ed:digits (val a) = a:=by rw [digits_val ha,ta]
    simp [EV,C182]
    rw [P182 ha hb (by omega) lb]
    simp [EV,hlt,Nat.div_eq_of_lt h,Nat.mod_eq_of_lt h,digits_zero,ed]
  have hn0:¬ ((n:Int) + 2 = 1):=by omega
  have hge:val b ≤ val a:=by
    rw [cmpM_eq ha hb ta tb] at hlt
    unfold cmpN at hlt
    refine Nat.le_of_not_lt fun h=>hlt ?_
    rw [if_pos h]; decide
  have hlen:b.length ≤ a.length:=by
    refine Nat.le_of_not_lt fun h=>?_
    have:=length_lt_val ha tb h
    omega
  obtain ⟨s,es⟩:∃ s,32 - len32 t = s:=⟨_,rfl⟩
  have hnorm:=lead_norm bt t0
  rw [es] at hnorm
  obtain ⟨hs32,hn1,hn2⟩:=hnorm
  have w1:IntKind.i64.wrap ((n:Int) + 2 - 1) = (n + 1:Nat):=by rw [wrap_i64 (by omega)]; omega
  have hgt:b[n + 1] = t:=by rw [List.getElem?_eq_getElem (by omega)] at ht; exact Option.some.inj ht
  simp [EV,EVR,evOp,C182]
  rw [P182 ha hb (by omega) (by omega)]
  simp [EV,EVR,evOp,hlt,hn,hn0,w1,hgt,limb,C185]
  refine ⟨by omega,?_⟩
  have e1:AV.p (PV.v (Value.int IntKind.u32 (t:Int))) = u32 t:=rfl
  rw [e1,P185 bt t0,es]
  simp [EV,EVR,evOp,C186]
  rw [P186 hb (by omega) (by omega)]
  obtain ⟨v,ev⟩:∃ v,digits (val b * 2 ^ s) = v:=⟨_,rfl⟩
  have dv:Dig v:=by rw [← ev]; exact dig_digits _
  have vv:val v = val b * 2 ^ s:=by rw [← ev,val_digits]
  have w2:IntKind.i64.wrap ((a.length:Int) + 1) = (a.length + 1:Nat):=by rw [wrap_i64 (by omega)]; omega
  rw [ev]
  simp [EV,EVR,evOp,mkSlice,w2,C186]
  have er:List.replicate (a.length + 1) [PV.v (I IntKind.u32 0)] = (List.replicate (a.length + 1) 0).map limb:=by simp [limb]
  have hS:2 ^ s < 4294967296:=Nat.pow_lt_pow_right (by decide) (show s < 32 from hs32)
  have lA:(digits (val a * 2 ^ s)).length ≤ a.length + 1:=by
    refine digits_length_le.2 ?_
    have e1:4294967296 ^ (a.length + 1) = 4294967296 ^ a.length * 4294967296:=Nat.pow_succ ..
    rw [e1]
    exact Nat.mul_lt_mul'' (val_lt ha) hS
  obtain ⟨A,eA⟩:∃ A,digits (val a * 2 ^ s) = A:=⟨_,rfl⟩
  have dA:Dig A:=by rw [← eA]; exact dig_digits _
  have vA:val A = val a * 2 ^ s:=by rw [← eA,val_digits]
  rw [eA] at lA
  refine ⟨⟨by omega,by omega,by omega⟩,?_⟩
  rw [er]
  have e2:AV.p (PV.v (Value.int IntKind.i64 (s:Int))) = int s:=rfl
  rw [e2,P186 ha (by omega) (by omega),eA]
  simp [EV,EVR,evOp,-List.map_replicate]
  rw [copyV_at (rows:=(List.replicate (a.length + 1) 0).map limb) (ys:=A.map limb) rfl (by simp) (by simp [EV]) (by simp [limb]) (by simp; exact lA)]
  simp [EV,EVR,evOp,-List.map_replicate]
  obtain ⟨L,eL⟩:∃ L,L = a.length - b.length + 1:=⟨_,rfl⟩
  have w3:IntKind.i64.wrap (IntKind.i64.wrap ((a.length:Int) - b.length) + 1) = L:=by
    rw [wrap_i64 (n:=(a.length:Int) - b.length) (by omega),wrap_i64 (by omega)]; omega
  rw [w3]
  refine ⟨by omega,?_⟩
  have hsv:=shift_val (n:=n + 1) hb (by omega) ht hn1 hn2
  rw [← vv] at hsv
  have lv:v.length = n + 2:=by
    refine Nat.le_antisymm ?_ ?_
    · rw [← ev]; exact digits_length_le.2 (by rw [← vv]; exact hsv.2)
    · refine Nat.lt_of_not_le fun h=>?_
      have h1:=val_lt dv
      have h2:4294967296 ^ v.length ≤ 4294967296 ^ (n + 1):=Nat.pow_le_pow_right (by decide) (by omega)
      have h3:4294967296 ^ (n + 1) ≤ 2147483648 * 4294967296 ^ (n + 1):=Nat.le_mul_of_pos_left _ (by decide)
      omega
  have el:min (a.length + 1) A.length = A.length:=by omega
  refine W_loop (fun m st=>∃ (k:Nat) (u O:List Nat),m = L - k∧k ≤ L∧lk st.env 8 = some (int s)∧lk st.env 9 = some (.p (mag v))∧lk st.env 10 = some (.ar 0 0 0 (a.length + 1))∧lk st.env 11 = some (.ar 1 0 0 L)∧lk st.env 63 = some (int L)∧lk st.env 64 = some (int k) ∧
    st.H = [.arr 1 none 0 (u.map limb),.arr 1 none 0 (O.map limb)]∧u.length = a.length + 1∧Dig u∧O.length = L∧Dig O∧val (u.drop (L - k)) < val v∧val a * 2 ^ s = val u + val (O.drop (L - k)) * 4294967296 ^ (L - k) * val v) ?_ L _ ?_
  · rintro m ⟨env,H⟩ ⟨k,u,O,rfl,hk,h8,h9,h10,h11,h63,h64,rfl,lu,du,lO,dO,hlow,hval⟩
    simp only at h8 h9 h10 h11 h63 h64
    by_cases hkL:k < L
    · obtain ⟨j,ej⟩:∃ j,j = L - k - 1:=⟨_,rfl⟩
      have eJ:L - k = j + 1:=by omega
      rw [eJ] at hlow hval
      obtain ⟨P,eP⟩:∃ P,P = u.take j:=⟨_,rfl⟩
      obtain ⟨D,eD⟩:∃ D,D = u.drop j:=⟨_,rfl⟩
      have lP:P.length = j:=by rw [eP]; simp; omega
      have lD:D.length = a.length + 1 - j:=by rw [eD]; simp [lu]
      have ePD:u = P ++ D:=by rw [eP,eD,List.take_append_drop]
      have dD:Dig D:=by rw [eD]; exact du.drop j
      have hd1:u.drop (j + 1) = D.drop 1:=by rw [eD,List.drop_drop]
      rw [hd1] at hlow
      obtain ⟨x,hx⟩:∃ x,D[0]? = some x:=⟨_,List.getElem?_eq_getElem (by omega)⟩
      obtain ⟨c0,hc⟩:∃ x,D[n]? = some x:=⟨_,List.getElem?_eq_getElem (by omega)⟩
      obtain ⟨b0,hb0⟩:∃ x,D[n + 1]? = some x:=⟨_,List.getElem?_eq_getElem (by omega)⟩
      obtain ⟨a0,ha0⟩:∃ x,D[n + 2]? = some x:=⟨_,List.getElem?_eq_getElem (by omega)⟩
      obtain ⟨v1,hv1⟩:∃ x,v[n + 1]? = some x:=⟨_,List.getElem?_eq_getElem (by omega)⟩
      obtain ⟨v2,hv2⟩:∃ x,v[n]? = some x:=⟨_,List.getElem?_eq_getElem (by omega)⟩
      have hav:=lead_le dv lv hv1 ha0 hlow
      obtain ⟨z1,z2,z3⟩:=seg_all dD dv lv hx (by omega) hlow
      have hnorm1:2147483648 ≤ v1:=by
        have h:=val_take_succ hv1
        rw [List.take_of_length_le (by omega)] at h
        have hl:=val_lt (dv.take (n + 1))
        rw [List.length_take,Nat.min_eq_left (by omega)] at hl
        refine Nat.le_of_not_lt fun hc=>?_
        have h4:=Nat.mul_le_mul_left (4294967296 ^ (n + 1)) (show v1 + 1 ≤ 2147483648 from hc)
        rw [Nat.mul_add,Nat.mul_one,Nat.mul_comm _ 2147483648] at h4
        have h5:=hsv.1
        rw [h] at h5
        generalize 4294967296 ^ (n + 1) * v1 = x1 at *
        generalize 2147483648 * 4294967296 ^ (n + 1) = x2 at *
        generalize 4294967296 ^ (n + 1) = x3 at *
        omega
      have s3:=seg3 hc hb0 ha0
      have s2:=seg2 lv hv2 hv1
      have l3:=val_lt (dD.take n)
      rw [List.length_take,Nat.min_eq_left (by omega)] at l3
      have l2:=val_lt (dv.take n)
      rw [List.length_take,Nat.min_eq_left (by omega)] at l2
      have q1:=est_lo s3 l3 s2 (by omega) (by rw [← z2]; exact z3)
      have q2:=est_hi s3 s2 l2 (by omega)
      have qs:=qhat_small (T:=a0 * 4294967296 + b0) (u2:=c0) (v1:=v1) (v2:=v2)
      have wL:IntKind.i64.wrap ((L:Int) - 1) = (L - 1:Nat):=by rw [wrap_i64 (by omega)]; omega
      have wj:IntKind.i64.wrap ((L:Int) - 1 - k) = j:=by rw [wrap_i64 (by omega)]; omega
      have wL':IntKind.i64.wrap ((L:Int) - 1) = (L:Int) - 1:=by rw [wrap_i64 (by omega)]
      have gu:∀ i,u[j + i]? = D[i]?:=fun i=>by rw [ePD,pre_get lP]
      have tk:List.take (a.length + 1) (u.map limb) = u.map limb:=List.take_of_length_le (by simp; omega)
      simp [EV,EVR,evOp,h8,h9,h10,h11,h63,h64,hkL,wL',wj,C188,lu,tk]
      rw [P188 du dv lv (by omega) (by omega) (by rw [show j + n + 2 = j + (n + 2) by omega,gu]; exact ha0) (by rw [show j + n + 1 = j + (n + 1) by omega,gu]; exact hb0) (by rw [gu]; exact hc) hv1 hv2 hav hnorm1]
      simp [EV,EVR,evOp,R187,passArgs,passFrz]
      rw [ePD]
      refine P187 (B:=[_]) lP dD dv lv (by omega) (by omega) (by omega) qs q1 q2 fun D' l1 l4 l5 l6=>?_
      have bQ:val (D.take (n + 2 + 1)) / val v < 4294967296:=by
        refine (Nat.div_lt_iff_lt_mul (by omega)).2 ?_
        rw [← z2,Nat.mul_comm]; exact z3
      obtain ⟨Q,eQ⟩:∃ Q,val (D.take (n + 2 + 1)) / val v = Q:=⟨_,rfl⟩
      rw [eQ] at bQ ⊢
      have k3:IntKind.i64.wrap ((k:Int) + 1) = (k + 1:Nat):=by rw [wrap_i64 (by omega)]; omega
      have hjL:j < L:=by omega
      simp [EV,EVR,evOp,h8,h9,h10,h11,h63,h64,hjL,lO,-List.map_append]
      rw [storeC_limb (O:=O) (by simp) (by omega) (by omega)]
      simp [EV,EVR,evOp,h8,h9,h10,h11,h63,h64,k3,-List.map_append,-List.map_set]
      have vD':val D' = val (D.take (n + 2 + 1)) % val v:=by
        rw [val_split (l:=D') (n + 2 + 1) (by omega),l5,z1,Nat.mul_zero,Nat.add_zero,l6]
      have eL1:L - (k + 1) = j:=by omega
      refine ⟨L - (k + 1),by omega,k + 1,rfl,by omega,rfl,P ++ D',O.set j Q,⟨rfl,rfl⟩,by simp; omega,Dig.append (by rw [eP]; exact du.take j) l4,by simp [lO],dO.set bQ,?_,?_⟩
      · rw [eL1,List.drop_left' lP,vD']
        exact Nat.mod_lt _ (by omega)
      · have e1:val ((O.set j Q).drop j) = Q + 4294967296 * val (O.drop (j + 1)):=by
          rw [List.drop_set,if_neg (by omega),Nat.sub_self,List.drop_eq_getElem_cons (by omega),List.set_cons_zero]; rfl
        have e2:4294967296 ^ (j + 1) = 4294967296 ^ j * 4294967296:=Nat.pow_succ ..
        have e3:=Nat.div_add_mod (val (D.take (n + 2 + 1))) (val v)
        rw [eQ,← vD',← z2] at e3
        have e4:val (P ++ D) = val P + 4294967296 ^ j * val D:=by rw [val_append,lP]
        have e5:val (P ++ D') = val P + 4294967296 ^ j * val D':=by rw [val_append,lP]
        rw [ePD,e4,e2] at hval
        rw [eL1,e1,e5,hval,← e3]
        generalize 4294967296 ^ j = Z
        generalize val (O.drop (j + 1)) = X
        generalize val v = V
        grind
    · have ek:k = L:=by omega
      subst ek
      rw [Nat.sub_self,List.drop_zero] at hlow
      rw [Nat.sub_self,List.drop_zero,Nat.pow_zero,Nat.mul_one] at hval
      rw [vv] at hval hlow
      obtain ⟨r1,r2⟩:=div_done (Nat.pow_pos (by decide)) hval hlow
      simp [EV,EVR,evOp,h8,h9,h10,h11,h63,h64,← lu,C184,take_limb]
      rw [P184 (by omega),trim_eq_of du]
      simp [EV,EVR,evOp,h8,h9,h10,h11,h63,h64,C189]
      have lU:(digits (val u)).length ≤ u.length:=digits_length_le.2 (val_lt du)
      refine P189 (dig_digits _) (by omega) (by omega) fun bl=>?_
      rw [val_digits,r2]
      simp [EV,EVR,evOp,h8,h9,h10,h11,h63,h64,← lO,C184,take_limb]
      rw [P184 (by omega),trim_eq_of dO,r1]
      simp [EV,EVR,evOp]
  · have lz:(A ++ List.replicate (a.length + 1 - A.length) 0).length = a.length + 1:=by simp; omega
    have vz:val (A ++ List.replicate (a.length + 1 - A.length) 0) = val a * 2 ^ s:=by rw [val_append,val_replicate,Nat.mul_zero,Nat.add_zero,vA]
    have dz:Dig (A ++ List.replicate (a.length + 1 - A.length) 0):=dA.append Dig.replicate
    obtain ⟨u,eu⟩:∃ u,A ++ List.replicate (a.length + 1 - A.length) 0 = u:=⟨_,rfl⟩
    rw [eu] at lz vz dz
    have hlow:val (u.drop L) < val v:=by
      refine Nat.lt_of_not_le fun hc=>?_
      have h1:=val_split (l:=u) L (by omega)
      have h2:=Nat.mul_le_mul_left (4294967296 ^ L) (Nat.le_trans hsv.1 hc)
      have h3:4294967296 ^ L * (2147483648 * 4294967296 ^ (n + 1)) = 4294967296 ^ a.length * 2147483648:=by
        have e5:4294967296 ^ a.length = 4294967296 ^ L * 4294967296 ^ (n + 1):=by rw [← Nat.pow_add,show L + (n + 1) = a.length by omega]
        rw [e5]
        generalize 4294967296 ^ L = x1
        generalize 4294967296 ^ (n + 1) = x2
        rw [Nat.mul_comm 2147483648 x2,Nat.mul_assoc]
      have h4:val a * 2 ^ s < 4294967296 ^ a.length * 2147483648:=by
        refine Nat.mul_lt_mul_of_lt_of_le (val_lt ha) ?_ (by decide)
        exact Nat.pow_le_pow_right (n:=2) (by decide) (show s ≤ 31 by omega)
      rw [← vz] at h4
      generalize 4294967296 ^ L * val (u.drop L) = x3 at *
      generalize 4294967296 ^ L * (2147483648 * 4294967296 ^ (n + 1)) = x4 at *
      generalize 4294967296 ^ a.length * 2147483648 = x5 at *
      omega
    refine ⟨0,u,List.replicate L 0,by simp,by omega,by simp [EV],by simp [EV],by simp [EV],by simp [EV],by simp [EV],by simp [EV],?_,lz,dz,by simp,Dig.replicate,by simpa using hlow,?_⟩
    · rw [← eu]; simp [limb,el]
    · rw [vz]
      simp [val_replicate,val]
end Go.Proofs.YtjkdcddpicndgaaGreatDoor
namespace Go.Proofs.YtjkdcddpicndgaaGreatDoor
open Go
theorem cmpM_lt {a b:List Nat} (ha:Dig a) (hb:Dig b) (ta:trim a = a) (tb:trim b = b):cmpM a b < 0↔val a < val b:=by
  rw [cmpM_eq ha hb ta tb]
  unfold cmpN
  by_cases h:val a < val b
  · simp [h]
  · by_cases h2:val b < val a <;> simp [h,h2]
theorem digits_of_trim {a:List Nat} (ha:Dig a) (ta:trim a = a):digits (val a) = a:=by rw [digits_val ha,ta]
theorem divide_pf1 (a:List Nat) (d:Nat) (ha:Dig a) (ta:trim a = a) (hd:0 < d) (bd:d < 4294967296) (la:a.length ≤ 100000) :
    PF X0 Gam 140 [.p (mag a),.p (mag [d])] (.tup [.p (mag (digits (val a / d))),.p (mag (digits (val a % d)))]):=by
  refine WF_intro rfl rfl ?_
  have hb:Dig [d]:=Dig.cons bd Dig.nil
  have tb:trim [d] = [d]:=by simp [trim]; omega
  have vb:val [d] = d:=by simp [val]
  have hc:=cmpM_lt ha hb ta tb
  rw [vb] at hc
  simp [EV,C182]
  rw [P182 ha hb (by omega) (by simp)]
  by_cases h:val a < d
  · have:=hc.2 h
    simp [EV,this,Nat.div_eq_of_lt h,Nat.mod_eq_of_lt h,digits_zero,digits_of_trim ha ta]
  · have hn:¬ cmpM a [d] < 0:=fun h'=>h (hc.1 h')
    have hm:val a % d < d:=Nat.mod_lt _ hd
    obtain ⟨m,em⟩:∃ m,val a % d = m:=⟨_,rfl⟩
    rw [em] at hm
    simp [EV,hn,limb,C183]
    have e1:AV.p (PV.v (Value.int IntKind.u32 (d:Int))) = u32 d:=rfl
    rw [e1,P183 ha hd bd (by omega)]
    have e2:[[PV.v (Value.int IntKind.u32 (m:Int))]] = [m].map limb:=by simp [limb]
    have e3:trim [m] = digits m:=by rw [trim_eq_of (Dig.cons (by omega) Dig.nil)]; simp [val]
    simp [EV,em,fillRows,partArs,splice,toPVs,toPV,canon,C184,arsOf_nil]
    rw [e2,P184 (by simp),e3]
    simp [EV,freeze,em]
theorem divide_pf (a b:List Nat) (ha:Dig a) (hb:Dig b) (ta:trim a = a) (tb:trim b = b) (hb0:b ≠ []) (la:a.length ≤ 1000) (lb:b.length ≤ 1000) :
    PF X0 Gam 140 [.p (mag a),.p (mag b)] (.tup [.p (mag (digits (val a / val b))),.p (mag (digits (val a % val b)))]):=by
  match b,hb,tb,hb0 with
  | [d],hb,tb,_ =>
    have hd:0 < d:=by
      refine Nat.pos_of_ne_zero fun e=>?_
      subst e; simp [trim] at tb
    have:=divide_pf1 a d ha ta hd hb.head (by omega)
    simpa [val] using this
  | c :: d :: b,hb,tb,_ =>
    exact divideL_wf (n:=b.length) (t:=((c :: d :: b)[b.length + 1]'(by simp))) ha hb ta tb (by simp) (List.getElem?_eq_getElem (by simp)) la lb
theorem P140 {a b:List Nat} {H H1:List Obj} {K:AV→List Obj→Prop} (ha:Dig a) (hb:Dig b) (ta:trim a = a) (tb:trim b = b) (hb0:b ≠ []) (la:a.length ≤ 1000) (lb:b.length ≤ 1000) :
    WP X0 Gam 140 false [.p (mag a),.p (mag b)] H H1 K↔K (.tup [.p (mag (digits (val a / val b))),.p (mag (digits (val a % val b)))]) H1:=WP_slice (divide_pf a b ha hb ta tb hb0 la lb) (by simp [flat])
end Go.Proofs.YtjkdcddpicndgaaGreatDoor
namespace Go.Proofs.YtjkdcddpicndgaaGreatDoor
open Go
theorem valI_lt {neg:Bool} {l:List Nat} (hl:Dig l) (h:valI neg l = true):val l < 4294967296 ^ 128 :=
  Nat.lt_of_lt_of_le (val_lt hl) (Nat.pow_le_pow_right (by omega) (valI_trim h).2)
theorem resI_ok {neg:Bool} {n:Nat} (h:n < 4294967296 ^ 128):resI neg n = .tup [agI (neg && decide (n ≠ 0)) (digits n),int 0]:=by unfold resI; rw [if_pos h]
theorem trim_len {l:List Nat} (h:trim l = l) {n:Nat} (hn:val l < 4294967296 ^ n) (hl:Dig l):l.length ≤ n:=by
  have:=digits_length_le.2 hn
  rwa [digits_of_trim hl h] at this
theorem gcd_le {a b:Nat} {Z:Nat} (ha:a < Z) (hb:b < Z):Nat.gcd a b < Z:=by
  rcases Nat.eq_zero_or_pos a with h | h
  · subst h; simpa using hb
  · exact Nat.lt_of_le_of_lt (Nat.gcd_le_left b h) ha
def gcdI (n1:Bool) (l1:List Nat) (n2:Bool) (l2:List Nat):AV:=if valI n1 l1 && valI n2 l2 then .tup [agI false (digits (Nat.gcd (val l1) (val l2))),int 0] else errI 1
theorem GCD_pf (n1 n2:Bool) (l1 l2:List Nat) (h1:Dig l1) (h2:Dig l2) (k1:l1.length ≤ 1000000000000) (k2:l2.length ≤ 1000000000000):PF X0 Gam 97 [agI n1 l1,agI n2 l2] (gcdI n1 l1 n2 l2):=by
  refine WF_intro rfl rfl ?_
  simp [EV,C139,P139 k1 k2]
  cases hv:valI n1 l1 && valI n2 l2 with
  | false =>
    simp only [Bool.and_eq_false_iff] at hv
    have:gcdI n1 l1 n2 l2 = errI 1:=by unfold gcdI; rcases hv with h | h <;> simp [h]
    rw [this]
    rcases hv with h | h <;> simp [EV,h,fill,splice,freeze]
  | true =>
    have ha:gcdI n1 l1 n2 l2 = .tup [agI false (digits (Nat.gcd (val l1) (val l2))),int 0]:=by unfold gcdI; rw [hv]; rfl
    simp only [Bool.and_eq_true] at hv
    obtain ⟨v1,v2⟩:=hv
    obtain ⟨t1,m1⟩:=valI_trim v1
    obtain ⟨t2,m2⟩:=valI_trim v2
    have b1:=valI_lt h1 v1
    have b2:=valI_lt h2 v2
    rw [ha]
    clear ha
    have bg:=gcd_le b1 b2
    have vv:(valI n1 l1 && valI n2 l2) = true:=by simp [v1,v2]
    simp [EV,evOp,v1,v2,vv]
    obtain ⟨g,hg⟩:∃ g,Nat.gcd (val l1) (val l2) = g:=⟨_,rfl⟩
    rw [hg] at bg ⊢
    refine W_loop (fun n s=>∃ (x y:List Nat) (c1 c2 c3:List AV),n = val y∧lk s.env 6 = some (.p (mag x))∧lk s.env 7 = some (.p (mag y))∧lk s.env 4 = some (.ptr 2 0)∧s.H = [.cells c1,.cells c2,.cells c3]∧c3.length = 2∧Dig x∧Dig y∧trim x = x∧trim y = y∧val x < 4294967296 ^ 128∧val y < 4294967296 ^ 128 ∧
      Nat.gcd (val x) (val y) = g) ?_ (val l2) _ ?_
    · clear h1 h2 k1 k2 v1 v2 t1 m1 t2 m2 b1 b2 hg vv
      rintro n ⟨env,H⟩ ⟨x,y,c1,c2,c3,rfl,h6,h7,h4,rfl,hc3,hx,hy,tx,ty,bx,b_y,hg⟩
      simp only at h6 h7 h4
      have lx:=trim_len tx bx hx
      have ly:=trim_len ty b_y hy
      by_cases hgo:y ≠ []∧(2 < x.length∨2 < y.length)
      · obtain ⟨hne,hlen⟩:=hgo
        have hpos:0 < y.length:=List.length_pos_iff.2 hne
        have vy:0 < val y:=val_pos_of_trim (by rw [ty]; exact hne)
        have hm:val x % val y < val y:=Nat.mod_lt _ vy
        have eq1:Nat.gcd (val y) (val (digits (val x % val y))) = g:=by rw [val_digits,← hg,Nat.gcd_comm (val x) (val y),Nat.gcd_rec (val y) (val x),Nat.gcd_comm (val y)]
        by_cases hx2:2 < x.length
        · have hx2':(2:Int) < x.length:=by omega
          simp [EV,h6,h7,hpos,hx2',hx2,C140]
          rw [P140 hx hy tx ty hne (by omega) (by omega)]
          simp [EV,h6,h7,h4,freeze]
          exact ⟨val x % val y,hm,y,digits (val x % val y),(val_digits _).symm,rfl,rfl,⟨c1,c2,c3,⟨rfl,rfl,rfl⟩,hc3,hy,dig_digits _,ty,trim_digits _,b_y,by rw [val_digits]; omega,eq1⟩⟩
        · have hy2:2 < y.length:=by omega
          have hx2':¬ (2:Int) < x.length:=by omega
          have hy2':(2:Int) < y.length:=by omega
          simp [EV,h6,h7,hpos,hx2',hx2,hy2',hy2,C140]
          rw [P140 hx hy tx ty hne (by omega) (by omega)]
          simp [EV,h6,h7,h4,freeze]
          exact ⟨val x % val y,hm,y,digits (val x % val y),(val_digits _).symm,rfl,rfl,⟨c1,c2,c3,⟨rfl,rfl,rfl⟩,hc3,hy,dig_digits _,ty,trim_digits _,b_y,by rw [val_digits]; omega,eq1⟩⟩
      · have hstop:(y = []∨(x.length ≤ 2∧y.length ≤ 2)):=by
          by_cases hy0:y = []
          · exact .inl hy0
          · exact .inr ⟨Nat.le_of_not_lt fun h=>hgo ⟨hy0,.inl h⟩,Nat.le_of_not_lt fun h=>hgo ⟨hy0,.inr h⟩⟩
        by_cases hx2:2 < x.length
        · have hy0:y = []:=by rcases hstop with h | h; exact h; omega
          subst hy0
          have hx2':(2:Int) < x.length:=by omega
          have eg:val x = g:=by simpa [val] using hg
          simp [EV,h6,h7,h4,hx2',hx2,C141]
          rw [P141 hx (by omega),eg,resI_ok bg]
          obtain ⟨a,b,rfl⟩:∃ a b,c3 = [a,b]:=by
            match c3,hc3 with
            | [a,b],_=>exact ⟨a,b,rfl⟩
          simp [EV,h4,splice]
        · have hx2':¬ (2:Int) < x.length:=by omega
          have hy2:y.length ≤ 2:=by rcases hstop with h | h; (subst h; simp); omega
          have hy2':¬ (2:Int) < y.length:=by omega
          have bx2:=val_two hx (by omega)
          have by2:=val_two hy hy2
          by_cases hp:0 < y.length <;> (
            simp [EV,h6,h7,h4,hx2',hx2,hy2',hp,C142]
            rw [P142 hx (by omega)]
            simp [EV,h6,h7,h4,C142]
            rw [P142 hy hy2]
            simp [EV,h4]
            refine W_loop (fun k s=>∃ n:Nat,lk s.env 10 = some (u64 n)∧lk s.env 11 = some (u64 k)∧lk s.env 4 = some (.ptr 2 0)∧s.H = [.cells c1,.cells c2,.cells c3]∧n < 18446744073709551616∧k < 18446744073709551616∧Nat.gcd n k = g) ?_ (val y) _ ?_
            · clear h6 h7 h4
              rintro k ⟨env,H⟩ ⟨n,h10,h11,h4,rfl,bn,bk,hg⟩
              simp only at h10 h11 h4
              by_cases hk:0 < k
              · have hm:n % k < k:=Nat.mod_lt _ hk
                have nk:¬ k = 0:=by omega
                have e1:((n:Int)).tmod k = ((n % k:Nat):Int):=(Int.ofNat_tmod _ _).symm
                simp [EV,evOp,h10,h11,h4,hk,nk,e1,-Int.natCast_emod]
                exact ⟨n % k,hm,k,rfl,rfl,bk,by omega,by rw [Nat.gcd_comm,← Nat.gcd_rec,Nat.gcd_comm]; exact hg⟩
              · have hk0:k = 0:=by omega
                subst hk0
                have eg:n = g:=by simpa using hg
                subst eg
                have w1:IntKind.u32.wrap (n:Int) = ((n % 4294967296:Nat):Int):=by rw [wrap_u32_mod]; simp
                have w2:(n:Int).fdiv 4294967296 = ((n / 4294967296:Nat):Int):=by rw [Int.fdiv_eq_ediv_of_nonneg _ (by omega)]; simp
                have w3:IntKind.u32.wrap ((n / 4294967296:Nat):Int) = ((n / 4294967296:Nat):Int):=wrap_u32 (by omega)
                have hl:Dig [n % 4294967296,n / 4294967296]:=Dig.cons (by omega) (Dig.cons (by omega) Dig.nil)
                obtain ⟨p,ep⟩:∃ p,n % 4294967296 = p:=⟨_,rfl⟩
                obtain ⟨r,er⟩:∃ r,n / 4294967296 = r:=⟨_,rfl⟩
                have hv:val [p,r] = n:=by rw [← ep,← er]; exact val_pair n (by omega)
                rw [ep,er] at hl
                rw [ep] at w1
                rw [er] at w2 w3
                have e2:[[PV.v (Value.int IntKind.u32 (p:Int))],[PV.v (Value.int IntKind.u32 (r:Int))]] = [p,r].map limb:=by simp [limb]
                obtain ⟨a,b,rfl⟩:∃ a b,c3 = [a,b]:=by
                  match c3,hc3 with
                  | [a,b],_=>exact ⟨a,b,rfl⟩
                simp [EV,h10,h11,h4,w1,w2,w3,IntKind.bits,fillRows,partArs,splice,toPVs,toPV,arsOf_nil,C141]
                rw [e2,P141 hl (by simp),hv,resI_ok (by omega)]
                simp [EV,h4,splice]
            · exact ⟨val x,by simp [EV],by simp [EV],by simp [EV,h4],by simp,bx2,by2,hg⟩)
    · exact ⟨l1,l2,_,_,_,rfl,by simp [EV],by simp [EV],by simp [EV],rfl,rfl,h1,h2,t1,t2,b1,b2,hg⟩
theorem gcdI_flat {n1 n2:Bool} {l1 l2:List Nat}:flat (gcdI n1 l1 n2 l2) = false:=by unfold gcdI; split <;> simp [flat]
theorem P97 {n1 n2:Bool} {l1 l2:List Nat} {H H1:List Obj} {K:AV→List Obj→Prop} (h1:Dig l1) (h2:Dig l2) (k1:l1.length ≤ 1000000000000) (k2:l2.length ≤ 1000000000000) :
    WP X0 Gam 97 false [agI n1 l1,agI n2 l2] H H1 K↔K (gcdI n1 l1 n2 l2) H1:=WP_slice (GCD_pf n1 n2 l1 l2 h1 h2 k1 k2) gcdI_flat
end Go.Proofs.YtjkdcddpicndgaaGreatDoor
namespace Go.Proofs.YtjkdcddpicndgaaGreatDoor
open Go
abbrev agR (n:Bool) (a:List Nat) (d:Bool) (b:List Nat):AV:=.agg [boo n,.p (mag a),boo d,.p (mag b)]
def isOne (n:Bool) (l:List Nat):Bool:=!n && decide (l = [1])
theorem one_pf (n:Bool) (l:List Nat):PF X0 Gam 96 [agI n l] (boo (isOne n l)):=by
  refine WF_intro rfl rfl ?_
  cases n with
  | true=>simp [EV,isOne]
  | false =>
    match l with
    | []=>simp [EV,isOne]
    | [a] =>
      by_cases h:a = 1
      · subst h; simp [EV,isOne,limb]
      · have h':¬ (a:Int) = 1:=by omega
        simp [EV,isOne,limb,h,h']
    | a :: b :: l =>
      have h':¬ (l.length:Int) + 1 + 1 = 1:=by omega
      simp [EV,isOne,h']
theorem P96 {n:Bool} {l:List Nat} {H H1:List Obj} {K:AV→List Obj→Prop}:WP X0 Gam 96 false [agI n l] H H1 K↔K (boo (isOne n l)) H:=WP_flat (one_pf n l) rfl
theorem zero_pf (n:Bool) (l:List Nat):PF X0 Gam 95 [agI n l] (boo (decide (l = []))):=by
  refine WF_intro rfl rfl ?_
  cases l with
  | nil=>simp [EV]
  | cons a l =>
    have h':¬ (l.length:Int) + 1 = 0:=by omega
    simp [EV,h']
theorem P95 {n:Bool} {l:List Nat} {H H1:List Obj} {K:AV→List Obj→Prop}:WP X0 Gam 95 false [agI n l] H H1 K↔K (boo (decide (l = []))) H:=WP_flat (zero_pf n l) rfl
def valR (n:Bool) (a:List Nat) (d:Bool) (b:List Nat):Bool:=valI n a && valI d b && !d && decide (b ≠ []) && decide (Nat.gcd (val a) (val b) = 1)
theorem digits_one:digits 1 = [1]:=by decide
theorem digits_one_iff {n:Nat}:digits n = [1]↔n = 1:=⟨fun h=>by rw [← val_digits n,h]; rfl,fun h=>by rw [h,digits_one]⟩
theorem ValidR_pf (n:Bool) (a:List Nat) (d:Bool) (b:List Nat) (ha:Dig a) (hb:Dig b) (la:a.length ≤ 1000000000000) (lb:b.length ≤ 1000000000000):PF X0 Gam 62 [agR n a d b] (boo (valR n a d b)):=by
  refine WF_intro rfl rfl ?_
  simp [EV,C94]
  rw [P94 la]
  cases h1:valI n a with
  | false=>simp [EV,valR,h1]
  | true =>
    simp [EV,C94]
    rw [P94 lb]
    cases h2:valI d b with
    | false=>simp [EV,valR,h1,h2]
    | true =>
      cases d with
      | true=>simp [EV,valR,h1,h2]
      | false =>
        simp [EV,C95]
        rw [P95]
        by_cases h3:b = []
        · simp [EV,valR,h1,h2,h3]
        · simp [EV,h3,C96]
          rw [P96]
          by_cases h4:b = [1]
          · subst h4
            simp [EV,isOne,valR,h1,h2,val]
          · simp [EV,isOne,h4,C97]
            rw [P97 ha hb la lb]
            have hg:gcdI n a false b = .tup [agI false (digits (Nat.gcd (val a) (val b))),int 0]:=by unfold gcdI; simp [h1,h2]
            simp [EV,hg,splice,C96]
            rw [P96]
            simp [EV,isOne,valR,h1,h2,h3,digits_one_iff]
theorem P62 {n:Bool} {a:List Nat} {d:Bool} {b:List Nat} {H H1:List Obj} {K:AV→List Obj→Prop} (ha:Dig a) (hb:Dig b) (la:a.length ≤ 1000000000000) (lb:b.length ≤ 1000000000000) :
    WP X0 Gam 62 false [agR n a d b] H H1 K↔K (boo (valR n a d b)) H:=WP_flat (ValidR_pf n a d b ha hb la lb) rfl
theorem SignR_pf (n:Bool) (a:List Nat) (d:Bool) (b:List Nat) (ha:Dig a) (hb:Dig b) (la:a.length ≤ 1000000000000) (lb:b.length ≤ 1000000000000) :
    PF X0 Gam 209 [agR n a d b] (int (if !valR n a d b || decide (a = []) then 0 else if n then -1 else 1)):=by
  refine WF_intro rfl rfl ?_
  simp [EV,C62]
  rw [P62 ha hb la lb]
  cases h1:valR n a d b with
  | false=>simp [EV]
  | true =>
    simp [EV,C95]
    rw [P95]
    by_cases h3:a = []
    · simp [EV,h3]
    · cases n <;> simp [EV,h3]
theorem P209 {n:Bool} {a:List Nat} {d:Bool} {b:List Nat} {H H1:List Obj} {K:AV→List Obj→Prop} (ha:Dig a) (hb:Dig b) (la:a.length ≤ 1000000000000) (lb:b.length ≤ 1000000000000) :
    WP X0 Gam 209 false [agR n a d b] H H1 K↔K (int (if !valR n a d b || decide (a = []) then 0 else if n then -1 else 1)) H:=WP_flat (SignR_pf n a d b ha hb la lb) rfl
end Go.Proofs.YtjkdcddpicndgaaGreatDoor
namespace Go.Proofs.YtjkdcddpicndgaaGreatDoor
open Go
def negA (n:Bool) (l:List Nat):AV:=if l = [] then agI false [] else agI (!n) l
theorem neg_pf (n:Bool) (l:List Nat) (ll:l.length ≤ 1000000000000):PF X0 Gam 226 [agI n l] (negA n l):=by
  refine WF_intro rfl rfl ?_
  by_cases hl:l = []
  · subst hl; simp [EV,fill,splice,negA]
  · have hpos:0 < l.length:=List.length_pos_iff.2 hl
    have n1:¬ (l.length:Int) = 0:=by omega
    have ha:appendV [.cells [boo n,.p (mag l)],.cells [boo false,.lit []]] 4 1 (.lit []) (.p (mag l)) = some (.ar 2 0 0 l.length,[.cells [boo n,.p (mag l)],.cells [boo false,.lit []],.arr 1 none 0 (l.map limb)]):=by
      have hle:l.length * 4 ≤ 140737488355328:=by omega
      simp [appendV,rowsOf,all_limb,hl,hle,limb_len]
    simp [EV,evOp,hl,n1,fillRows,partArs,freeze]
    rw [ha]
    simp [EV,evOp,fill,splice,negA,hl]
theorem negA_flat {n:Bool} {l:List Nat}:flat (negA n l) = false:=by unfold negA; split <;> simp [flat]
theorem P226 {n:Bool} {l:List Nat} {H H1:List Obj} {K:AV→List Obj→Prop} (ll:l.length ≤ 1000000000000):WP X0 Gam 226 false [agI n l] H H1 K↔K (negA n l) H1:=WP_slice (neg_pf n l ll) negA_flat
def dmQ (n1:Bool) (a:Nat) (n2:Bool) (b:Nat):Nat:=if n1 ≠ n2∧a % b ≠ 0 then a / b + 1 else a / b
def dmR (n1:Bool) (a:Nat) (n2:Bool) (b:Nat):Nat:=if n1 ≠ n2∧a % b ≠ 0 then b - a % b else a % b
theorem DivMod_pf (n1 n2:Bool) (l1 l2:List Nat) (h1:Dig l1) (h2:Dig l2) (v1:valI n1 l1 = true) (v2:valI n2 l2 = true) (hne:l2 ≠ []) (hq:dmQ n1 (val l1) n2 (val l2) < 4294967296 ^ 128) :
    PF X0 Gam 227 [agI n1 l1,agI n2 l2] (.tup [agI (n1 != n2 && decide (dmQ n1 (val l1) n2 (val l2) ≠ 0)) (digits (dmQ n1 (val l1) n2 (val l2))),agI (n2 && decide (dmR n1 (val l1) n2 (val l2) ≠ 0)) (digits (dmR n1 (val l1) n2 (val l2))),int 0]):=by
  refine WF_intro rfl rfl ?_
  obtain ⟨t1,m1⟩:=valI_trim v1
  obtain ⟨t2,m2⟩:=valI_trim v2
  have b1:=valI_lt h1 v1
  have b2:=valI_lt h2 v2
  have hpos:0 < l2.length:=List.length_pos_iff.2 hne
  have z1:¬ (l2.length:Int) = 0:=by omega
  have vb:0 < val l2:=val_pos_of_trim (by rw [t2]; exact hne)
  have hm:val l1 % val l2 < val l2:=Nat.mod_lt _ vb
  have hr:dmR n1 (val l1) n2 (val l2) < 4294967296 ^ 128:=by unfold dmR; split <;> omega
  have hdq:val l1 / val l2 ≤ val l1:=Nat.div_le_self _ _
  simp [EV,C139,P139 (show l1.length ≤ 1000000000000 by omega) (show l2.length ≤ 1000000000000 by omega),v1,v2,z1,hne,C140]
  rw [P140 h1 h2 t1 t2 hne (by omega) (by omega)]
  obtain ⟨q,eq⟩:∃ q,val l1 / val l2 = q:=⟨_,rfl⟩
  obtain ⟨r,er⟩:∃ q,val l1 % val l2 = q:=⟨_,rfl⟩
  have key:∀ (c:Bool),(decide (n1 ≠ n2∧r ≠ 0) = c)→True:=fun _ _=>trivial
  rw [er] at hm
  by_cases hc:n1 ≠ n2∧r ≠ 0
  · have e1:dmQ n1 (val l1) n2 (val l2) = q + 1:=by unfold dmQ; rw [er,eq,if_pos hc]
    have e2:dmR n1 (val l1) n2 (val l2) = val l2 - r:=by unfold dmR; rw [er,if_pos hc]
    rw [e1] at hq ⊢
    rw [e2] at hr ⊢
    have hrl:0 < (digits r).length:=List.length_pos_iff.2 fun e=>hc.2 (digits_nil_iff.1 e)
    have hrl2:(digits r).length ≤ l2.length:=by
      have:=digits_length_le.2 (Nat.lt_of_lt_of_le hm (Nat.le_of_lt (val_lt h2)))
      exact this
    have hql:(digits q).length ≤ 128:=digits_length_le.2 (by omega)
    have hn:(n1 = n2)↔False:=by simp [hc.1]
    have e3:[[PV.v (Value.int IntKind.u32 1)]] = [1].map limb:=by simp [limb]
    simp [EV,eq,er,binB,hn,hc.1,hc.2,hrl,fillRows,partArs,splice,toPVs,toPV,arsOf_nil,freeze,C262]
    rw [e3,P262 (dig_digits q) (Dig.cons (by omega) Dig.nil) (by omega) (by simp),val_digits]
    simp [EV,C263]
    rw [P263 h2 (dig_digits r) (by omega) hrl2 (by rw [val_digits]; omega),val_digits]
    have e4:val [1] = 1:=by simp [val]
    simp [EV,binB,hn,C141,e4]
    rw [P141 (dig_digits _) (by have:=digits_length_le.2 hq; omega),val_digits,resI_ok hq]
    simp [EV,splice,C141]
    rw [P141 (dig_digits _) (by have:=digits_length_le.2 hr; omega),val_digits,resI_ok hr]
    simp [EV,evOp,splice,hn]
    cases n1 <;> cases n2 <;> rfl
  · have e1:dmQ n1 (val l1) n2 (val l2) = q:=by unfold dmQ; rw [er,eq,if_neg hc]
    have e2:dmR n1 (val l1) n2 (val l2) = r:=by unfold dmR; rw [er,if_neg hc]
    rw [e1] at hq ⊢
    rw [e2] at hr ⊢
    have hql:(digits q).length ≤ 1000000:=by have:=digits_length_le.2 hq; omega
    have hrl:(digits r).length ≤ 1000000:=by have:=digits_length_le.2 hr; omega
    by_cases hn:n1 = n2
    · subst hn
      simp [EV,eq,er,binB,C141]
      rw [P141 (dig_digits _) hql,val_digits,resI_ok hq]
      simp [EV,splice,C141]
      rw [P141 (dig_digits _) hrl,val_digits,resI_ok hr]
      simp [EV,evOp,splice]
    · have hr0:r = 0:=Classical.byContradiction fun h=>hc ⟨hn,h⟩
      subst hr0
      have hn':(n1 = n2)↔False:=by simp [hn]
      simp [EV,eq,er,binB,hn',digits_zero,C141]
      rw [P141 (dig_digits _) hql,val_digits,resI_ok hq]
      simp [EV,splice,C141]
      rw [P141 Dig.nil (by simp)]
      have e6:val [] = 0:=rfl
      rw [e6,resI_ok hr]
      simp [EV,evOp,splice,digits_zero,hn']
      cases n1 <;> cases n2 <;> simp_all
theorem P227 {n1 n2:Bool} {l1 l2:List Nat} {H H1:List Obj} {K:AV→List Obj→Prop} (h1:Dig l1) (h2:Dig l2) (v1:valI n1 l1 = true) (v2:valI n2 l2 = true) (hne:l2 ≠ []) (hq:dmQ n1 (val l1) n2 (val l2) < 4294967296 ^ 128) :
    WP X0 Gam 227 false [agI n1 l1,agI n2 l2] H H1 K↔K (.tup [agI (n1 != n2 && decide (dmQ n1 (val l1) n2 (val l2) ≠ 0)) (digits (dmQ n1 (val l1) n2 (val l2))),agI (n2 && decide (dmR n1 (val l1) n2 (val l2) ≠ 0)) (digits (dmR n1 (val l1) n2 (val l2))),int 0]) H1 :=
  WP_slice (DivMod_pf n1 n2 l1 l2 h1 h2 v1 v2 hne hq) (by simp [flat])
theorem Of_pf (n:Int) (h:-9223372036854775808 ≤ n∧n ≤ 9223372036854775807):PF X0 Gam 123 [int n] (agI (decide (n < 0)) (digits n.natAbs)):=by
  refine WF_intro rfl rfl ?_
  obtain ⟨m,em⟩:∃ m,n.natAbs = m:=⟨_,rfl⟩
  have bm:m < 18446744073709551616:=by omega
  have hl:Dig [m % 4294967296,m / 4294967296]:=Dig.cons (by omega) (Dig.cons (by omega) Dig.nil)
  have hv:val [m % 4294967296,m / 4294967296] = m:=val_pair m bm
  obtain ⟨p,ep⟩:∃ p,m % 4294967296 = p:=⟨_,rfl⟩
  obtain ⟨r,er⟩:∃ r,m / 4294967296 = r:=⟨_,rfl⟩
  rw [ep,er] at hl hv
  have e2:[[PV.v (Value.int IntKind.u32 (p:Int))],[PV.v (Value.int IntKind.u32 (r:Int))]] = [p,r].map limb:=by simp [limb]
  have w1:IntKind.u32.wrap (m:Int) = p:=by rw [wrap_u32_mod]; omega
  have w2:(m:Int).fdiv 4294967296 = r:=by rw [Int.fdiv_eq_ediv_of_nonneg _ (by omega)]; omega
  have w3:IntKind.u32.wrap (r:Int) = r:=wrap_u32 (by omega)
  have big:m < 4294967296 ^ 128:=Nat.lt_of_lt_of_le bm (by decide)
  by_cases hn:n < 0
  · have w4:IntKind.u64.wrap (0 - IntKind.u64.wrap n) = m:=by simp only [wrap_u64_mod]; omega
    have w4':IntKind.u64.wrap (-IntKind.u64.wrap n) = m:=by simp only [wrap_u64_mod]; omega
    simp [EV,hn,w4,w4',w1,w2,w3,IntKind.bits,fillRows,partArs,splice,toPVs,toPV,arsOf_nil,C141]
    rw [e2,P141 hl (by simp),hv,resI_ok big]
    have m0:m ≠ 0:=by omega
    simp [EV,splice,em,hn,m0,freeze]
  · have w4:IntKind.u64.wrap n = m:=by simp only [wrap_u64_mod]; omega
    simp [EV,hn,w4,w1,w2,w3,IntKind.bits,fillRows,partArs,splice,toPVs,toPV,arsOf_nil,C141]
    rw [e2,P141 hl (by simp),hv,resI_ok big]
    simp [EV,splice,em,hn,freeze]
theorem P123 {n:Int} {H H1:List Obj} {K:AV→List Obj→Prop} (h:-9223372036854775808 ≤ n∧n ≤ 9223372036854775807):WP X0 Gam 123 false [int n] H H1 K↔K (agI (decide (n < 0)) (digits n.natAbs)) H1:=WP_slice (Of_pf n h) (by simp [flat])
end Go.Proofs.YtjkdcddpicndgaaGreatDoor
namespace Go.Proofs.YtjkdcddpicndgaaGreatDoor
open Go
theorem valI_neg {n m:Bool} {l:List Nat} (hl:l ≠ []):valI n l = valI m l:=by simp [valI,hl]
theorem valI_pos {n:Bool} {l:List Nat} (h:valI n l = true):valI false l = true:=by
  by_cases hl:l = []
  · subst hl; rfl
  · rwa [valI_neg hl] at h
theorem valI_digits {n:Nat} (h:n < 4294967296 ^ 128):valI false (digits n) = true:=by
  unfold valI
  split
  · rfl
  · simp only [Bool.and_eq_true,decide_eq_true_eq]
    exact ⟨digits_length_le.2 h,fun e=>trim_last (trim_digits n) e rfl⟩
def redR (n:Bool) (a:List Nat) (d:Bool) (b:List Nat):AV:=agR ((n != d) && decide (a ≠ [])) (digits (val a / Nat.gcd (val a) (val b))) false (digits (val b / Nat.gcd (val a) (val b)))
theorem reduce_pf (n:Bool) (a:List Nat) (d:Bool) (b:List Nat) (ha:Dig a) (hb:Dig b) (v1:valI n a = true) (v2:valI d b = true) (hne:b ≠ []):PF X0 Gam 172 [agI n a,agI d b] (redR n a d b):=by
  refine WF_intro rfl rfl ?_
  obtain ⟨t1,m1⟩:=valI_trim v1
  obtain ⟨t2,m2⟩:=valI_trim v2
  have b1:=valI_lt ha v1
  have b2:=valI_lt hb v2
  have vb:0 < val b:=val_pos_of_trim (by rw [t2]; exact hne)
  have va:val a = 0↔a = []:=⟨fun h=>by rw [← t1]; exact trim_nil_of_val h,fun h=>by rw [h]; rfl⟩
  refine W_seq_cut (fun s=>lk s.env 2 = some (.ptr 0 0)∧lk s.env 3 = some (.ptr 1 0)∧lk s.env 4 = some (.ptr 2 0)∧s.H = [.cells [boo n,.p (mag a)],.cells [boo d,.p (mag b)],.cells [boo false,.lit [],boo false,.lit []]]) (by simp [EV]) ?_
  rintro ⟨env,H⟩ ⟨h2,h3,h4,rfl⟩
  simp only at h2 h3 h4
  have hs:∃ s,s = ((n != d) && decide (a ≠ []))∧valI s a = true:=⟨_,rfl,by
    by_cases h:a = []
    · subst h; simp [valI]
    · rwa [valI_neg h (m:=n)]⟩
  obtain ⟨s,es,vs⟩:=hs
  refine W_seq_cut (fun st=>lk st.env 2 = some (.ptr 0 0)∧lk st.env 3 = some (.ptr 1 0)∧lk st.env 4 = some (.ptr 2 0)∧st.H = [.cells [boo s,.p (mag a)],.cells [boo false,.p (mag b)],.cells [boo false,.lit [],boo false,.lit []]]) ?_ ?_
  · cases d with
    | false =>
      have e:s = n:=by
        rw [es]
        by_cases h:a = []
        · subst h; simp [valI] at v1; simp [v1]
        · simp [h]
      simp [EV,h2,h3,h4,e]
    | true =>
      simp [EV,evOp,h2,h3,h4,C226]
      rw [P226 (by omega)]
      have hn:negA n a = agI s a:=by
        unfold negA; rw [es]
        by_cases h:a = []
        · subst h; simp
        · simp [h]
      have hn2:negA true b = agI false b:=by unfold negA; simp [hne]
      simp [EV,evOp,hn,h2,h3,h4,C226]
      rw [P226 (by omega),hn2]
      simp [EV,evOp,h2,h3,h4,splice]
  clear h2 h3 h4 env
  rintro ⟨env,H⟩ ⟨h2,h3,h4,rfl⟩
  simp only at h2 h3 h4
  have v2':=valI_pos v2
  have hg:gcdI s a false b = .tup [agI false (digits (Nat.gcd (val a) (val b))),int 0]:=by unfold gcdI; simp [vs,v2']
  obtain ⟨g,eg⟩:∃ g,Nat.gcd (val a) (val b) = g:=⟨_,rfl⟩
  have gp:0 < g:=by rw [← eg]; exact Nat.gcd_pos_of_pos_right _ vb
  have gd1:val a % g = 0:=by rw [← eg]; exact Nat.mod_eq_zero_of_dvd (Nat.gcd_dvd_left _ _)
  have gd2:val b % g = 0:=by rw [← eg]; exact Nat.mod_eq_zero_of_dvd (Nat.gcd_dvd_right _ _)
  have bg:g < 4294967296 ^ 128:=by rw [← eg]; exact gcd_le b1 b2
  have hres:redR n a d b = agR s (digits (val a / g)) false (digits (val b / g)):=by unfold redR; rw [eg,es]
  rw [eg] at hg
  rw [hres]
  simp [EV,h2,h3,h4,C97]
  rw [P97 ha hb (by omega) (by omega),hg]
  simp [EV,h2,h3,h4,splice,C96]
  rw [P96]
  by_cases h1:g = 1
  · subst h1
    simp [EV,isOne,digits_one,h2,h3,h4,fill,splice,digits_of_trim ha t1,digits_of_trim hb t2]
  · have hne1:¬ digits g = [1]:=fun h=>h1 (digits_one_iff.1 h)
    have hgn:digits g ≠ []:=fun h=>by have:=digits_nil_iff.1 h; omega
    have q1:dmQ s (val a) false (val (digits g)) = val a / g:=by unfold dmQ; rw [val_digits,gd1]; simp
    have q2:dmQ false (val b) false (val (digits g)) = val b / g:=by unfold dmQ; rw [val_digits,gd2]; simp
    have hd1:val a / g ≤ val a:=Nat.div_le_self _ _
    have hd2:val b / g ≤ val b:=Nat.div_le_self _ _
    simp [EV,isOne,hne1,h2,h3,h4,C227]
    rw [P227 ha (dig_digits g) vs (valI_digits bg) hgn (by rw [q1]; omega)]
    have s1:(s != false && decide (val a / g ≠ 0)) = s:=by
      cases hsb:s with
      | false=>rfl
      | true =>
        have:a ≠ []:=fun h=>by rw [hsb] at es; simp [h] at es
        have:val a ≠ 0:=fun h=>this (va.1 h)
        have:g ≤ val a:=Nat.le_of_dvd (by omega) (Nat.dvd_of_mod_eq_zero gd1)
        have:0 < val a / g:=Nat.div_pos this gp
        simp; omega
    have s1':(s && !decide (val a / g = 0)) = s:=by simpa using s1
    simp [EV,q1,s1,s1',h2,h3,h4,splice,C227]
    rw [P227 hb (dig_digits g) v2' (valI_digits bg) hgn (by rw [q2]; omega)]
    simp [EV,q2,h2,h3,h4,fill,splice]
    intro hsb
    have:a ≠ []:=fun h=>by rw [hsb] at es; simp [h] at es
    have:val a ≠ 0:=fun h=>this (va.1 h)
    exact ⟨by omega,Nat.le_of_dvd (by omega) (Nat.dvd_of_mod_eq_zero gd1)⟩
theorem P172 {n:Bool} {a:List Nat} {d:Bool} {b:List Nat} {H H1:List Obj} {K:AV→List Obj→Prop} (ha:Dig a) (hb:Dig b) (v1:valI n a = true) (v2:valI d b = true) (hne:b ≠ []) :
    WP X0 Gam 172 false [agI n a,agI d b] H H1 K↔K (redR n a d b) H1:=WP_slice (reduce_pf n a d b ha hb v1 v2 hne) (by simp [redR,flat])
end Go.Proofs.YtjkdcddpicndgaaGreatDoor
namespace Go.Proofs.YtjkdcddpicndgaaGreatDoor
open Go
structure Q4 where
  n:Bool
  a:List Nat
  d:Bool
  b:List Nat
structure Q4.Ok (r:Q4):Prop where
  a:Dig r.a
  b:Dig r.b
  la:r.a.length ≤ 1000000000000
  lb:r.b.length ≤ 1000000000000
def Q4.row (r:Q4):List PV:=[.v (.bool r.n),mag r.a,.v (.bool r.d),mag r.b]
abbrev rats (l:List Q4):PV:=.sl (l.map Q4.row)
def Q4.val (r:Q4):Bool:=valR r.n r.a r.d r.b
theorem all_pf (l:List Q4) (hl:∀ r ∈ l,r.Ok) (ll:l.length ≤ 1000000000000):PF X0 Gam 251 [.p (rats l)] (boo (l.all Q4.val)):=by
  refine WF_intro rfl rfl ?_
  simp [EV]
  refine W_loop (fun n s=>∃ k:Nat,n = l.length - k∧k ≤ l.length∧lk s.env 5 = some (.p (rats l))∧lk s.env 6 = some (int l.length)∧lk s.env 7 = some (int k)∧(l.take k).all Q4.val = true) ?_ l.length _ ?_
  · rintro n ⟨env,H⟩ ⟨k,rfl,hk,h5,h6,h7,hv⟩
    simp only at h5 h6 h7
    by_cases hkl:k < l.length
    · have hok:=hl l[k] (List.getElem_mem hkl)
      obtain ⟨r,er⟩:∃ r,l[k] = r:=⟨_,rfl⟩
      rw [er] at hok
      have hgk:l[k]? = some r:=by rw [List.getElem?_eq_getElem hkl,er]
      have w5:IntKind.i64.wrap ((k:Int) + 1) = k + 1:=wrap_i64 (by omega)
      simp [EV,h5,h6,h7,hkl,er,Q4.row,splice,C62]
      rw [P62 hok.a hok.b hok.la hok.lb]
      cases hr:valR r.n r.a r.d r.b with
      | false =>
        have:l.all Q4.val = false:=by
          rw [List.all_eq_false]
          exact ⟨r,List.mem_of_getElem? hgk,by simp [Q4.val,hr]⟩
        simp [EV,this]
      | true =>
        simp [EV,h5,h6,h7,w5]
        refine ⟨l.length - (k + 1),by omega,k + 1,rfl,by omega,rfl,?_⟩
        rw [List.take_add_one,hgk]
        have h2:r.val = true:=hr
        simp only [List.all_eq_true] at hv
        intro x hx
        rcases List.mem_append.1 hx with hx | hx
        · exact hv x hx
        · simp at hx; subst hx; exact h2
    · have ek:k = l.length:=by omega
      subst ek
      rw [List.take_of_length_le (Nat.le_refl _)] at hv
      simp [EV,h5,h6,h7,hv]
  · exact ⟨0,by simp,by omega,by simp [EV],by simp [EV],by simp [EV],by simp⟩
theorem P251 {l:List Q4} {H H1:List Obj} {K:AV→List Obj→Prop} (hl:∀ r ∈ l,r.Ok) (ll:l.length ≤ 1000000000000):WP X0 Gam 251 false [.p (rats l)] H H1 K↔K (boo (l.all Q4.val)) H:=WP_flat (all_pf l hl ll) rfl
theorem fresh_pf (n:Bool) (l:List Nat) (ll:l.length ≤ 1000000000000):PF X0 Gam 173 [agI n l] (agI n l):=by
  refine WF_intro rfl rfl ?_
  by_cases hl:l = []
  · subst hl
    simp [EV,evOp,fill,splice,appendV,rowsOf]
  · have ha:appendV [.cells [boo n,.p (mag l)],.cells [boo false,.lit []]] 4 1 (.lit []) (.p (mag l)) = some (.ar 2 0 0 l.length,[.cells [boo n,.p (mag l)],.cells [boo false,.lit []],.arr 1 none 0 (l.map limb)]):=by
      have hle:l.length * 4 ≤ 140737488355328:=by omega
      simp [appendV,rowsOf,all_limb,hl,hle,limb_len]
    simp [EV,evOp]
    rw [ha]
    simp [EV,evOp,fill,splice]
theorem P173 {n:Bool} {l:List Nat} {H H1:List Obj} {K:AV→List Obj→Prop} (ll:l.length ≤ 1000000000000):WP X0 Gam 173 false [agI n l] H H1 K↔K (agI n l) H1:=WP_slice (fresh_pf n l ll) (by simp [flat])
theorem Make_pf (n:Bool) (a:List Nat) (d:Bool) (b:List Nat) (ha:Dig a) (hb:Dig b) (v1:valI n a = true) (v2:valI d b = true) (hne:b ≠ []):PF X0 Gam 122 [agI n a,agI d b] (.tup [redR n a d b,int 0]):=by
  refine WF_intro rfl rfl ?_
  obtain ⟨t1,m1⟩:=valI_trim v1
  obtain ⟨t2,m2⟩:=valI_trim v2
  have b1:=valI_lt ha v1
  have b2:=valI_lt hb v2
  have l1:(digits (val a / Nat.gcd (val a) (val b))).length ≤ 128:=digits_length_le.2 (Nat.lt_of_le_of_lt (Nat.div_le_self _ _) b1)
  have l2:(digits (val b / Nat.gcd (val a) (val b))).length ≤ 128:=digits_length_le.2 (Nat.lt_of_le_of_lt (Nat.div_le_self _ _) b2)
  simp [EV,C94]
  rw [P94 (by omega),v1]
  simp [EV,C94]
  rw [P94 (by omega),v2]
  simp [EV,C95]
  rw [P95]
  simp [EV,hne,C172]
  rw [P172 ha hb v1 v2 hne]
  unfold redR
  simp [EV,evOp,splice,C173]
  rw [P173 (by omega)]
  simp [EV,evOp,C173]
  rw [P173 (by omega)]
  simp [EV,evOp,fill,splice]
theorem P122 {n:Bool} {a:List Nat} {d:Bool} {b:List Nat} {H H1:List Obj} {K:AV→List Obj→Prop} (ha:Dig a) (hb:Dig b) (v1:valI n a = true) (v2:valI d b = true) (hne:b ≠ []) :
    WP X0 Gam 122 false [agI n a,agI d b] H H1 K↔K (.tup [redR n a d b,int 0]) H1:=WP_slice (Make_pf n a d b ha hb v1 v2 hne) (by simp [redR,flat])
theorem valI_of {n:Int} (h:n.natAbs < 4294967296 ^ 128):valI (decide (n < 0)) (digits n.natAbs) = true:=by
  by_cases h0:digits n.natAbs = []
  · have:n.natAbs = 0:=digits_nil_iff.1 h0
    have:¬ n < 0:=by omega
    simp [valI,h0,this]
  · rw [valI_neg h0 (m:=false)]; exact valI_digits h
theorem OfR_pf (n d:Int) (h:-9223372036854775808 ≤ n∧n ≤ 9223372036854775807) (h':-9223372036854775808 ≤ d∧d ≤ 9223372036854775807) (hd:d ≠ 0) :
    PF X0 Gam 78 [int n,int d] (.tup [redR (decide (n < 0)) (digits n.natAbs) (decide (d < 0)) (digits d.natAbs),int 0]):=by
  refine WF_intro rfl rfl ?_
  have e:(18446744073709551616:Nat) ≤ 4294967296 ^ 128:=by decide
  have v1:=valI_of (n:=n) (by omega)
  have v2:=valI_of (n:=d) (by omega)
  have hne:digits d.natAbs ≠ []:=fun h=>hd (by have:=digits_nil_iff.1 h; omega)
  simp [EV,C123]
  rw [P123 h]
  simp [EV,C123]
  rw [P123 h']
  simp [EV,C122]
  rw [P122 (dig_digits _) (dig_digits _) v1 v2 hne]
  unfold redR
  simp [EV,splice]
theorem P78 {n d:Int} {H H1:List Obj} {K:AV→List Obj→Prop} (h:-9223372036854775808 ≤ n∧n ≤ 9223372036854775807) (h':-9223372036854775808 ≤ d∧d ≤ 9223372036854775807) (hd:d ≠ 0) :
    WP X0 Gam 78 false [int n,int d] H H1 K↔K (.tup [redR (decide (n < 0)) (digits n.natAbs) (decide (d < 0)) (digits d.natAbs),int 0]) H1:=WP_slice (OfR_pf n d h h' hd) (by simp [redR,flat])
end Go.Proofs.YtjkdcddpicndgaaGreatDoor
namespace Go.Proofs.YtjkdcddpicndgaaGreatDoor
open Go
def Sm (z:Int):Prop:=z.natAbs < 4294967296 ^ 128
instance {z:Int}:Decidable (Sm z):=by unfold Sm; infer_instance
abbrev zI (z:Int):AV:=agI (decide (z < 0)) (digits z.natAbs)
def resZ (z:Int):AV:=if Sm z then .tup [zI z,int 0] else errI 2
theorem zI_valI {z:Int} (h:Sm z):valI (decide (z < 0)) (digits z.natAbs) = true:=valI_of h
theorem zI_len {z:Int} (h:Sm z):(digits z.natAbs).length ≤ 128:=digits_length_le.2 h
theorem resI_z {s:Bool} {n:Nat}:resI s n = resZ (if s then -(n:Int) else n):=by
  have e:(if s = true then -(n:Int) else (n:Int)).natAbs = n:=by split <;> omega
  unfold resI resZ
  by_cases h:n < 4294967296 ^ 128
  · rw [if_pos h,if_pos (show Sm _ by unfold Sm; rw [e]; exact h)]
    unfold zI
    rw [e]
    have:(s && decide (n ≠ 0)) = decide ((if s = true then -(n:Int) else (n:Int)) < 0):=by
      cases s
      · simp
      · simp only [Bool.true_and,if_true,decide_eq_decide]; omega
    rw [this]
  · rw [if_neg h,if_neg (show ¬ Sm _ by unfold Sm; rw [e]; exact h)]
theorem addI_z {x y:Int} (hx:Sm x) (hy:Sm y):addI (decide (x < 0)) (digits x.natAbs) (decide (y < 0)) (digits y.natAbs) = resZ (x + y):=by
  unfold addI sgnI
  rw [zI_valI hx,zI_valI hy]
  simp only [Bool.and_self,if_true,val_digits,resI_z,decide_eq_true_eq,decide_eq_decide]
  split
  · congr 1; split <;> omega
  · split
    · congr 1; split <;> omega
    · congr 1; split <;> omega
theorem mulI_z {x y:Int} (hx:Sm x) (hy:Sm y):mulI (decide (x < 0)) (digits x.natAbs) (decide (y < 0)) (digits y.natAbs) = resZ (x * y):=by
  unfold mulI
  rw [zI_valI hx,zI_valI hy]
  simp only [Bool.and_self,if_true,val_digits,resI_z]
  congr 1
  obtain ⟨a,ha | ha⟩:=Int.eq_nat_or_neg x <;> obtain ⟨b,hb | hb⟩:=Int.eq_nat_or_neg y <;> subst ha <;> subst hb
  · have h1:¬ (a:Int) < 0:=by omega
    have h2:¬ (b:Int) < 0:=by omega
    simp [h1,h2]
  · have h1:¬ (a:Int) < 0:=by omega
    by_cases h:b = 0
    · simp [h,h1]
    · have:(-(b:Int)) < 0:=by omega
      simp only [h1,this,Int.natAbs_neg,Int.natAbs_natCast]
      simp [Int.mul_neg]
  · have h1:¬ (b:Int) < 0:=by omega
    by_cases h:a = 0
    · simp [h,h1]
    · have:(-(a:Int)) < 0:=by omega
      simp only [h1,this,Int.natAbs_neg,Int.natAbs_natCast]
      simp [Int.neg_mul]
  · by_cases h:a = 0
    · simp [h]
    · by_cases h2:b = 0
      · simp [h2]
      · have h3:(-(a:Int)) < 0:=by omega
        have h4:(-(b:Int)) < 0:=by omega
        simp only [h3,h4,Int.natAbs_neg,Int.natAbs_natCast]
        simp [Int.neg_mul_neg]
theorem negA_z {x:Int}:negA (decide (x < 0)) (digits x.natAbs) = zI (-x):=by
  unfold negA
  split
  · rename_i h
    have:x.natAbs = 0:=digits_nil_iff.1 h
    have:x = 0:=by omega
    subst this; rfl
  · rename_i h
    have:x.natAbs ≠ 0:=fun e=>h (digits_nil_iff.2 e)
    have e:(-x).natAbs = x.natAbs:=by omega
    unfold zI
    rw [e]
    have:(!decide (x < 0)) = decide (-x < 0):=by
      by_cases h:x < 0
      · have:¬ -x < 0:=by omega
        simp only [h,this,decide_true,decide_false,Bool.not_true]
      · have:-x < 0:=by omega
        simp only [h,this,decide_true,decide_false,Bool.not_false]
    rw [this]
abbrev qA (r:Rat):AV:=agR (decide (r.num < 0)) (digits r.num.natAbs) false (digits r.den)
theorem redR_z {x y:Int} (hy:y ≠ 0):redR (decide (x < 0)) (digits x.natAbs) (decide (y < 0)) (digits y.natAbs) = qA (Rat.divInt x y):=by
  have h1:=Rat.num_divInt x y
  have h2:=Rat.den_divInt x y
  rw [if_neg hy] at h2
  have hg:y.gcd x = Nat.gcd x.natAbs y.natAbs:=by rw [Int.gcd,Nat.gcd_comm]
  have gp:0 < y.gcd x:=Int.gcd_pos_of_ne_zero_left _ hy
  have gd:(y.gcd x:Int) ∣ x:=Int.gcd_dvd_right ..
  have e1:(Rat.divInt x y).num.natAbs = x.natAbs / y.gcd x:=by
    rw [h1,Int.natAbs_ediv_of_dvd (Int.dvd_mul_of_dvd_right gd),Int.natAbs_mul,Int.natAbs_sign_of_ne_zero hy]; simp
  have e2:decide ((Rat.divInt x y).num < 0) = ((decide (x < 0) != decide (y < 0)) && decide (digits x.natAbs ≠ [])):=by
    have hd:digits x.natAbs ≠ []↔x ≠ 0:=by rw [Ne,digits_nil_iff]; omega
    have hgx:(Rat.divInt x y).num * (y.gcd x:Int) = y.sign * x:=by rw [h1]; exact Int.ediv_mul_cancel (Int.dvd_mul_of_dvd_right gd)
    have gp':(0:Int) < (y.gcd x:Int):=by omega
    have key:(Rat.divInt x y).num < 0↔y.sign * x < 0:=by
      rw [← hgx]
      constructor
      · intro h; exact Int.mul_neg_of_neg_of_pos h gp'
      · intro h
        by_cases h0:(Rat.divInt x y).num < 0
        · exact h0
        · have:=Int.mul_nonneg (a:=(Rat.divInt x y).num) (b:=(y.gcd x:Int)) (by omega) (by omega)
          omega
    have k2:decide ((Rat.divInt x y).num < 0) = decide (y.sign * x < 0):=decide_eq_decide.2 key
    have d2:decide (digits x.natAbs ≠ []) = decide (x ≠ 0):=decide_eq_decide.2 hd
    rw [k2,d2]
    rcases Int.lt_trichotomy y 0 with h | h | h
    · simp only [Int.sign_eq_neg_one_of_neg h]
      by_cases hx:x < 0
      · have:¬ -1 * x < 0:=by omega
        simp only [this,hx,h,decide_true,decide_false,bne_self_eq_false,Bool.false_and]
      · by_cases hx0:x = 0
        · simp [hx0]
        · have:-1 * x < 0:=by omega
          simp [this,hx,h,hx0]; omega
    · exact absurd h hy
    · simp only [Int.sign_eq_one_of_pos h]
      have:¬ y < 0:=by omega
      by_cases hx:x < 0
      · have:x ≠ 0:=by omega
        simp [*]
      · simp [*]
  unfold redR qA
  simp only [val_digits]
  rw [e1,e2,h2,hg]
end Go.Proofs.YtjkdcddpicndgaaGreatDoor
namespace Go.Proofs.YtjkdcddpicndgaaGreatDoor
open Go
section
variable {a:List AV} {H:List Obj} {K:AV→List Obj→Prop}
theorem R148:WC X0 Gam 148 a H K↔bindP (canons H a) fun as=>WR X0 Gam 148 false as H (freeze H (arsOf a)) K:=WC_ref rfl rfl rfl rfl
theorem R149:WC X0 Gam 149 a H K↔bindP (canons H a) fun as=>WR X0 Gam 149 true as H (freeze H (arsOf a)) K:=WC_ref rfl rfl rfl rfl
theorem R150:WC X0 Gam 150 a H K↔bindP (canons H a) fun as=>WR X0 Gam 150 false as H (freeze H (arsOf a)) K:=WC_ref rfl rfl rfl rfl
theorem R151:WC X0 Gam 151 a H K↔bindP (canons H a) fun as=>WR X0 Gam 151 true as H (freeze H (arsOf a)) K:=WC_ref rfl rfl rfl rfl
theorem R154:WC X0 Gam 154 a H K↔bindP (canons H a) fun as=>WR X0 Gam 154 false as H (freeze H (arsOf a)) K:=WC_ref rfl rfl rfl rfl
theorem R198:WC X0 Gam 198 a H K↔bindP (canons H a) fun as=>WR X0 Gam 198 false as H (freeze H (arsOf a)) K:=WC_ref rfl rfl rfl rfl
theorem R199:WC X0 Gam 199 a H K↔bindP (canons H a) fun as=>WR X0 Gam 199 true as H (freeze H (arsOf a)) K:=WC_ref rfl rfl rfl rfl
theorem R201:WC X0 Gam 201 a H K↔bindP (canons H a) fun as=>WR X0 Gam 201 false as H (freeze H (arsOf a)) K:=WC_ref rfl rfl rfl rfl
theorem R203:WC X0 Gam 203 a H K↔bindP (canons H a) fun as=>WR X0 Gam 203 false as H (freeze H (arsOf a)) K:=WC_ref rfl rfl rfl rfl
theorem R204:WC X0 Gam 204 a H K↔bindP (canons H a) fun as=>WR X0 Gam 204 false as H (freeze H (arsOf a)) K:=WC_ref rfl rfl rfl rfl
theorem R210:WC X0 Gam 210 a H K↔bindP (canons H a) fun as=>WR X0 Gam 210 false as H (freeze H (arsOf a)) K:=WC_ref rfl rfl rfl rfl
theorem R245:WC X0 Gam 245 a H K↔bindP (canons H a) fun as=>WR X0 Gam 245 false as H (freeze H (arsOf a)) K:=WC_ref rfl rfl rfl rfl
theorem R247:WC X0 Gam 247 a H K↔bindP (canons H a) fun as=>WR X0 Gam 247 false as H (freeze H (arsOf a)) K:=WC_ref rfl rfl rfl rfl
theorem R248:WC X0 Gam 248 a H K↔bindP (canons H a) fun as=>WR X0 Gam 248 false as H (freeze H (arsOf a)) K:=WC_ref rfl rfl rfl rfl
theorem R249:WC X0 Gam 249 a H K↔bindP (canons H a) fun as=>WR X0 Gam 249 false as H (freeze H (arsOf a)) K:=WC_ref rfl rfl rfl rfl
theorem R250:WC X0 Gam 250 a H K↔bindP (canons H a) fun as=>WR X0 Gam 250 false as H (freeze H (arsOf a)) K:=WC_ref rfl rfl rfl rfl
theorem R271:WC X0 Gam 271 a H K↔bindP (canons H a) fun as=>WR X0 Gam 271 false as H (freeze H (arsOf a)) K:=WC_ref rfl rfl rfl rfl
theorem R282:WC X0 Gam 282 a H K↔bindP (canons H a) fun as=>WR X0 Gam 282 false as H (freeze H (arsOf a)) K:=WC_ref rfl rfl rfl rfl
theorem R283:WC X0 Gam 283 a H K↔bindP (canons H a) fun as=>WR X0 Gam 283 false as H (freeze H (arsOf a)) K:=WC_ref rfl rfl rfl rfl
theorem R322:WC X0 Gam 322 a H K↔bindP (canons H a) fun as=>WR X0 Gam 322 false as H (freeze H (arsOf a)) K:=WC_ref rfl rfl rfl rfl
end
end Go.Proofs.YtjkdcddpicndgaaGreatDoor

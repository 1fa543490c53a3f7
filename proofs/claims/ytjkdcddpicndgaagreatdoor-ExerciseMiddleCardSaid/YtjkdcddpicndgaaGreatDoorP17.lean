/- Part of the proof of Rows.ExerciseMiddleCardSaid: EvQ3, EvQ4, EvQ5, EvNc, EvQ6, EvNd. -/
import Derived.Test.YtjkdcddpicndgaaGreatDoorP16
set_option linter.all false
namespace Go.Proofs.YtjkdcddpicndgaaGreatDoor
open Go
theorem shr_step {X P a b S R:Nat} (hX:X < P) (hB:4294967296 = S * R) (hS:0 < S):((X + P * (a + 4294967296 * b)) / S) % (P * 4294967296) = ((X + P * a) / S) % P + P * (((a + 4294967296 * b) / S) % 4294967296):=by
  rw [Nat.mod_mul]
  congr 1
  · have e:X + P * (a + 4294967296 * b) = (X + P * a) + S * (P * (R * b)):=by rw [hB]; grind
    rw [e,Nat.add_mul_div_left _ _ hS,Nat.add_mul_mod_self_left]
  · congr 2
    rw [Nat.div_div_eq_div_mul,Nat.mul_comm S P,← Nat.div_div_eq_div_mul,Nat.add_mul_div_left _ _ (by omega),Nat.div_eq_of_lt hX,Nat.zero_add]
theorem bin_and {k:IntKind} {a b:Int}:binV .and (.int k a) (.int k b) = some (.int k (k.wrap (BitVec.ofInt k.bits a &&& BitVec.ofInt k.bits b).toNat)):=by simp [binV,binInt,bits]
def rPost (z:Nat) (r:AV) (H:List Obj):Prop:=∃ b,canon H r = some (.tup [.p (mag (digits z)),boo b])
theorem right_wf (l:List Nat) (n:Nat) (hl:Dig l) (ll:l.length ≤ 1000000) (hn:n ≤ 1000000):WF X0 Gam 189 [.p (mag l),int n] [] (rPost (val l / 2 ^ n)):=by
  obtain ⟨w,hw⟩:∃ w,n / 32 = w:=⟨_,rfl⟩
  obtain ⟨s,hs⟩:∃ s,n % 32 = s:=⟨_,rfl⟩
  have hn2:n = 32 * w + s:=by omega
  have hs32:s < 32:=by omega
  have hpow:2 ^ n = 4294967296 ^ w * 2 ^ s:=by rw [hn2,Nat.pow_add,Nat.pow_mul]
  have w1:IntKind.i64.wrap ((n:Int) / 32) = w:=by rw [wrap_i64 (by omega)]; omega
  have s1:(n:Int) % 32 = s:=by omega
  have s2:(n:Int).tmod 32 = s:=by rw [Int.tmod_eq_emod_of_nonneg (by omega)]; exact s1
  have s3:(n:Int).tdiv 32 = w:=by rw [Int.tdiv_eq_ediv_of_nonneg (by omega)]; omega
  have w1':IntKind.i64.wrap (w:Int) = w:=wrap_i64 (by omega)
  refine WF_intro rfl rfl ?_
  refine W_seq_cut (fun st=>lk st.env 0 = some (.p (mag l))∧lk st.env 1 = some (int n)∧st.H = []) (by simp [EV]) ?_
  rintro ⟨env,H⟩ ⟨h0,h1,rfl⟩
  simp only at h0 h1
  refine W_seq_cut (fun st=>lk st.env 0 = some (.p (mag l))∧lk st.env 1 = some (int n)∧lk st.env 6 = some (int w)∧st.H = []) (by simp [EV,h0,h1,w1,s3,w1']) ?_
  clear h0 h1 env
  rintro ⟨env,H⟩ ⟨h0,h1,h6,rfl⟩
  simp only at h0 h1 h6
  by_cases hwl:l.length ≤ w
  · have h00:val l / 2 ^ n = 0:=by
      refine Nat.div_eq_of_lt (Nat.lt_of_lt_of_le (val_lt hl) ?_)
      rw [hpow]
      exact Nat.le_trans (Nat.pow_le_pow_right (by decide) hwl) (Nat.le_mul_of_pos_right _ (Nat.pow_pos (by decide)))
    simp [EV,EVR,evOp,h0,h1,h6,hwl,h00,digits_zero,rPost]
  have hwl':w < l.length:=by omega
  refine W_seq_cut (fun st=>lk st.env 0 = some (.p (mag l))∧lk st.env 1 = some (int n)∧lk st.env 6 = some (int w)∧st.H = []) (by simp [EV,h0,h1,h6,hwl]) ?_
  clear h0 h1 h6 env
  rintro ⟨env,H⟩ ⟨h0,h1,h6,rfl⟩
  simp only at h0 h1 h6
  obtain ⟨a0,ha0⟩:∃ a,l[w]? = some a:=⟨_,List.getElem?_eq_getElem hwl'⟩
  refine W_seq_cut (fun st=>∃ b,lk st.env 0 = some (.p (mag l))∧lk st.env 1 = some (int n)∧lk st.env 6 = some (int w)∧lk st.env 7 = some (boo b)∧st.H = []) ?_ ?_
  · have hle:w ≤ l.length:=by omega
    have hpos:(0:Int) ≤ s:=by omega
    simp [EV,EVR,evOp,h0,h1,h6,hle,C184]
    rw [← List.map_take,P184 (by simp; omega)]
    by_cases ht:trim (l.take w) = []
    · simp [EV,EVR,evOp,h0,h1,h6,ht,ha0,limb,s1,s2,hwl',bin_and]
      exact Classical.em _
    · have hp:0 < (trim (l.take w)).length:=List.length_pos_iff.2 ht
      simp [EV,EVR,evOp,h0,h1,h6,hp]
  clear h0 h1 h6 env
  rintro ⟨env,H⟩ ⟨b,h0,h1,h6,h7,rfl⟩
  simp only at h0 h1 h6 h7
  obtain ⟨N,eN⟩:∃ N,N = l.length - w:=⟨_,rfl⟩
  have n1:IntKind.i64.wrap ((l.length:Int) - w) = N:=by rw [wrap_i64 (by omega)]; omega
  have m1:4 * (N:Int) ≤ 281474976710656:=by omega
  have m2:(N:Int) ≤ 9223372036854775807:=by omega
  obtain ⟨R,eR⟩:∃ R,4294967296 = 2 ^ s * R:=⟨2 ^ (32 - s),by rw [← Nat.pow_add,show s + (32 - s) = 32 by omega]⟩
  have hS:0 < 2 ^ s:=Nat.pow_pos (by decide)
  have smin:min s 64 = s:=by omega
  have hm:val (l.drop w) / 2 ^ s = val l / 2 ^ n:=by
    have hsp:=val_split (l:=l) w (by omega)
    rw [hpow,← Nat.div_div_eq_div_mul,hsp,Nat.add_mul_div_left _ _ (Nat.pow_pos (by decide))]
    have:=val_lt (hl.take w)
    rw [List.length_take,Nat.min_eq_left (by omega)] at this
    rw [Nat.div_eq_of_lt this,Nat.zero_add]
  simp [EV,EVR,evOp,mkSlice,h0,h1,h6,h7,n1,m1,m2]
  refine W_loop (fun m st=>∃ (k:Nat) (O:List Nat),m = N - k∧k ≤ N∧lk st.env 0 = some (.p (mag l))∧lk st.env 1 = some (int n)∧lk st.env 6 = some (int w)∧lk st.env 7 = some (boo b)∧lk st.env 8 = some (.ar 0 0 0 N)∧lk st.env 44 = some (int N)∧lk st.env 45 = some (int k) ∧
    st.H = [.arr 1 none 0 (O.map limb)]∧O.length = N∧Dig O∧val (O.take k) = (val ((l.drop w).take (k + 1)) / 2 ^ s) % 4294967296 ^ k) ?_ N _ ?_
  · rintro m ⟨env,H⟩ ⟨k,O,rfl,hk,h0,h1,h6,h7,h8,h44,h45,rfl,lO,dO,hval⟩
    simp only at h0 h1 h6 h7 h8 h44 h45
    by_cases hkl:k < N
    · obtain ⟨a,ha⟩:∃ a,(l.drop w)[k]? = some a:=⟨_,List.getElem?_eq_getElem (by simp; omega)⟩
      have ha':l[k + w]? = some a:=by rw [← ha,List.getElem?_drop,Nat.add_comm]
      have ba:=hl.get ha'
      have hX:=val_lt ((hl.drop w).take k)
      rw [List.length_take,List.length_drop,Nat.min_eq_left (by omega)] at hX
      have hvt:=val_take_succ ha
      obtain ⟨kw,ekw⟩:∃ x,x = k + w:=⟨_,rfl⟩
      rw [← ekw] at ha'
      have k1:IntKind.i64.wrap ((k:Int) + w) = kw:=by rw [wrap_i64 (by omega)]; omega
      have k2:IntKind.i64.wrap ((kw:Int) + 1) = (kw + 1:Nat):=by rw [wrap_i64 (by omega)]; omega
      have k3:IntKind.i64.wrap ((k:Int) + 1) = (k + 1:Nat):=by rw [wrap_i64 (by omega)]; omega
      have hkwl:kw < l.length:=by omega
      have hga:l[kw] = a:=by rw [List.getElem?_eq_getElem hkwl] at ha'; exact Option.some.inj ha'
      have ua:IntKind.u64.wrap (a:Int) = a:=wrap_u64 (by omega)
      have kp:(0:Int) ≤ (kw:Int) + 1:=by omega
      have fin:∀ d,d = (a + 4294967296 * ((l[kw + 1]?).getD 0)) / 2 ^ s % 4294967296→val ((O.set k d).take (k + 1)) = (val ((l.drop w).take (k + 1 + 1)) / 2 ^ s) % 4294967296 ^ (k + 1):=fun d hd=>by
        have hb:val ((l.drop w).take (k + 1 + 1)) = val ((l.drop w).take k) + 4294967296 ^ k * (a + 4294967296 * ((l[kw + 1]?).getD 0)):=by
          cases hq:l[kw + 1]? with
          | none =>
            have hle:l.length ≤ kw + 1:=List.getElem?_eq_none_iff.1 hq
            have e:(l.drop w).take (k + 1 + 1) = (l.drop w).take (k + 1):=by rw [List.take_of_length_le (by simp; omega),List.take_of_length_le (by simp; omega)]
            rw [e,hvt]
            simp
          | some b =>
            have hb':(l.drop w)[k + 1]? = some b:=by rw [← hq,List.getElem?_drop,show w + (k + 1) = kw + 1 by omega]
            rw [val_take_succ hb',hvt,Nat.pow_succ]
            simp
            grind
        rw [hb,Nat.pow_succ,shr_step hX eR hS,val_take_set (by omega),hval,hvt,hd]
      have wd:∀ Y d:Nat,d = Y / 2 ^ s % 4294967296→IntKind.u32.wrap ((Y:Int).fdiv (2 ^ s)) = d:=fun Y d hd=>by
        have e:(Y:Int).fdiv (2 ^ s) = ((Y / 2 ^ s:Nat):Int):=by
          rw [Int.fdiv_eq_ediv_of_nonneg _ (Int.le_of_lt (Int.pow_pos (by decide)))]; simp
        rw [e,wrap_u32_mod,hd]; simp
      by_cases hlast:kw + 1 < l.length
      · obtain ⟨c,hc⟩:∃ c,l[kw + 1]? = some c:=⟨_,List.getElem?_eq_getElem hlast⟩
        have bc:=hl.get hc
        have hgc:l[kw + 1] = c:=by rw [List.getElem?_eq_getElem hlast] at hc; exact Option.some.inj hc
        have uc:IntKind.u64.wrap (c:Int) = c:=wrap_u64 (by omega)
        have ush:IntKind.u64.wrap ((c:Int) * 4294967296) = (c:Int) * 4294967296:=wrap_u64 (by omega)
        have hor:=or_hi bc ba
        obtain ⟨Y,eY⟩:∃ Y,Y = c * 4294967296 + a:=⟨_,rfl⟩
        have hor':binV .or (I .u64 a) (I .u64 ((c:Int) * 4294967296)) = some (I .u64 Y):=by
          rw [← eY] at hor
          rw [← hor]; simp only [binV,binInt,bits,if_true,BitVec.or_comm]
        have hl2:(kw:Int) + 1 < l.length:=by omega
        simp [EV,EVR,evOp,h0,h1,h6,h7,h8,h44,h45,hkl,k1,k2,k3,hkwl,hga,limb,ua,uc,hlast,hl2,hgc,IntKind.bits,ush,hor',s1,s2,smin,kp,lO]
        obtain ⟨d,ed⟩:∃ d,d = Y / 2 ^ s % 4294967296:=⟨_,rfl⟩
        have bd:d < 4294967296:=by rw [ed]; exact Nat.mod_lt _ (by decide)
        rw [wd Y d ed,storeC_limb (O:=O) (by simp) (by omega) (by omega)]
        simp [EV,EVR,evOp,h0,h1,h6,h7,h8,h44,h45,k3,-List.map_set]
        exact ⟨N - (k + 1),by omega,k + 1,rfl,by omega,rfl,_,rfl,by simp [lO],dO.set bd,fin d (by rw [ed,eY,hc]; simp; congr 2; omega)⟩
      · have hl2:¬ (kw:Int) + 1 < l.length:=by omega
        have hc:l[kw + 1]? = none:=List.getElem?_eq_none (by omega)
        simp [EV,EVR,evOp,h0,h1,h6,h7,h8,h44,h45,hkl,k1,k2,k3,hkwl,hga,limb,ua,hlast,hl2,IntKind.bits,s1,s2,smin,kp,lO]
        obtain ⟨d,ed⟩:∃ d,d = a / 2 ^ s % 4294967296:=⟨_,rfl⟩
        have bd:d < 4294967296:=by rw [ed]; exact Nat.mod_lt _ (by decide)
        rw [wd a d ed,storeC_limb (O:=O) (by simp) (by omega) (by omega)]
        simp [EV,EVR,evOp,h0,h1,h6,h7,h8,h44,h45,k3,-List.map_set]
        exact ⟨N - (k + 1),by omega,k + 1,rfl,by omega,rfl,_,rfl,by simp [lO],dO.set bd,fin d (by rw [ed,hc]; simp)⟩
    · have ek:k = N:=by omega
      subst ek
      have hO2:val O = val l / 2 ^ n:=by
        rw [List.take_of_length_le (by omega),List.take_of_length_le (by simp; omega),hm] at hval
        have hlt:=val_lt dO
        rw [hval,← hm]
        refine Nat.mod_eq_of_lt (Nat.lt_of_le_of_lt (Nat.div_le_self _ _) ?_)
        have:=val_lt (hl.drop w)
        rwa [List.length_drop,← eN] at this
      simp [EV,EVR,evOp,h0,h1,h6,h7,h8,h44,h45,← lO,C184,take_limb]
      rw [P184 (by omega),trim_eq_of dO,hO2]
      simp [EV,EVR,rPost,h7]
  · exact ⟨0,List.replicate N 0,by simp,by omega,by simp [EV,h0],by simp [EV,h1],by simp [EV,h6],by simp [EV,h7],by simp [EV],by simp [EV],by simp [EV],by simp [limb],by simp,Dig.replicate,by simp [val,Nat.mod_one]⟩
theorem P189 {l:List Nat} {n:Nat} {H H1:List Obj} {K:AV→List Obj→Prop} (hl:Dig l) (ll:l.length ≤ 1000000) (hn:n ≤ 1000000)
    (hK:∀ b,K (.tup [.p (mag (digits (val l / 2 ^ n))),boo b]) H1):WP X0 Gam 189 false [.p (mag l),int n] H H1 K:=by
  have h:=right_wf l n hl ll hn
  unfold WF at h
  unfold WP
  cases hc:call X0 Gam 189 [.p (mag l),int n] [] with
  | none=>rw [hc] at h; exact h.elim
  | some r =>
    rw [hc] at h
    obtain ⟨b,h2⟩:=h
    have h3:refs (.tup [.p (mag (digits (val l / 2 ^ n))),boo b]) = []:=by simp [EV]
    have:=hK b
    simp [bindP,comeBack,h2,flat,h3,reach,within,nodupB,pickObjs,putBack,ren_bare _ _ h3]
    exact this
end Go.Proofs.YtjkdcddpicndgaaGreatDoor
namespace Go.Proofs.YtjkdcddpicndgaaGreatDoor
open Go
theorem pre_get {P D:List Nat} {j i:Nat} (h:P.length = j):(P ++ D)[j + i]? = D[i]?:=by
  rw [List.getElem?_append_right (by omega),h,Nat.add_sub_cancel_left]
theorem pre_set {P D:List Nat} {j i x:Nat} (h:P.length = j):(P ++ D).set (j + i) x = P ++ D.set i x:=by
  rw [List.set_append_right _ _ (by omega),h,Nat.add_sub_cancel_left]
theorem sub_limb {u p c:Nat} (hu:u < 4294967296) (hp:p ≤ 4294967295) (hc:c ≤ 4294967296 - p) (hc1:c ≤ 4294967295∨p = 0) :
    ∃ t b r:Nat,IntKind.u64.wrap (IntKind.u64.wrap ((u:Int) - p) - c) = t∧t < 18446744073709551616∧t / 9223372036854775808 = b∧t % 4294967296 = r∧b ≤ 1∧r + p + c = u + 4294967296 * b:=by
  have e:IntKind.u64.wrap (IntKind.u64.wrap ((u:Int) - p) - c) = ((u:Int) - p - c) % 18446744073709551616:=by
    rw [wrap_u64_mod,wrap_u64_mod]; omega
  refine ⟨(((u:Int) - p - c) % 18446744073709551616).toNat,_,_,by rw [e]; omega,by omega,rfl,rfl,?_,?_⟩
  · omega
  · omega
theorem and_low {x:Nat}:binV .and (I .u64 x) (I .u64 4294967295) = some (I .u64 ((x % 4294967296:Nat):Int)):=by
  have e:(BitVec.ofInt 64 (x:Int) &&& BitVec.ofInt 64 (4294967295:Int)).toNat = x % 4294967296:=by
    have h1:(BitVec.ofInt 64 (4294967295:Int)).toNat = 2 ^ 32 - 1:=by decide
    rw [BitVec.ofInt_natCast,BitVec.toNat_and,BitVec.toNat_ofNat,h1,Nat.and_two_pow_sub_one_eq_mod]
    omega
  rw [bin_and]
  have:IntKind.u64.bits = 64:=rfl
  rw [this,e,wrap_u64 (by omega)]
theorem take_ok0 {U V s q:Nat} (h:s + q * V = U) (h1:U < (q + 1) * V):U / V = q∧s = U % V:=by
  have hs:s < V:=by rw [Nat.add_mul] at h1; omega
  subst h
  constructor
  · rw [Nat.add_mul_div_right _ _ (by omega),Nat.div_eq_of_lt hs,Nat.zero_add]
  · rw [Nat.add_mul_mod_self_right,Nat.mod_eq_of_lt hs]
theorem take_ok1 {U V s q Z N e:Nat} (h:s + q * V = U + Z) (hs:s < Z) (hV:V < Z) (h2:(q - 1) * V ≤ U) (hN:N + Z * e = s + V) (hNlt:N < Z):U / V = q - 1∧N = U % V:=by
  obtain ⟨p,rfl⟩:∃ p,q = p + 1:=by
    cases q with
    | zero=>simp at h; omega
    | succ p=>exact ⟨p,rfl⟩
  simp only [Nat.add_sub_cancel] at h2 ⊢
  rw [Nat.add_mul] at h
  obtain ⟨d,hd⟩:∃ d,U = p * V + d:=⟨U - p * V,by omega⟩
  have hdV:d < V:=by omega
  have he:e = 1:=by
    match e with
    | 0=>simp at hN; omega
    | 1=>rfl
    | e + 2 =>
      rw [Nat.mul_add] at hN
      have:0 ≤ Z * e:=Nat.zero_le _
      omega
  subst he
  have hNd:N = d:=by omega
  subst hd
  constructor
  · rw [Nat.add_comm,Nat.add_mul_div_right _ _ (by omega),Nat.div_eq_of_lt hdV,Nat.zero_add]
  · rw [Nat.add_comm,Nat.add_mul_mod_self_right,Nat.mod_eq_of_lt hdV]; exact hNd
theorem take_wf {P D v:List Nat} {q j n ver M:Nat} (hP:P.length = j) (hD:Dig D) (hv:Dig v) (hn:v.length = n) (hl:n < D.length) (hM:M = j + D.length) (lM:M ≤ 1000000) (hq:q < 4294967296)
    (hq1:val (D.take (n + 1)) < (q + 1) * val v) (hq2:(q - 1) * val v ≤ val (D.take (n + 1))) :
    WF X0 Gam 187 [.ar 0 ver 0 M,int j,.p (mag v),u64 q] [.arr 1 none ver ((P ++ D).map limb)] fun r H2=>r = u32 (val (D.take (n + 1)) / val v:Nat) ∧
      ∃ D':List Nat,H2 = [.arr 1 none ver ((P ++ D').map limb)]∧D'.length = D.length∧Dig D'∧D'.drop (n + 1) = D.drop (n + 1)∧val (D'.take (n + 1)) = val (D.take (n + 1)) % val v:=by
  refine WF_intro rfl rfl ?_
  refine W_seq_cut (fun st=>lk st.env 0 = some (.ar 0 ver 0 M)∧lk st.env 1 = some (int j)∧lk st.env 2 = some (.p (mag v))∧lk st.env 3 = some (u64 q)∧st.H = [.arr 1 none ver ((P ++ D).map limb)]) (by simp [EV]) ?_
  rintro ⟨env,H⟩ ⟨h0,h1,h2,h3,rfl⟩
  simp only at h0 h1 h2 h3
  refine W_seq_cut (fun st=>lk st.env 0 = some (.ar 0 ver 0 M)∧lk st.env 1 = some (int j)∧lk st.env 2 = some (.p (mag v))∧lk st.env 3 = some (u64 q)∧lk st.env 9 = some (u64 0)∧lk st.env 10 = some (u64 0)∧st.H = [.arr 1 none ver ((P ++ D).map limb)]) (by simp [EV,h0,h1,h2,h3]) ?_
  clear h0 h1 h2 h3 env
  rintro ⟨env,H⟩ ⟨h0,h1,h2,h3,h9,h10,rfl⟩
  simp only at h0 h1 h2 h3 h9 h10
  refine W_seq_cut (fun st=>∃ (D':List Nat) (C bo:Nat),lk st.env 0 = some (.ar 0 ver 0 M)∧lk st.env 1 = some (int j)∧lk st.env 2 = some (.p (mag v))∧lk st.env 3 = some (u64 q)∧lk st.env 9 = some (u64 C)∧lk st.env 10 = some (u64 bo) ∧
    st.H = [.arr 1 none ver ((P ++ D').map limb)]∧D'.length = D.length∧Dig D'∧D'.drop n = D.drop n∧C < 4294967296∧bo ≤ 1∧val (D'.take n) + q * val v = val (D.take n) + 4294967296 ^ n * (C + bo)) ?_ ?_
  · simp [EV,h0,h1,h2,h3,h9,h10,hn,-List.map_append]
    refine W_loop (fun m st=>∃ (k:Nat) (D':List Nat) (C bo:Nat),m = n - k∧k ≤ n∧lk st.env 0 = some (.ar 0 ver 0 M)∧lk st.env 1 = some (int j)∧lk st.env 2 = some (.p (mag v))∧lk st.env 3 = some (u64 q)∧lk st.env 9 = some (u64 C)∧lk st.env 10 = some (u64 bo) ∧
      lk st.env 18 = some (int n)∧lk st.env 19 = some (int k)∧st.H = [.arr 1 none ver ((P ++ D').map limb)]∧D'.length = D.length∧Dig D'∧D'.drop k = D.drop k∧C < 4294967296∧bo ≤ 1 ∧
      val (D'.take k) + q * val (v.take k) = val (D.take k) + 4294967296 ^ k * (C + bo)) ?_ n _ ?_
    · clear h0 h1 h2 h3 h9 h10 env
      rintro m ⟨env,H⟩ ⟨k,D',C,bo,rfl,hk,h0,h1,h2,h3,h9,h10,h18,h19,rfl,lD,dD,hdr,bC,bbo,hval⟩
      simp only at h0 h1 h2 h3 h9 h10 h18 h19
      by_cases hkn:k < n
      · obtain ⟨c,hc⟩:∃ c,v[k]? = some c:=⟨_,List.getElem?_eq_getElem (by omega)⟩
        obtain ⟨u,hu⟩:∃ u,D'[k]? = some u:=⟨_,List.getElem?_eq_getElem (by omega)⟩
        have hu0:D[k]? = some u:=by
          have:(D'.drop k)[0]? = (D.drop k)[0]?:=by rw [hdr]
          rw [List.getElem?_drop,List.getElem?_drop] at this
          simpa [hu] using this.symm
        have hgc:v[k] = c:=by rw [List.getElem?_eq_getElem (by omega)] at hc; exact Option.some.inj hc
        have bc:=hv.get hc
        have bu:=dD.get hu
        obtain ⟨p,ep⟩:∃ p,p = q * c + C:=⟨_,rfl⟩
        have bp:p < 18446744073709551616:=by
          have:q * c ≤ 4294967295 * 4294967295:=Nat.mul_le_mul (by omega) (by omega)
          omega
        have uc:IntKind.u64.wrap (c:Int) = c:=wrap_u64 (by omega)
        have uu:IntKind.u64.wrap (u:Int) = u:=wrap_u64 (by omega)
        have um:IntKind.u64.wrap ((q:Int) * c) = (q:Int) * c:=by
          have h1:q * c < 18446744073709551616:=by omega
          have h2:(q:Int) * c = ((q * c:Nat):Int):=by simp
          rw [h2]; generalize q * c = Z at h1; exact wrap_u64 (by omega)
        have ump:IntKind.u64.wrap ((q:Int) * c + C) = p:=by
          have h2:(q:Int) * c + C = (p:Int):=by rw [ep]; simp
          rw [h2]; exact wrap_u64 (by omega)
        obtain ⟨hi,ehi⟩:∃ x,x = p / 4294967296:=⟨_,rfl⟩
        obtain ⟨lo,elo⟩:∃ x,x = p % 4294967296:=⟨_,rfl⟩
        have ufd:(p:Int).fdiv 4294967296 = hi:=by rw [Int.fdiv_eq_ediv_of_nonneg _ (by decide)]; omega
        have uhi:IntKind.u64.wrap (hi:Int) = hi:=wrap_u64 (by omega)
        have hal:=and_low (x:=p)
        rw [← elo] at hal
        obtain ⟨t,b',r,et,bt,eb,er,bb,hr⟩:=sub_limb (u:=u) (p:=lo) (c:=bo) bu (by omega) (by omega) (by omega)
        have utd:(t:Int).fdiv 9223372036854775808 = b':=by rw [Int.fdiv_eq_ediv_of_nonneg _ (by decide)]; omega
        have ub':IntKind.u64.wrap (b':Int) = b':=wrap_u64 (by omega)
        have ut:IntKind.u32.wrap (t:Int) = r:=by rw [wrap_u32_mod]; omega
        obtain ⟨jk,ejk⟩:∃ x,x = j + k:=⟨_,rfl⟩
        have k1:IntKind.i64.wrap ((j:Int) + k) = jk:=by rw [wrap_i64 (by omega)]; omega
        have k3:IntKind.i64.wrap ((k:Int) + 1) = (k + 1:Nat):=by rw [wrap_i64 (by omega)]; omega
        have hjM:jk < M:=by omega
        have hlen:(P ++ D').length = M:=by simp; omega
        have hg:(P ++ D')[jk]? = some u:=by rw [ejk,pre_get hP]; exact hu
        obtain ⟨A,eA⟩:∃ A,P ++ D' = A:=⟨_,rfl⟩
        have hgA:A[jk]? = some u:=by rw [← eA]; exact hg
        rw [eA] at hlen ⊢
        have hgA':A[jk] = u:=by rw [List.getElem?_eq_getElem (by omega)] at hgA; exact Option.some.inj hgA
        simp [EV,EVR,evOp,h0,h1,h2,h3,h9,h10,h18,h19,hkn,hn,hgc,k1,hgA,hgA',limb,uc,uu,um,ump,IntKind.bits,ufd,uhi,hal,et,ut,hjM,hlen,← ejk]
        rw [storeC_limb (O:=A) (by simp) (by omega) (by omega)]
        simp [EV,EVR,evOp,h0,h1,h2,h3,h9,h10,h18,h19,k3,utd,ub',IntKind.bits,-List.map_append,-List.map_set]
        refine ⟨n - (k + 1),by omega,k + 1,rfl,by omega,D'.set k r,hi,rfl,b',rfl,by omega,?_,by simp [lD],dD.set (by omega),?_,by omega,bb,?_⟩
        · rw [← eA,ejk,pre_set hP]
        · have e1:(D'.set k r).drop (k + 1) = D'.drop (k + 1):=by rw [List.drop_set_of_lt (by omega)]
          rw [e1,← List.drop_drop,hdr,List.drop_drop]
        · rw [val_take_set (by omega),val_take_succ hc,val_take_succ hu0,Nat.pow_succ]
          have e2:q * c + C = hi * 4294967296 + lo:=by omega
          clear hq1 hq2
          generalize 4294967296 ^ k = Z at *
          generalize val (List.take k D') = Y at *
          generalize val (List.take k D) = X at *
          generalize val (List.take k v) = V at *
          grind
      · have ek:k = n:=by omega
        subst ek
        rw [List.take_of_length_le (l:=v) (by omega)] at hval
        simp [EV,EVR,evOp,h0,h1,h2,h3,h9,h10,h18,h19,-List.map_append]
        exact ⟨D',C,rfl,bo,rfl,rfl,lD,dD,hdr,bC,bbo,hval⟩
    · exact ⟨0,D,0,0,by simp,by omega,by simp [EV,h0],by simp [EV,h1],by simp [EV,h2],by simp [EV,h3],by simp [EV,h9],by simp [EV,h10],by simp [EV],by simp [EV],rfl,rfl,hD,rfl,by omega,by omega,by simp [val]⟩
  clear h0 h1 h2 h3 h9 h10 env
  rintro ⟨env,H⟩ ⟨D1,C,bo,h0,h1,h2,h3,h9,h10,rfl,lD,dD,hdr,bC,bbo,hval⟩
  simp only at h0 h1 h2 h3 h9 h10
  refine W_seq_cut (fun st=>∃ (D2:List Nat) (t b':Nat),lk st.env 0 = some (.ar 0 ver 0 M)∧lk st.env 1 = some (int j)∧lk st.env 2 = some (.p (mag v))∧lk st.env 3 = some (u64 q)∧lk st.env 14 = some (u64 t) ∧
    st.H = [.arr 1 none ver ((P ++ D1).map limb)]∧(t:Int).fdiv 9223372036854775808 = b'∧b' ≤ 1∧D2 = D1.set n (t % 4294967296)∧val (D2.take (n + 1)) + q * val v = val (D.take (n + 1)) + 4294967296 ^ (n + 1) * b') ?_ ?_
  · obtain ⟨u,hu⟩:∃ u,D1[n]? = some u:=⟨_,List.getElem?_eq_getElem (by omega)⟩
    have hu0:D[n]? = some u:=by
      have:(D1.drop n)[0]? = (D.drop n)[0]?:=by rw [hdr]
      rw [List.getElem?_drop,List.getElem?_drop] at this
      simpa [hu] using this.symm
    have bu:=dD.get hu
    have uu:IntKind.u64.wrap (u:Int) = u:=wrap_u64 (by omega)
    obtain ⟨t,b',r,et,bt,eb,er,bb,hr⟩:=sub_limb (u:=u) (p:=C) (c:=bo) bu (by omega) (by omega) (by omega)
    have utd:(t:Int).fdiv 9223372036854775808 = b':=by rw [Int.fdiv_eq_ediv_of_nonneg _ (by decide)]; omega
    obtain ⟨jk,ejk⟩:∃ x,x = j + n:=⟨_,rfl⟩
    have k1:IntKind.i64.wrap ((j:Int) + n) = jk:=by rw [wrap_i64 (by omega)]; omega
    have hjM:jk < M:=by omega
    have hlen:(P ++ D1).length = M:=by simp; omega
    have hg:(P ++ D1)[jk]? = some u:=by rw [ejk,pre_get hP]; exact hu
    obtain ⟨A,eA⟩:∃ A,P ++ D1 = A:=⟨_,rfl⟩
    have hgA:A[jk]? = some u:=by rw [← eA]; exact hg
    rw [eA] at hlen ⊢
    have hgA':A[jk] = u:=by rw [List.getElem?_eq_getElem (by omega)] at hgA; exact Option.some.inj hgA
    simp [EV,EVR,evOp,h0,h1,h2,h3,h9,h10,hn,k1,hgA,hgA',limb,uu,et,hjM,hlen,← ejk,-List.map_append]
    refine ⟨_,t,rfl,b',utd,bb,rfl,?_⟩
    rw [val_take_set (by omega),val_take_succ hu0,Nat.pow_succ,er]
    clear hq1 hq2
    generalize 4294967296 ^ n = Z at *
    generalize val (List.take n D1) = Y at *
    generalize val (List.take n D) = X at *
    grind
  clear h0 h1 h2 h3 h9 h10 env
  rintro ⟨env,H⟩ ⟨D2,t,b',h0,h1,h2,h3,h14,rfl,utd,bb,e2,hv2⟩
  simp only at h0 h1 h2 h3 h14
  have lD2:D2.length = D.length:=by rw [e2]; simp [lD]
  have dD2:Dig D2:=by rw [e2]; exact dD.set (by omega)
  have dr2:D2.drop (n + 1) = D.drop (n + 1):=by
    rw [e2,List.drop_set_of_lt (by omega),← List.drop_drop,hdr,List.drop_drop]
  refine W_seq_cut (fun st=>lk st.env 0 = some (.ar 0 ver 0 M)∧lk st.env 1 = some (int j)∧lk st.env 2 = some (.p (mag v))∧lk st.env 3 = some (u64 q)∧lk st.env 14 = some (u64 t)∧st.H = [.arr 1 none ver ((P ++ D2).map limb)]) ?_ ?_
  · obtain ⟨jk,ejk⟩:∃ x,x = j + n:=⟨_,rfl⟩
    have k1:IntKind.i64.wrap ((j:Int) + n) = jk:=by rw [wrap_i64 (by omega)]; omega
    have hjM:jk < M:=by omega
    have hlen:(P ++ D1).length = M:=by simp; omega
    have e3:(P ++ D1).set jk (t % 4294967296) = P ++ D2:=by rw [e2,ejk,pre_set hP]
    obtain ⟨A,eA⟩:∃ A,P ++ D1 = A:=⟨_,rfl⟩
    rw [eA] at hlen e3 ⊢
    obtain ⟨r,er⟩:∃ r,r = t % 4294967296:=⟨_,rfl⟩
    have ut:IntKind.u32.wrap (t:Int) = r:=by rw [wrap_u32_mod]; omega
    rw [← er] at e3
    simp [EV,EVR,evOp,h0,h1,h2,h3,h14,hn,k1,limb,ut,hjM,hlen,-List.map_append,-List.map_set]
    rw [storeC_limb (O:=A) (by simp) (by omega) (by omega)]
    simp [EV,EVR,evOp,h0,h1,h2,h3,h14,e3,-List.map_append,-List.map_set]
  clear h0 h1 h2 h3 h14 env
  rintro ⟨env,H⟩ ⟨h0,h1,h2,h3,h14,rfl⟩
  simp only at h0 h1 h2 h3 h14
  have uq:IntKind.u32.wrap (q:Int) = q:=wrap_u32 (by omega)
  have hb:b' = 0∨b' = 1:=by omega
  rcases hb with hb | hb
  · have hv3:val (D2.take (n + 1)) + q * val v = val (D.take (n + 1)):=by rw [hv2,hb,Nat.mul_zero,Nat.add_zero]
    obtain ⟨hqd,hqm⟩:=take_ok0 hv3 hq1
    have utd':(t:Int).fdiv 9223372036854775808 = 0:=by rw [utd,hb]; rfl
    rw [hqd,← hqm]
    simp [EV,EVR,evOp,h0,h1,h2,h3,h14,IntKind.bits,utd',uq,-List.map_append]
    exact ⟨D2,rfl,lD2,dD2,dr2,rfl⟩
  · subst hb
    have hV:=val_lt hv
    rw [hn] at hV
    have utd':(t:Int).fdiv 9223372036854775808 = 1:=by rw [utd]; rfl
    have hseg:=val_lt (dD2.take (n + 1))
    rw [List.length_take,Nat.min_eq_left (by omega)] at hseg
    refine W_seq_cut (fun st=>lk st.env 0 = some (.ar 0 ver 0 M)∧lk st.env 1 = some (int j)∧lk st.env 2 = some (.p (mag v))∧lk st.env 3 = some (u64 q)∧st.H = [.arr 1 none ver ((P ++ D2).map limb)]) (by simp [EV,EVR,evOp,h0,h1,h2,h3,h14,IntKind.bits,utd',-List.map_append]) ?_
    clear h0 h1 h2 h3 h14 env
    rintro ⟨env,H⟩ ⟨h0,h1,h2,h3,rfl⟩
    simp only at h0 h1 h2 h3
    refine W_seq_cut (fun st=>lk st.env 0 = some (.ar 0 ver 0 M)∧lk st.env 1 = some (int j)∧lk st.env 2 = some (.p (mag v))∧lk st.env 3 = some (u64 q)∧lk st.env 9 = some (u64 0)∧st.H = [.arr 1 none ver ((P ++ D2).map limb)]) (by simp [EV,h0,h1,h2,h3,-List.map_append]) ?_
    clear h0 h1 h2 h3 env
    rintro ⟨env,H⟩ ⟨h0,h1,h2,h3,h9,rfl⟩
    simp only at h0 h1 h2 h3 h9
    refine W_seq_cut (fun st=>∃ (D3:List Nat) (C:Nat),lk st.env 0 = some (.ar 0 ver 0 M)∧lk st.env 1 = some (int j)∧lk st.env 2 = some (.p (mag v))∧lk st.env 3 = some (u64 q)∧lk st.env 9 = some (u64 C) ∧
      st.H = [.arr 1 none ver ((P ++ D3).map limb)]∧D3.length = D2.length∧Dig D3∧D3.drop n = D2.drop n∧C ≤ 1∧val (D3.take n) + 4294967296 ^ n * C = val (D2.take n) + val v) ?_ ?_
    · simp [EV,h0,h1,h2,h3,h9,hn,-List.map_append]
      refine W_loop (fun m st=>∃ (k:Nat) (D3:List Nat) (C:Nat),m = n - k∧k ≤ n∧lk st.env 0 = some (.ar 0 ver 0 M)∧lk st.env 1 = some (int j)∧lk st.env 2 = some (.p (mag v))∧lk st.env 3 = some (u64 q)∧lk st.env 9 = some (u64 C) ∧
        lk st.env 81 = some (int n)∧lk st.env 82 = some (int k)∧st.H = [.arr 1 none ver ((P ++ D3).map limb)]∧D3.length = D2.length∧Dig D3∧D3.drop k = D2.drop k∧C ≤ 1 ∧
        val (D3.take k) + 4294967296 ^ k * C = val (D2.take k) + val (v.take k)) ?_ n _ ?_
      · clear h0 h1 h2 h3 h9 env
        rintro m ⟨env,H⟩ ⟨k,D3,C,rfl,hk,h0,h1,h2,h3,h9,h81,h82,rfl,lD3,dD3,hdr3,bC,hval3⟩
        simp only at h0 h1 h2 h3 h9 h81 h82
        by_cases hkn:k < n
        · obtain ⟨c,hc⟩:∃ c,v[k]? = some c:=⟨_,List.getElem?_eq_getElem (by omega)⟩
          obtain ⟨u,hu⟩:∃ u,D3[k]? = some u:=⟨_,List.getElem?_eq_getElem (by omega)⟩
          have hu0:D2[k]? = some u:=by
            have:(D3.drop k)[0]? = (D2.drop k)[0]?:=by rw [hdr3]
            rw [List.getElem?_drop,List.getElem?_drop] at this
            simpa [hu] using this.symm
          have hgc:v[k] = c:=by rw [List.getElem?_eq_getElem (by omega)] at hc; exact Option.some.inj hc
          have bc:=hv.get hc
          have bu:=dD3.get hu
          have uc:IntKind.u64.wrap (c:Int) = c:=wrap_u64 (by omega)
          have uu:IntKind.u64.wrap (u:Int) = u:=wrap_u64 (by omega)
          obtain ⟨Y,eY⟩:∃ x,x = u + c:=⟨_,rfl⟩
          have uy:IntKind.u64.wrap ((u:Int) + c) = Y:=by rw [wrap_u64 (by omega)]; omega
          obtain ⟨S,eS⟩:∃ x,x = u + c + C:=⟨_,rfl⟩
          have us:IntKind.u64.wrap ((Y:Int) + C) = S:=by rw [wrap_u64 (by omega)]; omega
          obtain ⟨hi,ehi⟩:∃ x,x = S / 4294967296:=⟨_,rfl⟩
          obtain ⟨r,er⟩:∃ x,x = S % 4294967296:=⟨_,rfl⟩
          have ufd:(S:Int).fdiv 4294967296 = hi:=by rw [Int.fdiv_eq_ediv_of_nonneg _ (by decide)]; omega
          have uhi:IntKind.u64.wrap (hi:Int) = hi:=wrap_u64 (by omega)
          have ut:IntKind.u32.wrap (S:Int) = r:=by rw [wrap_u32_mod]; omega
          obtain ⟨jk,ejk⟩:∃ x,x = j + k:=⟨_,rfl⟩
          have k1:IntKind.i64.wrap ((j:Int) + k) = jk:=by rw [wrap_i64 (by omega)]; omega
          have k3:IntKind.i64.wrap ((k:Int) + 1) = (k + 1:Nat):=by rw [wrap_i64 (by omega)]; omega
          have hjM:jk < M:=by omega
          have hlen:(P ++ D3).length = M:=by simp; omega
          have hg:(P ++ D3)[jk]? = some u:=by rw [ejk,pre_get hP]; exact hu
          obtain ⟨A,eA⟩:∃ A,P ++ D3 = A:=⟨_,rfl⟩
          have hgA:A[jk]? = some u:=by rw [← eA]; exact hg
          rw [eA] at hlen ⊢
          have hgA':A[jk] = u:=by rw [List.getElem?_eq_getElem (by omega)] at hgA; exact Option.some.inj hgA
          simp [EV,EVR,evOp,h0,h1,h2,h3,h9,h81,h82,hkn,hn,hgc,k1,hgA,hgA',limb,uc,uu,uy,us,IntKind.bits,ut,hjM,hlen,← ejk,-List.map_append]
          rw [storeC_limb (O:=A) (by simp) (by omega) (by omega)]
          simp [EV,EVR,evOp,h0,h1,h2,h3,h9,h81,h82,k3,ufd,uhi,IntKind.bits,-List.map_append,-List.map_set]
          refine ⟨n - (k + 1),by omega,k + 1,rfl,by omega,D3.set k r,hi,rfl,by omega,?_,by simp [lD3],dD3.set (by omega),?_,by omega,?_⟩
          · rw [← eA,ejk,pre_set hP]
          · have e1:(D3.set k r).drop (k + 1) = D3.drop (k + 1):=by rw [List.drop_set_of_lt (by omega)]
            rw [e1,← List.drop_drop,hdr3,List.drop_drop]
          · rw [val_take_set (by omega),val_take_succ hc,val_take_succ hu0,Nat.pow_succ]
            have e2:u + c + C = hi * 4294967296 + r:=by omega
            clear hq1 hq2
            generalize 4294967296 ^ k = Z at *
            generalize val (List.take k D3) = Y at *
            generalize val (List.take k D2) = X at *
            generalize val (List.take k v) = V at *
            grind
        · have ek:k = n:=by omega
          subst ek
          rw [List.take_of_length_le (l:=v) (by omega)] at hval3
          simp [EV,EVR,evOp,h0,h1,h2,h3,h9,h81,h82,-List.map_append]
          exact ⟨D3,C,rfl,rfl,lD3,dD3,hdr3,bC,hval3⟩
      · exact ⟨0,D2,0,by simp,by omega,by simp [EV,h0],by simp [EV,h1],by simp [EV,h2],by simp [EV,h3],by simp [EV,h9],by simp [EV],by simp [EV],rfl,rfl,dD2,rfl,by omega,by simp [val]⟩
    clear h0 h1 h2 h3 h9 env
    rintro ⟨env,H⟩ ⟨D3,C,h0,h1,h2,h3,h9,rfl,lD3,dD3,hdr3,bC,hval3⟩
    simp only at h0 h1 h2 h3 h9
    obtain ⟨u,hu⟩:∃ u,D3[n]? = some u:=⟨_,List.getElem?_eq_getElem (by omega)⟩
    have hu0:D2[n]? = some u:=by
      have:(D3.drop n)[0]? = (D2.drop n)[0]?:=by rw [hdr3]
      rw [List.getElem?_drop,List.getElem?_drop] at this
      simpa [hu] using this.symm
    have bu:=dD3.get hu
    obtain ⟨r,er⟩:∃ x,x = (u + C) % 4294967296:=⟨_,rfl⟩
    obtain ⟨ov,eov⟩:∃ x,x = (u + C) / 4294967296:=⟨_,rfl⟩
    have hlen4:(D3.set n r).length = D.length:=by simp [lD3,lD2]
    have dD4:Dig (D3.set n r):=dD3.set (by omega)
    have hN:val ((D3.set n r).take (n + 1)) + 4294967296 ^ (n + 1) * ov = val (D2.take (n + 1)) + val v:=by
      rw [val_take_set (by omega),val_take_succ hu0,Nat.pow_succ]
      have e2:u + C = ov * 4294967296 + r:=by omega
      clear hq1 hq2 hv2 hseg hV
      generalize 4294967296 ^ n = Z at *
      generalize val (List.take n D3) = Y at *
      generalize val (List.take n D2) = X at *
      grind
    have hNlt:=val_lt (dD4.take (n + 1))
    rw [List.length_take,Nat.min_eq_left (by rw [hlen4]; omega)] at hNlt
    have hVZ:val v < 4294967296 ^ (n + 1):=Nat.lt_of_lt_of_le hV (Nat.pow_le_pow_right (by decide) (by omega))
    rw [Nat.mul_one] at hv2
    obtain ⟨hqd,hqm⟩:=take_ok1 hv2 hseg hVZ hq2 hN hNlt
    have hq0:0 < q:=by
      refine Nat.pos_of_ne_zero fun e=>?_
      subst e
      rw [Nat.zero_mul] at hv2
      have:=val_lt (hD.take (n + 1))
      omega
    obtain ⟨jk,ejk⟩:∃ x,x = j + n:=⟨_,rfl⟩
    have k1:IntKind.i64.wrap ((j:Int) + n) = jk:=by rw [wrap_i64 (by omega)]; omega
    have hjM:jk < M:=by omega
    have hlen:(P ++ D3).length = M:=by simp; omega
    have hg:(P ++ D3)[jk]? = some u:=by rw [ejk,pre_get hP]; exact hu
    have e3:(P ++ D3).set jk r = P ++ D3.set n r:=by rw [ejk,pre_set hP]
    obtain ⟨A,eA⟩:∃ A,P ++ D3 = A:=⟨_,rfl⟩
    have hgA:A[jk]? = some u:=by rw [← eA]; exact hg
    rw [eA] at hlen e3 ⊢
    have hgA':A[jk] = u:=by rw [List.getElem?_eq_getElem (by omega)] at hgA; exact Option.some.inj hgA
    have uC:IntKind.u32.wrap (C:Int) = C:=wrap_u32 (by omega)
    have ur:IntKind.u32.wrap ((u:Int) + C) = r:=by rw [wrap_u32_mod]; omega
    have uq1:IntKind.u64.wrap ((q:Int) - 1) = (q - 1:Nat):=by rw [wrap_u64 (by omega)]; omega
    obtain ⟨q1,eq1⟩:∃ x,x = q - 1:=⟨_,rfl⟩
    rw [← eq1] at uq1 hqd
    have uq2:IntKind.u32.wrap (q1:Int) = q1:=wrap_u32 (by omega)
    rw [hqd,← hqm]
    simp [EV,EVR,evOp,h0,h1,h2,h3,h9,hn,k1,hgA,hgA',limb,uC,ur,hjM,hlen,-List.map_append,-List.map_set]
    rw [storeC_limb (O:=A) (by simp) (by omega) (by omega)]
    simp [EV,EVR,evOp,h0,h1,h2,h3,h9,uq1,uq2,e3,-List.map_append,-List.map_set]
    refine ⟨D3.set n r,rfl,hlen4,dD4,?_,rfl⟩
    rw [List.drop_set_of_lt (by omega),← List.drop_drop,hdr3,List.drop_drop,dr2]
end Go.Proofs.YtjkdcddpicndgaaGreatDoor
namespace Go.Proofs.YtjkdcddpicndgaaGreatDoor
open Go
def tabN (b:Nat):Nat:=((lenTab[b]?).getD 0).toNat
theorem tab_ok:∀ b:Fin 256,lenTab[b.val]? = some (tabN b).toUInt8∧b.val < 2 ^ tabN b∧(0 < b.val→0 < tabN b∧2 ^ (tabN b - 1) ≤ b.val)∧tabN b ≤ 8:=by decide +kernel
theorem tab_idx {b:Nat} (h:b < 256):idxStr lenTab b = some (.p (.v (.int .u8 (tabN b)))):=by
  obtain ⟨h1,_,_,h4⟩:=tab_ok ⟨b,h⟩
  unfold idxStr
  have:lenTab[(b:Int).toNat]? = some (tabN b).toUInt8:=h1
  rw [if_pos (by omega),this]
  have h4':tabN b ≤ 8:=h4
  simp; omega
def len32 (x:Nat):Nat:=if 65536 ≤ x then (if 256 ≤ x / 65536 then 24 + tabN (x / 65536 / 256) else 16 + tabN (x / 65536)) else if 256 ≤ x then 8 + tabN (x / 256) else tabN x
theorem len32_ok {x:Nat} (h:x < 4294967296) (h0:0 < x):0 < len32 x∧2 ^ (len32 x - 1) ≤ x∧x < 2 ^ len32 x∧len32 x ≤ 32:=by
  have key:∀ k:Nat,x / 2 ^ k < 256→0 < x / 2 ^ k→k ≤ 24→0 < k + tabN (x / 2 ^ k)∧2 ^ (k + tabN (x / 2 ^ k) - 1) ≤ x∧x < 2 ^ (k + tabN (x / 2 ^ k))∧k + tabN (x / 2 ^ k) ≤ 32:=fun k h1 h2 hk=>by
    obtain ⟨_,a2,a3,a4⟩:=tab_ok ⟨x / 2 ^ k,h1⟩
    obtain ⟨a5,a6⟩:=a3 h2
    simp only at a2 a4 a5 a6
    generalize tabN (x / 2 ^ k) = T at *
    have hp:0 < 2 ^ k:=Nat.pow_pos (by decide)
    refine ⟨by omega,?_,?_,by omega⟩
    · rw [show k + T - 1 = (T - 1) + k by omega,Nat.pow_add]
      exact (Nat.le_div_iff_mul_le hp).1 a6
    · rw [Nat.add_comm,Nat.pow_add]
      exact (Nat.div_lt_iff_lt_mul hp).1 a2
  unfold len32
  split
  · split
    · have:=key 24 (by omega) (by omega) (by omega)
      rw [Nat.div_div_eq_div_mul]
      exact this
    · exact key 16 (by omega) (by omega) (by omega)
  · split
    · exact key 8 (by omega) (by omega) (by omega)
    · have:=key 0 (by omega) (by omega) (by omega)
      simpa using this
theorem Len32_pf {x:Nat} (h:x < 4294967296):PF X0 Gam 234 [u32 x] (int (len32 x)):=by
  refine WF_intro rfl rfl ?_
  have T8:∀ b,b < 256→tabN b ≤ 8:=fun b hb=>(tab_ok ⟨b,hb⟩).2.2.2
  have fd16:(x:Int).fdiv 65536 = (x / 65536:Nat):=by rw [Int.fdiv_eq_ediv_of_nonneg _ (by decide)]; omega
  have fd8:∀ y:Nat,(y:Int).fdiv 256 = (y / 256:Nat):=fun y=>by rw [Int.fdiv_eq_ediv_of_nonneg _ (by decide)]; omega
  have w8:∀ y:Nat,y < 256→IntKind.u8.wrap (y:Int) = y:=fun y hy=>by simp [IntKind.wrap,IntKind.bits,IntKind.signed]; omega
  have wi:∀ y:Nat,y ≤ 100→IntKind.i64.wrap (y:Int) = y:=fun y hy=>wrap_i64 (by omega)
  have w24:IntKind.i64.wrap 24 = 24:=by decide
  have w16:IntKind.i64.wrap 16 = 16:=by decide
  have w08:IntKind.i64.wrap 8 = 8:=by decide
  unfold len32
  by_cases h1:65536 ≤ x
  · have h1':(65536:Int) ≤ x:=by omega
    obtain ⟨y,ey⟩:∃ y,x / 65536 = y:=⟨_,rfl⟩
    rw [ey] at fd16
    by_cases h2:256 ≤ y
    · have h2':(256:Int) ≤ y:=by omega
      obtain ⟨z,ez⟩:∃ z,y / 256 = z:=⟨_,rfl⟩
      have hz:z < 256:=by omega
      have f8:=fd8 y
      rw [ez] at f8
      have t8:=T8 z hz
      have wt:IntKind.i64.wrap (24 + (tabN z:Int)) = 24 + tabN z:=wrap_i64 (by omega)
      simp [EV,EVR,evOp,evStr,asStr,h1,h1',IntKind.bits,fd16,h2,h2',f8,ey,ez,w8 z hz,tab_idx hz,wi _ (show tabN z ≤ 100 by omega),w24,wt]
    · have h2':¬ (256:Int) ≤ y:=by omega
      have hz:y < 256:=by omega
      have t8:=T8 y hz
      have wt:IntKind.i64.wrap (16 + (tabN y:Int)) = 16 + tabN y:=wrap_i64 (by omega)
      simp [EV,EVR,evOp,evStr,asStr,h1,h1',IntKind.bits,fd16,h2,h2',ey,w8 y hz,tab_idx hz,wi _ (show tabN y ≤ 100 by omega),wt]
  · have h1':¬ (65536:Int) ≤ x:=by omega
    by_cases h2:256 ≤ x
    · have h2':(256:Int) ≤ x:=by omega
      obtain ⟨z,ez⟩:∃ z,x / 256 = z:=⟨_,rfl⟩
      have hz:z < 256:=by omega
      have f8:=fd8 x
      rw [ez] at f8
      have t8:=T8 z hz
      have wt:IntKind.i64.wrap (8 + (tabN z:Int)) = 8 + tabN z:=wrap_i64 (by omega)
      simp [EV,EVR,evOp,evStr,asStr,h1,h1',IntKind.bits,h2,h2',f8,ez,w8 z hz,tab_idx hz,wi _ (show tabN z ≤ 100 by omega),w08,wt]
    · have h2':¬ (256:Int) ≤ x:=by omega
      have hz:x < 256:=by omega
      have t8:=T8 x hz
      simp [EV,EVR,evOp,evStr,asStr,h1,h1',IntKind.bits,h2,h2',w8 x hz,tab_idx hz,wi _ (show tabN x ≤ 100 by omega)]
theorem P234 {x:Nat} {H H1:List Obj} {K:AV→List Obj→Prop} (h:x < 4294967296):WP X0 Gam 234 false [u32 x] H H1 K↔K (int (len32 x)) H:=WP_flat (Len32_pf h) rfl
theorem Lead_pf {x:Nat} (h:x < 4294967296) (h0:0 < x):PF X0 Gam 185 [u32 x] (int (32 - len32 x:Nat)):=by
  obtain ⟨a,b,c,d⟩:=len32_ok h h0
  have w:IntKind.i64.wrap (32 - (len32 x:Int)) = (32 - len32 x:Nat):=by rw [wrap_i64 (by omega)]; omega
  refine WF_intro rfl rfl ?_
  simp [EV,EVR,evOp,C234]
  rw [P234 h]
  simp [EV,EVR,evOp,w]
theorem P185 {x:Nat} {H H1:List Obj} {K:AV→List Obj→Prop} (h:x < 4294967296) (h0:0 < x):WP X0 Gam 185 false [u32 x] H H1 K↔K (int (32 - len32 x:Nat)) H:=WP_flat (Lead_pf h h0) rfl
theorem lead_norm {x:Nat} (h:x < 4294967296) (h0:0 < x):32 - len32 x < 32∧2147483648 ≤ x * 2 ^ (32 - len32 x)∧(x + 1) * 2 ^ (32 - len32 x) ≤ 4294967296:=by
  obtain ⟨a,b,c,d⟩:=len32_ok h h0
  refine ⟨by omega,?_,?_⟩
  · have:=Nat.mul_le_mul_right (2 ^ (32 - len32 x)) b
    rw [← Nat.pow_add,show len32 x - 1 + (32 - len32 x) = 31 by omega] at this
    exact this
  · have:=Nat.mul_le_mul_right (2 ^ (32 - len32 x)) (show x + 1 ≤ 2 ^ len32 x from c)
    rw [← Nat.pow_add,show len32 x + (32 - len32 x) = 32 by omega] at this
    exact this
end Go.Proofs.YtjkdcddpicndgaaGreatDoor
namespace Go.Proofs.YtjkdcddpicndgaaGreatDoor
theorem est_lo {U V T u2 v1 v2 Z lu lv:Nat} (hU:U = (T * 4294967296 + u2) * Z + lu) (hlu:lu < Z) (hV:V = (v1 * 4294967296 + v2) * Z + lv) (hv:0 < v1) (hUV:U < V * 4294967296):U < (qhat T u2 v1 v2 + 1) * V:=by
  have hZ:0 < Z:=by omega
  have hVp:0 < V:=by
    have h1:0 < (v1 * 4294967296 + v2) * Z:=Nat.mul_pos (by omega) hZ
    omega
  have hQ:U / V < 4294967296:=(Nat.div_lt_iff_lt_mul hVp).2 (by rw [Nat.mul_comm]; exact hUV)
  have h1:U / V * V ≤ U:=Nat.div_mul_le_self U V
  have h2:U / V * (v1 * 4294967296 + v2) ≤ T * 4294967296 + u2:=by
    have h3:U / V * (v1 * 4294967296 + v2) * Z ≤ U / V * V:=by
      rw [Nat.mul_assoc]; exact Nat.mul_le_mul_left _ (by omega)
    have h4:U < (T * 4294967296 + u2 + 1) * Z:=by rw [Nat.add_mul,hU]; omega
    have h5:U / V * (v1 * 4294967296 + v2) * Z < (T * 4294967296 + u2 + 1) * Z:=by omega
    exact Nat.lt_succ_iff.1 (Nat.lt_of_mul_lt_mul_right h5)
  have h3:=qhat_le hv hQ h2
  exact (Nat.div_lt_iff_lt_mul hVp).1 (by omega)
theorem est_hi' {U V W A Z lu lv p:Nat} (hU:U = W * Z + lu) (hV:V = A * Z + lv) (hlv:lv < Z) (hA:p + 1 ≤ A) (h1:(p + 1) * A ≤ W):p * V ≤ U:=by
  have h2:(p + 1) * A * Z ≤ W * Z:=Nat.mul_le_mul_right _ h1
  have h3:(p + 1) * lv ≤ (p + 1) * Z:=Nat.mul_le_mul_left _ (Nat.le_of_lt hlv)
  have h4:(p + 1) * Z ≤ A * Z:=Nat.mul_le_mul_right _ hA
  have h6:(p + 1) * V = (p + 1) * A * Z + (p + 1) * lv:=by rw [hV,Nat.mul_add,Nat.mul_assoc]
  have h7:(p + 1) * V = p * V + V:=by rw [Nat.add_mul,Nat.one_mul]
  generalize (p + 1) * A * Z = x1 at *
  generalize W * Z = x2 at *
  generalize (p + 1) * lv = x3 at *
  generalize (p + 1) * Z = x4 at *
  generalize A * Z = x5 at *
  generalize (p + 1) * V = x6 at *
  generalize p * V = x7 at *
  omega
theorem est_hi {U V T u2 v1 v2 Z lu lv:Nat} (hU:U = (T * 4294967296 + u2) * Z + lu) (hV:V = (v1 * 4294967296 + v2) * Z + lv) (hlv:lv < Z) (hv:0 < v1):(qhat T u2 v1 v2 - 1) * V ≤ U:=by
  have hqs:=qhat_small (T:=T) (u2:=u2) (v1:=v1) (v2:=v2)
  have h1:qhat T u2 v1 v2 * (v1 * 4294967296 + v2) ≤ T * 4294967296 + u2:=by
    have:qhat T u2 v1 v2 ≤ (T * 4294967296 + u2) / (v1 * 4294967296 + v2):=by unfold qhat; exact Nat.min_le_right _ _
    exact (Nat.le_div_iff_mul_le (by omega)).1 this
  generalize qhat T u2 v1 v2 = q at *
  obtain ⟨A,hA⟩:∃ A,v1 * 4294967296 + v2 = A:=⟨_,rfl⟩
  obtain ⟨W,hW⟩:∃ W,T * 4294967296 + u2 = W:=⟨_,rfl⟩
  have hAB:4294967296 ≤ A:=by omega
  rw [hA] at hV h1
  rw [hW] at hU h1
  match q with
  | 0=>simp
  | p + 1=>exact est_hi' hU hV hlv (by omega) h1
theorem shift_val {b:List Nat} {n t s:Nat} (hb:Dig b) (hn:b.length = n + 1) (ht:b[n]? = some t) (h1:2147483648 ≤ t * 2 ^ s) (h2:(t + 1) * 2 ^ s ≤ 4294967296) :
    2147483648 * 4294967296 ^ n ≤ val b * 2 ^ s∧val b * 2 ^ s < 4294967296 ^ (n + 1):=by
  have hv:=val_take_succ ht
  rw [List.take_of_length_le (by omega)] at hv
  have hlt:=val_lt (hb.take n)
  rw [List.length_take,Nat.min_eq_left (by omega)] at hlt
  rw [hv,Nat.pow_succ]
  generalize val (List.take n b) = X at *
  generalize 4294967296 ^ n = Z at *
  generalize 2 ^ s = S at *
  constructor
  · have:=Nat.mul_le_mul_right Z h1
    have h3:(X + Z * t) * S = X * S + t * S * Z:=by grind
    rw [h3]; omega
  · have:=Nat.mul_le_mul_right Z h2
    have h0:0 < S:=by
      refine Nat.pos_of_ne_zero fun e=>?_
      subst e; simp at h1
    have h3:(X + Z * t) * S < (Z + Z * t) * S:=(Nat.mul_lt_mul_right h0).2 (by omega)
    have h4:(Z + Z * t) * S = (t + 1) * S * Z:=by grind
    rw [h4] at h3
    have h5:Z * 4294967296 = 4294967296 * Z:=Nat.mul_comm ..
    rw [h5]
    exact Nat.lt_of_lt_of_le h3 this
end Go.Proofs.YtjkdcddpicndgaaGreatDoor
namespace Go.Proofs.YtjkdcddpicndgaaGreatDoor
open Go
theorem WC_raw {X:FuncId→List AV→List Obj→Option (AV×List Obj)} {Γ:FuncId→Option SFunc} {g:FuncId} {fn:SFunc} {raw:List Nat} {own:Bool} {args:List AV} {H:List Obj} {K:AV→List Obj→Prop} (_hX:True = True) (hG:Γ g = some fn) (hraw:fn.raw = raw) (hown:fn.own = own) (hamb:raw.contains 1000 = false) :
    WC X Γ g args H K↔bindP (passArgs H raw 0 args) fun as=>WR X Γ g own as H (freeze H (passFrz raw 0 args)) K:=by
  subst hown
  subst hraw
  unfold WC WR callOn
  rw [callAt]
  simp only [hG,hamb,Bool.false_and,Bool.false_eq_true,if_false]
  cases hc:passArgs H fn.raw 0 args with
  | none=>simp [bindP]
  | some as =>
    simp only [bindP_some]
    cases hp:pickObjs (freeze H (passFrz fn.raw 0 args)) (reach (freeze H (passFrz fn.raw 0 args)) (4 * (freeze H (passFrz fn.raw 0 args)).length * (freeze H (passFrz fn.raw 0 args)).length + 4) (refsL as) []) with
    | none=>simp [bindP]
    | some os =>
      simp only [Option.bind_some]
      split
      · generalize call X Γ g _ _ = r
        cases r with
        | none=>simp [bindP]
        | some r=>simp [bindP]
      · simp [bindP]
theorem R187 {a:List AV} {H:List Obj} {K:AV→List Obj→Prop}:WC X0 Gam 187 a H K↔bindP (passArgs H [0] 0 a) fun as=>WR X0 Gam 187 false as H (freeze H (passFrz [0] 0 a)) K:=WC_raw rfl rfl rfl rfl rfl
theorem P187 {P D v:List Nat} {q j n ver M:Nat} {B:List Obj} {K:AV→List Obj→Prop} (hP:P.length = j) (hD:Dig D) (hv:Dig v) (hn:v.length = n) (hl:n < D.length) (hM:M = j + D.length) (lM:M ≤ 1000000) (hq:q < 4294967296)
    (hq1:val (D.take (n + 1)) < (q + 1) * val v) (hq2:(q - 1) * val v ≤ val (D.take (n + 1)))
    (hK:∀ D':List Nat,D'.length = D.length→Dig D'→D'.drop (n + 1) = D.drop (n + 1)→val (D'.take (n + 1)) = val (D.take (n + 1)) % val v→K (u32 (val (D.take (n + 1)) / val v:Nat)) (.arr 1 none ver ((P ++ D').map limb) :: B)) :
    WR X0 Gam 187 false [.ar 0 ver 0 M,int j,.p (mag v),u64 q] (.arr 1 none ver ((P ++ D).map limb) :: B) (.arr 1 none ver ((P ++ D).map limb) :: B) K:=by
  refine WR_step [0] [.arr 1 none ver ((P ++ D).map limb)] [.ar 0 ver 0 M,int j,.p (mag v),u64 q] ?_ [.arr 1 none ver ((P ++ D).map limb)] ?_ ?_ ?_ ?_ (WF_mono (take_wf hP hD hv hn hl hM lM hq hq1 hq2) ?_)
  · rfl
  · rfl
  · rfl
  · simp [EVR]
  · simp [EVR]
  rintro r H2 ⟨rfl,D',rfl,l1,l2,l3,l4⟩
  have ha:arsOf [u32 (val (D.take (n + 1)) / val v:Nat)] = []:=by simp [EV]
  rw [back_bare (r':=u32 (val (D.take (n + 1)) / val v:Nat)) canon_p refs_p (by simp) (by
    intro o ho
    rw [ha,freeze_nil] at ho
    have:o = .arr 1 none ver ((P ++ D').map limb):=by simpa [-List.map_append] using ho
    subst this; rfl)]
  rw [ha,freeze_nil]
  exact hK D' l1 l2 l3 l4
end Go.Proofs.YtjkdcddpicndgaaGreatDoor
namespace Go.Proofs.YtjkdcddpicndgaaGreatDoor
theorem seg3 {D:List Nat} {n a b c:Nat} (hc:D[n]? = some c) (hb:D[n + 1]? = some b) (ha:D[n + 2]? = some a) :
    val (D.take (n + 3)) = ((a * 4294967296 + b) * 4294967296 + c) * 4294967296 ^ n + val (D.take n):=by
  have e1:4294967296 ^ (n + 1) = 4294967296 ^ n * 4294967296:=Nat.pow_succ ..
  have e2:4294967296 ^ (n + 2) = 4294967296 ^ n * 4294967296 * 4294967296:=by rw [Nat.pow_succ,e1]
  rw [val_take_succ ha,val_take_succ hb,val_take_succ hc,e2,e1]
  clear e1 e2 ha hb hc
  generalize 4294967296 ^ n = Z
  generalize val (List.take n D) = X
  grind
theorem seg2 {v:List Nat} {n v1 v2:Nat} (hn:v.length = n + 2) (h2:v[n]? = some v2) (h1:v[n + 1]? = some v1) :
    val v = (v1 * 4294967296 + v2) * 4294967296 ^ n + val (v.take n):=by
  have h:=val_take_succ h1
  rw [List.take_of_length_le (by omega)] at h
  rw [h,val_take_succ h2,Nat.pow_succ]
  generalize 4294967296 ^ n = Z
  generalize val (List.take n v) = X
  grind
theorem lead_le {D v:List Nat} {n a v1:Nat} (hv:Dig v) (hn:v.length = n + 2) (h1:v[n + 1]? = some v1) (ha:D[n + 2]? = some a) (hlt:val (D.drop 1) < val v):a ≤ v1:=by
  have h:=val_take_succ h1
  rw [List.take_of_length_le (by omega)] at h
  have hl:=val_lt (hv.take (n + 1))
  rw [List.length_take,Nat.min_eq_left (by omega)] at hl
  have ha':(D.drop 1)[n + 1]? = some a:=by rw [List.getElem?_drop,show 1 + (n + 1) = n + 2 by omega]; exact ha
  have h2:=val_take_succ ha'
  have h3:val ((D.drop 1).take (n + 1 + 1)) ≤ val (D.drop 1):=by
    by_cases hle:n + 1 + 1 ≤ (D.drop 1).length
    · rw [val_split (l:=D.drop 1) (n + 1 + 1) hle]; exact Nat.le_add_right _ _
    · rw [List.take_of_length_le (by omega)]; exact Nat.le_refl _
  rw [h2] at h3
  rw [h] at hlt
  refine Nat.le_of_not_lt fun hc=>?_
  have h4:=Nat.mul_le_mul_left (4294967296 ^ (n + 1)) (show v1 + 1 ≤ a from hc)
  rw [Nat.mul_add,Nat.mul_one] at h4
  generalize 4294967296 ^ (n + 1) * v1 = x1 at *
  generalize 4294967296 ^ (n + 1) * a = x2 at *
  generalize 4294967296 ^ (n + 1) = x3 at *
  omega
theorem seg_all {D v:List Nat} {n x:Nat} (hD:Dig D) (hv:Dig v) (hn:v.length = n) (hx:D[0]? = some x) (hl:n < D.length) (hlt:val (D.drop 1) < val v) :
    val (D.drop (n + 1)) = 0∧val D = val (D.take (n + 1))∧val D < val v * 4294967296:=by
  have h1:val D = x + 4294967296 * val (D.drop 1):=by
    cases D with
    | nil=>simp at hx
    | cons y D=>simp at hx; subst hx; simp [val]
  have bx:=hD.get hx
  have h3:val D < val v * 4294967296:=by
    rw [h1]; omega
  have h4:=val_lt hv
  rw [hn] at h4
  have h5:=val_split (l:=D) (n + 1) (by omega)
  have h6:val D < 4294967296 ^ (n + 1):=by
    have e1:4294967296 ^ (n + 1) = 4294967296 ^ n * 4294967296:=Nat.pow_succ ..
    refine Nat.lt_of_lt_of_le h3 ?_
    rw [e1]
    exact Nat.mul_le_mul_right _ (Nat.le_of_lt h4)
  have h7:val (D.drop (n + 1)) = 0:=by
    refine Nat.eq_zero_of_not_pos fun hp=>?_
    have h8:=Nat.mul_le_mul_left (4294967296 ^ (n + 1)) (show 1 ≤ val (D.drop (n + 1)) from hp)
    rw [Nat.mul_one] at h8
    generalize 4294967296 ^ (n + 1) * val (D.drop (n + 1)) = x1 at *
    generalize 4294967296 ^ (n + 1) = x2 at *
    omega
  refine ⟨h7,?_,h3⟩
  rw [h5,h7,Nat.mul_zero,Nat.add_zero]
end Go.Proofs.YtjkdcddpicndgaaGreatDoor

/- Part of the proof of Rows.ExerciseMiddleCardSaid: EvN1, EvN2, EvN3, EvN4, EvN5, EvN6, EvNb, EvQ1, EvQ2. -/
import Derived.Test.YtjkdcddpicndgaaGreatDoorP11
import Derived.Test.YtjkdcddpicndgaaGreatDoorP12
import Derived.Test.YtjkdcddpicndgaaGreatDoorP15
set_option linter.all false
namespace Go.Proofs.YtjkdcddpicndgaaGreatDoor
open Go
theorem trimmed_pf (l:List Nat) (hl:l.length < 4294967296):PF X0 Gam 184 [.p (mag l)] (.p (mag (trim l))):=by
  refine WF_intro rfl rfl ?_
  simp only [EV,lk_upd,List.length_map,Option.map_some,Option.bind_some,reduceIte,Nat.reduceEqDiff,bindP_some']
  refine W_loop (fun n s=>lk s.env 0 = some (.p (mag l))∧lk s.env 3 = some (int n)∧s.H = []∧n ≤ l.length∧trim (l.take n) = trim l) ?_ l.length _ ?_
  · rintro n ⟨env,H⟩ ⟨h0,h3,rfl,hn,ht⟩
    simp only at h0 h3
    cases n with
    | zero =>
      simp [EV,h0,h3]
      simpa [trim] using ht.symm
    | succ m =>
      have hm:l[m]? = some l[m]:=by simp
      have hw:IntKind.i64.wrap (m:Int) = m:=wrap_i64 (by omega)
      by_cases hz:l[m] = 0
      · simp [EV,h0,h3,hm,hw,limb,hz]
        rw [hz] at hm
        exact ⟨m,by omega,rfl,by omega,by rw [← trim_take_zero hm,ht]⟩
      · simp [EV,h0,h3,hm,hw,limb,hz]
        refine ⟨by omega,hn,?_⟩
        rw [← ht,trim_take_full hm hz,List.map_take]
  · simp [lk_upd,lk]
theorem P184 {l:List Nat} {H H1:List Obj} {K:AV→List Obj→Prop} (hl:l.length < 4294967296):WP X0 Gam 184 false [.p (mag l)] H H1 K↔K (.p (mag (trim l))) H1:=WP_slice (trimmed_pf l hl) rfl
theorem sum_pf (a b:List Nat) (ha:Dig a) (hb:Dig b) (la:a.length ≤ 1000000) (lb:b.length ≤ 1000000):PF X0 Gam 262 [.p (mag a),.p (mag b)] (.p (mag (digits (val a + val b)))):=by
  refine WF_intro rfl rfl ?_
  refine W_seq_cut (fun s=>lk s.env 0 = some (.p (mag a))∧lk s.env 1 = some (.p (mag b))∧s.H = []) (by simp [EV]) ?_
  rintro ⟨env,H⟩ ⟨h0,h1,rfl⟩
  refine W_seq_cut (fun s=>∃ x y,lk s.env 0 = some (.p (mag x))∧lk s.env 1 = some (.p (mag y))∧s.H = []∧Dig x∧Dig y∧y.length ≤ x.length∧x.length ≤ 1000000∧val x + val y = val a + val b) ?_ ?_
  · simp only at h0 h1
    by_cases h:a.length < b.length
    · simp [EV,h0,h1,h]
      exact ⟨b,rfl,a,rfl,hb,ha,by omega,lb,by omega⟩
    · simp [EV,h0,h1,h]
      exact ⟨a,rfl,b,rfl,ha,hb,by omega,la,by omega⟩
  clear h0 h1 env
  rintro ⟨env,H⟩ ⟨x,y,h0,h1,rfl,hx,hy,hle,hlx,hv⟩
  simp only at h0 h1
  rw [← hv]
  clear hv ha hb la lb a b
  have w1:IntKind.i64.wrap ((x.length:Int) + 1) = x.length + 1:=wrap_i64 (by omega)
  have hcp:copyV [.arr 1 none 0 (List.replicate (x.length + 1) [PV.v (I .u32 0)])] 1 (.ar 0 0 0 (x.length + 1)) (.p (mag x)) = some (int x.length,[.arr 1 none 0 ((x ++ [0]).map limb)]):=by
    rw [copyV_at (rows:=List.replicate (x.length + 1) [PV.v (I .u32 0)]) (ys:=x.map limb) (r:=0) (v:=0) (by simp) (by simp) (by simp [rowsOf]) (by simp [limb]) (by simp)]
    simp [limb]
  simp [EV,h0,h1,w1]
  refine ⟨by omega,?_⟩
  rw [hcp]
  simp [EV,h0,h1]
  refine W_loop (fun n s=>∃ (k:Nat) (O:List Nat) (c:Nat),n = x.length - k∧k ≤ x.length∧lk s.env 0 = some (.p (mag x))∧lk s.env 1 = some (.p (mag y))∧lk s.env 5 = some (.ar 0 0 0 (x.length + 1))∧lk s.env 6 = some (u64 c) ∧
    lk s.env 24 = some (int x.length)∧lk s.env 25 = some (int k)∧s.H = [.arr 1 none 0 (O.map limb)]∧O.length = x.length + 1∧Dig O∧c ≤ 1∧val (O.take k) + c * 4294967296 ^ k = val (x.take k) + val (y.take k)) ?_ x.length _ ?_
  · rintro n ⟨env,H⟩ ⟨k,O,c,rfl,hk,h0,h1,h5,h6,h24,h25,rfl,hO,hdO,hc,hv⟩
    simp only at h0 h1 h5 h6 h24 h25
    by_cases hkx:k < x.length
    · have hxk:x[k]? = some x[k]:=by simp
      have bx:=hx.get hxk
      obtain ⟨xk,ex⟩:∃ xk,x[k] = xk:=⟨_,rfl⟩
      rw [ex] at hxk bx
      obtain ⟨d,hd,hyd⟩:∃ d,(k < y.length→y[k]? = some d)∧d < 4294967296∧(¬ k < y.length→d = 0)∧val (y.take (k + 1)) = val (y.take k) + 4294967296 ^ k * d:=by
        by_cases hky:k < y.length
        · exact ⟨y[k],fun _=>List.getElem?_eq_getElem hky,hy.get (List.getElem?_eq_getElem hky),fun h=>absurd hky h,val_take_succ (List.getElem?_eq_getElem hky)⟩
        · exact ⟨0,fun h=>absurd h hky,by omega,fun _=>rfl,val_take_over (by omega)⟩
      obtain ⟨bd,hd0,hyd⟩:=hyd
      have w1:IntKind.u64.wrap (xk:Int) = xk:=wrap_u64 (by omega)
      have w2:IntKind.u64.wrap (d:Int) = d:=wrap_u64 (by omega)
      have w3:IntKind.u64.wrap ((xk:Int) + c) = xk + c:=wrap_u64 (by omega)
      have w4:IntKind.u64.wrap ((xk:Int) + c + d) = xk + c + d:=wrap_u64 (by omega)
      have w5:IntKind.i64.wrap ((k:Int) + 1) = k + 1:=wrap_i64 (by omega)
      by_cases hky:k < y.length
      · have ey:y[k] = d:=by have:=hd hky; rw [List.getElem?_eq_getElem hky] at this; simpa using this
        simp [EV,h0,h1,h5,h6,h24,h25,hkx,hky,ex,ey,limb,w1,w2,w3,w4,w5,wrap_u32_mod]
        refine ⟨by omega,?_⟩
        rw [storeC_limb (O:=O) (by simp) (by omega) (by omega)]
        simp [EV,h0,h1,h5,h6,h24,h25,w5,IntKind.bits]
        exact ⟨x.length - (k + 1),by omega,k + 1,rfl,by omega,O.set k ((xk + d + c) % 4294967296),(xk + d + c) / 4294967296,by rw [Int.fdiv_eq_ediv_of_nonneg _ (by omega)]; omega,by simp,
          by rw [List.map_set]; congr 2 <;> omega,by simpa using hO,hdO.set (by omega),by omega,add_step (by omega) hxk hyd rfl hv⟩
      · have ed:=hd0 hky
        subst ed
        simp [EV,h0,h1,h5,h6,h24,h25,hkx,hky,ex,limb,w1,w3,w5,wrap_u32_mod]
        refine ⟨by omega,?_⟩
        rw [storeC_limb (O:=O) (by simp) (by omega) (by omega)]
        simp [EV,h0,h1,h5,h6,h24,h25,w5,IntKind.bits]
        exact ⟨x.length - (k + 1),by omega,k + 1,rfl,by omega,O.set k ((xk + 0 + c) % 4294967296),(xk + 0 + c) / 4294967296,by rw [Int.fdiv_eq_ediv_of_nonneg _ (by omega)]; omega,by simp,
          by rw [List.map_set]; congr 2 <;> omega,by simpa using hO,hdO.set (by omega),by omega,add_step (by omega) hxk hyd rfl hv⟩
    · have ek:k = x.length:=by omega
      subst ek
      have w1:IntKind.u32.wrap (c:Int) = c:=wrap_u32 (by omega)
      simp [EV,h0,h1,h5,h6,h24,h25,w1]
      rw [storeC_limb (O:=O) (by simp) (by omega) (by omega)]
      have e1:trim (O.set x.length c) = digits (val x + val y):=by
        rw [trim_eq_of (hdO.set (by omega))]
        congr 1
        have:=val_take_set (O:=O) (k:=x.length) (r:=c) (by omega)
        rw [List.take_of_length_le (by simp [hO])] at this
        rw [this,Nat.mul_comm,hv,List.take_of_length_le (Nat.le_refl _),List.take_of_length_le hle]
      have e2:(List.map limb (O.set x.length c)).take (x.length + 1) = List.map limb (O.set x.length c):=List.take_of_length_le (by simp [hO])
      simp [EV,h0,h1,h5,h6,h24,h25,C184,-List.map_set]
      refine ⟨by omega,?_⟩
      rw [e2,P184 (by simp [hO]; omega),e1]
      simp [EV]
  · refine ⟨0,x ++ [0],0,?_⟩
    simp [EV,h0,h1,val]
    exact hx.append (Dig.cons (by omega) Dig.nil)
end Go.Proofs.YtjkdcddpicndgaaGreatDoor
namespace Go.Proofs.YtjkdcddpicndgaaGreatDoor
open Go
theorem P262 {a b:List Nat} {H H1:List Obj} {K:AV→List Obj→Prop} (ha:Dig a) (hb:Dig b) (la:a.length ≤ 1000000) (lb:b.length ≤ 1000000) :
    WP X0 Gam 262 false [.p (mag a),.p (mag b)] H H1 K↔K (.p (mag (digits (val a + val b)))) H1:=WP_slice (sum_pf a b ha hb la lb) rfl
theorem difference_pf (x y:List Nat) (hx:Dig x) (hy:Dig y) (lx:x.length ≤ 1000000) (hle:y.length ≤ x.length) (hxy:val y ≤ val x):PF X0 Gam 263 [.p (mag x),.p (mag y)] (.p (mag (digits (val x - val y)))):=by
  refine WF_intro rfl rfl ?_
  have hcp:copyV [.arr 1 none 0 (List.replicate x.length [PV.v (I .u32 0)])] 1 (.ar 0 0 0 x.length) (.p (mag x)) = some (int x.length,[.arr 1 none 0 (x.map limb)]):=by
    rw [copyV_at (rows:=List.replicate x.length [PV.v (I .u32 0)]) (ys:=x.map limb) (r:=0) (v:=0) (by simp) (by simp) (by simp [rowsOf]) (by simp [limb]) (by simp)]
    simp [limb]
  simp [EV]
  refine ⟨by omega,?_⟩
  rw [hcp]
  simp [EV]
  refine W_loop (fun n s=>∃ (k:Nat) (O:List Nat) (w:Nat),n = x.length - k∧k ≤ x.length∧lk s.env 0 = some (.p (mag x))∧lk s.env 1 = some (.p (mag y))∧lk s.env 5 = some (.ar 0 0 0 x.length)∧lk s.env 6 = some (u64 w) ∧
    lk s.env 16 = some (int x.length)∧lk s.env 17 = some (int k)∧s.H = [.arr 1 none 0 (O.map limb)]∧O.length = x.length∧Dig O∧w ≤ 1∧val (O.take k) + val (y.take k) = val (x.take k) + w * 4294967296 ^ k) ?_ x.length _ ?_
  · rintro n ⟨env,H⟩ ⟨k,O,w,rfl,hk,h0,h1,h5,h6,h16,h17,rfl,hO,hdO,hw,hv⟩
    simp only at h0 h1 h5 h6 h16 h17
    by_cases hkx:k < x.length
    · have hxk:x[k]? = some x[k]:=by simp
      have bx:=hx.get hxk
      obtain ⟨a,ex⟩:∃ a,x[k] = a:=⟨_,rfl⟩
      rw [ex] at hxk bx
      have w1:IntKind.u64.wrap (a:Int) = a:=wrap_u64 (by omega)
      have w5:IntKind.i64.wrap ((k:Int) + 1) = k + 1:=wrap_i64 (by omega)
      by_cases hky:k < y.length
      · have by':=hy.get (List.getElem?_eq_getElem hky)
        obtain ⟨d,ey⟩:∃ d,y[k] = d:=⟨_,rfl⟩
        rw [ey] at by'
        have w2:IntKind.u64.wrap (d:Int) = d:=wrap_u64 (by omega)
        simp [EV,h0,h1,h5,h6,h16,h17,hkx,hky,ex,ey,limb,w1,w2,w5,wrap_u32_mod,wrap_u64_mod]
        rw [storeC_limb (O:=O) (by simp) (by omega) (by omega)]
        simp [EV,h0,h1,h5,h6,h16,h17,w5,IntKind.bits,-List.map_set]
        refine ⟨x.length - (k + 1),by omega,k + 1,rfl,by omega,O.set k (((a:Int) - w - d) % 4294967296).toNat,(((a:Int) - w - d) % 18446744073709551616 / 9223372036854775808).toNat,?_,by simp,?_,by simpa using hO,hdO.set (by omega),by omega,
          sub_step (d:=d) (by omega) hxk (val_take_succ (by rw [List.getElem?_eq_getElem hky,ey])) (by omega) hv⟩
        · rw [Int.fdiv_eq_ediv_of_nonneg _ (by omega)]; omega
        · rfl
      · simp [EV,h0,h1,h5,h6,h16,h17,hkx,hky,ex,limb,w1,w5,wrap_u32_mod,wrap_u64_mod]
        rw [storeC_limb (O:=O) (by simp) (by omega) (by omega)]
        simp [EV,h0,h1,h5,h6,h16,h17,w5,IntKind.bits,-List.map_set]
        refine ⟨x.length - (k + 1),by omega,k + 1,rfl,by omega,O.set k (((a:Int) - w) % 4294967296).toNat,(((a:Int) - w) % 18446744073709551616 / 9223372036854775808).toNat,?_,by simp,?_,by simpa using hO,hdO.set (by omega),by omega,
          sub_step (d:=0) (by omega) hxk (val_take_over (by omega)) (by omega) hv⟩
        · rw [Int.fdiv_eq_ediv_of_nonneg _ (by omega)]; omega
        · rfl
    · have ek:k = x.length:=by omega
      subst ek
      have e2:(List.map limb O).take x.length = List.map limb O:=List.take_of_length_le (by simp [hO])
      simp [EV,h0,h1,h5,h6,h16,h17,C184,hO]
      rw [e2,P184 (by omega),sub_end hdO hO hle hxy hv]
      simp [EV]
  · refine ⟨0,x,0,?_⟩
    simp [EV,val,hx]
theorem P263 {x y:List Nat} {H H1:List Obj} {K:AV→List Obj→Prop} (hx:Dig x) (hy:Dig y) (lx:x.length ≤ 1000000) (hle:y.length ≤ x.length) (hxy:val y ≤ val x) :
    WP X0 Gam 263 false [.p (mag x),.p (mag y)] H H1 K↔K (.p (mag (digits (val x - val y)))) H1:=WP_slice (difference_pf x y hx hy lx hle hxy) rfl
end Go.Proofs.YtjkdcddpicndgaaGreatDoor
namespace Go.Proofs.YtjkdcddpicndgaaGreatDoor
open Go
theorem mul_le_lim {a d:Nat} (ha:a < 4294967296) (hd:d < 4294967296):(a:Int) * d ≤ 18446744065119617025:=by
  have h:a * d ≤ 4294967295 * 4294967295:=Nat.mul_le_mul (by omega) (by omega)
  have:=Int.ofNat_le.2 h
  rw [Int.natCast_mul] at this
  exact this
theorem mul_nonneg_nat (a d:Nat):0 ≤ (a:Int) * d:=by rw [← Int.natCast_mul]; omega
theorem product_pf (x y:List Nat) (hx:Dig x) (hy:Dig y) (lx:x.length ≤ 1000000) (ly:y.length ≤ 1000000):PF X0 Gam 310 [.p (mag x),.p (mag y)] (.p (mag (digits (val x * val y)))):=by
  refine WF_intro rfl rfl ?_
  have w0:IntKind.i64.wrap ((x.length:Int) + y.length) = x.length + y.length:=wrap_i64 (by omega)
  simp [EV,w0]
  refine ⟨by omega,?_⟩
  have et:((x.length:Int) + y.length).toNat = x.length + y.length:=by omega
  rw [et]
  refine W_loop (fun n s=>∃ (i:Nat) (O:List Nat),n = x.length - i∧i ≤ x.length∧lk s.env 0 = some (.p (mag x))∧lk s.env 1 = some (.p (mag y))∧lk s.env 5 = some (.ar 0 0 0 (x.length + y.length)) ∧
    lk s.env 17 = some (int x.length)∧lk s.env 18 = some (int i)∧s.H = [.arr 1 none 0 (O.map limb)]∧O.length = x.length + y.length∧Dig O∧val O = val (x.take i) * val y∧∀ j,i + y.length ≤ j→j < x.length + y.length→O[j]? = some 0) ?_ x.length _ ?_
  · rintro n ⟨env,H⟩ ⟨i,O,rfl,hi,h0,h1,h5,h17,h18,rfl,hO,hdO,hv,hz⟩
    simp only at h0 h1 h5 h17 h18
    by_cases hix:i < x.length
    · have hxi:x[i]? = some x[i]:=by simp
      have bx:=hx.get hxi
      obtain ⟨a,ex⟩:∃ a,x[i] = a:=⟨_,rfl⟩
      rw [ex] at hxi bx
      simp [EV,h0,h1,h5,h17,h18,hix]
      refine W_loop (fun n s=>∃ (k:Nat) (O:List Nat) (c:Nat),n = y.length - k∧k ≤ y.length∧lk s.env 0 = some (.p (mag x))∧lk s.env 1 = some (.p (mag y))∧lk s.env 5 = some (.ar 0 0 0 (x.length + y.length)) ∧
        lk s.env 17 = some (int x.length)∧lk s.env 18 = some (int i)∧lk s.env 6 = some (int i)∧lk s.env 7 = some (u64 c)∧lk s.env 22 = some (int y.length)∧lk s.env 23 = some (int k)∧s.H = [.arr 1 none 0 (O.map limb)]∧O.length = x.length + y.length∧Dig O ∧
        c < 4294967296∧val O + c * 4294967296 ^ (i + k) = val (x.take i) * val y + a * val (y.take k) * 4294967296 ^ i∧∀ j,i + y.length ≤ j→j < x.length + y.length→O[j]? = some 0) ?_ y.length _ ?_
      · clear h0 h1 h5 h17 h18 hO hdO hv hz
        rintro n ⟨env,H⟩ ⟨k,O,c,rfl,hk,h0,h1,h5,h17,h18,h6,h7,h22,h23,rfl,hO,hdO,hc,hv,hz⟩
        simp only at h0 h1 h5 h17 h18 h6 h7 h22 h23
        by_cases hky:k < y.length
        · have hyk:y[k]? = some y[k]:=by simp
          have b_y:=hy.get hyk
          obtain ⟨d,ey⟩:∃ d,y[k] = d:=⟨_,rfl⟩
          rw [ey] at hyk b_y
          have hlt:i + k < O.length:=by omega
          have hok:O[i + k]? = some O[i + k]:=by simp
          have bo:=hdO.get hok
          obtain ⟨o,eo⟩:∃ o,O[i + k] = o:=⟨_,rfl⟩
          rw [eo] at hok bo
          have hb':=mul_le_lim bx b_y
          have hb0:=mul_nonneg_nat a d
          have w1:IntKind.u64.wrap (a:Int) = a:=wrap_u64 (by omega)
          have w2:IntKind.u64.wrap (d:Int) = d:=wrap_u64 (by omega)
          have w3:IntKind.u64.wrap (o:Int) = o:=wrap_u64 (by omega)
          have w4:IntKind.u64.wrap ((a:Int) * d) = a * d:=wrap_u64 (by omega)
          have w5:IntKind.u64.wrap ((a:Int) * d + o) = a * d + o:=wrap_u64 (by omega)
          have w6:IntKind.u64.wrap ((a:Int) * d + o + c) = a * d + o + c:=wrap_u64 (by omega)
          have w7:IntKind.i64.wrap ((i:Int) + k) = i + k:=wrap_i64 (by omega)
          have w8:IntKind.i64.wrap ((k:Int) + 1) = k + 1:=wrap_i64 (by omega)
          have e7:((i:Int) + k).toNat = i + k:=by omega
          have hl2:i + k < x.length + y.length:=by omega
          have p0:(0:Int) ≤ i + k:=by omega
          simp [EV,evOp,h0,h1,h5,h17,h18,h6,h7,h22,h23,hky,hix,ex,ey,hlt,eo,hl2,limb,w1,w2,w3,w4,w5,w6,w7,w8,e7,p0,wrap_u32_mod]
          rw [storeC_limb (O:=O) (by simp) (by omega) (by omega)]
          simp [EV,h0,h1,h5,h17,h18,h6,h7,h22,h23,w8,IntKind.bits,-List.map_set]
          refine ⟨y.length - (k + 1),by omega,k + 1,rfl,by omega,O.set (i + k) ((a * d + o + c) % 4294967296),(a * d + o + c) / 4294967296,?_,by simp,?_,by simpa using hO,hdO.set (by omega),by omega,mul_step hok hyk hv,fun j h1 h2=>?_⟩
          · rw [Int.fdiv_eq_ediv_of_nonneg _ (by omega)]; simp
          · congr 2 <;> first | omega | (simp; done) | (simp; omega)
          · rw [List.getElem?_set_ne (by omega)]; exact hz j h1 h2
        · have ek:k = y.length:=by omega
          subst ek
          have w1:IntKind.u32.wrap (c:Int) = c:=wrap_u32 (by omega)
          have w7:IntKind.i64.wrap ((i:Int) + y.length) = i + y.length:=wrap_i64 (by omega)
          have w8:IntKind.i64.wrap ((i:Int) + 1) = i + 1:=wrap_i64 (by omega)
          have e7:((i:Int) + y.length).toNat = i + y.length:=by omega
          have p0:(0:Int) ≤ i + y.length:=by omega
          simp [EV,h0,h1,h5,h17,h18,h6,h7,h22,h23,w1,w7,e7,p0,hix]
          rw [storeC_limb (O:=O) (by simp) (by omega) (by omega)]
          simp [EV,h0,h1,h5,h17,h18,h6,h7,h22,h23,w8,-List.map_set]
          refine ⟨x.length - (i + 1),by omega,i + 1,rfl,by omega,by simp,O.set (i + y.length) c,rfl,by simpa using hO,hdO.set (by omega),?_,fun j h1 h2=>?_⟩
          · exact mul_end (hz _ (by omega) (by omega)) hxi hv
          · rw [List.getElem?_set_ne (by omega)]; exact hz j (by omega) h2
      · refine ⟨0,O,0,?_⟩
        simp [EV,h0,h1,h5,h17,h18,val,hO,hdO,hv]
        exact hz
    · have ei:i = x.length:=by omega
      subst ei
      have e2:(List.map limb O).take (x.length + y.length) = List.map limb O:=List.take_of_length_le (by simp [hO])
      have e3:trim O = digits (val x * val y):=by rw [trim_eq_of hdO,hv,List.take_of_length_le (Nat.le_refl _)]
      simp [EV,h0,h1,h5,h17,h18,C184,hO]
      rw [e2,P184 (by omega),e3]
      simp [EV]
  · exact ⟨0,List.replicate (x.length + y.length) 0,by simp,by omega,by simp [EV],by simp [EV],by simp [EV,et],by simp [EV],by simp [EV],by simp [limb,et],by simp,Dig.replicate,by simp [val,val_replicate],fun j _ h=>by simp [h]⟩
theorem P310 {x y:List Nat} {H H1:List Obj} {K:AV→List Obj→Prop} (hx:Dig x) (hy:Dig y) (lx:x.length ≤ 1000000) (ly:y.length ≤ 1000000) :
    WP X0 Gam 310 false [.p (mag x),.p (mag y)] H H1 K↔K (.p (mag (digits (val x * val y)))) H1:=WP_slice (product_pf x y hx hy lx ly) rfl
end Go.Proofs.YtjkdcddpicndgaaGreatDoor
namespace Go.Proofs.YtjkdcddpicndgaaGreatDoor
open Go
theorem compare_pf (x y:List Nat) (hx:Dig x) (hy:Dig y) (lx:x.length ≤ 1000000) (ly:y.length ≤ 1000000):PF X0 Gam 182 [.p (mag x),.p (mag y)] (int (cmpM x y)):=by
  refine WF_intro rfl rfl ?_
  by_cases h1:x.length = y.length
  · simp [EV,h1]
    refine W_loop (fun n s=>∃ (k:Nat),n = y.length - k∧k ≤ y.length∧lk s.env 0 = some (.p (mag x))∧lk s.env 1 = some (.p (mag y))∧lk s.env 18 = some (int y.length)∧lk s.env 19 = some (int k)∧s.H = []∧x.drop (y.length - k) = y.drop (y.length - k)) ?_ y.length _ ?_
    · rintro n ⟨env,H⟩ ⟨k,rfl,hk,h0,h1',h18,h19,rfl,hd⟩
      simp only at h0 h1' h18 h19
      by_cases hky:k < y.length
      · have hiy:y.length - 1 - k < y.length:=by omega
        have hix:y.length - 1 - k < x.length:=by omega
        have hgx:x[y.length - 1 - k]? = some x[y.length - 1 - k]:=by simp
        have hgy:y[y.length - 1 - k]? = some y[y.length - 1 - k]:=by simp
        have bx:=hx.get hgx
        have b_y:=hy.get hgy
        obtain ⟨a,ex⟩:∃ a,x[y.length - 1 - k] = a:=⟨_,rfl⟩
        obtain ⟨b,ey⟩:∃ a,y[y.length - 1 - k] = a:=⟨_,rfl⟩
        rw [ex] at hgx bx
        rw [ey] at hgy b_y
        have hd':x.drop (y.length - 1 - k + 1) = y.drop (y.length - 1 - k + 1):=by rw [show y.length - 1 - k + 1 = y.length - k by omega]; exact hd
        have w1:IntKind.i64.wrap ((y.length:Int) - 1) = y.length - 1:=wrap_i64 (by omega)
        have w2:IntKind.i64.wrap ((y.length:Int) - 1 - k) = y.length - 1 - k:=wrap_i64 (by omega)
        have w3:IntKind.i64.wrap ((k:Int) + 1) = k + 1:=wrap_i64 (by omega)
        have e1:((y.length:Int) - 1 - k).toNat = y.length - 1 - k:=by omega
        have p1:(k:Int) ≤ (y.length:Int) - 1:=by omega
        rcases Nat.lt_trichotomy a b with hab | hab | hab
        · have n1:¬ a = b:=by omega
          have hv:=cmp_at hx hgx hgy hd' hab
          have hc:cmpM x y = -1:=by simp [cmpM,h1,cmpN,hv]
          simp [EV,evOp,h0,h1',h18,h19,hky,h1,ex,ey,hix,hiy,limb,w1,w2,w3,e1,p1,n1,hab,hc]
          intro hh; omega
        · subst hab
          simp [EV,evOp,h0,h1',h18,h19,hky,h1,ex,ey,hix,hiy,limb,w1,w2,w3,e1,p1]
          refine ⟨y.length - (k + 1),by omega,k + 1,rfl,by omega,by simp,?_⟩
          rw [show y.length - (k + 1) = y.length - 1 - k by omega]
          exact drop_step hgx hgy hd'
        · have n1:¬ a = b:=by omega
          have n2:¬ a < b:=by omega
          have hv:=cmp_at hy hgy hgx hd'.symm hab
          have hc:cmpM x y = 1:=by simp [cmpM,h1,cmpN,hv]; omega
          simp [EV,evOp,h0,h1',h18,h19,hky,h1,ex,ey,hix,hiy,limb,w1,w2,w3,e1,p1,n1,n2,hc]
          intro hh; omega
      · have ek:k = y.length:=by omega
        subst ek
        have hxy:x = y:=by simpa using hd
        have hc:cmpM x y = 0:=by simp [cmpM,cmpN,hxy]
        simp [EV,h0,h1',h18,h19,hc]
    · refine ⟨0,?_⟩
      simp [EV,← h1]
  · by_cases h2:x.length < y.length
    · have h1':¬ (x.length:Int) = y.length:=by omega
      simp [EV,h1,h1',h2,cmpM]
    · have h1':¬ (x.length:Int) = y.length:=by omega
      have h3:y.length < x.length:=by omega
      simp [EV,h1,h1',h2,h3,cmpM]
theorem P182 {x y:List Nat} {H H1:List Obj} {K:AV→List Obj→Prop} (hx:Dig x) (hy:Dig y) (lx:x.length ≤ 1000000) (ly:y.length ≤ 1000000) :
    WP X0 Gam 182 false [.p (mag x),.p (mag y)] H H1 K↔K (int (cmpM x y)) H:=WP_flat (compare_pf x y hx hy lx ly) rfl
theorem or_u64 {r a:Nat} {n:Nat} (hn:n ≤ 64) (ha:a < 2 ^ n) (h:r * 2 ^ n + a < 18446744073709551616):binV .or (.int .u64 (r * 2 ^ n:Nat)) (.int .u64 a) = some (.int .u64 ((r * 2 ^ n + a:Nat):Int)):=by
  have e:(BitVec.ofInt 64 ((r * 2 ^ n:Nat):Int) ||| BitVec.ofInt 64 (a:Int)).toNat = r * 2 ^ n + a:=by
    rw [BitVec.ofInt_natCast,BitVec.ofInt_natCast,BitVec.toNat_or,BitVec.toNat_ofNat,BitVec.toNat_ofNat,Nat.mod_eq_of_lt (by omega),Nat.mod_eq_of_lt (by omega)]
    have:=Nat.shiftLeft_add_eq_or_of_lt ha r
    rw [Nat.shiftLeft_eq] at this
    exact this.symm
  simp only [binV,binInt,bits,if_true]
  have:IntKind.u64.bits = 64:=rfl
  rw [this,e,wrap_u64 (by omega)]
theorem small_pf (x:List Nat) (d:Nat) (hx:Dig x) (hd:0 < d) (bd:d < 4294967296) (lx:x.length ≤ 1000000):PF X0 Gam 183 [.p (mag x),u32 d] (.tup [.p (mag (digits (val x / d))),u32 (val x % d:Nat)]):=by
  refine WF_intro rfl rfl ?_
  simp [EV]
  refine ⟨by omega,?_⟩
  refine W_loop (fun n s=>∃ (k:Nat) (O:List Nat) (r:Nat),n = x.length - k∧k ≤ x.length∧lk s.env 0 = some (.p (mag x))∧lk s.env 1 = some (u32 d)∧lk s.env 6 = some (.ar 0 0 0 x.length)∧lk s.env 7 = some (u64 r)∧lk s.env 15 = some (int x.length)∧lk s.env 16 = some (int k) ∧
    s.H = [.arr 1 none 0 (O.map limb)]∧O.length = x.length∧Dig O∧r < d∧val (x.drop (x.length - k)) = val (O.drop (x.length - k)) * d + r) ?_ x.length _ ?_
  · rintro n ⟨env,H⟩ ⟨k,O,r,rfl,hk,h0,h1,h6,h7,h15,h16,rfl,hO,hdO,hr,hv⟩
    simp only at h0 h1 h6 h7 h15 h16
    by_cases hkx:k < x.length
    · have hix:x.length - 1 - k < x.length:=by omega
      have hgx:x[x.length - 1 - k]? = some x[x.length - 1 - k]:=by simp
      have bx:=hx.get hgx
      obtain ⟨a,ex⟩:∃ a,x[x.length - 1 - k] = a:=⟨_,rfl⟩
      rw [ex] at hgx bx
      have w1:IntKind.i64.wrap ((x.length:Int) - 1) = x.length - 1:=wrap_i64 (by omega)
      have w2:IntKind.i64.wrap ((x.length:Int) - 1 - k) = x.length - 1 - k:=wrap_i64 (by omega)
      have w3:IntKind.i64.wrap ((k:Int) + 1) = k + 1:=wrap_i64 (by omega)
      have w4:IntKind.u64.wrap ((r:Int) * 4294967296) = ((r * 2 ^ 32:Nat):Int):=by rw [wrap_u64 (by omega)]; simp
      have w5:IntKind.u64.wrap (a:Int) = a:=wrap_u64 (by omega)
      have w6:IntKind.u64.wrap (d:Int) = d:=wrap_u64 (by omega)
      have e1:((x.length:Int) - 1 - k).toNat = x.length - 1 - k:=by omega
      have p1:(k:Int) ≤ (x.length:Int) - 1:=by omega
      have hor:=or_u64 (r:=r) (a:=a) (n:=32) (by omega) (by omega) (by omega)
      have hq:(r * 4294967296 + a) / d < 4294967296:=by
        rw [Nat.div_lt_iff_lt_mul hd]
        have:(r + 1) * 4294967296 ≤ d * 4294967296:=Nat.mul_le_mul_right _ hr
        rw [Nat.mul_comm 4294967296 d]; omega
      have hm:(r * 4294967296 + a) % d < d:=Nat.mod_lt _ hd
      have nd:¬ d = 0:=by omega
      have hor':binV .or (I .u64 ((r:Int) * 4294967296)) (I .u64 a) = some (I .u64 ((r:Int) * 4294967296 + a)):=by simpa using hor
      have w4':IntKind.u64.wrap ((r:Int) * 4294967296) = (r:Int) * 4294967296:=by rw [w4]; simp
      have hdiv0:((r:Int) * 4294967296 + a).tdiv d = (((r * 4294967296 + a) / d:Nat):Int):=by
        rw [show ((r:Int) * 4294967296 + a) = ((r * 4294967296 + a:Nat):Int) by simp]; exact (Int.ofNat_tdiv _ _).symm
      have hmod:((r:Int) * 4294967296 + a).tmod d = (((r * 4294967296 + a) % d:Nat):Int):=by
        rw [show ((r:Int) * 4294967296 + a) = ((r * 4294967296 + a:Nat):Int) by simp]; exact (Int.ofNat_tmod _ _).symm
      obtain ⟨q,hq'⟩:∃ q,(r * 4294967296 + a) / d = q:=⟨_,rfl⟩
      obtain ⟨m,hm'⟩:∃ m,(r * 4294967296 + a) % d = m:=⟨_,rfl⟩
      have w8:IntKind.u32.wrap (q:Int) = q:=wrap_u32 (by omega)
      rw [hq'] at hdiv0 hq
      have hdiv:IntKind.u64.wrap (((r:Int) * 4294967296 + a).tdiv d) = q:=by rw [hdiv0]; exact wrap_u64 (by omega)
      rw [hm'] at hmod hm
      simp [EV,h0,h1,h6,h7,h15,h16,hkx,ex,hix,limb,w1,w2,w3,w4',w5,w6,e1,p1,hor',hdiv,hmod,nd,w8,IntKind.bits]
      rw [storeC_limb (O:=O) (by simp) (by omega) (by omega)]
      simp [EV,h0,h1,h6,h7,h15,h16,w3,w6,hmod,nd,-List.map_set]
      refine ⟨x.length - (k + 1),by omega,k + 1,rfl,by omega,O.set (x.length - 1 - k) q,m,rfl,by simp,rfl,by simpa using hO,hdO.set (by omega),by omega,?_⟩
      have:=div_step (O:=O) (rest:=r) (d:=d) hgx (by omega) hd (by rw [show x.length - 1 - k + 1 = x.length - k by omega]; exact hv)
      rw [hq',hm'] at this
      rw [show x.length - (k + 1) = x.length - 1 - k by omega]
      exact this
    · have ek:k = x.length:=by omega
      subst ek
      simp only [Nat.sub_self,List.drop_zero] at hv
      have e2:(List.map limb O).take x.length = List.map limb O:=List.take_of_length_le (by simp [hO])
      have w1:IntKind.u32.wrap (r:Int) = r:=wrap_u32 (by omega)
      have hq:val O = val x / d:=by
        rw [hv,Nat.mul_comm,Nat.mul_add_div hd,Nat.div_eq_of_lt hr]; omega
      have hm:r = val x % d:=by rw [hv,Nat.mul_comm,Nat.mul_add_mod,Nat.mod_eq_of_lt hr]
      have e3:trim O = digits (val x / d):=by rw [trim_eq_of hdO,hq]
      simp [EV,h0,h1,h6,h7,h15,h16,C184,hO]
      rw [e2,P184 (by omega),e3]
      simp [EV,h7,w1]
      omega
  · exact ⟨0,List.replicate x.length 0,0,by simp,by omega,by simp [EV],by simp [EV],by simp [EV],by simp [EV],by simp [EV],by simp [EV],by simp [limb],by simp,Dig.replicate,hd,by simp [val]⟩
theorem P183 {x:List Nat} {d:Nat} {H H1:List Obj} {K:AV→List Obj→Prop} (hx:Dig x) (hd:0 < d) (bd:d < 4294967296) (lx:x.length ≤ 1000000) :
    WP X0 Gam 183 false [.p (mag x),u32 d] H H1 K↔K (.tup [.p (mag (digits (val x / d))),u32 (val x % d:Nat)]) H1:=WP_slice (small_pf x d hx hd bd lx) (by simp [flat])
end Go.Proofs.YtjkdcddpicndgaaGreatDoor
namespace Go.Proofs.YtjkdcddpicndgaaGreatDoor
open Go
abbrev agI (neg:Bool) (l:List Nat):AV:=.agg [boo neg,.p (mag l)]
def resI (neg:Bool) (n:Nat):AV:=if n < 4294967296 ^ 128 then .tup [agI (neg && decide (n ≠ 0)) (digits n),int 0] else .tup [agI false [],int 2]
theorem result_pf (neg:Bool) (l:List Nat) (hl:Dig l) (ll:l.length ≤ 1000000):PF X0 Gam 141 [boo neg,.p (mag l)] (resI neg (val l)):=by
  refine WF_intro rfl rfl ?_
  have et:trim l = digits (val l):=trim_eq_of hl
  have hlen:(digits (val l)).length ≤ 1000000:=by rw [← et,trim_take]; simp; omega
  have ht:=dig_digits (val l)
  obtain ⟨t,et'⟩:∃ t,digits (val l) = t:=⟨_,rfl⟩
  have hz:t = []↔val l = 0:=by rw [← et']; exact digits_nil_iff
  have h128:t.length ≤ 128↔val l < 4294967296 ^ 128:=by rw [← et']; exact digits_length_le
  rw [et'] at et hlen ht
  by_cases hb:t.length ≤ 128
  · have hcp:copyV [.cells [boo false,.lit []],.arr 1 none 0 (List.replicate t.length [PV.v (I .u32 0)])] 1 (.ar 1 0 0 t.length) (.p (mag t)) = some (int t.length,[.cells [boo false,.lit []],.arr 1 none 0 (t.map limb)]):=by
      rw [copyV_at (rows:=List.replicate t.length [PV.v (I .u32 0)]) (ys:=t.map limb) (r:=1) (v:=0) (by simp) (by simp) (by simp [rowsOf]) (by simp [limb]) (by simp)]
      simp [limb]
    have n1:¬ (128:Int) < t.length:=by omega
    have e2:(List.map limb t).take t.length = List.map limb t:=List.take_of_length_le (by simp)
    simp [EV,C184]
    rw [P184 (by omega),et]
    simp [EV,n1]
    refine ⟨by omega,?_⟩
    rw [hcp]
    have h1:=h128.1 hb
    have hne:(t = [])↔(val l = 0):=hz
    cases neg <;> (cases t with
      | nil=>have e0:val l = 0:=hz.1 rfl; simp [EV,fill,splice,storeC,freeze,resI,e0,h1,digits_zero]
      | cons a t =>
        have e0:val l ≠ 0:=fun e=>by have:=hz.2 e; cases this
        simp [EV,fill,splice,storeC,freeze,resI,et',h1,e0])
  · have n1:(128:Int) < t.length:=by omega
    have h1:¬ val l < 4294967296 ^ 128:=fun h=>hb (h128.2 h)
    simp [EV,C184]
    rw [P184 (by omega),et]
    simp [EV,n1,fill,storeC,splice,resI,h1]
theorem resI_flat {neg:Bool} {n:Nat}:flat (resI neg n) = false:=by unfold resI; split <;> simp [flat]
theorem P141 {neg:Bool} {l:List Nat} {H H1:List Obj} {K:AV→List Obj→Prop} (hl:Dig l) (ll:l.length ≤ 1000000) :
    WP X0 Gam 141 false [boo neg,.p (mag l)] H H1 K↔K (resI neg (val l)) H1:=WP_slice (result_pf neg l hl ll) resI_flat
def valI (neg:Bool) (l:List Nat):Bool:=if l = [] then !neg else decide (l.length ≤ 128) && decide (l[l.length - 1]? ≠ some 0)
theorem Valid_pf (neg:Bool) (l:List Nat) (ll:l.length ≤ 1000000000000):PF X0 Gam 94 [agI neg l] (boo (valI neg l)):=by
  refine WF_intro rfl rfl ?_
  by_cases hl:l = []
  · subst hl; simp [EV,valI]
  · have hpos:0 < l.length:=List.length_pos_iff.2 hl
    have w1:IntKind.i64.wrap ((l.length:Int) - 1) = l.length - 1:=wrap_i64 (by omega)
    have n1:¬ (l.length:Int) = 0:=by omega
    by_cases hb:l.length ≤ 128
    · have hb':(l.length:Int) ≤ 128:=by omega
      have hix:l.length - 1 < l.length:=by omega
      have e1:((l.length:Int) - 1).toNat = l.length - 1:=by omega
      have p1:(1:Int) ≤ l.length:=by omega
      obtain ⟨b,eb⟩:∃ b,l[l.length - 1] = b:=⟨_,rfl⟩
      have eg:l[l.length - 1]? = some b:=by rw [List.getElem?_eq_getElem hix,eb]
      by_cases h0:b = 0
      · subst h0
        simp [EV,valI,hl,w1,n1,hb',hb,eb,hix,e1,p1,limb]
      · simp [EV,valI,hl,w1,n1,hb',hb,eb,hix,e1,p1,limb,h0]
    · have hb':¬ (l.length:Int) ≤ 128:=by omega
      simp [EV,valI,hl,w1,n1,hb',hb]
theorem P94 {neg:Bool} {l:List Nat} {H H1:List Obj} {K:AV→List Obj→Prop} (ll:l.length ≤ 1000000000000) :
    WP X0 Gam 94 false [agI neg l] H H1 K↔K (boo (valI neg l)) H:=WP_flat (Valid_pf neg l ll) rfl
theorem both_pf (n1 n2:Bool) (l1 l2:List Nat) (h1:l1.length ≤ 1000000000000) (h2:l2.length ≤ 1000000000000):PF X0 Gam 139 [agI n1 l1,agI n2 l2] (boo (valI n1 l1 && valI n2 l2)):=by
  refine WF_intro rfl rfl ?_
  simp [EV,C94,P94 h1]
  cases hv:valI n1 l1 with
  | false=>simp [EV]
  | true=>simp [EV,C94,P94 h2]
theorem P139 {n1 n2:Bool} {l1 l2:List Nat} {H H1:List Obj} {K:AV→List Obj→Prop} (h1:l1.length ≤ 1000000000000) (h2:l2.length ≤ 1000000000000) :
    WP X0 Gam 139 false [agI n1 l1,agI n2 l2] H H1 K↔K (boo (valI n1 l1 && valI n2 l2)) H:=WP_flat (both_pf n1 n2 l1 l2 h1 h2) rfl
def sgnI (an:Bool) (a:Nat) (bn:Bool) (b:Nat):AV:=if an = bn then resI an (a + b) else if a < b then resI bn (b - a) else resI an (a - b)
set_option exponentiation.threshold 2000 in
theorem signed_pf (an bn:Bool) (a b:List Nat) (ha:Dig a) (hb:Dig b) (ta:trim a = a) (tb:trim b = b) (la:a.length ≤ 1000) (lb:b.length ≤ 1000) :
    PF X0 Gam 311 [boo an,.p (mag a),boo bn,.p (mag b)] (sgnI an (val a) bn (val b)):=by
  refine WF_intro rfl rfl ?_
  have lens:∀ n:Nat,n < 4294967296 ^ 1001→(digits n).length ≤ 1000000:=fun n h=>by have:=digits_length_le.2 h; omega
  have va:=val_lt ha
  have vb:=val_lt hb
  have pa:=Nat.pow_le_pow_right (show 0 < 4294967296 by decide) la
  have pb:=Nat.pow_le_pow_right (show 0 < 4294967296 by decide) lb
  have pp:4294967296 ^ 1001 = 4294967296 ^ 1000 * 4294967296:=Nat.pow_succ ..
  generalize 4294967296 ^ 1000 = Z at *
  by_cases hs:an = bn
  · subst hs
    simp [EV,binB,C262]
    rw [P262 ha hb (by omega) (by omega)]
    simp [EV,C141]
    rw [P141 (dig_digits _) (lens _ (by omega)),val_digits]
    unfold sgnI resI
    split <;> simp [EV,storeC,splice,freeze, *]
  · have hcm:=cmpM_eq ha hb ta tb
    by_cases hlt:val a < val b
    · have hc:cmpM a b < 0:=by rw [hcm]; simp [cmpN,hlt]
      have hle:a.length ≤ b.length:=by
        refine Nat.le_of_not_lt fun h=>?_
        have:=length_lt_val hb ta h; omega
      simp [EV,binB,hs,C182]
      rw [P182 ha hb (by omega) (by omega)]
      simp [EV,hc,C263]
      rw [P263 hb ha (by omega) hle (by omega)]
      simp [EV,C141]
      rw [P141 (dig_digits _) (lens _ (by omega)),val_digits]
      unfold sgnI resI
      split <;> simp [EV,storeC,splice,freeze, *]
    · have hc:¬ cmpM a b < 0:=by rw [hcm]; simp only [cmpN,if_neg hlt]; split <;> omega
      have hle:b.length ≤ a.length:=by
        refine Nat.le_of_not_lt fun h=>?_
        have:=length_lt_val ha tb h; omega
      simp [EV,binB,hs,C182]
      rw [P182 ha hb (by omega) (by omega)]
      simp [EV,hc,C263]
      rw [P263 ha hb (by omega) hle (by omega)]
      simp [EV,C141]
      rw [P141 (dig_digits _) (lens _ (by omega)),val_digits]
      unfold sgnI resI
      split <;> simp [EV,storeC,splice,freeze, *]
end Go.Proofs.YtjkdcddpicndgaaGreatDoor
namespace Go.Proofs.YtjkdcddpicndgaaGreatDoor
open Go
theorem valI_trim {neg:Bool} {l:List Nat} (h:valI neg l = true):trim l = l∧l.length ≤ 128:=by
  unfold valI at h
  split at h
  · rename_i e; subst e; exact ⟨rfl,by simp⟩
  · simp only [Bool.and_eq_true,decide_eq_true_eq] at h
    exact ⟨trim_of_last fun a ha e=>h.2 (by rw [ha,e]),h.1⟩
theorem sgnI_flat {an bn:Bool} {a b:Nat}:flat (sgnI an a bn b) = false:=by
  unfold sgnI; split
  · exact resI_flat
  · split <;> exact resI_flat
theorem P311 {an bn:Bool} {a b:List Nat} {H H1:List Obj} {K:AV→List Obj→Prop} (ha:Dig a) (hb:Dig b) (ta:trim a = a) (tb:trim b = b) (la:a.length ≤ 1000) (lb:b.length ≤ 1000) :
    WP X0 Gam 311 false [boo an,.p (mag a),boo bn,.p (mag b)] H H1 K↔K (sgnI an (val a) bn (val b)) H1:=WP_slice (signed_pf an bn a b ha hb ta tb la lb) sgnI_flat
abbrev errI (e:Int):AV:=.tup [agI false [],int e]
theorem sgnI_cases (an bn:Bool) (a b:Nat):∃ n l e,sgnI an a bn b = .tup [agI n l,int e]:=by
  unfold sgnI resI
  split <;> split <;> (try split) <;> exact ⟨_,_,_,rfl⟩
theorem resI_cases (n:Bool) (a:Nat):∃ n' l e,resI n a = .tup [agI n' l,int e]:=by
  unfold resI
  split <;> exact ⟨_,_,_,rfl⟩
def addI (n1:Bool) (l1:List Nat) (n2:Bool) (l2:List Nat):AV:=if valI n1 l1 && valI n2 l2 then sgnI n1 (val l1) n2 (val l2) else errI 1
theorem Add_pf (n1 n2:Bool) (l1 l2:List Nat) (h1:Dig l1) (h2:Dig l2) (k1:l1.length ≤ 1000000000000) (k2:l2.length ≤ 1000000000000):PF X0 Gam 285 [agI n1 l1,agI n2 l2] (addI n1 l1 n2 l2):=by
  refine WF_intro rfl rfl ?_
  simp [EV,C139,P139 k1 k2]
  cases hv:valI n1 l1 && valI n2 l2 with
  | false =>
    simp only [Bool.and_eq_false_iff] at hv
    have:addI n1 l1 n2 l2 = errI 1:=by unfold addI; rcases hv with h | h <;> simp [h]
    rw [this]
    rcases hv with h | h <;> simp [EV,h,fill,storeC,splice,freeze]
  | true =>
    have ha:addI n1 l1 n2 l2 = sgnI n1 (val l1) n2 (val l2):=by unfold addI; rw [hv]; rfl
    simp only [Bool.and_eq_true] at hv
    obtain ⟨v1,v2⟩:=hv
    obtain ⟨t1,m1⟩:=valI_trim v1
    obtain ⟨t2,m2⟩:=valI_trim v2
    rw [ha]
    obtain ⟨n,l,e,hs⟩:=sgnI_cases n1 n2 (val l1) (val l2)
    simp [EV,v1,v2,C311]
    rw [P311 h1 h2 t1 t2 (by omega) (by omega),hs]
    simp [EV,storeC,splice,freeze]
theorem addI_flat {n1 n2:Bool} {l1 l2:List Nat}:flat (addI n1 l1 n2 l2) = false:=by
  unfold addI; split
  · exact sgnI_flat
  · simp [flat]
theorem P285 {n1 n2:Bool} {l1 l2:List Nat} {H H1:List Obj} {K:AV→List Obj→Prop} (h1:Dig l1) (h2:Dig l2) (k1:l1.length ≤ 1000000000000) (k2:l2.length ≤ 1000000000000) :
    WP X0 Gam 285 false [agI n1 l1,agI n2 l2] H H1 K↔K (addI n1 l1 n2 l2) H1:=WP_slice (Add_pf n1 n2 l1 l2 h1 h2 k1 k2) addI_flat
def mulI (n1:Bool) (l1:List Nat) (n2:Bool) (l2:List Nat):AV:=if valI n1 l1 && valI n2 l2 then resI (n1 != n2) (val l1 * val l2) else errI 1
theorem prod_len {l1 l2:List Nat} (h1:Dig l1) (h2:Dig l2) (m1:l1.length ≤ 128) (m2:l2.length ≤ 128):(digits (val l1 * val l2)).length ≤ 1000000:=by
  have a:=val_lt h1
  have b:=val_lt h2
  have a':4294967296 ^ l1.length ≤ 4294967296 ^ 128:=Nat.pow_le_pow_right (by omega) m1
  have b':4294967296 ^ l2.length ≤ 4294967296 ^ 128:=Nat.pow_le_pow_right (by omega) m2
  have:val l1 * val l2 < 4294967296 ^ 128 * 4294967296 ^ 128:=Nat.mul_lt_mul'' (by omega) (by omega)
  rw [← Nat.pow_add] at this
  have:=digits_length_le.2 this
  omega
theorem Mul_pf (n1 n2:Bool) (l1 l2:List Nat) (h1:Dig l1) (h2:Dig l2) (k1:l1.length ≤ 1000000000000) (k2:l2.length ≤ 1000000000000):PF X0 Gam 284 [agI n1 l1,agI n2 l2] (mulI n1 l1 n2 l2):=by
  refine WF_intro rfl rfl ?_
  simp [EV,C139,P139 k1 k2]
  cases hv:valI n1 l1 && valI n2 l2 with
  | false =>
    simp only [Bool.and_eq_false_iff] at hv
    have:mulI n1 l1 n2 l2 = errI 1:=by unfold mulI; rcases hv with h | h <;> simp [h]
    rw [this]
    rcases hv with h | h <;> simp [EV,h,fill,storeC,splice,freeze]
  | true =>
    have ha:mulI n1 l1 n2 l2 = resI (n1 != n2) (val l1 * val l2):=by unfold mulI; rw [hv]; rfl
    simp only [Bool.and_eq_true] at hv
    obtain ⟨v1,v2⟩:=hv
    obtain ⟨t1,m1⟩:=valI_trim v1
    obtain ⟨t2,m2⟩:=valI_trim v2
    rw [ha]
    obtain ⟨n,l,e,hs⟩:=resI_cases (n1 != n2) (val l1 * val l2)
    simp [EV,evOp,v1,v2,binB,C310]
    rw [P310 h1 h2 (by omega) (by omega)]
    simp [EV,evOp,C141]
    rw [P141 (dig_digits _) (prod_len h1 h2 m1 m2),val_digits]
    have hs2:resI (!(n1 == n2)) (val l1 * val l2) = .tup [agI n l,int e]:=hs
    simp [EV,evOp,splice,hs,hs2]
theorem mulI_flat {n1 n2:Bool} {l1 l2:List Nat}:flat (mulI n1 l1 n2 l2) = false:=by
  unfold mulI; split
  · exact resI_flat
  · simp [flat]
theorem P284 {n1 n2:Bool} {l1 l2:List Nat} {H H1:List Obj} {K:AV→List Obj→Prop} (h1:Dig l1) (h2:Dig l2) (k1:l1.length ≤ 1000000000000) (k2:l2.length ≤ 1000000000000) :
    WP X0 Gam 284 false [agI n1 l1,agI n2 l2] H H1 K↔K (mulI n1 l1 n2 l2) H1:=WP_slice (Mul_pf n1 n2 l1 l2 h1 h2 k1 k2) mulI_flat
theorem word_pf (l:List Nat) (hl:Dig l) (h2:l.length ≤ 2):PF X0 Gam 142 [.p (mag l)] (u64 (val l)):=by
  refine WF_intro rfl rfl ?_
  have z0:IntKind.i64.wrap 0 = 0:=by decide
  have z1:IntKind.i64.wrap 1 = 1:=by decide
  have z2:IntKind.i64.wrap 2 = 2:=by decide
  have z32:IntKind.i64.wrap 32 = 32:=by decide
  have o0:∀ a:Nat,a < 4294967296→binV .or (I .u64 0) (I .u64 a) = some (I .u64 a):=fun a ha=>by
    have:=or_u64 (r:=0) (a:=a) (n:=32) (by omega) (by omega) (by omega)
    simpa using this
  match l,hl,h2 with
  | [],_,_ =>
    simp [EV]
    rw [W_loop1]
    simp [EV,val]
  | [a],hl,_ =>
    have ba:=hl.head
    have w1:IntKind.u64.wrap (a:Int) = a:=wrap_u64 (by omega)
    simp [EV]
    rw [W_loop1]
    simp [EV,limb,w1,z0,z1,IntKind.bits,o0 a ba]
    rw [W_loop1]
    simp [EV,val]
  | [a,b],hl,_ =>
    have ba:=hl.head
    have bb:=hl.tail.head
    have w1:IntKind.u64.wrap (a:Int) = a:=wrap_u64 (by omega)
    have w2:IntKind.u64.wrap (b:Int) = b:=wrap_u64 (by omega)
    have w3:IntKind.u64.wrap ((b:Int) * 4294967296) = b * 4294967296:=wrap_u64 (by omega)
    have o1:binV .or (I .u64 a) (I .u64 ((b:Int) * 4294967296)) = some (I .u64 ((a:Int) + 4294967296 * b)):=by
      have h:=or_u64 (r:=b) (a:=a) (n:=32) (by omega) (by omega) (by omega)
      have hc:binV .or (I .u64 a) (I .u64 ((b * 2 ^ 32:Nat):Int)) = binV .or (I .u64 ((b * 2 ^ 32:Nat):Int)) (I .u64 a):=by
        simp only [binV,binInt,bits,if_true,BitVec.or_comm]
      rw [show ((b:Int) * 4294967296) = ((b * 2 ^ 32:Nat):Int) by simp,hc,h]
      congr 3; simp; omega
    simp [EV]
    rw [W_loop1]
    simp [EV,limb,w1,z0,z1,IntKind.bits,o0 a ba]
    rw [W_loop1]
    simp [EV,limb,w2,w3,z2,z32,IntKind.bits,o1]
    rw [W_loop1]
    simp [EV,val]
  | _ :: _ :: _ :: _,_,h=>simp at h
theorem P142 {l:List Nat} {H H1:List Obj} {K:AV→List Obj→Prop} (hl:Dig l) (h2:l.length ≤ 2):WP X0 Gam 142 false [.p (mag l)] H H1 K↔K (u64 (val l)) H:=WP_flat (word_pf l hl h2) rfl
end Go.Proofs.YtjkdcddpicndgaaGreatDoor
namespace Go.Proofs.YtjkdcddpicndgaaGreatDoor
def qhat (T u2 v1 v2:Nat):Nat:=min 4294967295 ((T * 4294967296 + u2) / (v1 * 4294967296 + v2))
theorem qhat_le {T u2 v1 v2 q:Nat} (hv:0 < v1) (hq:q < 4294967296) (h:q * (v1 * 4294967296 + v2) ≤ T * 4294967296 + u2):q ≤ qhat T u2 v1 v2:=by
  unfold qhat
  have:q ≤ (T * 4294967296 + u2) / (v1 * 4294967296 + v2):=(Nat.le_div_iff_mul_le (by omega)).2 h
  omega
theorem qhat_lt {T u2 v1 v2 q:Nat} (hv:0 < v1) (h:T * 4294967296 + u2 < q * (v1 * 4294967296 + v2)):qhat T u2 v1 v2 < q:=by
  unfold qhat
  have:(T * 4294967296 + u2) / (v1 * 4294967296 + v2) < q:=(Nat.div_lt_iff_lt_mul (by omega)).2 h
  omega
theorem qhat_small {T u2 v1 v2:Nat}:qhat T u2 v1 v2 < 4294967296:=by unfold qhat; omega
theorem est_exit {T u2 v1 v2 q r:Nat} (hv:0 < v1) (hqr:q * v1 + r = T) (hle:qhat T u2 v1 v2 ≤ q) (hq:q < 4294967296) (h:q * v2 ≤ r * 4294967296 + u2):q = qhat T u2 v1 v2:=by
  refine Nat.le_antisymm (qhat_le hv hq ?_) hle
  subst hqr
  grind
theorem est_step {T u2 v1 v2 q r:Nat} (hv:0 < v1) (hqr:q * v1 + r = T) (hle:qhat T u2 v1 v2 ≤ q) (h:4294967296 ≤ q∨r * 4294967296 + u2 < q * v2):0 < q∧(q - 1) * v1 + (r + v1) = T∧qhat T u2 v1 v2 ≤ q - 1:=by
  have h0:0 < q:=by
    rcases h with h | h
    · omega
    · exact Nat.pos_of_ne_zero fun e=>by subst e; simp at h
  refine ⟨h0,?_,?_⟩
  · obtain ⟨p,rfl⟩:∃ p,q = p + 1:=⟨q - 1,by omega⟩
    simp only [Nat.add_sub_cancel]
    grind
  · rcases h with h | h
    · have:=qhat_small (T:=T) (u2:=u2) (v1:=v1) (v2:=v2)
      omega
    · have:=qhat_lt (T:=T) (u2:=u2) (v1:=v1) (v2:=v2) (q:=q) hv (by subst hqr; grind)
      omega
theorem est_over {T u2 v1 v2 q r:Nat} (hv:0 < v1) (hv2:v2 < 4294967296) (hT:T < (v1 + 1) * 4294967296) (hqr:q * v1 + r = T) (hle:qhat T u2 v1 v2 ≤ q) (hr:4294967296 ≤ r):q = qhat T u2 v1 v2:=by
  have hq:q < 4294967296:=by
    refine Nat.lt_of_not_le fun h=>?_
    have:=Nat.mul_le_mul_right v1 h
    grind
  refine est_exit hv hqr hle hq ?_
  have h1:q * v2 ≤ 4294967295 * 4294967295:=Nat.mul_le_mul (by omega) (by omega)
  omega
end Go.Proofs.YtjkdcddpicndgaaGreatDoor
namespace Go.Proofs.YtjkdcddpicndgaaGreatDoor
open Go
theorem or_hi {r a:Nat} (hr:r < 4294967296) (ha:a < 4294967296):binV .or (I .u64 ((r:Int) * 4294967296)) (I .u64 a) = some (I .u64 ((r * 4294967296 + a:Nat):Int)):=by
  have h:=or_u64 (r:=r) (a:=a) (n:=32) (by omega) (by omega) (by omega)
  have e:((r * 2 ^ 32:Nat):Int) = (r:Int) * 4294967296:=by simp
  rw [e] at h
  rw [h]
theorem digit_pf {u v:List Nat} {j n a b c v1 v2:Nat} (hu:Dig u) (hv:Dig v) (hn:v.length = n + 2) (hj:j + n + 2 < u.length) (lu:u.length ≤ 1000000)
    (ha:u[j + n + 2]? = some a) (hb:u[j + n + 1]? = some b) (hc:u[j + n]? = some c) (h1:v[n + 1]? = some v1) (h2:v[n]? = some v2) (hav:a ≤ v1) (hnorm:2147483648 ≤ v1) :
    PF X0 Gam 188 [.p (mag u),int j,.p (mag v)] (u64 (qhat (a * 4294967296 + b) c v1 v2)):=by
  have ba:=hu.get ha
  have bb:=hu.get hb
  have bc:=hu.get hc
  have b1:=hv.get h1
  have b2:=hv.get h2
  obtain ⟨J2,e2⟩:∃ J,J = j + n + 2:=⟨_,rfl⟩
  obtain ⟨J1,e1⟩:∃ J,J = j + n + 1:=⟨_,rfl⟩
  obtain ⟨J0,e0⟩:∃ J,J = j + n:=⟨_,rfl⟩
  obtain ⟨N1,f1⟩:∃ J,J = n + 1:=⟨_,rfl⟩
  rw [← e2] at ha
  rw [← e1] at hb
  rw [← e0] at hc
  rw [← f1] at h1
  have w2:IntKind.i64.wrap ((j:Int) + (n + 2)) = J2:=by rw [wrap_i64 (by omega)]; omega
  have w1:IntKind.i64.wrap ((J2:Int) - 1) = J1:=by rw [wrap_i64 (by omega)]; omega
  have w0:IntKind.i64.wrap ((J2:Int) - 2) = J0:=by rw [wrap_i64 (by omega)]; omega
  have x1:IntKind.i64.wrap ((n:Int) + 2 - 1) = N1:=by rw [wrap_i64 (by omega)]; omega
  have x0:IntKind.i64.wrap (n:Int) = n:=wrap_i64 (by omega)
  have ua:IntKind.u64.wrap (a:Int) = a:=wrap_u64 (by omega)
  have ub:IntKind.u64.wrap (b:Int) = b:=wrap_u64 (by omega)
  have uc:IntKind.u64.wrap (c:Int) = c:=wrap_u64 (by omega)
  have u1:IntKind.u64.wrap (v1:Int) = v1:=wrap_u64 (by omega)
  have u2:IntKind.u64.wrap (v2:Int) = v2:=wrap_u64 (by omega)
  have ush:IntKind.u64.wrap ((a:Int) * 4294967296) = (a:Int) * 4294967296:=wrap_u64 (by omega)
  obtain ⟨T,eT⟩:∃ T,T = a * 4294967296 + b:=⟨_,rfl⟩
  have hor:=or_hi ba bb
  rw [← eT] at hor ⊢
  have hT:T < (v1 + 1) * 4294967296:=by subst eT; omega
  have v10:¬ v1 = 0:=by omega
  have v1p:0 < v1:=by omega
  have wq:IntKind.u64.wrap ((T:Int) / v1) = (T / v1:Nat):=by
    have h1:T / v1 ≤ T:=Nat.div_le_self _ _
    rw [← Int.natCast_ediv]
    generalize T / v1 = Z at h1 ⊢
    exact wrap_u64 (by omega)
  have wr:(T:Int) % v1 = (T % v1:Nat):=by simp
  refine WF_intro rfl rfl ?_
  simp [EV,EVR,evOp,hn,w2,w1,x1,ha,hb,h1,ua,ub,u1,IntKind.bits,ush,hor,limb,v10,wq]
  refine W_loop (fun m s=>∃ r:Nat,m * v1 + r = T∧qhat T c v1 v2 ≤ m∧r < 4294967296∧lk s.env 0 = some (.p (mag u))∧lk s.env 1 = some (int j)∧lk s.env 2 = some (.p (mag v))∧lk s.env 7 = some (int (n + 2)) ∧
    lk s.env 9 = some (u64 m)∧lk s.env 10 = some (u64 r)) ?_ (T / v1) _ ?_
  · rintro m ⟨env,H⟩ ⟨r,hqr,hle,hr,k0,k1,k2,k7,k9,k10⟩
    simp only at k0 k1 k2 k7 k9 k10
    have hqb:m ≤ 8589934592:=by
      refine Nat.le_of_not_lt fun h=>?_
      have:=Nat.mul_le_mul (Nat.le_of_lt h) hnorm
      omega
    have srm:IntKind.u64.wrap ((r:Int) + v1) = (r + v1:Nat):=by rw [wrap_u64 (by omega)]; omega
    by_cases hq:4294967296 ≤ m
    · obtain ⟨p0,p1,p2⟩:=est_step v1p hqr hle (Or.inl hq)
      have sq:IntKind.u64.wrap ((m:Int) - 1) = (m - 1:Nat):=by rw [wrap_u64 (by omega)]; omega
      have hq':(4294967296:Int) ≤ m:=by omega
      simp [EV,EVR,evOp,k0,k1,k2,k7,k9,k10,hq,hq',sq,x1,h1,u1,limb,srm]
      split
      · have:=est_over (u2:=c) (q:=m - 1) (r:=r + v1) v1p b2 hT p1 p2 (by omega)
        rw [← this]
      · exact ⟨m - 1,by omega,r + v1,p1,p2,by omega,rfl,by omega⟩
    · have hq':¬ (4294967296:Int) ≤ m:=by omega
      obtain ⟨M2,eM⟩:∃ M,M = m * v2:=⟨_,rfl⟩
      have hM:M2 ≤ 4294967295 * 4294967295:=by rw [eM]; exact Nat.mul_le_mul (by omega) (by omega)
      have wM:IntKind.u64.wrap ((m:Int) * v2) = M2:=by
        have:(m:Int) * v2 = M2:=by rw [eM]; simp
        rw [this]; exact wrap_u64 (by omega)
      have rsh:IntKind.u64.wrap ((r:Int) * 4294967296) = (r:Int) * 4294967296:=wrap_u64 (by omega)
      obtain ⟨R2,eR⟩:∃ R,R = r * 4294967296 + c:=⟨_,rfl⟩
      have hor2:=or_hi hr bc
      rw [← eR] at hor2
      by_cases ht:R2 < M2
      · obtain ⟨p0,p1,p2⟩:=est_step v1p hqr hle (Or.inr (by omega))
        have sq:IntKind.u64.wrap ((m:Int) - 1) = (m - 1:Nat):=by rw [wrap_u64 (by omega)]; omega
        have ht':(R2:Int) < M2:=by omega
        simp [EV,EVR,evOp,k0,k1,k2,k7,k9,k10,hq,hq',sq,x1,x0,w2,w0,hc,h1,h2,u1,u2,uc,limb,srm,wM,rsh,hor2,IntKind.bits,ht,ht']
        split
        · have:=est_over (u2:=c) (q:=m - 1) (r:=r + v1) v1p b2 hT p1 p2 (by omega)
          rw [← this]
        · exact ⟨m - 1,by omega,r + v1,p1,p2,by omega,rfl,by omega⟩
      · have ht':¬ (R2:Int) < M2:=by omega
        have:=est_exit (u2:=c) v1p hqr hle (by omega) (by omega)
        simp [EV,EVR,evOp,k0,k1,k2,k7,k9,k10,hq,hq',x1,x0,w2,w0,hc,h1,h2,u1,u2,uc,limb,srm,wM,rsh,hor2,IntKind.bits,ht,ht']
        rw [← this]
  · refine ⟨T % v1,Nat.div_add_mod' T v1,?_,Nat.lt_trans (Nat.mod_lt _ v1p) b1,?_⟩
    · refine Nat.le_of_lt_succ (qhat_lt v1p ?_)
      have h3:=Nat.div_add_mod T v1
      have h4:=Nat.mod_lt T v1p
      generalize T / v1 = Z at h3 ⊢
      generalize T % v1 = Y at h3 h4
      have:T < (Z + 1) * v1:=by grind
      have:T * 4294967296 + c < (T + 1) * 4294967296:=by omega
      have:(T + 1) * 4294967296 ≤ (Z + 1) * v1 * 4294967296:=Nat.mul_le_mul_right _ (by omega)
      grind
    · simp [EV]
      exact Int.tmod_eq_emod_of_nonneg (by omega)
theorem P188 {u v:List Nat} {j n a b c v1 v2:Nat} {H H1:List Obj} {K:AV→List Obj→Prop} (hu:Dig u) (hv:Dig v) (hn:v.length = n + 2) (hj:j + n + 2 < u.length) (lu:u.length ≤ 1000000)
    (ha:u[j + n + 2]? = some a) (hb:u[j + n + 1]? = some b) (hc:u[j + n]? = some c) (h1:v[n + 1]? = some v1) (h2:v[n]? = some v2) (hav:a ≤ v1) (hnorm:2147483648 ≤ v1) :
    WP X0 Gam 188 false [.p (mag u),int j,.p (mag v)] H H1 K↔K (u64 (qhat (a * 4294967296 + b) c v1 v2)) H:=WP_flat (digit_pf hu hv hn hj lu ha hb hc h1 h2 hav hnorm) rfl
end Go.Proofs.YtjkdcddpicndgaaGreatDoor
namespace Go.Proofs.YtjkdcddpicndgaaGreatDoor
open Go
theorem or_u32 {r a:Nat} {n:Nat} (hn:n ≤ 32) (ha:a < 2 ^ n) (h:r * 2 ^ n + a < 4294967296):binV .or (.int .u32 a) (.int .u32 (r * 2 ^ n:Nat)) = some (.int .u32 ((r * 2 ^ n + a:Nat):Int)):=by
  have e:(BitVec.ofInt 32 (a:Int) ||| BitVec.ofInt 32 ((r * 2 ^ n:Nat):Int)).toNat = r * 2 ^ n + a:=by
    rw [BitVec.ofInt_natCast,BitVec.ofInt_natCast,BitVec.toNat_or,BitVec.toNat_ofNat,BitVec.toNat_ofNat,Nat.mod_eq_of_lt (by omega),Nat.mod_eq_of_lt (by omega),Nat.or_comm]
    have:=Nat.shiftLeft_add_eq_or_of_lt ha r
    rw [Nat.shiftLeft_eq] at this
    exact this.symm
  simp only [binV,binInt,bits,if_true]
  have:IntKind.u32.bits = 32:=rfl
  rw [this,e,wrap_u32 (by omega)]
theorem shl_low {a c s:Nat} (ha:a < 4294967296) (hs:s < 32) (hc:c < 2 ^ s):binV .or (I .u32 c) (I .u32 ((a * 2 ^ s % 4294967296:Nat):Int)) = some (I .u32 ((a * 2 ^ s % 4294967296 + c:Nat):Int))∧a * 2 ^ s % 4294967296 + c < 4294967296∧a * 2 ^ s / 4294967296 < 2 ^ s∧a * 2 ^ s < 18446744073709551616:=by
  have hB:4294967296 = 2 ^ (32 - s) * 2 ^ s:=by rw [← Nat.pow_add,Nat.sub_add_cancel (by omega)]
  have e:a * 2 ^ s % 4294967296 = (a % 2 ^ (32 - s)) * 2 ^ s:=by
    conv=>lhs; rw [hB]
    rw [Nat.mul_mod_mul_right]
  have hr:a % 2 ^ (32 - s) < 2 ^ (32 - s):=Nat.mod_lt _ (Nat.pow_pos (by decide))
  have hlt:(a % 2 ^ (32 - s)) * 2 ^ s + c < 4294967296:=by
    have:=Nat.mul_le_mul_right (2 ^ s) (show a % 2 ^ (32 - s) + 1 ≤ 2 ^ (32 - s) by omega)
    rw [← hB,Nat.add_mul] at this
    omega
  have hs32:2 ^ s < 4294967296:=Nat.pow_lt_pow_right (by decide) (show s < 32 from hs)
  refine ⟨?_,by rw [e]; exact hlt,?_,?_⟩
  · rw [e]
    exact or_u32 (by omega) hc hlt
  · refine (Nat.div_lt_iff_lt_mul (by decide)).2 ?_
    rw [Nat.mul_comm (2 ^ s)]
    exact (Nat.mul_lt_mul_right (Nat.pow_pos (by decide))).2 ha
  · have:=Nat.mul_lt_mul'' ha hs32
    omega
theorem left_pf (l:List Nat) (n:Nat) (hl:Dig l) (ll:l.length ≤ 1000000) (hn:n ≤ 1000000):PF X0 Gam 186 [.p (mag l),int n] (.p (mag (digits (val l * 2 ^ n)))):=by
  obtain ⟨w,hw⟩:∃ w,n / 32 = w:=⟨_,rfl⟩
  obtain ⟨s,hs⟩:∃ s,n % 32 = s:=⟨_,rfl⟩
  have hn2:n = 32 * w + s:=by omega
  have hs32:s < 32:=by omega
  have w1:IntKind.i64.wrap ((n:Int) / 32) = w:=by rw [wrap_i64 (by omega)]; omega
  obtain ⟨L,eL⟩:∃ L,L = l.length + w:=⟨_,rfl⟩
  obtain ⟨M,eM⟩:∃ M,M = l.length + w + 1:=⟨_,rfl⟩
  have w2:IntKind.i64.wrap ((l.length:Int) + w) = L:=by rw [wrap_i64 (by omega)]; omega
  have w3:IntKind.i64.wrap ((L:Int) + 1) = M:=by rw [wrap_i64 (by omega)]; omega
  have m1:4 * (M:Int) ≤ 281474976710656:=by omega
  have m2:(M:Int) ≤ 9223372036854775807:=by omega
  have s1:(n:Int) % 32 = s:=by omega
  have s2:(n:Int).tmod 32 = s:=by rw [Int.tmod_eq_emod_of_nonneg (by omega)]; exact s1
  have s3:(n:Int).tdiv 32 = w:=by rw [Int.tdiv_eq_ediv_of_nonneg (by omega)]; omega
  have w1':IntKind.i64.wrap (w:Int) = w:=wrap_i64 (by omega)
  have smin:min s 64 = s:=by omega
  refine WF_intro rfl rfl ?_
  have hpow:2 ^ n = 4294967296 ^ w * 2 ^ s:=by rw [hn2,Nat.pow_add,Nat.pow_mul]
  simp [EV,EVR,evOp,mkSlice,w1,w2,w3,s1,s2,s3,w1',m1,m2]
  refine W_loop (fun m st=>∃ (k:Nat) (O:List Nat) (c:Nat),m = l.length - k∧k ≤ l.length∧lk st.env 0 = some (.p (mag l))∧lk st.env 1 = some (int n)∧lk st.env 5 = some (.ar 0 0 0 M)∧lk st.env 16 = some (int l.length)∧lk st.env 17 = some (int k) ∧
    st.H = [.arr 1 none 0 (O.map limb)]∧O.length = M∧Dig O∧val (O.take (k + w)) + 4294967296 ^ (k + w) * c = val (l.take k) * 2 ^ n∧O[k + w]? = some c∧c < 2 ^ s∧∀ i,k + w < i→i < M→O[i]? = some 0) ?_ l.length _ ?_
  · rintro m ⟨env,H⟩ ⟨k,O,c,rfl,hk,h0,h1,h5,h16,h17,rfl,lO,dO,hval,hc,hcs,hz⟩
    simp only at h0 h1 h5 h16 h17
    by_cases hkl:k < l.length
    · have hgl:=List.getElem?_eq_getElem hkl
      obtain ⟨a,ea⟩:∃ a,l[k] = a:=⟨_,rfl⟩
      rw [ea] at hgl
      have ba:=hl.get hgl
      obtain ⟨hor,hb1,hb2,hb3⟩:=shl_low ba hs32 hcs
      have hvt:=val_take_succ hgl
      obtain ⟨t,et⟩:∃ t,t = a * 2 ^ s:=⟨_,rfl⟩
      rw [← et] at hor hb1 hb2 hb3
      have wt:IntKind.u64.wrap ((a:Int) * 2 ^ s) = t:=by
        have:(a:Int) * 2 ^ s = (t:Nat):=by rw [et]; simp
        rw [this]; exact wrap_u64 (by omega)
      have ua:IntKind.u64.wrap (a:Int) = a:=wrap_u64 (by omega)
      obtain ⟨lo,elo⟩:∃ x,x = t % 4294967296:=⟨_,rfl⟩
      obtain ⟨hi,ehi⟩:∃ x,x = t / 4294967296:=⟨_,rfl⟩
      rw [← elo] at hor hb1
      rw [← ehi] at hb2
      have hilt:hi < 4294967296:=by omega
      have ut:IntKind.u32.wrap (t:Int) = lo:=by rw [wrap_u32_mod]; omega
      have ud:(t:Int) / 4294967296 = hi:=by omega
      have uh:IntKind.u32.wrap (hi:Int) = hi:=wrap_u32 (by omega)
      have uf:(t:Int).fdiv 4294967296 = hi:=by rw [Int.fdiv_eq_ediv_of_nonneg _ (by decide)]; exact ud
      obtain ⟨nw,enw⟩:∃ x,x = lo + c:=⟨_,rfl⟩
      rw [← enw] at hor hb1
      obtain ⟨kw,ekw⟩:∃ x,x = k + w:=⟨_,rfl⟩
      have k1:IntKind.i64.wrap ((k:Int) + w) = kw:=by rw [wrap_i64 (by omega)]; omega
      have k2:IntKind.i64.wrap ((kw:Int) + 1) = (kw + 1:Nat):=by rw [wrap_i64 (by omega)]; omega
      have k3:IntKind.i64.wrap ((k:Int) + 1) = (k + 1:Nat):=by rw [wrap_i64 (by omega)]; omega
      have kp:(0:Int) ≤ (kw:Int) + 1:=by omega
      have kM:kw < M:=by omega
      have kM1:kw + 1 < M:=by omega
      rw [← ekw] at hc hval hz
      have hOk:O[kw] = c:=by rw [List.getElem?_eq_getElem (by omega)] at hc; exact Option.some.inj hc
      simp [EV,EVR,evOp,h0,h1,h5,h16,h17,hkl,ea,s1,s2,s3,w1',w1,ua,wt,smin,IntKind.bits,k1,lO,kM,hc,hOk,limb,ut,hor]
      rw [storeC_limb (O:=O) (by simp) (by omega) (by omega)]
      simp [EV,EVR,evOp,h0,h1,h5,h16,h17,s1,s2,s3,w1',w1,IntKind.bits,k1,k2,lO,kM,kM1,limb,ud,uh,uf,kp,-List.map_set]
      rw [storeC_limb (O:=O.set kw nw) (by simp) (by simp; omega) (by omega)]
      simp [EV,EVR,evOp,h0,h1,h5,h16,h17,k3,-List.map_set]
      have e1:k + 1 + w = kw + 1:=by omega
      refine ⟨l.length - (k + 1),by omega,k + 1,rfl,by omega,rfl,_,rfl,by simp [lO],(dO.set (by omega)).set (by omega),hi,?_,?_,hb2,?_⟩
      · rw [e1,hvt]
        have e2:((O.set kw nw).set (kw + 1) hi).take (kw + 1) = (O.set kw nw).take (kw + 1):=by
          rw [List.take_set,List.set_eq_of_length_le (by simp; omega)]
        have e3:t = hi * 4294967296 + lo:=by omega
        rw [e2,val_take_set (by omega),enw]
        have e4:4294967296 ^ (kw + 1) = 4294967296 ^ kw * 4294967296:=Nat.pow_succ ..
        have e5:4294967296 ^ kw = 4294967296 ^ k * 4294967296 ^ w:=by rw [ekw,Nat.pow_add]
        have e6:a * 2 ^ s = hi * 4294967296 + lo:=by rw [← et]; exact e3
        rw [e4]
        rw [hpow] at hval ⊢
        rw [e5] at hval ⊢
        generalize 4294967296 ^ k = P at *
        generalize 4294967296 ^ w = Q at *
        generalize 2 ^ s = S at *
        generalize val (List.take kw O) = V at *
        generalize val (List.take k l) = U at *
        clear hor hb1 hb2 hb3 hz hc hcs
        grind
      · rw [e1,List.getElem?_set_self (by simp; omega)]
      · intro i h1 h2
        rw [e1] at h1
        rw [List.getElem?_set_ne (by omega),List.getElem?_set_ne (by omega)]
        exact hz i (by omega) h2
    · have ek:k = l.length:=by omega
      subst ek
      have hO2:val O = val l * 2 ^ n:=by
        rw [List.take_of_length_le (Nat.le_refl _)] at hval
        rw [← hval]
        have:=val_take_succ hc
        rw [List.take_of_length_le (by omega)] at this
        exact this
      simp [EV,EVR,evOp,h0,h1,h5,h16,h17,← lO,C184,take_limb]
      rw [P184 (by omega),trim_eq_of dO,hO2]
      simp [EV,EVR]
  · refine ⟨0,List.replicate M 0,0,by simp,by omega,by simp [EV],by simp [EV],by simp [EV],by simp [EV],by simp [EV],by simp [limb],by simp,Dig.replicate,?_,?_,Nat.pow_pos (by decide),fun i h1 h2=>?_⟩
    · simp [val_replicate,val]
    · rw [List.getElem?_replicate,if_pos (by omega)]
    · rw [List.getElem?_replicate,if_pos h2]
theorem P186 {l:List Nat} {n:Nat} {H H1:List Obj} {K:AV→List Obj→Prop} (hl:Dig l) (ll:l.length ≤ 1000000) (hn:n ≤ 1000000) :
    WP X0 Gam 186 false [.p (mag l),int n] H H1 K↔K (.p (mag (digits (val l * 2 ^ n)))) H1:=WP_slice (left_pf l n hl ll hn) rfl
end Go.Proofs.YtjkdcddpicndgaaGreatDoor

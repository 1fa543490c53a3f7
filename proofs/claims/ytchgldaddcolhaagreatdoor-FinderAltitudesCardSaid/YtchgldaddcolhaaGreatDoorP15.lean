/- Part of the proof of Rows.FinderAltitudesCardSaid: FaR1, FaPr, FaQD, FaPq. -/
import Derived.KernelRfl
import Derived.Test.YtchgldaddcolhaaGreatDoorP09
import Derived.Test.YtchgldaddcolhaaGreatDoorP10
import Derived.Test.YtchgldaddcolhaaGreatDoorP14
set_option linter.all false
namespace Go.Proofs.YtchgldaddcolhaaGreatDoor
open Go
theorem asU8_some{v:Value}{n:Nat}(h:asU8 v = some n):v = .int .u8 n∧n < 256:=by
 unfold asU8 at h
 split at h
 ·split at h
  ·rename_i hle
   cases h
   exact⟨rfl,Nat.lt_succ_of_le (Nat.le_of_ble_eq_true hle)⟩
  ·cases h
 ·cases h
theorem asExp_some:∀ {l:List Value} {x:List Nat},asExp l = some x→l = x.map (fun (n:Nat)=>Value.int .u8 n)∧∀ n ∈ x,n < 256
 | [],x,h=>by cases h; exact⟨rfl,fun n h=>by cases h⟩
 | v::l,x,h=>by
  simp only[asExp,Option.bind_eq_some_iff,Option.map_eq_some_iff]at h
  obtain⟨n,hn,x',hx,rfl⟩:=h
  obtain⟨h1,h2⟩:=asU8_some hn
  obtain⟨h3,h4⟩:=asExp_some hx
  refine⟨by rw[h1,h3]; rfl,fun k hk=>?_⟩
  rcases List.mem_cons.1 hk with rfl | hk
  ·exact h2
  ·exact h4 k hk
theorem oneAll_some:∀ {l:List (List PV)},oneAll l = true→∀ r ∈ l,r.length = 1
 | [],_,r,hr=>by cases hr
 | [x]::l,h,r,hr=>by
  rcases List.mem_cons.1 hr with rfl | hr
  ·rfl
  ·exact oneAll_some (by simpa [oneAll] using h) r hr
 | []::l,h,_,_=>by simp[oneAll]at h
 | (_::_::_)::l,h,_,_=>by simp[oneAll]at h
theorem magB_some{m:PV}(h:magB m = true):m = .nsl∨∃ rows,m = .sl rows∧(∀ r ∈ rows,r.length = 1)∧rows.length ≤ 1000000:=by
 unfold magB at h
 split at h
 ·exact .inl rfl
 ·simp only[Bool.and_eq_true]at h
  exact .inr ⟨_,rfl,oneAll_some h.1,Nat.le_of_ble_eq_true h.2⟩
 ·cases h
theorem asE_some{p:Value×AV}{e:E}(h:asE p = some e):e.Ok∧p = (e.kv,e.av):=by
 unfold asE at h
 split at h
 ·rename_i k b m
  simp only[Option.bind_eq_some_iff]at h
  obtain⟨x,hx,h⟩:=h
  split at h
  ·rename_i hc
   simp only[Bool.and_eq_true]at hc
   cases h
   obtain⟨h1,h2⟩:=asExp_some hx
   refine⟨⟨Nat.eq_of_beq_eq_true hc.1,h2,magB_some hc.2⟩,?_⟩
   unfold E.kv E.av
   rw[← h1]
  ·cases h
 ·cases h
theorem asEs_some:∀ {l:List (Value×AV)} {es:List E},asEs l = some es→(∀ e ∈ es,E.Ok e)∧l = es.map fun e=>(e.kv,e.av)
 | [],es,h=>by cases h; exact⟨fun e h=>(by cases h),rfl⟩
 | p::l,es,h=>by
  simp only[asEs,Option.bind_eq_some_iff,Option.map_eq_some_iff]at h
  obtain⟨e,he,es',hes,rfl⟩:=h
  obtain⟨h1,h2⟩:=asE_some he
  obtain⟨h3,h4⟩:=asEs_some hes
  refine⟨fun k hk=>?_,by rw[h2,h4]; rfl⟩
  rcases List.mem_cons.1 hk with rfl | hk
  ·exact h1
  ·exact h3 k hk
theorem ltE_some{a b:E}(h:ltE a b = true):ordE 32 a.x b.x < 0:=by
 unfold ltE at h
 split at h
 ·rename_i n hn; rw[hn]; exact Int.negSucc_lt_zero n
 ·cases h
theorem strictB_some:∀ {l:List E},strictB l = true→l.Pairwise fun a b=>ordE 32 a.x b.x < 0
 | [],_=>.nil
 | [a],_=>by simp
 | a::b::l,h=>by
  simp only[strictB,Bool.and_eq_true]at h
  have h1:=ltE_some h.1
  have h2:=strictB_some h.2
  refine List.pairwise_cons.2 ⟨fun y hy=>?_,h2⟩
  rcases List.mem_cons.1 hy with rfl | hy
  ·exact h1
  ·exact ordE_trans.1 h1 (by have:=(List.pairwise_cons.1 h2).1 y hy; omega)
theorem collect_ok[Sub]:RuleOk TP knT collectX:=by
 intro f args H r h
 unfold collectX at h
 split at h
 ·rename_i hf
  have:=Nat.eq_of_beq_eq_true hf
  subst this
  split at h
  ·rename_i es
   simp only[collectR,Option.bind_eq_some_iff]at h
   obtain⟨l,hl,h⟩:=h
   split at h
   ·rename_i hc
    simp only[Bool.and_eq_true]at hc
    obtain⟨hok,rfl⟩:=asEs_some hl
    have hst:=strictB_some hc.1
    have hd:Distinct l:=distinct_perm isort_perm (hst.imp fun {a b} h e=>by rw[e,ordE_self]at h; omega)
    have hlen:=Nat.le_of_ble_eq_true hc.2
    have hsim:=collect_sim hok hd hlen
    have hso:(isort l).filter E.nz = isort (l.filter E.nz):=sorted_one (fun e he=>hok e (List.mem_filter.1 he).1) (hd.sublist (List.filter_sublist ..)) (isort_perm.filter _) (isort_pw.sublist (List.filter_sublist ..))
    cases h
    rw[hso]
    exact hsim
   ·cases h
  ·cases h
 ·cases h
end Go.Proofs.YtchgldaddcolhaaGreatDoor
namespace Go.Proofs.YtchgldaddcolhaaGreatDoor
set_option maxRecDepth 100000
open Go
theorem prime_pf{p:Nat}(h3:3 ≤ p)(hp:p ≤ 2147483647)(hd:∀ d,2 ≤ d→d * d ≤ p→p % d ≠ 0):PF X0 Gam 117 [int p] (boo true):=by
 refine WF_intro rfl rfl ?_
 have h1:¬ ((p:Int) < 3):=by omega
 have h2:¬ ((2147483647:Int) < p):=by omega
 have w2:IntKind.i64.wrap 2 = 2:=by decide
 have c0:lk [(0,int p)] 0 = some (int p):=rfl
 refine W_seq_cut (fun s=>lk s.env 0 = some (int p)∧s.H = []) (by simp[EV]) ?_
 rintro⟨env,H⟩ ⟨h0,rfl⟩
 simp only at h0
 refine W_seq_cut (fun s=>lk s.env 0 = some (int p)∧s.H = []) (by simp[EV,h0,h1,h2]) ?_
 clear h0 env
 rintro⟨env,H⟩ ⟨h0,rfl⟩
 simp only at h0
 refine W_seq_cut (fun s=>s.H = []) ?_ ?_
 ·refine W_seq_cut (fun s=>lk s.env 0 = some (int p)∧lk s.env 3 = some (int 2)∧s.H = []) (by simp[EV,h0]) ?_
  clear h0 env
  rintro⟨env,H⟩ ⟨h0,h3',rfl⟩
  simp only at h0 h3'
  rw[W_block]
  refine W_loop (fun n s=>∃ d:Nat,n = p + 1 - d∧2 ≤ d∧d ≤ p + 1∧lk s.env 0 = some (int p)∧lk s.env 3 = some (int d)∧s.H = []) ?_ _ _ ⟨2,rfl,by omega,by omega,h0,h3',rfl⟩
  clear h0 h3' env
  rintro n ⟨env,H⟩ ⟨d,rfl,hd2,hdp,h0,h3',rfl⟩
  simp only at h0 h3'
  have hb:d * d ≤ 4611686018427387904:=Nat.le_trans (Nat.mul_le_mul (show d ≤ 2147483648 by omega) (show d ≤ 2147483648 by omega)) (by decide)
  have hw:IntKind.i64.wrap ((d:Int) * d) = (d:Int) * d:=wrap_i64 (by
   have:((d * d:Nat):Int) = (d:Int) * d:=Int.natCast_mul d d
   omega)
  have hw1:IntKind.i64.wrap ((d:Int) + 1) = (d:Int) + 1:=wrap_i64 (by omega)
  have hd0:¬ (d = 0):=by omega
  by_cases hdd:d * d ≤ p
  ·have hdd':(d:Int) * d ≤ p:=by rw[← Int.natCast_mul]; omega
   have hdle:d ≤ p:=Nat.le_trans (Nat.le_mul_self d) hdd
   have hr:¬ ((p:Int).tmod d = 0):=by
    have:=hd d hd2 hdd
    rw[Int.tmod_eq_emod_of_nonneg (by omega)]
    omega
   have hwr:IntKind.i64.wrap ((p:Int).tmod d) = (p:Int).tmod d:=wrap_i64 (by
    have:=Int.emod_lt_of_pos (p:Int) (show (0:Int) < d by omega)
    have:=Int.emod_nonneg (p:Int) (show (d:Int) ≠ 0 by omega)
    rw[Int.tmod_eq_emod_of_nonneg (by omega)]
    omega)
   simp[EV,h0,h3',hw,hw1,hdd',hd0,hr,hwr]
   refine⟨_,?_,d + 1,rfl,?_,?_,?_⟩ <;> first | omega | simp
  ·have hdd':¬ ((d:Int) * d ≤ p):=by rw[← Int.natCast_mul]; omega
   have hdd2:(p:Int) < (d:Int) * d:=by rw[← Int.natCast_mul]; omega
   simp[EV,h0,h3',hw,hdd',hdd2]
 ·rintro⟨env,H⟩ rfl
  simp[EV]
end Go.Proofs.YtchgldaddcolhaaGreatDoor
namespace Go.Proofs.YtchgldaddcolhaaGreatDoor
set_option maxRecDepth 100000
open Go
noncomputable def XQ0:XR:=orX (orX (onX 107 validX) (onX 262 validX)) (onX 137 collectX)
def pr0:List (List PV):=[[j 1,j 0,j 0],[j 1,j 1,j 0],[j 2,j 1,j 0],[j 1,j 2,j 0],[j 1,j 3,j 0],[j 2,j 1,j 0],[j 1,j 4,j 0],[j 1,j 5,j 0],[j 2,j 1,j 0],[j 5,j 4,j 8],[j 5,j 5,j 7],[j 4,j 9,j 10],[j 5,j 5,j 6],[j 5,j 3,j 8],[j 4,j 12,j 13],[j 5,j 3,j 7],[j 5,j 4,j 6],[j 4,j 15,j 16],[j 5,j 7,j 2],[j 5,j 8,j 1],[j 4,j 18,j 19],[j 5,j 8,j 0],[j 5,j 6,j 2],[j 4,j 21,j 22],[j 5,j 6,j 1],[j 5,j 7,j 0],[j 4,j 24,j 25],[j 5,j 1,j 5],[j 5,j 2,j 4],[j 4,j 27,j 28],[j 5,j 2,j 3],[j 5,j 0,j 5],[j 4,j 30,j 31],[j 5,j 0,j 4],[j 5,j 1,j 3],[j 4,j 33,j 34],[j 2,j 0,j 0],[j 5,j 1,j 36],[j 5,j 2,j 14],[j 4,j 37,j 38],[j 5,j 2,j 11],[j 5,j 0,j 36],[j 4,j 40,j 41],[j 5,j 0,j 14],[j 5,j 1,j 11],[j 4,j 43,j 44],[j 2,j 0,j 0],[j 5,j 4,j 46],[j 5,j 5,j 23],[j 4,j 47,j 48],[j 5,j 5,j 20],[j 5,j 3,j 46],[j 4,j 50,j 51],[j 5,j 3,j 23],[j 5,j 4,j 20],[j 4,j 53,j 54],[j 2,j 0,j 0],[j 5,j 7,j 56],[j 5,j 8,j 32],[j 4,j 57,j 58],[j 5,j 8,j 29],[j 5,j 6,j 56],[j 4,j 60,j 61],[j 5,j 6,j 32],[j 5,j 7,j 29],[j 4,j 63,j 64]]
def pv0:PV:=.sl (pr0++[])
def pv1:PV:=.sl [[j 0],[j 1],[j 2]]
def pv2:PV:=.sl [[j 3],[j 4],[j 5]]
def pv3:PV:=.sl [[j 6],[j 7],[j 8]]
def pv4:PV:=.sl [[j 11],[j 14],[j 17]]
def pv5:PV:=.sl [[j 20],[j 23],[j 26]]
def pv6:PV:=.sl [[j 29],[j 32],[j 35]]
def pv7:PV:=.sl [[j 39],[j 42],[j 45]]
def pv8:PV:=.sl [[j 49],[j 52],[j 55]]
def pv9:PV:=.sl [[j 59],[j 62],[j 65]]
def pv10:PV:=.sl [[pv1],[pv2],[pv3],[pv4],[pv5],[pv6],[pv7],[pv8],[pv9]]
def pv11:PV:=.sl (pr0++[[j 5,j 1,j 5],[j 5,j 2,j 4],[j 4,j 66,j 67],[j 5,j 2,j 3],[j 5,j 0,j 5],[j 4,j 69,j 70],[j 5,j 0,j 4],[j 5,j 1,j 3],[j 4,j 72,j 73]])
def pv12:PV:=.sl (pr0++[[j 5,j 1,j 8],[j 5,j 2,j 7],[j 4,j 66,j 67],[j 5,j 2,j 6],[j 5,j 0,j 8],[j 4,j 69,j 70],[j 5,j 0,j 7],[j 5,j 1,j 6],[j 4,j 72,j 73]])
def pv13:PV:=.sl (pr0++[[j 5,j 4,j 8],[j 5,j 5,j 7],[j 4,j 66,j 67],[j 5,j 5,j 6],[j 5,j 3,j 8],[j 4,j 69,j 70],[j 5,j 3,j 7],[j 5,j 4,j 6],[j 4,j 72,j 73]])
def pv14:PV:=.sl (pr0++[[j 5,j 11,j 0],[j 5,j 14,j 1],[j 3,j 66,j 67],[j 5,j 17,j 2],[j 3,j 68,j 69]])
def pv15:PV:=.sl (pr0++[[j 5,j 49,j 0],[j 5,j 52,j 1],[j 3,j 66,j 67],[j 5,j 55,j 2],[j 3,j 68,j 69]])
def pv16:PV:=.sl (pr0++[[j 5,j 59,j 0],[j 5,j 62,j 1],[j 3,j 66,j 67],[j 5,j 65,j 2],[j 3,j 68,j 69]])
def pv17:PV:=.sl (pr0++[[j 5,j 20,j 3],[j 5,j 23,j 4],[j 3,j 66,j 67],[j 5,j 26,j 5],[j 3,j 68,j 69]])
def pv18:PV:=.sl (pr0++[[j 5,j 39,j 3],[j 5,j 42,j 4],[j 3,j 66,j 67],[j 5,j 45,j 5],[j 3,j 68,j 69]])
def pv19:PV:=.sl (pr0++[[j 5,j 59,j 3],[j 5,j 62,j 4],[j 3,j 66,j 67],[j 5,j 65,j 5],[j 3,j 68,j 69]])
def pv20:PV:=.sl (pr0++[[j 5,j 29,j 6],[j 5,j 32,j 7],[j 3,j 66,j 67],[j 5,j 35,j 8],[j 3,j 68,j 69]])
def pv21:PV:=.sl (pr0++[[j 5,j 39,j 6],[j 5,j 42,j 7],[j 3,j 66,j 67],[j 5,j 45,j 8],[j 3,j 68,j 69]])
def pv22:PV:=.sl (pr0++[[j 5,j 49,j 6],[j 5,j 52,j 7],[j 3,j 66,j 67],[j 5,j 55,j 8],[j 3,j 68,j 69]])
def pv23:PV:=.sl (pr0++[[j 5,j 11,j 23],[j 5,j 20,j 14],[j 4,j 66,j 67]])
def pv24:PV:=.sl (pr0++[[j 5,j 11,j 32],[j 5,j 29,j 14],[j 4,j 66,j 67]])
def pv25:PV:=.sl (pr0++[[j 5,j 11,j 42],[j 5,j 39,j 14],[j 4,j 66,j 67]])
def pv26:PV:=.sl (pr0++[[j 5,j 11,j 52],[j 5,j 49,j 14],[j 4,j 66,j 67]])
def pv27:PV:=.sl (pr0++[[j 5,j 11,j 62],[j 5,j 59,j 14],[j 4,j 66,j 67]])
def pv28:PV:=.sl (pr0++[[j 5,j 20,j 32],[j 5,j 29,j 23],[j 4,j 66,j 67]])
def pv29:PV:=.sl (pr0++[[j 5,j 20,j 42],[j 5,j 39,j 23],[j 4,j 66,j 67]])
def pv30:PV:=.sl (pr0++[[j 5,j 20,j 52],[j 5,j 49,j 23],[j 4,j 66,j 67]])
def pv31:PV:=.sl (pr0++[[j 5,j 20,j 62],[j 5,j 59,j 23],[j 4,j 66,j 67]])
def pv32:PV:=.sl (pr0++[[j 5,j 29,j 42],[j 5,j 39,j 32],[j 4,j 66,j 67]])
def pv33:PV:=.sl (pr0++[[j 5,j 29,j 52],[j 5,j 49,j 32],[j 4,j 66,j 67]])
def pv34:PV:=.sl (pr0++[[j 5,j 29,j 62],[j 5,j 59,j 32],[j 4,j 66,j 67]])
def pv35:PV:=.sl (pr0++[[j 5,j 39,j 52],[j 5,j 49,j 42],[j 4,j 66,j 67]])
def pv36:PV:=.sl (pr0++[[j 5,j 39,j 62],[j 5,j 59,j 42],[j 4,j 66,j 67]])
def pv37:PV:=.sl (pr0++[[j 5,j 49,j 62],[j 5,j 59,j 52],[j 4,j 66,j 67]])
def pv38:PV:=.sl (pr0++[[j 5,j 11,j 20],[j 5,j 14,j 23],[j 3,j 66,j 67]])
def pv39:PV:=.sl (pr0++[[j 5,j 11,j 29],[j 5,j 14,j 32],[j 3,j 66,j 67]])
def pv40:PV:=.sl (pr0++[[j 5,j 11,j 49],[j 5,j 14,j 52],[j 3,j 66,j 67]])
def pv41:PV:=.sl (pr0++[[j 5,j 11,j 59],[j 5,j 14,j 62],[j 3,j 66,j 67]])
def pv42:PV:=.sl (pr0++[[j 5,j 20,j 29],[j 5,j 23,j 32],[j 3,j 66,j 67]])
def pv43:PV:=.sl (pr0++[[j 5,j 20,j 39],[j 5,j 23,j 42],[j 3,j 66,j 67]])
def pv44:PV:=.sl (pr0++[[j 5,j 20,j 59],[j 5,j 23,j 62],[j 3,j 66,j 67]])
def pv45:PV:=.sl (pr0++[[j 5,j 29,j 39],[j 5,j 32,j 42],[j 3,j 66,j 67]])
def pv46:PV:=.sl (pr0++[[j 5,j 29,j 49],[j 5,j 32,j 52],[j 3,j 66,j 67]])
def pv47:PV:=.sl (pr0++[[j 5,j 39,j 49],[j 5,j 42,j 52],[j 3,j 66,j 67]])
def pv48:PV:=.sl (pr0++[[j 5,j 39,j 59],[j 5,j 42,j 62],[j 3,j 66,j 67]])
def pv49:PV:=.sl (pr0++[[j 5,j 49,j 59],[j 5,j 52,j 62],[j 3,j 66,j 67]])
def pv50:PV:=.sl (pr0++[[j 5,j 4,j 8],[j 5,j 5,j 7],[j 4,j 66,j 67],[j 5,j 0,j 68],[j 5,j 3,j 8],[j 5,j 5,j 6],[j 4,j 70,j 71],[j 5,j 1,j 72],[j 4,j 69,j 73],[j 5,j 3,j 7],[j 5,j 4,j 6],[j 4,j 75,j 76],[j 5,j 2,j 77],[j 3,j 74,j 78]])
def pv51:PV:=.sl (pr0++[[j 5,j 23,j 35],[j 5,j 26,j 32],[j 4,j 66,j 67],[j 5,j 11,j 68],[j 5,j 20,j 35],[j 5,j 26,j 29],[j 4,j 70,j 71],[j 5,j 14,j 72],[j 4,j 69,j 73],[j 5,j 20,j 32],[j 5,j 23,j 29],[j 4,j 75,j 76],[j 5,j 17,j 77],[j 3,j 74,j 78]])
def pv52:PV:=.sl (pr0++[[j 5,j 23,j 45],[j 5,j 26,j 42],[j 4,j 66,j 67],[j 5,j 11,j 68],[j 5,j 20,j 45],[j 5,j 26,j 39],[j 4,j 70,j 71],[j 5,j 14,j 72],[j 4,j 69,j 73],[j 5,j 20,j 42],[j 5,j 23,j 39],[j 4,j 75,j 76],[j 5,j 17,j 77],[j 3,j 74,j 78]])
def pv53:PV:=.sl (pr0++[[j 5,j 23,j 55],[j 5,j 26,j 52],[j 4,j 66,j 67],[j 5,j 11,j 68],[j 5,j 20,j 55],[j 5,j 26,j 49],[j 4,j 70,j 71],[j 5,j 14,j 72],[j 4,j 69,j 73],[j 5,j 20,j 52],[j 5,j 23,j 49],[j 4,j 75,j 76],[j 5,j 17,j 77],[j 3,j 74,j 78]])
def pv54:PV:=.sl (pr0++[[j 5,j 32,j 45],[j 5,j 35,j 42],[j 4,j 66,j 67],[j 5,j 11,j 68],[j 5,j 29,j 45],[j 5,j 35,j 39],[j 4,j 70,j 71],[j 5,j 14,j 72],[j 4,j 69,j 73],[j 5,j 29,j 42],[j 5,j 32,j 39],[j 4,j 75,j 76],[j 5,j 17,j 77],[j 3,j 74,j 78]])
def pv55:PV:=.sl (pr0++[[j 5,j 32,j 65],[j 5,j 35,j 62],[j 4,j 66,j 67],[j 5,j 11,j 68],[j 5,j 29,j 65],[j 5,j 35,j 59],[j 4,j 70,j 71],[j 5,j 14,j 72],[j 4,j 69,j 73],[j 5,j 29,j 62],[j 5,j 32,j 59],[j 4,j 75,j 76],[j 5,j 17,j 77],[j 3,j 74,j 78]])
def pv56:PV:=.sl (pr0++[[j 5,j 42,j 55],[j 5,j 45,j 52],[j 4,j 66,j 67],[j 5,j 11,j 68],[j 5,j 39,j 55],[j 5,j 45,j 49],[j 4,j 70,j 71],[j 5,j 14,j 72],[j 4,j 69,j 73],[j 5,j 39,j 52],[j 5,j 42,j 49],[j 4,j 75,j 76],[j 5,j 17,j 77],[j 3,j 74,j 78]])
def pv57:PV:=.sl (pr0++[[j 5,j 42,j 65],[j 5,j 45,j 62],[j 4,j 66,j 67],[j 5,j 11,j 68],[j 5,j 39,j 65],[j 5,j 45,j 59],[j 4,j 70,j 71],[j 5,j 14,j 72],[j 4,j 69,j 73],[j 5,j 39,j 62],[j 5,j 42,j 59],[j 4,j 75,j 76],[j 5,j 17,j 77],[j 3,j 74,j 78]])
def pv58:PV:=.sl (pr0++[[j 5,j 52,j 65],[j 5,j 55,j 62],[j 4,j 66,j 67],[j 5,j 11,j 68],[j 5,j 49,j 65],[j 5,j 55,j 59],[j 4,j 70,j 71],[j 5,j 14,j 72],[j 4,j 69,j 73],[j 5,j 49,j 62],[j 5,j 52,j 59],[j 4,j 75,j 76],[j 5,j 17,j 77],[j 3,j 74,j 78]])
def pv59:PV:=.sl (pr0++[[j 5,j 32,j 55],[j 5,j 35,j 52],[j 4,j 66,j 67],[j 5,j 20,j 68],[j 5,j 29,j 55],[j 5,j 35,j 49],[j 4,j 70,j 71],[j 5,j 23,j 72],[j 4,j 69,j 73],[j 5,j 29,j 52],[j 5,j 32,j 49],[j 4,j 75,j 76],[j 5,j 26,j 77],[j 3,j 74,j 78]])
def pv60:PV:=.sl (pr0++[[j 5,j 32,j 65],[j 5,j 35,j 62],[j 4,j 66,j 67],[j 5,j 20,j 68],[j 5,j 29,j 65],[j 5,j 35,j 59],[j 4,j 70,j 71],[j 5,j 23,j 72],[j 4,j 69,j 73],[j 5,j 29,j 62],[j 5,j 32,j 59],[j 4,j 75,j 76],[j 5,j 26,j 77],[j 3,j 74,j 78]])
def pv61:PV:=.sl (pr0++[[j 5,j 42,j 55],[j 5,j 45,j 52],[j 4,j 66,j 67],[j 5,j 20,j 68],[j 5,j 39,j 55],[j 5,j 45,j 49],[j 4,j 70,j 71],[j 5,j 23,j 72],[j 4,j 69,j 73],[j 5,j 39,j 52],[j 5,j 42,j 49],[j 4,j 75,j 76],[j 5,j 26,j 77],[j 3,j 74,j 78]])
def pv62:PV:=.sl (pr0++[[j 5,j 42,j 65],[j 5,j 45,j 62],[j 4,j 66,j 67],[j 5,j 20,j 68],[j 5,j 39,j 65],[j 5,j 45,j 59],[j 4,j 70,j 71],[j 5,j 23,j 72],[j 4,j 69,j 73],[j 5,j 39,j 62],[j 5,j 42,j 59],[j 4,j 75,j 76],[j 5,j 26,j 77],[j 3,j 74,j 78]])
def pv63:PV:=.sl (pr0++[[j 5,j 52,j 65],[j 5,j 55,j 62],[j 4,j 66,j 67],[j 5,j 20,j 68],[j 5,j 49,j 65],[j 5,j 55,j 59],[j 4,j 70,j 71],[j 5,j 23,j 72],[j 4,j 69,j 73],[j 5,j 49,j 62],[j 5,j 52,j 59],[j 4,j 75,j 76],[j 5,j 26,j 77],[j 3,j 74,j 78]])
def pv64:PV:=.sl (pr0++[[j 5,j 42,j 55],[j 5,j 45,j 52],[j 4,j 66,j 67],[j 5,j 29,j 68],[j 5,j 39,j 55],[j 5,j 45,j 49],[j 4,j 70,j 71],[j 5,j 32,j 72],[j 4,j 69,j 73],[j 5,j 39,j 52],[j 5,j 42,j 49],[j 4,j 75,j 76],[j 5,j 35,j 77],[j 3,j 74,j 78]])
def pv65:PV:=.sl (pr0++[[j 5,j 42,j 65],[j 5,j 45,j 62],[j 4,j 66,j 67],[j 5,j 29,j 68],[j 5,j 39,j 65],[j 5,j 45,j 59],[j 4,j 70,j 71],[j 5,j 32,j 72],[j 4,j 69,j 73],[j 5,j 39,j 62],[j 5,j 42,j 59],[j 4,j 75,j 76],[j 5,j 35,j 77],[j 3,j 74,j 78]])
def pv66:PV:=.sl (pr0++[[j 5,j 52,j 65],[j 5,j 55,j 62],[j 4,j 66,j 67],[j 5,j 29,j 68],[j 5,j 49,j 65],[j 5,j 55,j 59],[j 4,j 70,j 71],[j 5,j 32,j 72],[j 4,j 69,j 73],[j 5,j 49,j 62],[j 5,j 52,j 59],[j 4,j 75,j 76],[j 5,j 35,j 77],[j 3,j 74,j 78]])
def pv67:PV:=.sl (pr0++[[j 5,j 52,j 65],[j 5,j 55,j 62],[j 4,j 66,j 67],[j 5,j 39,j 68],[j 5,j 49,j 65],[j 5,j 55,j 59],[j 4,j 70,j 71],[j 5,j 42,j 72],[j 4,j 69,j 73],[j 5,j 49,j 62],[j 5,j 52,j 59],[j 4,j 75,j 76],[j 5,j 45,j 77],[j 3,j 74,j 78]])
def pv68:PV:=.sl (pr0++[[j 5,j 0,j 5],[j 5,j 3,j 2],[j 4,j 66,j 67],[j 5,j 1,j 5],[j 5,j 4,j 2],[j 4,j 69,j 70],[j 5,j 0,j 8],[j 5,j 6,j 2],[j 4,j 72,j 73],[j 5,j 1,j 8],[j 5,j 7,j 2],[j 4,j 75,j 76],[j 5,j 2,j 8],[j 5,j 2,j 5],[j 5,j 68,j 68],[j 5,j 71,j 71],[j 3,j 80,j 81],[j 5,j 78,j 78],[j 5,j 82,j 83],[j 5,j 74,j 74],[j 5,j 77,j 77],[j 3,j 85,j 86],[j 5,j 79,j 79],[j 5,j 87,j 88],[j 4,j 84,j 89]])
def pv69:PV:=.sl (pr0++[[j 5,j 0,j 5],[j 5,j 3,j 2],[j 4,j 66,j 67],[j 5,j 1,j 5],[j 5,j 4,j 2],[j 4,j 69,j 70],[j 5,j 3,j 8],[j 5,j 6,j 5],[j 4,j 72,j 73],[j 5,j 4,j 8],[j 5,j 7,j 5],[j 4,j 75,j 76],[j 5,j 5,j 8],[j 5,j 2,j 5],[j 5,j 68,j 68],[j 5,j 71,j 71],[j 3,j 80,j 81],[j 5,j 78,j 78],[j 5,j 82,j 83],[j 5,j 74,j 74],[j 5,j 77,j 77],[j 3,j 85,j 86],[j 5,j 79,j 79],[j 5,j 87,j 88],[j 4,j 84,j 89]])
def pv70:PV:=.sl (pr0++[[j 5,j 0,j 8],[j 5,j 6,j 2],[j 4,j 66,j 67],[j 5,j 1,j 8],[j 5,j 7,j 2],[j 4,j 69,j 70],[j 5,j 3,j 8],[j 5,j 6,j 5],[j 4,j 72,j 73],[j 5,j 4,j 8],[j 5,j 7,j 5],[j 4,j 75,j 76],[j 5,j 5,j 8],[j 5,j 2,j 8],[j 5,j 68,j 68],[j 5,j 71,j 71],[j 3,j 80,j 81],[j 5,j 78,j 78],[j 5,j 82,j 83],[j 5,j 74,j 74],[j 5,j 77,j 77],[j 3,j 85,j 86],[j 5,j 79,j 79],[j 5,j 87,j 88],[j 4,j 84,j 89]])
def pv71:PV:=.sl [[.v (Y [65]),j 1,.sl [],bf,.sl [],bf,.sl [[u 1]],bf,.sl [],bf,.sl [[u 1]],j 0],[.v (Y [66]),j 1,.sl [],bf,.sl [[u 4]],bf,.sl [[u 1]],bf,.sl [],bf,.sl [[u 1]],j 0],[.v (Y [67]),j 1,.sl [],bf,.sl [[u 1]],bf,.sl [[u 1]],bf,.sl [[u 3]],bf,.sl [[u 1]],j 0],[.v (Y [97]),j 3,.sl [[j 1],[j 2]],bf,.sl [],bf,.sl [],bf,.sl [],bf,.sl [],j 0],[.v (Y [98]),j 3,.sl [[j 2],[j 0]],bf,.sl [],bf,.sl [],bf,.sl [],bf,.sl [],j 0],[.v (Y [99]),j 3,.sl [[j 0],[j 1]],bf,.sl [],bf,.sl [],bf,.sl [],bf,.sl [],j 0],[.v (Y [112]),j 10,.sl [[j 0],[j 3]],bf,.sl [],bf,.sl [],bf,.sl [],bf,.sl [],j 0],[.v (Y [113]),j 10,.sl [[j 1],[j 4]],bf,.sl [],bf,.sl [],bf,.sl [],bf,.sl [],j 0],[.v (Y [114]),j 10,.sl [[j 2],[j 5]],bf,.sl [],bf,.sl [],bf,.sl [],bf,.sl [],j 0]]
def pv72:PV:=.sl [[.v (Y [65]),j 1,.sl [],.h false 0,.h false 1,bf,.sl [[u 1]],.h false 2,.h false 3,bf,.sl [[u 1]],j 0],[.v (Y [66]),j 1,.sl [],.h false 4,.h false 5,bf,.sl [[u 1]],.h false 6,.h false 7,bf,.sl [[u 1]],j 0],[.v (Y [67]),j 1,.sl [],.h false 8,.h false 9,bf,.sl [[u 1]],.h false 10,.h false 11,bf,.sl [[u 1]],j 0],[.v (Y [97]),j 3,.sl [[j 1],[j 2]],bf,.sl [],bf,.sl [],bf,.sl [],bf,.sl [],j 0],[.v (Y [98]),j 3,.sl [[j 2],[j 0]],bf,.sl [],bf,.sl [],bf,.sl [],bf,.sl [],j 0],[.v (Y [99]),j 3,.sl [[j 0],[j 1]],bf,.sl [],bf,.sl [],bf,.sl [],bf,.sl [],j 0],[.v (Y [112]),j 10,.sl [[j 0],[j 3]],bf,.sl [],bf,.sl [],bf,.sl [],bf,.sl [],j 0],[.v (Y [113]),j 10,.sl [[j 1],[j 4]],bf,.sl [],bf,.sl [],bf,.sl [],bf,.sl [],j 0],[.v (Y [114]),j 10,.sl [[j 2],[j 5]],bf,.sl [],bf,.sl [],bf,.sl [],bf,.sl [],j 0]]
def pv73:PV:=.sl [[j 68],[j 71],[j 74]]
def pv74:PV:=.sl [[j 3],[j 4],[j 6]]
def pv75:PV:=.sl [[j 3],[j 4],[j 7]]
def pv76:PV:=.sl [[j 3],[j 5],[j 6]]
def pv77:PV:=.sl [[j 3],[j 5],[j 8]]
def pv78:PV:=.sl [[j 3],[j 6],[j 7]]
def pv79:PV:=.sl [[j 3],[j 6],[j 8]]
def pv80:PV:=.sl [[j 3],[j 7],[j 8]]
def pv81:PV:=.sl [[j 4],[j 5],[j 7]]
def pv82:PV:=.sl [[j 4],[j 5],[j 8]]
def pv83:PV:=.sl [[j 4],[j 6],[j 7]]
def pv84:PV:=.sl [[j 4],[j 6],[j 8]]
def pv85:PV:=.sl [[j 4],[j 7],[j 8]]
def pv86:PV:=.sl [[j 5],[j 6],[j 7]]
def pv87:PV:=.sl [[j 5],[j 6],[j 8]]
def pv88:PV:=.sl [[j 5],[j 7],[j 8]]
def pv89:PV:=.sl [[j 0],[j 1],[j 0],[j 2]]
def pv90:PV:=.sl [[j 0],[j 1],[j 1],[j 2]]
def pv91:PV:=.sl [[j 0],[j 2],[j 1],[j 2]]
def pv92:PV:=.sl [[j 0,j 0],[j 0,j 1],[j 1,j 0],[j 1,j 1],[j 2,j 0],[j 2,j 1]]
def pv93:PV:=.sl [[j 0],[j 0],[j 0],[j 1]]
def pv94:PV:=.sl [[bf,.sl [[u 1]],pv93]]
def pv95:PV:=.sl [[bf,.sl [[u 1]],.sl []]]
def pv96:PV:=.sl [[j 0],[j 0],[j 0],[j 0],[j 0],[j 1]]
def pv97:PV:=.sl [[bf,.sl [[u 1]],pv96]]
def pv98:PV:=.sl [[j 0],[j 0],[j 0],[j 0],[j 1]]
def pv99:PV:=.sl [[bf,.sl [[u 1]],pv98]]
def pv100:PV:=.sl [[j 0],[j 0],[j 1]]
def pv101:PV:=.sl [[bf,.sl [[u 1]],pv100]]
def pv102:PV:=.sl [[j 0],[j 0],[j 1],[j 0],[j 0],[j 1]]
def pv103:PV:=.sl [[bf,.sl [[u 1]],pv102]]
def pv104:PV:=.sl [[j 0],[j 0],[j 0],[j 1],[j 1]]
def pv105:PV:=.sl [[bf,.sl [[u 1]],pv104]]
def pv106:PV:=.sl [[bf,.sl [[u 1]],.sl [[j 0],[j 1]]]]
def pv107:PV:=.sl [[bf,.sl [[u 1]],.sl [[j 1]]]]
def pv108:PV:=.sl [[j 0],[j 1],[j 0],[j 0],[j 1]]
def pv109:PV:=.sl [[bf,.sl [[u 1]],pv108]]
def pv110:PV:=.sl [[j 1],[j 0],[j 0],[j 0],[j 0],[j 1]]
def pv111:PV:=.sl [[bf,.sl [[u 1]],pv110]]
def pv112:PV:=.sl [[j 1],[j 0],[j 0],[j 1]]
def pv113:PV:=.sl [[bf,.sl [[u 1]],pv112]]
def pv114:PV:=.sl [[j 0],[j 1],[j 1]]
def pv115:PV:=.sl [[bf,.sl [[u 1]],pv114]]
def pv116:PV:=.sl [[bf,.sl [[u 1]],pv98],[bt,.sl [[u 1]],pv100]]
def pv117:PV:=.sl [[bt,.sl [[u 1]],pv96],[bf,.sl [[u 1]],pv93]]
def pv118:PV:=.sl [[j 1],[j 0],[j 0],[j 0],[j 1]]
def pv119:PV:=.sl [[j 1],[j 0],[j 1]]
def pv120:PV:=.sl [[bf,.sl [[u 1]],pv118],[bt,.sl [[u 1]],pv119]]
def pv121:PV:=.sl [[j 0],[j 1],[j 0],[j 0],[j 0],[j 1]]
def pv122:PV:=.sl [[j 0],[j 1],[j 0],[j 1]]
def pv123:PV:=.sl [[bt,.sl [[u 1]],pv121],[bf,.sl [[u 1]],pv122]]
def pv124:PV:=.sl [[bt,.sl [[u 1]],pv98],[bf,.sl [[u 1]],.sl [[j 1]]]]
def pv125:PV:=.sl [[bf,.sl [[u 1]],pv96],[bt,.sl [[u 1]],.sl [[j 0],[j 1]]]]
def pv126:PV:=.sl [[j 0],[j 0],[j 1],[j 0],[j 1]]
def pv127:PV:=.sl [[bt,.sl [[u 1]],pv126],[bf,.sl [[u 1]],pv119]]
def pv128:PV:=.sl [[j 0],[j 0],[j 0],[j 1],[j 0],[j 1]]
def pv129:PV:=.sl [[bf,.sl [[u 1]],pv128],[bt,.sl [[u 1]],pv122]]
def pv130:PV:=.sl [[bf,.sl [[u 1]],pv100],[bt,.sl [[u 1]],.sl [[j 1]]]]
def pv131:PV:=.sl [[bt,.sl [[u 1]],pv93],[bf,.sl [[u 1]],.sl [[j 0],[j 1]]]]
def pv132:PV:=.sl [[bf,.sl [[u 1]],pv126],[bt,.sl [[u 1]],pv118]]
def pv133:PV:=.sl [[bt,.sl [[u 1]],pv128],[bf,.sl [[u 1]],pv121]]
def pv134:PV:=.sl [[bf,.sl [[u 1]],pv128],[bf,.sl [[u 1]],pv126],[bt,.sl [[u 1]],pv121],[bt,.sl [[u 1]],pv118]]
def pv135:PV:=.sl [[j 0],[j 0],[j 0],[j 1],[j 0],[j 2]]
def pv136:PV:=.sl [[j 0],[j 0],[j 1],[j 0],[j 1],[j 1]]
def pv137:PV:=.sl [[j 0],[j 1],[j 0],[j 0],[j 0],[j 2]]
def pv138:PV:=.sl [[j 0],[j 1],[j 0],[j 1],[j 0],[j 1]]
def pv139:PV:=.sl [[j 0],[j 1],[j 1],[j 0],[j 1]]
def pv140:PV:=.sl [[j 0],[j 2],[j 0],[j 0],[j 0],[j 1]]
def pv141:PV:=.sl [[j 1],[j 0],[j 0],[j 0],[j 1],[j 1]]
def pv142:PV:=.sl [[j 1],[j 1],[j 0],[j 0],[j 1]]
def pv143:PV:=.sl [[bf,.sl [[u 1]],pv135],[bf,.sl [[u 1]],pv136],[bt,.sl [[u 1]],pv137],[bt,.sl [[u 1]],pv138],[bt,.sl [[u 1]],pv139],[bf,.sl [[u 1]],pv140],[bt,.sl [[u 1]],pv141],[bf,.sl [[u 1]],pv142]]
def pv144:PV:=.sl [[bt,.sl [[u 1]],pv128],[bt,.sl [[u 1]],pv126],[bf,.sl [[u 1]],pv122],[bf,.sl [[u 1]],pv119]]
def pv145:PV:=.sl [[j 0],[j 0],[j 0],[j 2],[j 0],[j 1]]
def pv146:PV:=.sl [[j 0],[j 0],[j 1],[j 1],[j 1]]
def pv147:PV:=.sl [[j 0],[j 2],[j 0],[j 1]]
def pv148:PV:=.sl [[j 1],[j 0],[j 1],[j 1]]
def pv149:PV:=.sl [[j 1],[j 1],[j 1]]
def pv150:PV:=.sl [[bf,.sl [[u 1]],pv145],[bf,.sl [[u 1]],pv146],[bt,.sl [[u 1]],pv138],[bt,.sl [[u 1]],pv89],[bt,.sl [[u 1]],pv139],[bf,.sl [[u 1]],pv147],[bt,.sl [[u 1]],pv148],[bf,.sl [[u 1]],pv149]]
def pv151:PV:=.sl [[bt,.sl [[u 1]],pv98],[bf,.sl [[u 1]],pv100]]
def pv152:PV:=.sl [[bf,.sl [[u 1]],pv135],[bt,.sl [[u 1]],pv145],[bf,.sl [[u 1]],pv136],[bt,.sl [[u 1]],pv146],[bt,.sl [[u 1]],pv137],[bf,.sl [[u 1]],pv89],[bf,.sl [[u 1]],pv140],[bt,.sl [[u 1]],pv147],[bt,.sl [[u 1]],pv141],[bf,.sl [[u 1]],pv148],[bf,.sl [[u 1]],pv142],[bt,.sl [[u 1]],pv149]]
def pv153:PV:=.sl [[j 0],[j 0],[j 0],[j 1],[j 1],[j 2]]
def pv154:PV:=.sl [[j 0],[j 0],[j 0],[j 2],[j 1],[j 1]]
def pv155:PV:=.sl [[j 0],[j 0],[j 1],[j 0],[j 2],[j 1]]
def pv156:PV:=.sl [[j 0],[j 0],[j 1],[j 1],[j 0],[j 2]]
def pv157:PV:=.sl [[j 0],[j 0],[j 1],[j 1],[j 2]]
def pv158:PV:=.sl [[j 0],[j 0],[j 1],[j 2],[j 0],[j 1]]
def pv159:PV:=.sl [[j 0],[j 0],[j 2],[j 0],[j 1],[j 1]]
def pv160:PV:=.sl [[j 0],[j 0],[j 2],[j 1],[j 1]]
def pv161:PV:=.sl [[j 0],[j 1],[j 0],[j 0],[j 1],[j 2]]
def pv162:PV:=.sl [[j 0],[j 1],[j 0],[j 2],[j 1]]
def pv163:PV:=.sl [[j 0],[j 1],[j 1],[j 0],[j 0],[j 2]]
def pv164:PV:=.sl [[j 0],[j 2],[j 0],[j 0],[j 1],[j 1]]
def pv165:PV:=.sl [[j 0],[j 2],[j 0],[j 1],[j 1]]
def pv166:PV:=.sl [[j 0],[j 2],[j 1],[j 0],[j 0],[j 1]]
def pv167:PV:=.sl [[j 0],[j 2],[j 1],[j 1]]
def pv168:PV:=.sl [[j 1],[j 0],[j 0],[j 0],[j 2],[j 1]]
def pv169:PV:=.sl [[j 1],[j 0],[j 1],[j 0],[j 1],[j 1]]
def pv170:PV:=.sl [[j 1],[j 0],[j 1],[j 1],[j 1]]
def pv171:PV:=.sl [[j 1],[j 0],[j 2],[j 1]]
def pv172:PV:=.sl [[j 1],[j 1],[j 0],[j 0],[j 2]]
def pv173:PV:=.sl [[j 1],[j 1],[j 1],[j 0],[j 1]]
def pv174:PV:=.sl [[j 1],[j 1],[j 2]]
def pv175:PV:=.sl [[bt,.sl [[u 1]],pv153],[bf,.sl [[u 1]],pv154],[bt,.sl [[u 1]],pv155],[bf,.sl [[u 1]],pv156],[bf,.sl [[u 1]],pv157],[bt,.sl [[u 1]],pv158],[bf,.sl [[u 1]],pv159],[bt,.sl [[u 1]],pv160],[bf,.sl [[u 1]],pv161],[bt,.sl [[u 1]],pv162],[bt,.sl [[u 1]],pv163],[bf,.sl [[u 1]],pv90],[bt,.sl [[u 1]],pv164],[bf,.sl [[u 1]],pv165],[bf,.sl [[u 1]],pv166],[bt,.sl [[u 1]],pv167],[bf,.sl [[u 1]],pv168],[bt,.sl [[u 1]],pv169],[bt,.sl [[u 1]],pv170],[bf,.sl [[u 1]],pv171],[bt,.sl [[u 1]],pv172],[bf,.sl [[u 2]],pv173],[bt,.sl [[u 1]],pv174]]
def pv176:PV:=.sl [[bf,.sl [[u 1]],pv98],[bt,.sl [[u 1]],.sl [[j 1]]]]
def pv177:PV:=.sl [[j 0],[j 0],[j 0],[j 1],[j 1],[j 1]]
def pv178:PV:=.sl [[j 0],[j 0],[j 1],[j 0],[j 2]]
def pv179:PV:=.sl [[j 0],[j 1],[j 0],[j 0],[j 1],[j 1]]
def pv180:PV:=.sl [[j 1],[j 0],[j 0],[j 0],[j 2]]
def pv181:PV:=.sl [[j 1],[j 0],[j 0],[j 1],[j 0],[j 1]]
def pv182:PV:=.sl [[j 1],[j 0],[j 1],[j 0],[j 1]]
def pv183:PV:=.sl [[j 1],[j 1],[j 0],[j 0],[j 0],[j 1]]
def pv184:PV:=.sl [[j 2],[j 0],[j 0],[j 0],[j 1]]
def pv185:PV:=.sl [[bf,.sl [[u 1]],pv177],[bf,.sl [[u 1]],pv178],[bt,.sl [[u 1]],pv179],[bt,.sl [[u 1]],pv180],[bt,.sl [[u 1]],pv181],[bt,.sl [[u 1]],pv182],[bf,.sl [[u 1]],pv183],[bf,.sl [[u 1]],pv184]]
def pv186:PV:=.sl [[bt,.sl [[u 1]],pv100],[bf,.sl [[u 1]],.sl [[j 1]]]]
def pv187:PV:=.sl [[j 0],[j 0],[j 1],[j 1],[j 0],[j 1]]
def pv188:PV:=.sl [[j 0],[j 0],[j 2],[j 0],[j 1]]
def pv189:PV:=.sl [[j 0],[j 1],[j 1],[j 1]]
def pv190:PV:=.sl [[j 1],[j 0],[j 2]]
def pv191:PV:=.sl [[j 1],[j 1],[j 0],[j 1]]
def pv192:PV:=.sl [[j 2],[j 0],[j 1]]
def pv193:PV:=.sl [[bf,.sl [[u 1]],pv187],[bf,.sl [[u 1]],pv188],[bt,.sl [[u 1]],pv189],[bt,.sl [[u 1]],pv181],[bt,.sl [[u 1]],pv182],[bt,.sl [[u 1]],pv190],[bf,.sl [[u 1]],pv191],[bf,.sl [[u 1]],pv192]]
def pv194:PV:=.sl [[bf,.sl [[u 1]],pv177],[bf,.sl [[u 1]],pv178],[bt,.sl [[u 1]],pv187],[bt,.sl [[u 1]],pv188],[bt,.sl [[u 1]],pv179],[bf,.sl [[u 1]],pv189],[bt,.sl [[u 1]],pv180],[bf,.sl [[u 1]],pv190],[bf,.sl [[u 1]],pv183],[bt,.sl [[u 1]],pv191],[bf,.sl [[u 1]],pv184],[bt,.sl [[u 1]],pv192]]
def pv195:PV:=.sl [[j 0],[j 1],[j 0],[j 1],[j 1],[j 1]]
def pv196:PV:=.sl [[j 0],[j 1],[j 1],[j 1],[j 0],[j 1]]
def pv197:PV:=.sl [[j 1],[j 0],[j 0],[j 1],[j 2]]
def pv198:PV:=.sl [[j 1],[j 0],[j 2],[j 0],[j 0],[j 1]]
def pv199:PV:=.sl [[j 1],[j 1],[j 0],[j 0],[j 0],[j 2]]
def pv200:PV:=.sl [[j 1],[j 1],[j 0],[j 1],[j 0],[j 1]]
def pv201:PV:=.sl [[j 1],[j 1],[j 0],[j 2]]
def pv202:PV:=.sl [[j 2],[j 0],[j 0],[j 0],[j 1],[j 1]]
def pv203:PV:=.sl [[j 2],[j 0],[j 0],[j 1],[j 1]]
def pv204:PV:=.sl [[j 2],[j 0],[j 1],[j 0],[j 0],[j 1]]
def pv205:PV:=.sl [[j 2],[j 0],[j 1],[j 1]]
def pv206:PV:=.sl [[bt,.sl [[u 1]],pv153],[bf,.sl [[u 1]],pv154],[bt,.sl [[u 1]],pv155],[bf,.sl [[u 1]],pv156],[bf,.sl [[u 1]],pv157],[bt,.sl [[u 1]],pv158],[bf,.sl [[u 1]],pv159],[bt,.sl [[u 1]],pv160],[bf,.sl [[u 1]],pv161],[bt,.sl [[u 1]],pv195],[bt,.sl [[u 1]],pv196],[bf,.sl [[u 1]],pv90],[bf,.sl [[u 1]],pv168],[bt,.sl [[u 1]],pv197],[bt,.sl [[u 1]],pv198],[bf,.sl [[u 1]],pv171],[bt,.sl [[u 1]],pv199],[bf,.sl [[u 2]],pv200],[bt,.sl [[u 1]],pv201],[bt,.sl [[u 1]],pv202],[bf,.sl [[u 1]],pv203],[bf,.sl [[u 1]],pv204],[bt,.sl [[u 1]],pv205]]
def pv207:PV:=.sl [[bt,.sl [[u 1]],pv104],[bf,.sl [[u 1]],pv108],[bf,.sl [[u 1]],pv112],[bt,.sl [[u 1]],.sl [[j 1],[j 1]]]]
def pv208:PV:=.sl [[bt,.sl [[u 1]],pv102],[bf,.sl [[u 1]],pv114],[bf,.sl [[u 1]],pv110],[bt,.sl [[u 1]],.sl [[j 1],[j 1]]]]
def pv209:PV:=.sl [[bf,.sl [[u 1]],pv121],[bt,.sl [[u 1]],pv122],[bf,.sl [[u 1]],pv118],[bt,.sl [[u 1]],pv119]]
def pv210:PV:=.sl [[bt,.sl [[u 1]],pv104],[bf,.sl [[u 1]],pv102],[bf,.sl [[u 1]],pv108],[bt,.sl [[u 1]],pv114],[bt,.sl [[u 1]],pv110],[bf,.sl [[u 1]],pv112]]
def pv211:PV:=.sl [[bt,.sl [[u 1]],pv195],[bf,.sl [[u 1]],pv162],[bf,.sl [[u 1]],pv163],[bt,.sl [[u 1]],pv196],[bf,.sl [[u 1]],pv164],[bt,.sl [[u 1]],pv165],[bt,.sl [[u 1]],pv166],[bf,.sl [[u 1]],pv167],[bt,.sl [[u 1]],pv197],[bf,.sl [[u 1]],pv169],[bf,.sl [[u 1]],pv170],[bt,.sl [[u 1]],pv198],[bt,.sl [[u 1]],pv199],[bf,.sl [[u 1]],pv172],[bf,.sl [[u 2]],pv200],[bt,.sl [[u 1]],pv201],[bt,.sl [[u 2]],pv173],[bf,.sl [[u 1]],pv174],[bt,.sl [[u 1]],pv202],[bf,.sl [[u 1]],pv203],[bf,.sl [[u 1]],pv204],[bt,.sl [[u 1]],pv205]]
def pv212:PV:=.sl [[bf,.sl [[u 1]],pv195],[bt,.sl [[u 1]],pv162],[bt,.sl [[u 1]],pv163],[bf,.sl [[u 1]],pv196],[bt,.sl [[u 1]],pv164],[bf,.sl [[u 1]],pv165],[bf,.sl [[u 1]],pv166],[bt,.sl [[u 1]],pv167],[bf,.sl [[u 1]],pv197],[bt,.sl [[u 1]],pv169],[bt,.sl [[u 1]],pv170],[bf,.sl [[u 1]],pv198],[bf,.sl [[u 1]],pv199],[bt,.sl [[u 1]],pv172],[bt,.sl [[u 2]],pv200],[bf,.sl [[u 1]],pv201],[bf,.sl [[u 2]],pv173],[bt,.sl [[u 1]],pv174],[bf,.sl [[u 1]],pv202],[bt,.sl [[u 1]],pv203],[bt,.sl [[u 1]],pv204],[bf,.sl [[u 1]],pv205]]
def pv213:PV:=.sl [[bt,.sl [[u 1]],pv104],[bf,.sl [[u 1]],pv102]]
def pv214:PV:=.sl [[bf,.sl [[u 1]],pv108],[bt,.sl [[u 1]],pv110]]
def pv215:PV:=.sl [[bt,.sl [[u 1]],pv114],[bf,.sl [[u 1]],pv112]]
def pv216:PV:=.sl [[j 6,.nsl,.sl [],pv95,.sl [],.sl [],.sl []]]
def pv217:PV:=.sl [[j 2],[j 5071],[j 2329],[j 1783],[j 3433],[j 7279]]
def pv218:PV:=.sl [[j 437],[j 3130],[j 8019],[j 5097],[j 4371],[j 5841]]
def pv219:PV:=.sl [[j 4263],[j 4580],[j 7093],[j 1795],[j 8700],[j 7794]]
def pv220:PV:=.sl [[j 2],[j 1],[j 2],[j 0],[j 0],[j 2]]
def pv221:PV:=.sl [[j 0],[j 1],[j 4],[j 4],[j 1],[j 0]]
def pv222:PV:=.sl [[j 2],[j 6],[j 4],[j 3],[j 3],[j 4]]
def pv223:PV:=.sl [[j 5],[j 3],[j 2],[j 2],[j 3],[j 5]]
def pv224:PV:=.sl [[j 2],[j 7],[j 1],[j 10],[j 8],[j 8]]
def pv225:PV:=.sl [[j 12],[j 8],[j 6],[j 6],[j 8],[j 12]]
def pv226:PV:=.sl [[j 2],[j 43],[j 10],[j 4],[j 25],[j 73]]
def pv227:PV:=.sl [[j 89],[j 80],[j 98],[j 42],[j 13],[j 11]]
def pv228:PV:=.sl [[j 2],[j 74],[j 22],[j 103],[j 60],[j 150]]
def pv229:PV:=.sl [[j 106],[j 34],[j 95],[j 32],[j 102],[j 48]]
def pv230:PV:=.sl [[j 2],[j 444727],[j 150523],[j 117393],[j 345337],[j 834355]]
def pv231:PV:=.sl [[j 734134],[j 871784],[j 270505],[j 930303],[j 851172],[j 33112]]
def pv232:PV:=.sl [[j 2],[j 231059396],[j 923609202],[j 2077649420],[j 1545696403],[j 1475233798]]
def pv233:PV:=.sl [[j 62734320],[j 1952491616],[j 8772030],[j 674026503],[j 1800771388],[j 1241523038]]
def pv234:PV:=.sl [[j 2],[j 5071],[j 1]]
def pv235:PV:=.sl [[j 2329],[j 1783],[j 1]]
def pv236:PV:=.sl [[j 3433],[j 7279],[j 1]]
def pv237:PV:=.sl [[j 4511],[j 1104],[j 4178]]
def pv238:PV:=.sl [[j 2208],[j 6576],[j 2019]]
def pv239:PV:=.sl [[j 3288],[j 2327],[j 1467]]
def pv240:PV:=.sl [[j 8903],[j 4511],[j 2929]]
def pv241:PV:=.sl [[j 3431],[j 2208],[j 681]]
def pv242:PV:=.sl [[j 7680],[j 3288],[j 6397]]
def pv243:PV:=.sl [[pv234],[pv235],[pv236],[pv237],[pv238],[pv239],[pv240],[pv241],[pv242]]
def pv244:PV:=.sl [[j 437],[j 3130],[j 1]]
def pv245:PV:=.sl [[j 8019],[j 5097],[j 1]]
def pv246:PV:=.sl [[j 4371],[j 5841],[j 1]]
def pv247:PV:=.sl [[j 9263],[j 6359],[j 2814]]
def pv248:PV:=.sl [[j 2711],[j 6073],[j 929]]
def pv249:PV:=.sl [[j 8040],[j 7582],[j 3921]]
def pv250:PV:=.sl [[j 3648],[j 9263],[j 4033]]
def pv251:PV:=.sl [[j 3934],[j 2711],[j 7025]]
def pv252:PV:=.sl [[j 2425],[j 8040],[j 8956]]
def pv253:PV:=.sl [[pv244],[pv245],[pv246],[pv247],[pv248],[pv249],[pv250],[pv251],[pv252]]
def pv254:PV:=.sl [[j 2],[j 1],[j 1]]
def pv255:PV:=.sl [[j 0],[j 2],[j 1]]
def pv256:PV:=.sl [[j 3],[j 3],[j 4]]
def pv257:PV:=.sl [[j 1],[j 2],[j 1]]
def pv258:PV:=.sl [[j 1],[j 0],[j 3]]
def pv259:PV:=.sl [[j 2],[j 3],[j 3]]
def pv260:PV:=.sl [[j 3],[j 1],[j 4]]
def pv261:PV:=.sl [[j 0],[j 1],[j 3]]
def pv262:PV:=.sl [[pv254],[pv192],[pv255],[pv256],[pv257],[pv258],[pv259],[pv260],[pv261]]
def pv263:PV:=.sl [[j 4],[j 4],[j 1]]
def pv264:PV:=.sl [[j 4],[j 2],[j 1]]
def pv265:PV:=.sl [[j 2],[j 4],[j 1]]
def pv266:PV:=.sl [[j 3],[j 4],[j 1]]
def pv267:PV:=.sl [[j 1],[j 4],[j 0]]
def pv268:PV:=.sl [[j 1],[j 2],[j 4]]
def pv269:PV:=.sl [[pv114],[pv263],[pv119],[pv264],[pv263],[pv265],[pv266],[pv267],[pv268]]
def pv270:PV:=.sl [[j 2],[j 6],[j 1]]
def pv271:PV:=.sl [[j 4],[j 3],[j 1]]
def pv272:PV:=.sl [[j 6],[j 6],[j 0]]
def pv273:PV:=.sl [[j 5],[j 6],[j 3]]
def pv274:PV:=.sl [[j 3],[j 2],[j 3]]
def pv275:PV:=.sl [[j 1],[j 6],[j 4]]
def pv276:PV:=.sl [[j 1],[j 5],[j 2]]
def pv277:PV:=.sl [[j 5],[j 3],[j 1]]
def pv278:PV:=.sl [[pv270],[pv271],[pv266],[pv272],[pv273],[pv274],[pv275],[pv276],[pv277]]
def pv279:PV:=.sl [[j 2],[j 2],[j 1]]
def pv280:PV:=.sl [[j 3],[j 5],[j 1]]
def pv281:PV:=.sl [[j 4],[j 1],[j 4]]
def pv282:PV:=.sl [[j 2],[j 2],[j 5]]
def pv283:PV:=.sl [[j 1],[j 4],[j 4]]
def pv284:PV:=.sl [[j 6],[j 4],[j 0]]
def pv285:PV:=.sl [[j 5],[j 2],[j 0]]
def pv286:PV:=.sl [[j 3],[j 1],[j 0]]
def pv287:PV:=.sl [[pv277],[pv279],[pv280],[pv281],[pv282],[pv283],[pv284],[pv285],[pv286]]
def pv288:PV:=.sl [[j 2],[j 7],[j 1]]
def pv289:PV:=.sl [[j 1],[j 10],[j 1]]
def pv290:PV:=.sl [[j 8],[j 8],[j 1]]
def pv291:PV:=.sl [[j 2],[j 7],[j 6]]
def pv292:PV:=.sl [[j 1],[j 7],[j 1]]
def pv293:PV:=.sl [[j 10],[j 12],[j 0]]
def pv294:PV:=.sl [[j 6],[j 2],[j 0]]
def pv295:PV:=.sl [[j 6],[j 1],[j 10]]
def pv296:PV:=.sl [[j 1],[j 10],[j 3]]
def pv297:PV:=.sl [[pv288],[pv289],[pv290],[pv291],[pv292],[pv293],[pv294],[pv295],[pv296]]
def pv298:PV:=.sl [[j 12],[j 8],[j 1]]
def pv299:PV:=.sl [[j 6],[j 6],[j 1]]
def pv300:PV:=.sl [[j 8],[j 12],[j 1]]
def pv301:PV:=.sl [[j 7],[j 2],[j 11]]
def pv302:PV:=.sl [[j 4],[j 4],[j 11]]
def pv303:PV:=.sl [[j 2],[j 7],[j 11]]
def pv304:PV:=.sl [[j 11],[j 7],[j 7]]
def pv305:PV:=.sl [[j 9],[j 4],[j 0]]
def pv306:PV:=.sl [[j 6],[j 2],[j 6]]
def pv307:PV:=.sl [[pv298],[pv299],[pv300],[pv301],[pv302],[pv303],[pv304],[pv305],[pv306]]
def pv308:PV:=.sl [[j 2],[j 43],[j 1]]
def pv309:PV:=.sl [[j 10],[j 4],[j 1]]
def pv310:PV:=.sl [[j 25],[j 73],[j 1]]
def pv311:PV:=.sl [[j 32],[j 15],[j 24]]
def pv312:PV:=.sl [[j 30],[j 78],[j 20]]
def pv313:PV:=.sl [[j 39],[j 8],[j 83]]
def pv314:PV:=.sl [[j 86],[j 32],[j 68]]
def pv315:PV:=.sl [[j 23],[j 30],[j 54]]
def pv316:PV:=.sl [[j 93],[j 39],[j 80]]
def pv317:PV:=.sl [[pv308],[pv309],[pv310],[pv311],[pv312],[pv313],[pv314],[pv315],[pv316]]
def pv318:PV:=.sl [[j 89],[j 80],[j 1]]
def pv319:PV:=.sl [[j 98],[j 42],[j 1]]
def pv320:PV:=.sl [[j 13],[j 11],[j 1]]
def pv321:PV:=.sl [[j 31],[j 16],[j 27]]
def pv322:PV:=.sl [[j 32],[j 76],[j 61]]
def pv323:PV:=.sl [[j 38],[j 9],[j 39]]
def pv324:PV:=.sl [[j 85],[j 31],[j 55]]
def pv325:PV:=.sl [[j 25],[j 32],[j 44]]
def pv326:PV:=.sl [[j 92],[j 38],[j 2]]
def pv327:PV:=.sl [[pv318],[pv319],[pv320],[pv321],[pv322],[pv323],[pv324],[pv325],[pv326]]
def pv328:PV:=.sl [[j 2],[j 74],[j 1]]
def pv329:PV:=.sl [[j 22],[j 103],[j 1]]
def pv330:PV:=.sl [[j 60],[j 150],[j 1]]
def pv331:PV:=.sl [[j 210],[j 38],[j 204]]
def pv332:PV:=.sl [[j 76],[j 199],[j 28]]
def pv333:PV:=.sl [[j 228],[j 20],[j 120]]
def pv334:PV:=.sl [[j 219],[j 210],[j 213]]
def pv335:PV:=.sl [[j 58],[j 76],[j 148]]
def pv336:PV:=.sl [[j 237],[j 228],[j 153]]
def pv337:PV:=.sl [[pv328],[pv329],[pv330],[pv331],[pv332],[pv333],[pv334],[pv335],[pv336]]
def pv338:PV:=.sl [[j 106],[j 34],[j 1]]
def pv339:PV:=.sl [[j 95],[j 32],[j 1]]
def pv340:PV:=.sl [[j 102],[j 48],[j 1]]
def pv341:PV:=.sl [[j 241],[j 7],[j 11]]
def pv342:PV:=.sl [[j 14],[j 4],[j 179]]
def pv343:PV:=.sl [[j 2],[j 246],[j 162]]
def pv344:PV:=.sl [[j 250],[j 241],[j 1]]
def pv345:PV:=.sl [[j 253],[j 14],[j 189]]
def pv346:PV:=.sl [[j 11],[j 2],[j 67]]
def pv347:PV:=.sl [[pv338],[pv339],[pv340],[pv341],[pv342],[pv343],[pv344],[pv345],[pv346]]
def pv348:PV:=.sl [[j 2],[j 444727],[j 1]]
def pv349:PV:=.sl [[j 150523],[j 117393],[j 1]]
def pv350:PV:=.sl [[j 345337],[j 834355],[j 1]]
def pv351:PV:=.sl [[j 283041],[j 194814],[j 216077]]
def pv352:PV:=.sl [[j 389628],[j 654668],[j 558555]]
def pv353:PV:=.sl [[j 327334],[j 150521],[j 793391]]
def pv354:PV:=.sl [[j 805189],[j 283041],[j 792449]]
def pv355:PV:=.sl [[j 345335],[j 389628],[j 833154]]
def pv356:PV:=.sl [[j 849482],[j 327334],[j 374403]]
def pv357:PV:=.sl [[pv348],[pv349],[pv350],[pv351],[pv352],[pv353],[pv354],[pv355],[pv356]]
def pv358:PV:=.sl [[j 734134],[j 871784],[j 1]]
def pv359:PV:=.sl [[j 270505],[j 930303],[j 1]]
def pv360:PV:=.sl [[j 851172],[j 33112],[j 1]]
def pv361:PV:=.sl [[j 897191],[j 580667],[j 445111]]
def pv362:PV:=.sl [[j 161331],[j 882965],[j 332659]]
def pv363:PV:=.sl [[j 941484],[j 536374],[j 790253]]
def pv364:PV:=.sl [[j 419336],[j 897191],[j 696241]]
def pv365:PV:=.sl [[j 117038],[j 161331],[j 467755]]
def pv366:PV:=.sl [[j 463629],[j 941484],[j 836010]]
def pv367:PV:=.sl [[pv358],[pv359],[pv360],[pv361],[pv362],[pv363],[pv364],[pv365],[pv366]]
def pv368:PV:=.sl [[j 2],[j 231059396],[j 1]]
def pv369:PV:=.sl [[j 923609202],[j 2077649420],[j 1]]
def pv370:PV:=.sl [[j 1545696403],[j 1475233798],[j 1]]
def pv371:PV:=.sl [[j 602415622],[j 622087201],[j 1654759533]]
def pv372:PV:=.sl [[j 1244174402],[j 601787246],[j 1853480277]]
def pv373:PV:=.sl [[j 300893623],[j 923609200],[j 1666028253]]
def pv374:PV:=.sl [[j 1525396446],[j 602415622],[j 481388963]]
def pv375:PV:=.sl [[j 1545696401],[j 1244174402],[j 1997071389]]
def pv376:PV:=.sl [[j 1223874447],[j 300893623],[j 1816506942]]
def pv377:PV:=.sl [[pv368],[pv369],[pv370],[pv371],[pv372],[pv373],[pv374],[pv375],[pv376]]
def pv378:PV:=.sl [[j 62734320],[j 1952491616],[j 1]]
def pv379:PV:=.sl [[j 8772030],[j 674026503],[j 1]]
def pv380:PV:=.sl [[j 1800771388],[j 1241523038],[j 1]]
def pv381:PV:=.sl [[j 1579987112],[j 1791999358],[j 430122668]]
def pv382:PV:=.sl [[j 1436515069],[j 409446579],[j 302645458]]
def pv383:PV:=.sl [[j 1278465113],[j 2093521357],[j 146532643]]
def pv384:PV:=.sl [[j 355484289],[j 1579987112],[j 1278760490]]
def pv385:PV:=.sl [[j 1738037068],[j 1436515069],[j 1886765329]]
def pv386:PV:=.sl [[j 53962290],[j 1278465113],[j 1129441475]]
def pv387:PV:=.sl [[pv378],[pv379],[pv380],[pv381],[pv382],[pv383],[pv384],[pv385],[pv386]]
def pv388:PV:=.sl [[j 1,.sl [[j 0],[j 1]]],[j 1,.sl [[j 0],[j 2]]],[j 1,.sl [[j 1],[j 2]]],[j 2,.sl [[j 0],[j 3]]],[j 2,.sl [[j 0],[j 7]]],[j 2,.sl [[j 0],[j 8]]],[j 2,.sl [[j 1],[j 4]]],[j 2,.sl [[j 1],[j 6]]],[j 2,.sl [[j 1],[j 8]]],[j 2,.sl [[j 2],[j 5]]],[j 2,.sl [[j 2],[j 6]]],[j 2,.sl [[j 2],[j 7]]],[j 3,.sl [[j 3],[j 4]]],[j 3,.sl [[j 3],[j 5]]],[j 3,.sl [[j 3],[j 6]]],[j 3,.sl [[j 3],[j 7]]],[j 3,.sl [[j 3],[j 8]]],[j 3,.sl [[j 4],[j 5]]],[j 3,.sl [[j 4],[j 6]]],[j 3,.sl [[j 4],[j 7]]],[j 3,.sl [[j 4],[j 8]]],[j 3,.sl [[j 5],[j 6]]],[j 3,.sl [[j 5],[j 7]]],[j 3,.sl [[j 5],[j 8]]],[j 3,.sl [[j 6],[j 7]]],[j 3,.sl [[j 6],[j 8]]],[j 3,.sl [[j 7],[j 8]]],[j 4,.sl [[j 3],[j 4]]],[j 4,.sl [[j 3],[j 5]]],[j 4,.sl [[j 3],[j 7]]],[j 4,.sl [[j 3],[j 8]]],[j 4,.sl [[j 4],[j 5]]],[j 4,.sl [[j 4],[j 6]]],[j 4,.sl [[j 4],[j 8]]],[j 4,.sl [[j 5],[j 6]]],[j 4,.sl [[j 5],[j 7]]],[j 4,.sl [[j 6],[j 7]]],[j 4,.sl [[j 6],[j 8]]],[j 4,.sl [[j 7],[j 8]]],[j 6,pv1],[j 7,pv2],[j 7,pv74],[j 7,pv75],[j 7,pv76],[j 7,pv77],[j 7,pv78],[j 7,pv79],[j 7,pv80],[j 7,pv81],[j 7,pv82],[j 7,pv83],[j 7,pv84],[j 7,pv85],[j 7,pv86],[j 7,pv87],[j 7,pv88],[j 7,pv3],[j 5,pv89],[j 5,pv90],[j 5,pv91]]
def pv389:PV:=.sl [[j 7,pv3]]
def g107_0:List Fact:=[⟨187195014,107,[.agg [.p (bf),.p (.sl []),.p (bf),.p (.sl [[u 1]])]],.p (bt)⟩,⟨187253562,107,[.agg [.p (bf),.p (.sl [[u 4]]),.p (bf),.p (.sl [[u 1]])]],.p (bt)⟩,⟨187253316,107,[.agg [.p (bf),.p (.sl [[u 1]]),.p (bf),.p (.sl [[u 1]])]],.p (bt)⟩,⟨187253480,107,[.agg [.p (bf),.p (.sl [[u 3]]),.p (bf),.p (.sl [[u 1]])]],.p (bt)⟩]
def Q107:List Fact:=g107_0
noncomputable def XQ1:XR:=orX (onX 107 (factX Q107)) XQ0
def g18_0:List Fact:=[⟨21288,18,[.p (j 10007)],.p (bt)⟩,⟨1282,18,[.p (j 4)],.p (bf)⟩,⟨1284,18,[.p (j 5)],.p (bt)⟩,⟨1288,18,[.p (j 7)],.p (bt)⟩,⟨1300,18,[.p (j 13)],.p (bt)⟩,⟨1476,18,[.p (j 101)],.p (bt)⟩,⟨1788,18,[.p (j 257)],.p (bt)⟩,⟨2001280,18,[.p (j 1000003)],.p (bt)⟩,⟨1274,18,[.p (j 2147483647)],.p (bt)⟩]
def Q18:List Fact:=g18_0
noncomputable def XQ2:XR:=orX (onX 18 (factX Q18)) XQ1
def g117_0:List Fact:=[⟨1284,117,[.p (j 5)],.p (bt)⟩,⟨1288,117,[.p (j 7)],.p (bt)⟩,⟨1300,117,[.p (j 13)],.p (bt)⟩,⟨1476,117,[.p (j 101)],.p (bt)⟩,⟨1788,117,[.p (j 257)],.p (bt)⟩,⟨21288,117,[.p (j 10007)],.p (bt)⟩,⟨2001280,117,[.p (j 1000003)],.p (bt)⟩,⟨1274,117,[.p (j 2147483647)],.p (bt)⟩]
def Q117:List Fact:=g117_0
noncomputable def XQ3:XR:=orX (onX 117 (factX Q117)) XQ2
def g157_0:List Fact:=[⟨1156750277,157,[.agg [.p (j 6),.p (pv0),.p (pv10),.p (.sl [])]],.p (j 0)⟩,⟨1104204255,157,[.agg [.p (j 6),.p (pv11),.p (pv10),.p (.sl [])]],.p (j 0)⟩,⟨1515013634,157,[.agg [.p (j 6),.p (pv12),.p (pv10),.p (.sl [])]],.p (j 0)⟩,⟨558434225,157,[.agg [.p (j 6),.p (pv13),.p (pv10),.p (.sl [])]],.p (j 0)⟩,⟨730921072,157,[.agg [.p (j 6),.p (pv14),.p (pv10),.p (.sl [])]],.p (j 0)⟩,⟨1426927300,157,[.agg [.p (j 6),.p (pv15),.p (pv10),.p (.sl [])]],.p (j 0)⟩]
def g157_1:List Fact:=[⟨1949163199,157,[.agg [.p (j 6),.p (pv16),.p (pv10),.p (.sl [])]],.p (j 0)⟩,⟨903766489,157,[.agg [.p (j 6),.p (pv17),.p (pv10),.p (.sl [])]],.p (j 0)⟩,⟨1251769603,157,[.agg [.p (j 6),.p (pv18),.p (pv10),.p (.sl [])]],.p (j 0)⟩,⟨148757754,157,[.agg [.p (j 6),.p (pv19),.p (pv10),.p (.sl [])]],.p (j 0)⟩,⟨1076611906,157,[.agg [.p (j 6),.p (pv20),.p (pv10),.p (.sl [])]],.p (j 0)⟩,⟨1598847805,157,[.agg [.p (j 6),.p (pv21),.p (pv10),.p (.sl [])]],.p (j 0)⟩]
def g157_2:List Fact:=[⟨2121083704,157,[.agg [.p (j 6),.p (pv22),.p (pv10),.p (.sl [])]],.p (j 0)⟩,⟨576202034,157,[.agg [.p (j 6),.p (pv23),.p (pv10),.p (.sl [])]],.p (j 0)⟩,⟨676625646,157,[.agg [.p (j 6),.p (pv24),.p (pv10),.p (.sl [])]],.p (j 0)⟩,⟨549598143,157,[.agg [.p (j 6),.p (pv25),.p (pv10),.p (.sl [])]],.p (j 0)⟩,⟨422570640,157,[.agg [.p (j 6),.p (pv26),.p (pv10),.p (.sl [])]],.p (j 0)⟩,⟨295543137,157,[.agg [.p (j 6),.p (pv27),.p (pv10),.p (.sl [])]],.p (j 0)⟩]
def g157_3:List Fact:=[⟨1993044805,157,[.agg [.p (j 6),.p (pv28),.p (pv10),.p (.sl [])]],.p (j 0)⟩,⟨1866017302,157,[.agg [.p (j 6),.p (pv29),.p (pv10),.p (.sl [])]],.p (j 0)⟩,⟨1738989799,157,[.agg [.p (j 6),.p (pv30),.p (pv10),.p (.sl [])]],.p (j 0)⟩,⟨1611962296,157,[.agg [.p (j 6),.p (pv31),.p (pv10),.p (.sl [])]],.p (j 0)⟩,⟨1034952814,157,[.agg [.p (j 6),.p (pv32),.p (pv10),.p (.sl [])]],.p (j 0)⟩,⟨907925311,157,[.agg [.p (j 6),.p (pv33),.p (pv10),.p (.sl [])]],.p (j 0)⟩]
def g157_4:List Fact:=[⟨780897808,157,[.agg [.p (j 6),.p (pv34),.p (pv10),.p (.sl [])]],.p (j 0)⟩,⟨1416176089,157,[.agg [.p (j 6),.p (pv35),.p (pv10),.p (.sl [])]],.p (j 0)⟩,⟨1289148586,157,[.agg [.p (j 6),.p (pv36),.p (pv10),.p (.sl [])]],.p (j 0)⟩,⟨1797399364,157,[.agg [.p (j 6),.p (pv37),.p (pv10),.p (.sl [])]],.p (j 0)⟩,⟨1933176787,157,[.agg [.p (j 6),.p (pv38),.p (pv10),.p (.sl [])]],.p (j 0)⟩,⟨2030674806,157,[.agg [.p (j 6),.p (pv39),.p (pv10),.p (.sl [])]],.p (j 0)⟩]
def g157_5:List Fact:=[⟨1292899894,157,[.agg [.p (j 6),.p (pv40),.p (pv10),.p (.sl [])]],.p (j 0)⟩,⟨924012438,157,[.agg [.p (j 6),.p (pv41),.p (pv10),.p (.sl [])]],.p (j 0)⟩,⟨1202535911,157,[.agg [.p (j 6),.p (pv42),.p (pv10),.p (.sl [])]],.p (j 0)⟩,⟨833648455,157,[.agg [.p (j 6),.p (pv43),.p (pv10),.p (.sl [])]],.p (j 0)⟩,⟨95873543,157,[.agg [.p (j 6),.p (pv44),.p (pv10),.p (.sl [])]],.p (j 0)⟩,⟨5509560,157,[.agg [.p (j 6),.p (pv45),.p (pv10),.p (.sl [])]],.p (j 0)⟩]
def g157_6:List Fact:=[⟨1784105751,157,[.agg [.p (j 6),.p (pv46),.p (pv10),.p (.sl [])]],.p (j 0)⟩,⟨386732835,157,[.agg [.p (j 6),.p (pv47),.p (pv10),.p (.sl [])]],.p (j 0)⟩,⟨17845379,157,[.agg [.p (j 6),.p (pv48),.p (pv10),.p (.sl [])]],.p (j 0)⟩,⟨767956110,157,[.agg [.p (j 6),.p (pv49),.p (pv10),.p (.sl [])]],.p (j 0)⟩,⟨1990082263,157,[.agg [.p (j 6),.p (pv50),.p (pv10),.p (.sl [])]],.p (j 0)⟩,⟨1722612120,157,[.agg [.p (j 6),.p (pv51),.p (pv10),.p (.sl [])]],.p (j 0)⟩]
def g157_7:List Fact:=[⟨425512938,157,[.agg [.p (j 6),.p (pv52),.p (pv10),.p (.sl [])]],.p (j 0)⟩,⟨1275897403,157,[.agg [.p (j 6),.p (pv53),.p (pv10),.p (.sl [])]],.p (j 0)⟩,⟨2078132671,157,[.agg [.p (j 6),.p (pv54),.p (pv10),.p (.sl [])]],.p (j 0)⟩,⟨1631417954,157,[.agg [.p (j 6),.p (pv55),.p (pv10),.p (.sl [])]],.p (j 0)⟩,⟨947012578,157,[.agg [.p (j 6),.p (pv56),.p (pv10),.p (.sl [])]],.p (j 0)⟩]
def g157_8:List Fact:=[⟨1797397043,157,[.agg [.p (j 6),.p (pv57),.p (pv10),.p (.sl [])]],.p (j 0)⟩,⟨1963376132,157,[.agg [.p (j 6),.p (pv58),.p (pv10),.p (.sl [])]],.p (j 0)⟩,⟨870040311,157,[.agg [.p (j 6),.p (pv59),.p (pv10),.p (.sl [])]],.p (j 0)⟩,⟨1720424776,157,[.agg [.p (j 6),.p (pv60),.p (pv10),.p (.sl [])]],.p (j 0)⟩,⟨1036019400,157,[.agg [.p (j 6),.p (pv61),.p (pv10),.p (.sl [])]],.p (j 0)⟩]
def g157_9:List Fact:=[⟨1886403865,157,[.agg [.p (j 6),.p (pv62),.p (pv10),.p (.sl [])]],.p (j 0)⟩,⟨2052382954,157,[.agg [.p (j 6),.p (pv63),.p (pv10),.p (.sl [])]],.p (j 0)⟩,⟨1125026222,157,[.agg [.p (j 6),.p (pv64),.p (pv10),.p (.sl [])]],.p (j 0)⟩,⟨1975410687,157,[.agg [.p (j 6),.p (pv65),.p (pv10),.p (.sl [])]],.p (j 0)⟩,⟨2141389776,157,[.agg [.p (j 6),.p (pv66),.p (pv10),.p (.sl [])]],.p (j 0)⟩]
def g157_10:List Fact:=[⟨331411892,157,[.agg [.p (j 6),.p (pv67),.p (pv10),.p (.sl [])]],.p (j 0)⟩,⟨606528495,157,[.agg [.p (j 6),.p (pv68),.p (pv10),.p (.sl [])]],.p (j 0)⟩,⟨207550588,157,[.agg [.p (j 6),.p (pv69),.p (pv10),.p (.sl [])]],.p (j 0)⟩,⟨1024973699,157,[.agg [.p (j 6),.p (pv70),.p (pv10),.p (.sl [])]],.p (j 0)⟩]
def Q157:List Fact:=g157_0++(g157_1++(g157_2++(g157_3++(g157_4++(g157_5++(g157_6++(g157_7++(g157_8++(g157_9++(g157_10))))))))))
noncomputable def XQ4:XR:=orX (onX 157 (factX Q157)) XQ3
def q87_0:SFact:=⟨1886981861,87,[.p (pv71)],[],.tup [.agg [.p (j 6),.ar 4 65 0 66,.ar 5 8 0 9,.lit []],.p (j 0)],[.cells [.p (j 6),.ar 4 65 0 66,.ar 5 8 0 9,.lit []],.cells [.p (j 6),.ar 4 65 0 66,.ar 5 8 0 9,.lit [],.map 33,.p (j 6)],.cells [.p (.v (Y [65])),.p (j 1),.p (.sl []),.p (bf),.p (.sl []),.p (bf),.p (.sl [[u 1]]),.p (bf),.p (.sl []),.p (bf),.p (.sl [[u 1]]),.p (j 0)],.map [(Y [120,120],.p (j 0)),(Y [121,121],.p (j 1))],.arr 3 none 65 [[j 1,j 0,j 0],[j 1,j 1,j 0],[j 2,j 1,j 0],[j 1,j 2,j 0],[j 1,j 3,j 0],[j 2,j 1,j 0],[j 1,j 4,j 0],[j 1,j 5,j 0],[j 2,j 1,j 0],[j 5,j 4,j 8],[j 5,j 5,j 7],[j 4,j 9,j 10],[j 5,j 5,j 6],[j 5,j 3,j 8],[j 4,j 12,j 13],[j 5,j 3,j 7],[j 5,j 4,j 6],[j 4,j 15,j 16],[j 5,j 7,j 2],[j 5,j 8,j 1],[j 4,j 18,j 19],[j 5,j 8,j 0],[j 5,j 6,j 2],[j 4,j 21,j 22],[j 5,j 6,j 1],[j 5,j 7,j 0],[j 4,j 24,j 25],[j 5,j 1,j 5],[j 5,j 2,j 4],[j 4,j 27,j 28],[j 5,j 2,j 3],[j 5,j 0,j 5],[j 4,j 30,j 31],[j 5,j 0,j 4],[j 5,j 1,j 3],[j 4,j 33,j 34],[j 2,j 0,j 0],[j 5,j 1,j 36],[j 5,j 2,j 14],[j 4,j 37,j 38],[j 5,j 2,j 11],[j 5,j 0,j 36],[j 4,j 40,j 41],[j 5,j 0,j 14],[j 5,j 1,j 11],[j 4,j 43,j 44],[j 2,j 0,j 0],[j 5,j 4,j 46],[j 5,j 5,j 23],[j 4,j 47,j 48],[j 5,j 5,j 20],[j 5,j 3,j 46],[j 4,j 50,j 51],[j 5,j 3,j 23],[j 5,j 4,j 20],[j 4,j 53,j 54],[j 2,j 0,j 0],[j 5,j 7,j 56],[j 5,j 8,j 32],[j 4,j 57,j 58],[j 5,j 8,j 29],[j 5,j 6,j 56],[j 4,j 60,j 61],[j 5,j 6,j 32],[j 5,j 7,j 29],[j 4,j 63,j 64]],.arr 1 none 8 [[pv1],[pv2],[pv3],[pv4],[pv5],[pv6],[pv7],[pv8],[pv9]],.cells [.p (.v (Y [66])),.p (j 1),.p (.sl []),.p (bf),.p (.sl [[u 4]]),.p (bf),.p (.sl [[u 1]]),.p (bf),.p (.sl []),.p (bf),.p (.sl [[u 1]]),.p (j 0)],.map [(Y [120,120],.p (j 3)),(Y [121,121],.p (j 4))],.cells [.p (.v (Y [67])),.p (j 1),.p (.sl []),.p (bf),.p (.sl [[u 1]]),.p (bf),.p (.sl [[u 1]]),.p (bf),.p (.sl [[u 3]]),.p (bf),.p (.sl [[u 1]]),.p (j 0)],.map [(Y [120,120],.p (j 6)),(Y [121,121],.p (j 7))],.cells [.p (.v (Y [97])),.p (j 3),.p (.sl [[j 1],[j 2]]),.p (bf),.p (.sl []),.p (bf),.p (.sl []),.p (bf),.p (.sl []),.p (bf),.p (.sl []),.p (j 0)],.arr 1 (some 1) 1 [[pv2],[pv3]],.arr 1 none 1 [[j 1],[j 1]],.map [(Y [120,49],.p (j 3)),(Y [121,49],.p (j 4)),(Y [122,49],.p (j 5)),(Y [120,50],.p (j 6)),(Y [121,50],.p (j 7)),(Y [122,50],.p (j 8))],.cells [.p (.v (Y [98])),.p (j 3),.p (.sl [[j 2],[j 0]]),.p (bf),.p (.sl []),.p (bf),.p (.sl []),.p (bf),.p (.sl []),.p (bf),.p (.sl []),.p (j 0)],.arr 1 (some 1) 1 [[pv3],[pv1]],.arr 1 none 1 [[j 1],[j 1]],.map [(Y [120,49],.p (j 6)),(Y [121,49],.p (j 7)),(Y [122,49],.p (j 8)),(Y [120,50],.p (j 0)),(Y [121,50],.p (j 1)),(Y [122,50],.p (j 2))],.cells [.p (.v (Y [99])),.p (j 3),.p (.sl [[j 0],[j 1]]),.p (bf),.p (.sl []),.p (bf),.p (.sl []),.p (bf),.p (.sl []),.p (bf),.p (.sl []),.p (j 0)],.arr 1 (some 1) 1 [[pv1],[pv2]],.arr 1 none 1 [[j 1],[j 1]],.map [(Y [120,49],.p (j 0)),(Y [121,49],.p (j 1)),(Y [122,49],.p (j 2)),(Y [120,50],.p (j 3)),(Y [121,50],.p (j 4)),(Y [122,50],.p (j 5))],.cells [.p (.v (Y [112])),.p (j 10),.p (.sl [[j 0],[j 3]]),.p (bf),.p (.sl []),.p (bf),.p (.sl []),.p (bf),.p (.sl []),.p (bf),.p (.sl []),.p (j 0)],.arr 1 (some 1) 1 [[pv1],[pv4]],.arr 1 none 1 [[j 1],[j 2]],.map [(Y [120],.p (j 0)),(Y [121],.p (j 1)),(Y [122],.p (j 2)),(Y [97],.p (j 11)),(Y [98],.p (j 14)),(Y [99],.p (j 17)),(Y [111],.p (j 36))],.cells [.p (.v (Y [113])),.p (j 10),.p (.sl [[j 1],[j 4]]),.p (bf),.p (.sl []),.p (bf),.p (.sl []),.p (bf),.p (.sl []),.p (bf),.p (.sl []),.p (j 0)],.arr 1 (some 1) 1 [[pv2],[pv5]],.arr 1 none 1 [[j 1],[j 2]],.map [(Y [120],.p (j 3)),(Y [121],.p (j 4)),(Y [122],.p (j 5)),(Y [97],.p (j 20)),(Y [98],.p (j 23)),(Y [99],.p (j 26)),(Y [111],.p (j 46))],.cells [.p (.v (Y [114])),.p (j 10),.p (.sl [[j 2],[j 5]]),.p (bf),.p (.sl []),.p (bf),.p (.sl []),.p (bf),.p (.sl []),.p (bf),.p (.sl []),.p (j 0)],.arr 1 (some 1) 1 [[pv3],[pv6]],.arr 1 none 1 [[j 1],[j 2]],.map [(Y [120],.p (j 6)),(Y [121],.p (j 7)),(Y [122],.p (j 8)),(Y [97],.p (j 29)),(Y [98],.p (j 32)),(Y [99],.p (j 35)),(Y [111],.p (j 56))]]⟩
def q87_1:SFact:=⟨1473340542,87,[.p (pv72)],[],.tup [.agg [.p (j 6),.ar 4 65 0 66,.ar 5 8 0 9,.lit []],.p (j 0)],[.cells [.p (j 6),.ar 4 65 0 66,.ar 5 8 0 9,.lit []],.cells [.p (j 6),.ar 4 65 0 66,.ar 5 8 0 9,.lit [],.map 33,.p (j 6)],.cells [.p (.v (Y [65])),.p (j 1),.p (.sl []),.p (.h false 0),.p (.h false 1),.p (bf),.p (.sl [[u 1]]),.p (.h false 2),.p (.h false 3),.p (bf),.p (.sl [[u 1]]),.p (j 0)],.map [(Y [120,120],.p (j 0)),(Y [121,121],.p (j 1))],.arr 3 none 65 [[j 1,j 0,j 0],[j 1,j 1,j 0],[j 2,j 1,j 0],[j 1,j 2,j 0],[j 1,j 3,j 0],[j 2,j 1,j 0],[j 1,j 4,j 0],[j 1,j 5,j 0],[j 2,j 1,j 0],[j 5,j 4,j 8],[j 5,j 5,j 7],[j 4,j 9,j 10],[j 5,j 5,j 6],[j 5,j 3,j 8],[j 4,j 12,j 13],[j 5,j 3,j 7],[j 5,j 4,j 6],[j 4,j 15,j 16],[j 5,j 7,j 2],[j 5,j 8,j 1],[j 4,j 18,j 19],[j 5,j 8,j 0],[j 5,j 6,j 2],[j 4,j 21,j 22],[j 5,j 6,j 1],[j 5,j 7,j 0],[j 4,j 24,j 25],[j 5,j 1,j 5],[j 5,j 2,j 4],[j 4,j 27,j 28],[j 5,j 2,j 3],[j 5,j 0,j 5],[j 4,j 30,j 31],[j 5,j 0,j 4],[j 5,j 1,j 3],[j 4,j 33,j 34],[j 2,j 0,j 0],[j 5,j 1,j 36],[j 5,j 2,j 14],[j 4,j 37,j 38],[j 5,j 2,j 11],[j 5,j 0,j 36],[j 4,j 40,j 41],[j 5,j 0,j 14],[j 5,j 1,j 11],[j 4,j 43,j 44],[j 2,j 0,j 0],[j 5,j 4,j 46],[j 5,j 5,j 23],[j 4,j 47,j 48],[j 5,j 5,j 20],[j 5,j 3,j 46],[j 4,j 50,j 51],[j 5,j 3,j 23],[j 5,j 4,j 20],[j 4,j 53,j 54],[j 2,j 0,j 0],[j 5,j 7,j 56],[j 5,j 8,j 32],[j 4,j 57,j 58],[j 5,j 8,j 29],[j 5,j 6,j 56],[j 4,j 60,j 61],[j 5,j 6,j 32],[j 5,j 7,j 29],[j 4,j 63,j 64]],.arr 1 none 8 [[pv1],[pv2],[pv3],[pv4],[pv5],[pv6],[pv7],[pv8],[pv9]],.cells [.p (.v (Y [66])),.p (j 1),.p (.sl []),.p (.h false 4),.p (.h false 5),.p (bf),.p (.sl [[u 1]]),.p (.h false 6),.p (.h false 7),.p (bf),.p (.sl [[u 1]]),.p (j 0)],.map [(Y [120,120],.p (j 3)),(Y [121,121],.p (j 4))],.cells [.p (.v (Y [67])),.p (j 1),.p (.sl []),.p (.h false 8),.p (.h false 9),.p (bf),.p (.sl [[u 1]]),.p (.h false 10),.p (.h false 11),.p (bf),.p (.sl [[u 1]]),.p (j 0)],.map [(Y [120,120],.p (j 6)),(Y [121,121],.p (j 7))],.cells [.p (.v (Y [97])),.p (j 3),.p (.sl [[j 1],[j 2]]),.p (bf),.p (.sl []),.p (bf),.p (.sl []),.p (bf),.p (.sl []),.p (bf),.p (.sl []),.p (j 0)],.arr 1 (some 1) 1 [[pv2],[pv3]],.arr 1 none 1 [[j 1],[j 1]],.map [(Y [120,49],.p (j 3)),(Y [121,49],.p (j 4)),(Y [122,49],.p (j 5)),(Y [120,50],.p (j 6)),(Y [121,50],.p (j 7)),(Y [122,50],.p (j 8))],.cells [.p (.v (Y [98])),.p (j 3),.p (.sl [[j 2],[j 0]]),.p (bf),.p (.sl []),.p (bf),.p (.sl []),.p (bf),.p (.sl []),.p (bf),.p (.sl []),.p (j 0)],.arr 1 (some 1) 1 [[pv3],[pv1]],.arr 1 none 1 [[j 1],[j 1]],.map [(Y [120,49],.p (j 6)),(Y [121,49],.p (j 7)),(Y [122,49],.p (j 8)),(Y [120,50],.p (j 0)),(Y [121,50],.p (j 1)),(Y [122,50],.p (j 2))],.cells [.p (.v (Y [99])),.p (j 3),.p (.sl [[j 0],[j 1]]),.p (bf),.p (.sl []),.p (bf),.p (.sl []),.p (bf),.p (.sl []),.p (bf),.p (.sl []),.p (j 0)],.arr 1 (some 1) 1 [[pv1],[pv2]],.arr 1 none 1 [[j 1],[j 1]],.map [(Y [120,49],.p (j 0)),(Y [121,49],.p (j 1)),(Y [122,49],.p (j 2)),(Y [120,50],.p (j 3)),(Y [121,50],.p (j 4)),(Y [122,50],.p (j 5))],.cells [.p (.v (Y [112])),.p (j 10),.p (.sl [[j 0],[j 3]]),.p (bf),.p (.sl []),.p (bf),.p (.sl []),.p (bf),.p (.sl []),.p (bf),.p (.sl []),.p (j 0)],.arr 1 (some 1) 1 [[pv1],[pv4]],.arr 1 none 1 [[j 1],[j 2]],.map [(Y [120],.p (j 0)),(Y [121],.p (j 1)),(Y [122],.p (j 2)),(Y [97],.p (j 11)),(Y [98],.p (j 14)),(Y [99],.p (j 17)),(Y [111],.p (j 36))],.cells [.p (.v (Y [113])),.p (j 10),.p (.sl [[j 1],[j 4]]),.p (bf),.p (.sl []),.p (bf),.p (.sl []),.p (bf),.p (.sl []),.p (bf),.p (.sl []),.p (j 0)],.arr 1 (some 1) 1 [[pv2],[pv5]],.arr 1 none 1 [[j 1],[j 2]],.map [(Y [120],.p (j 3)),(Y [121],.p (j 4)),(Y [122],.p (j 5)),(Y [97],.p (j 20)),(Y [98],.p (j 23)),(Y [99],.p (j 26)),(Y [111],.p (j 46))],.cells [.p (.v (Y [114])),.p (j 10),.p (.sl [[j 2],[j 5]]),.p (bf),.p (.sl []),.p (bf),.p (.sl []),.p (bf),.p (.sl []),.p (bf),.p (.sl []),.p (j 0)],.arr 1 (some 1) 1 [[pv3],[pv6]],.arr 1 none 1 [[j 1],[j 2]],.map [(Y [120],.p (j 6)),(Y [121],.p (j 7)),(Y [122],.p (j 8)),(Y [97],.p (j 29)),(Y [98],.p (j 32)),(Y [99],.p (j 35)),(Y [111],.p (j 56))]]⟩
def Q87:List SFact:=[q87_0,q87_1]
noncomputable def XQ5:XR:=orX (onX 87 (stX Q87)) XQ4
def g43_0:List Fact:=[⟨1980039274,43,[.p (pv71),.agg [.p (j 1),.p (.sl [[j 0],[j 1]])]],.tup [.agg [.p (j 6),.p (pv11),.p (pv10),.p (.sl [])],.p (pv73),.p (j 0)]⟩,⟨1980163668,43,[.p (pv71),.agg [.p (j 1),.p (.sl [[j 0],[j 2]])]],.tup [.agg [.p (j 6),.p (pv12),.p (pv10),.p (.sl [])],.p (pv73),.p (j 0)]⟩,⟨1980167030,43,[.p (pv71),.agg [.p (j 1),.p (.sl [[j 1],[j 2]])]],.tup [.agg [.p (j 6),.p (pv13),.p (pv10),.p (.sl [])],.p (pv73),.p (j 0)]⟩,⟨1980288144,43,[.p (pv71),.agg [.p (j 2),.p (.sl [[j 0],[j 3]])]],.tup [.agg [.p (j 6),.p (pv14),.p (pv10),.p (.sl [])],.p (.sl [[j 70]]),.p (j 0)]⟩,⟨1980785720,43,[.p (pv71),.agg [.p (j 2),.p (.sl [[j 0],[j 7]])]],.tup [.agg [.p (j 6),.p (pv15),.p (pv10),.p (.sl [])],.p (.sl [[j 70]]),.p (j 0)]⟩,⟨1980910114,43,[.p (pv71),.agg [.p (j 2),.p (.sl [[j 0],[j 8]])]],.tup [.agg [.p (j 6),.p (pv16),.p (pv10),.p (.sl [])],.p (.sl [[j 70]]),.p (j 0)]⟩,⟨1980415900,43,[.p (pv71),.agg [.p (j 2),.p (.sl [[j 1],[j 4]])]],.tup [.agg [.p (j 6),.p (pv17),.p (pv10),.p (.sl [])],.p (.sl [[j 70]]),.p (j 0)]⟩]
def g43_1:List Fact:=[⟨1980664688,43,[.p (pv71),.agg [.p (j 2),.p (.sl [[j 1],[j 6]])]],.tup [.agg [.p (j 6),.p (pv18),.p (pv10),.p (.sl [])],.p (.sl [[j 70]]),.p (j 0)]⟩,⟨1980913476,43,[.p (pv71),.agg [.p (j 2),.p (.sl [[j 1],[j 8]])]],.tup [.agg [.p (j 6),.p (pv19),.p (pv10),.p (.sl [])],.p (.sl [[j 70]]),.p (j 0)]⟩,⟨1980543656,43,[.p (pv71),.agg [.p (j 2),.p (.sl [[j 2],[j 5]])]],.tup [.agg [.p (j 6),.p (pv20),.p (pv10),.p (.sl [])],.p (.sl [[j 70]]),.p (j 0)]⟩,⟨1980668050,43,[.p (pv71),.agg [.p (j 2),.p (.sl [[j 2],[j 6]])]],.tup [.agg [.p (j 6),.p (pv21),.p (pv10),.p (.sl [])],.p (.sl [[j 70]]),.p (j 0)]⟩,⟨1980792444,43,[.p (pv71),.agg [.p (j 2),.p (.sl [[j 2],[j 7]])]],.tup [.agg [.p (j 6),.p (pv22),.p (pv10),.p (.sl [])],.p (.sl [[j 70]]),.p (j 0)]⟩,⟨1980422706,43,[.p (pv71),.agg [.p (j 3),.p (.sl [[j 3],[j 4]])]],.tup [.agg [.p (j 6),.p (pv23),.p (pv10),.p (.sl [])],.p (.sl [[j 68]]),.p (j 0)]⟩,⟨1980547100,43,[.p (pv71),.agg [.p (j 3),.p (.sl [[j 3],[j 5]])]],.tup [.agg [.p (j 6),.p (pv24),.p (pv10),.p (.sl [])],.p (.sl [[j 68]]),.p (j 0)]⟩,⟨1980671494,43,[.p (pv71),.agg [.p (j 3),.p (.sl [[j 3],[j 6]])]],.tup [.agg [.p (j 6),.p (pv25),.p (pv10),.p (.sl [])],.p (.sl [[j 68]]),.p (j 0)]⟩,⟨1980795888,43,[.p (pv71),.agg [.p (j 3),.p (.sl [[j 3],[j 7]])]],.tup [.agg [.p (j 6),.p (pv26),.p (pv10),.p (.sl [])],.p (.sl [[j 68]]),.p (j 0)]⟩,⟨1980920282,43,[.p (pv71),.agg [.p (j 3),.p (.sl [[j 3],[j 8]])]],.tup [.agg [.p (j 6),.p (pv27),.p (pv10),.p (.sl [])],.p (.sl [[j 68]]),.p (j 0)]⟩,⟨1980550462,43,[.p (pv71),.agg [.p (j 3),.p (.sl [[j 4],[j 5]])]],.tup [.agg [.p (j 6),.p (pv28),.p (pv10),.p (.sl [])],.p (.sl [[j 68]]),.p (j 0)]⟩]
def g43_2:List Fact:=[⟨1980674856,43,[.p (pv71),.agg [.p (j 3),.p (.sl [[j 4],[j 6]])]],.tup [.agg [.p (j 6),.p (pv29),.p (pv10),.p (.sl [])],.p (.sl [[j 68]]),.p (j 0)]⟩,⟨1980799250,43,[.p (pv71),.agg [.p (j 3),.p (.sl [[j 4],[j 7]])]],.tup [.agg [.p (j 6),.p (pv30),.p (pv10),.p (.sl [])],.p (.sl [[j 68]]),.p (j 0)]⟩,⟨1980923644,43,[.p (pv71),.agg [.p (j 3),.p (.sl [[j 4],[j 8]])]],.tup [.agg [.p (j 6),.p (pv31),.p (pv10),.p (.sl [])],.p (.sl [[j 68]]),.p (j 0)]⟩,⟨1980678218,43,[.p (pv71),.agg [.p (j 3),.p (.sl [[j 5],[j 6]])]],.tup [.agg [.p (j 6),.p (pv32),.p (pv10),.p (.sl [])],.p (.sl [[j 68]]),.p (j 0)]⟩,⟨1980802612,43,[.p (pv71),.agg [.p (j 3),.p (.sl [[j 5],[j 7]])]],.tup [.agg [.p (j 6),.p (pv33),.p (pv10),.p (.sl [])],.p (.sl [[j 68]]),.p (j 0)]⟩,⟨1980927006,43,[.p (pv71),.agg [.p (j 3),.p (.sl [[j 5],[j 8]])]],.tup [.agg [.p (j 6),.p (pv34),.p (pv10),.p (.sl [])],.p (.sl [[j 68]]),.p (j 0)]⟩,⟨1980805974,43,[.p (pv71),.agg [.p (j 3),.p (.sl [[j 6],[j 7]])]],.tup [.agg [.p (j 6),.p (pv35),.p (pv10),.p (.sl [])],.p (.sl [[j 68]]),.p (j 0)]⟩,⟨1980930368,43,[.p (pv71),.agg [.p (j 3),.p (.sl [[j 6],[j 8]])]],.tup [.agg [.p (j 6),.p (pv36),.p (pv10),.p (.sl [])],.p (.sl [[j 68]]),.p (j 0)]⟩,⟨1980933730,43,[.p (pv71),.agg [.p (j 3),.p (.sl [[j 7],[j 8]])]],.tup [.agg [.p (j 6),.p (pv37),.p (pv10),.p (.sl [])],.p (.sl [[j 68]]),.p (j 0)]⟩,⟨1980422788,43,[.p (pv71),.agg [.p (j 4),.p (.sl [[j 3],[j 4]])]],.tup [.agg [.p (j 6),.p (pv38),.p (pv10),.p (.sl [])],.p (.sl [[j 68]]),.p (j 0)]⟩,⟨1980547182,43,[.p (pv71),.agg [.p (j 4),.p (.sl [[j 3],[j 5]])]],.tup [.agg [.p (j 6),.p (pv39),.p (pv10),.p (.sl [])],.p (.sl [[j 68]]),.p (j 0)]⟩,⟨1980795970,43,[.p (pv71),.agg [.p (j 4),.p (.sl [[j 3],[j 7]])]],.tup [.agg [.p (j 6),.p (pv40),.p (pv10),.p (.sl [])],.p (.sl [[j 68]]),.p (j 0)]⟩,⟨1980920364,43,[.p (pv71),.agg [.p (j 4),.p (.sl [[j 3],[j 8]])]],.tup [.agg [.p (j 6),.p (pv41),.p (pv10),.p (.sl [])],.p (.sl [[j 68]]),.p (j 0)]⟩]
def g43_3:List Fact:=[⟨1980550544,43,[.p (pv71),.agg [.p (j 4),.p (.sl [[j 4],[j 5]])]],.tup [.agg [.p (j 6),.p (pv42),.p (pv10),.p (.sl [])],.p (.sl [[j 68]]),.p (j 0)]⟩,⟨1980674938,43,[.p (pv71),.agg [.p (j 4),.p (.sl [[j 4],[j 6]])]],.tup [.agg [.p (j 6),.p (pv43),.p (pv10),.p (.sl [])],.p (.sl [[j 68]]),.p (j 0)]⟩,⟨1980923726,43,[.p (pv71),.agg [.p (j 4),.p (.sl [[j 4],[j 8]])]],.tup [.agg [.p (j 6),.p (pv44),.p (pv10),.p (.sl [])],.p (.sl [[j 68]]),.p (j 0)]⟩,⟨1980678300,43,[.p (pv71),.agg [.p (j 4),.p (.sl [[j 5],[j 6]])]],.tup [.agg [.p (j 6),.p (pv45),.p (pv10),.p (.sl [])],.p (.sl [[j 68]]),.p (j 0)]⟩,⟨1980802694,43,[.p (pv71),.agg [.p (j 4),.p (.sl [[j 5],[j 7]])]],.tup [.agg [.p (j 6),.p (pv46),.p (pv10),.p (.sl [])],.p (.sl [[j 68]]),.p (j 0)]⟩,⟨1980806056,43,[.p (pv71),.agg [.p (j 4),.p (.sl [[j 6],[j 7]])]],.tup [.agg [.p (j 6),.p (pv47),.p (pv10),.p (.sl [])],.p (.sl [[j 68]]),.p (j 0)]⟩,⟨1980930450,43,[.p (pv71),.agg [.p (j 4),.p (.sl [[j 6],[j 8]])]],.tup [.agg [.p (j 6),.p (pv48),.p (pv10),.p (.sl [])],.p (.sl [[j 68]]),.p (j 0)]⟩,⟨1980933812,43,[.p (pv71),.agg [.p (j 4),.p (.sl [[j 7],[j 8]])]],.tup [.agg [.p (j 6),.p (pv49),.p (pv10),.p (.sl [])],.p (.sl [[j 68]]),.p (j 0)]⟩,⟨962107926,43,[.p (pv71),.agg [.p (j 6),.p (pv1)]],.tup [.agg [.p (j 6),.p (pv50),.p (pv10),.p (.sl [])],.p (.sl [[j 79]]),.p (j 0)]⟩,⟨976299010,43,[.p (pv71),.agg [.p (j 7),.p (pv2)]],.tup [.agg [.p (j 6),.p (pv51),.p (pv10),.p (.sl [])],.p (.sl [[j 79]]),.p (j 0)]⟩]
def g43_4:List Fact:=[⟨980901588,43,[.p (pv71),.agg [.p (j 7),.p (pv74)]],.tup [.agg [.p (j 6),.p (pv52),.p (pv10),.p (.sl [])],.p (.sl [[j 79]]),.p (j 0)]⟩,⟨985504166,43,[.p (pv71),.agg [.p (j 7),.p (pv75)]],.tup [.agg [.p (j 6),.p (pv53),.p (pv10),.p (.sl [])],.p (.sl [[j 79]]),.p (j 0)]⟩,⟨981025982,43,[.p (pv71),.agg [.p (j 7),.p (pv76)]],.tup [.agg [.p (j 6),.p (pv54),.p (pv10),.p (.sl [])],.p (.sl [[j 79]]),.p (j 0)]⟩,⟨990231138,43,[.p (pv71),.agg [.p (j 7),.p (pv77)]],.tup [.agg [.p (j 6),.p (pv55),.p (pv10),.p (.sl [])],.p (.sl [[j 79]]),.p (j 0)]⟩]
def g43_5:List Fact:=[⟨985752954,43,[.p (pv71),.agg [.p (j 7),.p (pv78)]],.tup [.agg [.p (j 6),.p (pv56),.p (pv10),.p (.sl [])],.p (.sl [[j 79]]),.p (j 0)]⟩,⟨990355532,43,[.p (pv71),.agg [.p (j 7),.p (pv79)]],.tup [.agg [.p (j 6),.p (pv57),.p (pv10),.p (.sl [])],.p (.sl [[j 79]]),.p (j 0)]⟩,⟨990479926,43,[.p (pv71),.agg [.p (j 7),.p (pv80)]],.tup [.agg [.p (j 6),.p (pv58),.p (pv10),.p (.sl [])],.p (.sl [[j 79]]),.p (j 0)]⟩,⟨985631922,43,[.p (pv71),.agg [.p (j 7),.p (pv81)]],.tup [.agg [.p (j 6),.p (pv59),.p (pv10),.p (.sl [])],.p (.sl [[j 79]]),.p (j 0)]⟩]
def g43_6:List Fact:=[⟨990234500,43,[.p (pv71),.agg [.p (j 7),.p (pv82)]],.tup [.agg [.p (j 6),.p (pv60),.p (pv10),.p (.sl [])],.p (.sl [[j 79]]),.p (j 0)]⟩,⟨985756316,43,[.p (pv71),.agg [.p (j 7),.p (pv83)]],.tup [.agg [.p (j 6),.p (pv61),.p (pv10),.p (.sl [])],.p (.sl [[j 79]]),.p (j 0)]⟩,⟨990358894,43,[.p (pv71),.agg [.p (j 7),.p (pv84)]],.tup [.agg [.p (j 6),.p (pv62),.p (pv10),.p (.sl [])],.p (.sl [[j 79]]),.p (j 0)]⟩,⟨990483288,43,[.p (pv71),.agg [.p (j 7),.p (pv85)]],.tup [.agg [.p (j 6),.p (pv63),.p (pv10),.p (.sl [])],.p (.sl [[j 79]]),.p (j 0)]⟩]
def g43_7:List Fact:=[⟨985759678,43,[.p (pv71),.agg [.p (j 7),.p (pv86)]],.tup [.agg [.p (j 6),.p (pv64),.p (pv10),.p (.sl [])],.p (.sl [[j 79]]),.p (j 0)]⟩,⟨990362256,43,[.p (pv71),.agg [.p (j 7),.p (pv87)]],.tup [.agg [.p (j 6),.p (pv65),.p (pv10),.p (.sl [])],.p (.sl [[j 79]]),.p (j 0)]⟩,⟨990486650,43,[.p (pv71),.agg [.p (j 7),.p (pv88)]],.tup [.agg [.p (j 6),.p (pv66),.p (pv10),.p (.sl [])],.p (.sl [[j 79]]),.p (j 0)]⟩,⟨990490012,43,[.p (pv71),.agg [.p (j 7),.p (pv3)]],.tup [.agg [.p (j 6),.p (pv67),.p (pv10),.p (.sl [])],.p (.sl [[j 79]]),.p (j 0)]⟩]
def g43_8:List Fact:=[⟨1944133288,43,[.p (pv71),.agg [.p (j 5),.p (pv89)]],.tup [.agg [.p (j 6),.p (pv68),.p (pv10),.p (.sl [])],.p (.sl [[j 90]]),.p (j 0)]⟩,⟨1948735866,43,[.p (pv71),.agg [.p (j 5),.p (pv90)]],.tup [.agg [.p (j 6),.p (pv69),.p (pv10),.p (.sl [])],.p (.sl [[j 90]]),.p (j 0)]⟩]
def g43_9:List Fact:=[⟨1948860260,43,[.p (pv71),.agg [.p (j 5),.p (pv91)]],.tup [.agg [.p (j 6),.p (pv70),.p (pv10),.p (.sl [])],.p (.sl [[j 90]]),.p (j 0)]⟩,⟨1566397955,43,[.p (pv72),.agg [.p (j 1),.p (.sl [[j 0],[j 1]])]],.tup [.agg [.p (j 6),.p (pv11),.p (pv10),.p (.sl [])],.p (pv73),.p (j 0)]⟩,⟨1566522349,43,[.p (pv72),.agg [.p (j 1),.p (.sl [[j 0],[j 2]])]],.tup [.agg [.p (j 6),.p (pv12),.p (pv10),.p (.sl [])],.p (pv73),.p (j 0)]⟩,⟨1566525711,43,[.p (pv72),.agg [.p (j 1),.p (.sl [[j 1],[j 2]])]],.tup [.agg [.p (j 6),.p (pv13),.p (pv10),.p (.sl [])],.p (pv73),.p (j 0)]⟩,⟨1566646825,43,[.p (pv72),.agg [.p (j 2),.p (.sl [[j 0],[j 3]])]],.tup [.agg [.p (j 6),.p (pv14),.p (pv10),.p (.sl [])],.p (.sl [[j 70]]),.p (j 0)]⟩,⟨1567144401,43,[.p (pv72),.agg [.p (j 2),.p (.sl [[j 0],[j 7]])]],.tup [.agg [.p (j 6),.p (pv15),.p (pv10),.p (.sl [])],.p (.sl [[j 70]]),.p (j 0)]⟩,⟨1567268795,43,[.p (pv72),.agg [.p (j 2),.p (.sl [[j 0],[j 8]])]],.tup [.agg [.p (j 6),.p (pv16),.p (pv10),.p (.sl [])],.p (.sl [[j 70]]),.p (j 0)]⟩,⟨1566774581,43,[.p (pv72),.agg [.p (j 2),.p (.sl [[j 1],[j 4]])]],.tup [.agg [.p (j 6),.p (pv17),.p (pv10),.p (.sl [])],.p (.sl [[j 70]]),.p (j 0)]⟩,⟨1567023369,43,[.p (pv72),.agg [.p (j 2),.p (.sl [[j 1],[j 6]])]],.tup [.agg [.p (j 6),.p (pv18),.p (pv10),.p (.sl [])],.p (.sl [[j 70]]),.p (j 0)]⟩,⟨1567272157,43,[.p (pv72),.agg [.p (j 2),.p (.sl [[j 1],[j 8]])]],.tup [.agg [.p (j 6),.p (pv19),.p (pv10),.p (.sl [])],.p (.sl [[j 70]]),.p (j 0)]⟩,⟨1566902337,43,[.p (pv72),.agg [.p (j 2),.p (.sl [[j 2],[j 5]])]],.tup [.agg [.p (j 6),.p (pv20),.p (pv10),.p (.sl [])],.p (.sl [[j 70]]),.p (j 0)]⟩,⟨1567026731,43,[.p (pv72),.agg [.p (j 2),.p (.sl [[j 2],[j 6]])]],.tup [.agg [.p (j 6),.p (pv21),.p (pv10),.p (.sl [])],.p (.sl [[j 70]]),.p (j 0)]⟩,⟨1567151125,43,[.p (pv72),.agg [.p (j 2),.p (.sl [[j 2],[j 7]])]],.tup [.agg [.p (j 6),.p (pv22),.p (pv10),.p (.sl [])],.p (.sl [[j 70]]),.p (j 0)]⟩,⟨1566781387,43,[.p (pv72),.agg [.p (j 3),.p (.sl [[j 3],[j 4]])]],.tup [.agg [.p (j 6),.p (pv23),.p (pv10),.p (.sl [])],.p (.sl [[j 68]]),.p (j 0)]⟩,⟨1566905781,43,[.p (pv72),.agg [.p (j 3),.p (.sl [[j 3],[j 5]])]],.tup [.agg [.p (j 6),.p (pv24),.p (pv10),.p (.sl [])],.p (.sl [[j 68]]),.p (j 0)]⟩,⟨1567030175,43,[.p (pv72),.agg [.p (j 3),.p (.sl [[j 3],[j 6]])]],.tup [.agg [.p (j 6),.p (pv25),.p (pv10),.p (.sl [])],.p (.sl [[j 68]]),.p (j 0)]⟩,⟨1567154569,43,[.p (pv72),.agg [.p (j 3),.p (.sl [[j 3],[j 7]])]],.tup [.agg [.p (j 6),.p (pv26),.p (pv10),.p (.sl [])],.p (.sl [[j 68]]),.p (j 0)]⟩,⟨1567278963,43,[.p (pv72),.agg [.p (j 3),.p (.sl [[j 3],[j 8]])]],.tup [.agg [.p (j 6),.p (pv27),.p (pv10),.p (.sl [])],.p (.sl [[j 68]]),.p (j 0)]⟩,⟨1566909143,43,[.p (pv72),.agg [.p (j 3),.p (.sl [[j 4],[j 5]])]],.tup [.agg [.p (j 6),.p (pv28),.p (pv10),.p (.sl [])],.p (.sl [[j 68]]),.p (j 0)]⟩,⟨1567033537,43,[.p (pv72),.agg [.p (j 3),.p (.sl [[j 4],[j 6]])]],.tup [.agg [.p (j 6),.p (pv29),.p (pv10),.p (.sl [])],.p (.sl [[j 68]]),.p (j 0)]⟩,⟨1567157931,43,[.p (pv72),.agg [.p (j 3),.p (.sl [[j 4],[j 7]])]],.tup [.agg [.p (j 6),.p (pv30),.p (pv10),.p (.sl [])],.p (.sl [[j 68]]),.p (j 0)]⟩,⟨1567282325,43,[.p (pv72),.agg [.p (j 3),.p (.sl [[j 4],[j 8]])]],.tup [.agg [.p (j 6),.p (pv31),.p (pv10),.p (.sl [])],.p (.sl [[j 68]]),.p (j 0)]⟩,⟨1567036899,43,[.p (pv72),.agg [.p (j 3),.p (.sl [[j 5],[j 6]])]],.tup [.agg [.p (j 6),.p (pv32),.p (pv10),.p (.sl [])],.p (.sl [[j 68]]),.p (j 0)]⟩,⟨1567161293,43,[.p (pv72),.agg [.p (j 3),.p (.sl [[j 5],[j 7]])]],.tup [.agg [.p (j 6),.p (pv33),.p (pv10),.p (.sl [])],.p (.sl [[j 68]]),.p (j 0)]⟩,⟨1567285687,43,[.p (pv72),.agg [.p (j 3),.p (.sl [[j 5],[j 8]])]],.tup [.agg [.p (j 6),.p (pv34),.p (pv10),.p (.sl [])],.p (.sl [[j 68]]),.p (j 0)]⟩,⟨1567164655,43,[.p (pv72),.agg [.p (j 3),.p (.sl [[j 6],[j 7]])]],.tup [.agg [.p (j 6),.p (pv35),.p (pv10),.p (.sl [])],.p (.sl [[j 68]]),.p (j 0)]⟩,⟨1567289049,43,[.p (pv72),.agg [.p (j 3),.p (.sl [[j 6],[j 8]])]],.tup [.agg [.p (j 6),.p (pv36),.p (pv10),.p (.sl [])],.p (.sl [[j 68]]),.p (j 0)]⟩,⟨1567292411,43,[.p (pv72),.agg [.p (j 3),.p (.sl [[j 7],[j 8]])]],.tup [.agg [.p (j 6),.p (pv37),.p (pv10),.p (.sl [])],.p (.sl [[j 68]]),.p (j 0)]⟩,⟨1566781469,43,[.p (pv72),.agg [.p (j 4),.p (.sl [[j 3],[j 4]])]],.tup [.agg [.p (j 6),.p (pv38),.p (pv10),.p (.sl [])],.p (.sl [[j 68]]),.p (j 0)]⟩,⟨1566905863,43,[.p (pv72),.agg [.p (j 4),.p (.sl [[j 3],[j 5]])]],.tup [.agg [.p (j 6),.p (pv39),.p (pv10),.p (.sl [])],.p (.sl [[j 68]]),.p (j 0)]⟩,⟨1567154651,43,[.p (pv72),.agg [.p (j 4),.p (.sl [[j 3],[j 7]])]],.tup [.agg [.p (j 6),.p (pv40),.p (pv10),.p (.sl [])],.p (.sl [[j 68]]),.p (j 0)]⟩,⟨1567279045,43,[.p (pv72),.agg [.p (j 4),.p (.sl [[j 3],[j 8]])]],.tup [.agg [.p (j 6),.p (pv41),.p (pv10),.p (.sl [])],.p (.sl [[j 68]]),.p (j 0)]⟩,⟨1566909225,43,[.p (pv72),.agg [.p (j 4),.p (.sl [[j 4],[j 5]])]],.tup [.agg [.p (j 6),.p (pv42),.p (pv10),.p (.sl [])],.p (.sl [[j 68]]),.p (j 0)]⟩,⟨1567033619,43,[.p (pv72),.agg [.p (j 4),.p (.sl [[j 4],[j 6]])]],.tup [.agg [.p (j 6),.p (pv43),.p (pv10),.p (.sl [])],.p (.sl [[j 68]]),.p (j 0)]⟩,⟨1567282407,43,[.p (pv72),.agg [.p (j 4),.p (.sl [[j 4],[j 8]])]],.tup [.agg [.p (j 6),.p (pv44),.p (pv10),.p (.sl [])],.p (.sl [[j 68]]),.p (j 0)]⟩,⟨1567036981,43,[.p (pv72),.agg [.p (j 4),.p (.sl [[j 5],[j 6]])]],.tup [.agg [.p (j 6),.p (pv45),.p (pv10),.p (.sl [])],.p (.sl [[j 68]]),.p (j 0)]⟩,⟨1567161375,43,[.p (pv72),.agg [.p (j 4),.p (.sl [[j 5],[j 7]])]],.tup [.agg [.p (j 6),.p (pv46),.p (pv10),.p (.sl [])],.p (.sl [[j 68]]),.p (j 0)]⟩,⟨1567164737,43,[.p (pv72),.agg [.p (j 4),.p (.sl [[j 6],[j 7]])]],.tup [.agg [.p (j 6),.p (pv47),.p (pv10),.p (.sl [])],.p (.sl [[j 68]]),.p (j 0)]⟩,⟨1567289131,43,[.p (pv72),.agg [.p (j 4),.p (.sl [[j 6],[j 8]])]],.tup [.agg [.p (j 6),.p (pv48),.p (pv10),.p (.sl [])],.p (.sl [[j 68]]),.p (j 0)]⟩,⟨1567292493,43,[.p (pv72),.agg [.p (j 4),.p (.sl [[j 7],[j 8]])]],.tup [.agg [.p (j 6),.p (pv49),.p (pv10),.p (.sl [])],.p (.sl [[j 68]]),.p (j 0)]⟩,⟨548466607,43,[.p (pv72),.agg [.p (j 6),.p (pv1)]],.tup [.agg [.p (j 6),.p (pv50),.p (pv10),.p (.sl [])],.p (.sl [[j 79]]),.p (j 0)]⟩,⟨562657691,43,[.p (pv72),.agg [.p (j 7),.p (pv2)]],.tup [.agg [.p (j 6),.p (pv51),.p (pv10),.p (.sl [])],.p (.sl [[j 79]]),.p (j 0)]⟩,⟨567260269,43,[.p (pv72),.agg [.p (j 7),.p (pv74)]],.tup [.agg [.p (j 6),.p (pv52),.p (pv10),.p (.sl [])],.p (.sl [[j 79]]),.p (j 0)]⟩,⟨571862847,43,[.p (pv72),.agg [.p (j 7),.p (pv75)]],.tup [.agg [.p (j 6),.p (pv53),.p (pv10),.p (.sl [])],.p (.sl [[j 79]]),.p (j 0)]⟩,⟨567384663,43,[.p (pv72),.agg [.p (j 7),.p (pv76)]],.tup [.agg [.p (j 6),.p (pv54),.p (pv10),.p (.sl [])],.p (.sl [[j 79]]),.p (j 0)]⟩,⟨576589819,43,[.p (pv72),.agg [.p (j 7),.p (pv77)]],.tup [.agg [.p (j 6),.p (pv55),.p (pv10),.p (.sl [])],.p (.sl [[j 79]]),.p (j 0)]⟩,⟨572111635,43,[.p (pv72),.agg [.p (j 7),.p (pv78)]],.tup [.agg [.p (j 6),.p (pv56),.p (pv10),.p (.sl [])],.p (.sl [[j 79]]),.p (j 0)]⟩,⟨576714213,43,[.p (pv72),.agg [.p (j 7),.p (pv79)]],.tup [.agg [.p (j 6),.p (pv57),.p (pv10),.p (.sl [])],.p (.sl [[j 79]]),.p (j 0)]⟩,⟨576838607,43,[.p (pv72),.agg [.p (j 7),.p (pv80)]],.tup [.agg [.p (j 6),.p (pv58),.p (pv10),.p (.sl [])],.p (.sl [[j 79]]),.p (j 0)]⟩,⟨571990603,43,[.p (pv72),.agg [.p (j 7),.p (pv81)]],.tup [.agg [.p (j 6),.p (pv59),.p (pv10),.p (.sl [])],.p (.sl [[j 79]]),.p (j 0)]⟩,⟨576593181,43,[.p (pv72),.agg [.p (j 7),.p (pv82)]],.tup [.agg [.p (j 6),.p (pv60),.p (pv10),.p (.sl [])],.p (.sl [[j 79]]),.p (j 0)]⟩,⟨572114997,43,[.p (pv72),.agg [.p (j 7),.p (pv83)]],.tup [.agg [.p (j 6),.p (pv61),.p (pv10),.p (.sl [])],.p (.sl [[j 79]]),.p (j 0)]⟩,⟨576717575,43,[.p (pv72),.agg [.p (j 7),.p (pv84)]],.tup [.agg [.p (j 6),.p (pv62),.p (pv10),.p (.sl [])],.p (.sl [[j 79]]),.p (j 0)]⟩,⟨576841969,43,[.p (pv72),.agg [.p (j 7),.p (pv85)]],.tup [.agg [.p (j 6),.p (pv63),.p (pv10),.p (.sl [])],.p (.sl [[j 79]]),.p (j 0)]⟩,⟨572118359,43,[.p (pv72),.agg [.p (j 7),.p (pv86)]],.tup [.agg [.p (j 6),.p (pv64),.p (pv10),.p (.sl [])],.p (.sl [[j 79]]),.p (j 0)]⟩,⟨576720937,43,[.p (pv72),.agg [.p (j 7),.p (pv87)]],.tup [.agg [.p (j 6),.p (pv65),.p (pv10),.p (.sl [])],.p (.sl [[j 79]]),.p (j 0)]⟩,⟨576845331,43,[.p (pv72),.agg [.p (j 7),.p (pv88)]],.tup [.agg [.p (j 6),.p (pv66),.p (pv10),.p (.sl [])],.p (.sl [[j 79]]),.p (j 0)]⟩,⟨576848693,43,[.p (pv72),.agg [.p (j 7),.p (pv3)]],.tup [.agg [.p (j 6),.p (pv67),.p (pv10),.p (.sl [])],.p (.sl [[j 79]]),.p (j 0)]⟩,⟨1530491969,43,[.p (pv72),.agg [.p (j 5),.p (pv89)]],.tup [.agg [.p (j 6),.p (pv68),.p (pv10),.p (.sl [])],.p (.sl [[j 90]]),.p (j 0)]⟩,⟨1535094547,43,[.p (pv72),.agg [.p (j 5),.p (pv90)]],.tup [.agg [.p (j 6),.p (pv69),.p (pv10),.p (.sl [])],.p (.sl [[j 90]]),.p (j 0)]⟩,⟨1535218941,43,[.p (pv72),.agg [.p (j 5),.p (pv91)]],.tup [.agg [.p (j 6),.p (pv70),.p (pv10),.p (.sl [])],.p (.sl [[j 90]]),.p (j 0)]⟩]
def Q43:List Fact:=g43_0++(g43_1++(g43_2++(g43_3++(g43_4++(g43_5++(g43_6++(g43_7++(g43_8++(g43_9)))))))))
noncomputable def XQ6:XR:=orX (onX 43 (factX Q43)) XQ5
def g22_0:List Fact:=[⟨1886981861,22,[.p (pv71)],.p (j 0)⟩,⟨1473340542,22,[.p (pv72)],.p (j 0)⟩]
def Q22:List Fact:=g22_0
noncomputable def XQ7:XR:=orX (onX 22 (factX Q22)) XQ6
def g37_0:List Fact:=[⟨1886981861,37,[.p (pv71)],.tup [.p (.sl []),.p (j 0)]⟩,⟨1473340542,37,[.p (pv72)],.tup [.p (.sl []),.p (j 0)]⟩]
def Q37:List Fact:=g37_0
noncomputable def XQ8:XR:=orX (onX 37 (factX Q37)) XQ7
def g86_0:List Fact:=[⟨1886981861,86,[.p (pv71)],.tup [.p (pv92),.p (j 0)]⟩,⟨1473340542,86,[.p (pv72)],.tup [.p (pv92),.p (j 0)]⟩]
def Q86:List Fact:=g86_0
noncomputable def XQ9:XR:=orX (onX 86 (factX Q86)) XQ8
def g23_0:List Fact:=[⟨1980039274,23,[.p (pv71),.agg [.p (j 1),.p (.sl [[j 0],[j 1]])]],.p (j 0)⟩,⟨1980163668,23,[.p (pv71),.agg [.p (j 1),.p (.sl [[j 0],[j 2]])]],.p (j 0)⟩,⟨1980167030,23,[.p (pv71),.agg [.p (j 1),.p (.sl [[j 1],[j 2]])]],.p (j 0)⟩,⟨1980288144,23,[.p (pv71),.agg [.p (j 2),.p (.sl [[j 0],[j 3]])]],.p (j 0)⟩,⟨1980785720,23,[.p (pv71),.agg [.p (j 2),.p (.sl [[j 0],[j 7]])]],.p (j 0)⟩,⟨1980910114,23,[.p (pv71),.agg [.p (j 2),.p (.sl [[j 0],[j 8]])]],.p (j 0)⟩,⟨1980415900,23,[.p (pv71),.agg [.p (j 2),.p (.sl [[j 1],[j 4]])]],.p (j 0)⟩,⟨1980664688,23,[.p (pv71),.agg [.p (j 2),.p (.sl [[j 1],[j 6]])]],.p (j 0)⟩,⟨1980913476,23,[.p (pv71),.agg [.p (j 2),.p (.sl [[j 1],[j 8]])]],.p (j 0)⟩,⟨1980543656,23,[.p (pv71),.agg [.p (j 2),.p (.sl [[j 2],[j 5]])]],.p (j 0)⟩,⟨1980668050,23,[.p (pv71),.agg [.p (j 2),.p (.sl [[j 2],[j 6]])]],.p (j 0)⟩,⟨1980792444,23,[.p (pv71),.agg [.p (j 2),.p (.sl [[j 2],[j 7]])]],.p (j 0)⟩,⟨1980422706,23,[.p (pv71),.agg [.p (j 3),.p (.sl [[j 3],[j 4]])]],.p (j 0)⟩,⟨1980547100,23,[.p (pv71),.agg [.p (j 3),.p (.sl [[j 3],[j 5]])]],.p (j 0)⟩,⟨1980671494,23,[.p (pv71),.agg [.p (j 3),.p (.sl [[j 3],[j 6]])]],.p (j 0)⟩,⟨1980795888,23,[.p (pv71),.agg [.p (j 3),.p (.sl [[j 3],[j 7]])]],.p (j 0)⟩,⟨1980920282,23,[.p (pv71),.agg [.p (j 3),.p (.sl [[j 3],[j 8]])]],.p (j 0)⟩,⟨1980550462,23,[.p (pv71),.agg [.p (j 3),.p (.sl [[j 4],[j 5]])]],.p (j 0)⟩,⟨1980674856,23,[.p (pv71),.agg [.p (j 3),.p (.sl [[j 4],[j 6]])]],.p (j 0)⟩,⟨1980799250,23,[.p (pv71),.agg [.p (j 3),.p (.sl [[j 4],[j 7]])]],.p (j 0)⟩,⟨1980923644,23,[.p (pv71),.agg [.p (j 3),.p (.sl [[j 4],[j 8]])]],.p (j 0)⟩,⟨1980678218,23,[.p (pv71),.agg [.p (j 3),.p (.sl [[j 5],[j 6]])]],.p (j 0)⟩,⟨1980802612,23,[.p (pv71),.agg [.p (j 3),.p (.sl [[j 5],[j 7]])]],.p (j 0)⟩,⟨1980927006,23,[.p (pv71),.agg [.p (j 3),.p (.sl [[j 5],[j 8]])]],.p (j 0)⟩,⟨1980805974,23,[.p (pv71),.agg [.p (j 3),.p (.sl [[j 6],[j 7]])]],.p (j 0)⟩,⟨1980930368,23,[.p (pv71),.agg [.p (j 3),.p (.sl [[j 6],[j 8]])]],.p (j 0)⟩,⟨1980933730,23,[.p (pv71),.agg [.p (j 3),.p (.sl [[j 7],[j 8]])]],.p (j 0)⟩,⟨1980422788,23,[.p (pv71),.agg [.p (j 4),.p (.sl [[j 3],[j 4]])]],.p (j 0)⟩,⟨1980547182,23,[.p (pv71),.agg [.p (j 4),.p (.sl [[j 3],[j 5]])]],.p (j 0)⟩,⟨1980795970,23,[.p (pv71),.agg [.p (j 4),.p (.sl [[j 3],[j 7]])]],.p (j 0)⟩,⟨1980920364,23,[.p (pv71),.agg [.p (j 4),.p (.sl [[j 3],[j 8]])]],.p (j 0)⟩,⟨1980550544,23,[.p (pv71),.agg [.p (j 4),.p (.sl [[j 4],[j 5]])]],.p (j 0)⟩,⟨1980674938,23,[.p (pv71),.agg [.p (j 4),.p (.sl [[j 4],[j 6]])]],.p (j 0)⟩,⟨1980923726,23,[.p (pv71),.agg [.p (j 4),.p (.sl [[j 4],[j 8]])]],.p (j 0)⟩,⟨1980678300,23,[.p (pv71),.agg [.p (j 4),.p (.sl [[j 5],[j 6]])]],.p (j 0)⟩,⟨1980802694,23,[.p (pv71),.agg [.p (j 4),.p (.sl [[j 5],[j 7]])]],.p (j 0)⟩,⟨1980806056,23,[.p (pv71),.agg [.p (j 4),.p (.sl [[j 6],[j 7]])]],.p (j 0)⟩,⟨1980930450,23,[.p (pv71),.agg [.p (j 4),.p (.sl [[j 6],[j 8]])]],.p (j 0)⟩,⟨1980933812,23,[.p (pv71),.agg [.p (j 4),.p (.sl [[j 7],[j 8]])]],.p (j 0)⟩,⟨962107926,23,[.p (pv71),.agg [.p (j 6),.p (pv1)]],.p (j 0)⟩,⟨976299010,23,[.p (pv71),.agg [.p (j 7),.p (pv2)]],.p (j 0)⟩,⟨980901588,23,[.p (pv71),.agg [.p (j 7),.p (pv74)]],.p (j 0)⟩,⟨985504166,23,[.p (pv71),.agg [.p (j 7),.p (pv75)]],.p (j 0)⟩,⟨981025982,23,[.p (pv71),.agg [.p (j 7),.p (pv76)]],.p (j 0)⟩,⟨990231138,23,[.p (pv71),.agg [.p (j 7),.p (pv77)]],.p (j 0)⟩,⟨985752954,23,[.p (pv71),.agg [.p (j 7),.p (pv78)]],.p (j 0)⟩,⟨990355532,23,[.p (pv71),.agg [.p (j 7),.p (pv79)]],.p (j 0)⟩,⟨990479926,23,[.p (pv71),.agg [.p (j 7),.p (pv80)]],.p (j 0)⟩,⟨985631922,23,[.p (pv71),.agg [.p (j 7),.p (pv81)]],.p (j 0)⟩,⟨990234500,23,[.p (pv71),.agg [.p (j 7),.p (pv82)]],.p (j 0)⟩,⟨985756316,23,[.p (pv71),.agg [.p (j 7),.p (pv83)]],.p (j 0)⟩,⟨990358894,23,[.p (pv71),.agg [.p (j 7),.p (pv84)]],.p (j 0)⟩,⟨990483288,23,[.p (pv71),.agg [.p (j 7),.p (pv85)]],.p (j 0)⟩,⟨985759678,23,[.p (pv71),.agg [.p (j 7),.p (pv86)]],.p (j 0)⟩,⟨990362256,23,[.p (pv71),.agg [.p (j 7),.p (pv87)]],.p (j 0)⟩,⟨990486650,23,[.p (pv71),.agg [.p (j 7),.p (pv88)]],.p (j 0)⟩,⟨990490012,23,[.p (pv71),.agg [.p (j 7),.p (pv3)]],.p (j 0)⟩,⟨1944133288,23,[.p (pv71),.agg [.p (j 5),.p (pv89)]],.p (j 0)⟩,⟨1948735866,23,[.p (pv71),.agg [.p (j 5),.p (pv90)]],.p (j 0)⟩,⟨1948860260,23,[.p (pv71),.agg [.p (j 5),.p (pv91)]],.p (j 0)⟩,⟨1566397955,23,[.p (pv72),.agg [.p (j 1),.p (.sl [[j 0],[j 1]])]],.p (j 0)⟩,⟨1566522349,23,[.p (pv72),.agg [.p (j 1),.p (.sl [[j 0],[j 2]])]],.p (j 0)⟩,⟨1566525711,23,[.p (pv72),.agg [.p (j 1),.p (.sl [[j 1],[j 2]])]],.p (j 0)⟩,⟨1566646825,23,[.p (pv72),.agg [.p (j 2),.p (.sl [[j 0],[j 3]])]],.p (j 0)⟩,⟨1567144401,23,[.p (pv72),.agg [.p (j 2),.p (.sl [[j 0],[j 7]])]],.p (j 0)⟩,⟨1567268795,23,[.p (pv72),.agg [.p (j 2),.p (.sl [[j 0],[j 8]])]],.p (j 0)⟩,⟨1566774581,23,[.p (pv72),.agg [.p (j 2),.p (.sl [[j 1],[j 4]])]],.p (j 0)⟩,⟨1567023369,23,[.p (pv72),.agg [.p (j 2),.p (.sl [[j 1],[j 6]])]],.p (j 0)⟩,⟨1567272157,23,[.p (pv72),.agg [.p (j 2),.p (.sl [[j 1],[j 8]])]],.p (j 0)⟩,⟨1566902337,23,[.p (pv72),.agg [.p (j 2),.p (.sl [[j 2],[j 5]])]],.p (j 0)⟩,⟨1567026731,23,[.p (pv72),.agg [.p (j 2),.p (.sl [[j 2],[j 6]])]],.p (j 0)⟩,⟨1567151125,23,[.p (pv72),.agg [.p (j 2),.p (.sl [[j 2],[j 7]])]],.p (j 0)⟩,⟨1566781387,23,[.p (pv72),.agg [.p (j 3),.p (.sl [[j 3],[j 4]])]],.p (j 0)⟩,⟨1566905781,23,[.p (pv72),.agg [.p (j 3),.p (.sl [[j 3],[j 5]])]],.p (j 0)⟩,⟨1567030175,23,[.p (pv72),.agg [.p (j 3),.p (.sl [[j 3],[j 6]])]],.p (j 0)⟩,⟨1567154569,23,[.p (pv72),.agg [.p (j 3),.p (.sl [[j 3],[j 7]])]],.p (j 0)⟩,⟨1567278963,23,[.p (pv72),.agg [.p (j 3),.p (.sl [[j 3],[j 8]])]],.p (j 0)⟩,⟨1566909143,23,[.p (pv72),.agg [.p (j 3),.p (.sl [[j 4],[j 5]])]],.p (j 0)⟩,⟨1567033537,23,[.p (pv72),.agg [.p (j 3),.p (.sl [[j 4],[j 6]])]],.p (j 0)⟩,⟨1567157931,23,[.p (pv72),.agg [.p (j 3),.p (.sl [[j 4],[j 7]])]],.p (j 0)⟩,⟨1567282325,23,[.p (pv72),.agg [.p (j 3),.p (.sl [[j 4],[j 8]])]],.p (j 0)⟩]
def g23_1:List Fact:=[⟨1567036899,23,[.p (pv72),.agg [.p (j 3),.p (.sl [[j 5],[j 6]])]],.p (j 0)⟩,⟨1567161293,23,[.p (pv72),.agg [.p (j 3),.p (.sl [[j 5],[j 7]])]],.p (j 0)⟩,⟨1567285687,23,[.p (pv72),.agg [.p (j 3),.p (.sl [[j 5],[j 8]])]],.p (j 0)⟩,⟨1567164655,23,[.p (pv72),.agg [.p (j 3),.p (.sl [[j 6],[j 7]])]],.p (j 0)⟩,⟨1567289049,23,[.p (pv72),.agg [.p (j 3),.p (.sl [[j 6],[j 8]])]],.p (j 0)⟩,⟨1567292411,23,[.p (pv72),.agg [.p (j 3),.p (.sl [[j 7],[j 8]])]],.p (j 0)⟩,⟨1566781469,23,[.p (pv72),.agg [.p (j 4),.p (.sl [[j 3],[j 4]])]],.p (j 0)⟩,⟨1566905863,23,[.p (pv72),.agg [.p (j 4),.p (.sl [[j 3],[j 5]])]],.p (j 0)⟩,⟨1567154651,23,[.p (pv72),.agg [.p (j 4),.p (.sl [[j 3],[j 7]])]],.p (j 0)⟩,⟨1567279045,23,[.p (pv72),.agg [.p (j 4),.p (.sl [[j 3],[j 8]])]],.p (j 0)⟩,⟨1566909225,23,[.p (pv72),.agg [.p (j 4),.p (.sl [[j 4],[j 5]])]],.p (j 0)⟩,⟨1567033619,23,[.p (pv72),.agg [.p (j 4),.p (.sl [[j 4],[j 6]])]],.p (j 0)⟩,⟨1567282407,23,[.p (pv72),.agg [.p (j 4),.p (.sl [[j 4],[j 8]])]],.p (j 0)⟩,⟨1567036981,23,[.p (pv72),.agg [.p (j 4),.p (.sl [[j 5],[j 6]])]],.p (j 0)⟩,⟨1567161375,23,[.p (pv72),.agg [.p (j 4),.p (.sl [[j 5],[j 7]])]],.p (j 0)⟩,⟨1567164737,23,[.p (pv72),.agg [.p (j 4),.p (.sl [[j 6],[j 7]])]],.p (j 0)⟩,⟨1567289131,23,[.p (pv72),.agg [.p (j 4),.p (.sl [[j 6],[j 8]])]],.p (j 0)⟩,⟨1567292493,23,[.p (pv72),.agg [.p (j 4),.p (.sl [[j 7],[j 8]])]],.p (j 0)⟩,⟨548466607,23,[.p (pv72),.agg [.p (j 6),.p (pv1)]],.p (j 0)⟩,⟨562657691,23,[.p (pv72),.agg [.p (j 7),.p (pv2)]],.p (j 0)⟩,⟨567260269,23,[.p (pv72),.agg [.p (j 7),.p (pv74)]],.p (j 0)⟩,⟨571862847,23,[.p (pv72),.agg [.p (j 7),.p (pv75)]],.p (j 0)⟩,⟨567384663,23,[.p (pv72),.agg [.p (j 7),.p (pv76)]],.p (j 0)⟩,⟨576589819,23,[.p (pv72),.agg [.p (j 7),.p (pv77)]],.p (j 0)⟩,⟨572111635,23,[.p (pv72),.agg [.p (j 7),.p (pv78)]],.p (j 0)⟩,⟨576714213,23,[.p (pv72),.agg [.p (j 7),.p (pv79)]],.p (j 0)⟩,⟨576838607,23,[.p (pv72),.agg [.p (j 7),.p (pv80)]],.p (j 0)⟩,⟨571990603,23,[.p (pv72),.agg [.p (j 7),.p (pv81)]],.p (j 0)⟩,⟨576593181,23,[.p (pv72),.agg [.p (j 7),.p (pv82)]],.p (j 0)⟩,⟨572114997,23,[.p (pv72),.agg [.p (j 7),.p (pv83)]],.p (j 0)⟩,⟨576717575,23,[.p (pv72),.agg [.p (j 7),.p (pv84)]],.p (j 0)⟩,⟨576841969,23,[.p (pv72),.agg [.p (j 7),.p (pv85)]],.p (j 0)⟩,⟨572118359,23,[.p (pv72),.agg [.p (j 7),.p (pv86)]],.p (j 0)⟩,⟨576720937,23,[.p (pv72),.agg [.p (j 7),.p (pv87)]],.p (j 0)⟩,⟨576845331,23,[.p (pv72),.agg [.p (j 7),.p (pv88)]],.p (j 0)⟩,⟨576848693,23,[.p (pv72),.agg [.p (j 7),.p (pv3)]],.p (j 0)⟩,⟨1530491969,23,[.p (pv72),.agg [.p (j 5),.p (pv89)]],.p (j 0)⟩,⟨1535094547,23,[.p (pv72),.agg [.p (j 5),.p (pv90)]],.p (j 0)⟩,⟨1535218941,23,[.p (pv72),.agg [.p (j 5),.p (pv91)]],.p (j 0)⟩]
def Q23:List Fact:=g23_0++(g23_1)
noncomputable def XQ10:XR:=orX (onX 23 (factX Q23)) XQ9
def g98_0:List Fact:=[⟨2162720,98,[.p (.nsl),.p (.sl []),.p (j 6)],.tup [.p (.nsl),.p (.sl []),.p (j 0)]⟩]
def Q98:List Fact:=g98_0
noncomputable def XQ11:XR:=orX (onX 98 (factX Q98)) XQ10
def g69_0:List Fact:=[⟨299182786,69,[.p (pv94),.p (pv95)],.tup [.p (pv94),.p (j 0)]⟩,⟨1448008285,69,[.p (pv95),.p (pv97)],.tup [.p (pv97),.p (j 0)]⟩,⟨1166335122,69,[.p (pv95),.p (pv99)],.tup [.p (pv99),.p (j 0)]⟩,⟨1949322429,69,[.p (pv101),.p (pv95)],.tup [.p (pv101),.p (j 0)]⟩,⟨1223176196,69,[.p (pv101),.p (pv97)],.tup [.p (pv103),.p (j 0)]⟩,⟨1438847037,69,[.p (pv94),.p (pv99)],.tup [.p (pv105),.p (j 0)]⟩,⟨1632667135,69,[.p (pv97),.p (pv95)],.tup [.p (pv97),.p (j 0)]⟩,⟨8180858,69,[.p (pv95),.p (pv106)],.tup [.p (pv106),.p (j 0)]⟩,⟨82699093,69,[.p (pv95),.p (pv107)],.tup [.p (pv107),.p (j 0)]⟩,⟨1521041758,69,[.p (pv99),.p (pv95)],.tup [.p (pv99),.p (j 0)]⟩,⟨1502551745,69,[.p (pv99),.p (pv106)],.tup [.p (pv109),.p (j 0)]⟩,⟨1688695357,69,[.p (pv97),.p (pv107)],.tup [.p (pv111),.p (j 0)]⟩,⟨78597545,69,[.p (pv106),.p (pv95)],.tup [.p (pv106),.p (j 0)]⟩,⟨462241151,69,[.p (pv95),.p (pv94)],.tup [.p (pv94),.p (j 0)]⟩,⟨1545973457,69,[.p (pv95),.p (pv101)],.tup [.p (pv101),.p (j 0)]⟩,⟨28037413,69,[.p (pv107),.p (pv95)],.tup [.p (pv107),.p (j 0)]⟩,⟨463607693,69,[.p (pv107),.p (pv94)],.tup [.p (pv113),.p (j 0)]⟩,⟨1597900131,69,[.p (pv106),.p (pv101)],.tup [.p (pv115),.p (j 0)]⟩,⟨52613508,69,[.p (pv106),.p (.sl [])],.tup [.p (.sl []),.p (j 0)]⟩,⟨359880187,69,[.p (pv95),.p (pv116)],.tup [.p (pv116),.p (j 0)]⟩,⟨1345648797,69,[.p (pv95),.p (pv117)],.tup [.p (pv117),.p (j 0)]⟩,⟨2053376,69,[.p (pv107),.p (.sl [])],.tup [.p (.sl []),.p (j 0)]⟩,⟨361246729,69,[.p (pv107),.p (pv116)],.tup [.p (pv120),.p (j 0)]⟩,⟨1397575471,69,[.p (pv106),.p (pv117)],.tup [.p (pv123),.p (j 0)]⟩,⟨273198749,69,[.p (pv94),.p (.sl [])],.tup [.p (.sl []),.p (j 0)]⟩,⟨2053305017,69,[.p (pv95),.p (pv124)],.tup [.p (pv124),.p (j 0)]⟩,⟨1725285656,69,[.p (pv95),.p (pv125)],.tup [.p (pv125),.p (j 0)]⟩]
def g69_1:List Fact:=[⟨1923338392,69,[.p (pv101),.p (.sl [])],.tup [.p (.sl []),.p (j 0)]⟩,⟨1828472928,69,[.p (pv101),.p (pv124)],.tup [.p (pv127),.p (j 0)]⟩,⟨1997797571,69,[.p (pv94),.p (pv125)],.tup [.p (pv129),.p (j 0)]⟩,⟨1606683098,69,[.p (pv97),.p (.sl [])],.tup [.p (.sl []),.p (j 0)]⟩,⟨285458229,69,[.p (pv95),.p (pv130)],.tup [.p (pv130),.p (j 0)]⟩,⟨739519998,69,[.p (pv95),.p (pv131)],.tup [.p (pv131),.p (j 0)]⟩,⟨1495057721,69,[.p (pv99),.p (.sl [])],.tup [.p (.sl []),.p (j 0)]⟩,⟨1779829116,69,[.p (pv99),.p (pv130)],.tup [.p (pv132),.p (j 0)]⟩,⟨198032615,69,[.p (pv97),.p (pv131)],.tup [.p (pv133),.p (j 0)]⟩,⟨1737800958,69,[.p (pv125),.p (pv134)],.tup [.p (pv143),.p (j 0)]⟩,⟨2065218424,69,[.p (pv144),.p (pv131)],.tup [.p (pv150),.p (j 0)]⟩,⟨2099438298,69,[.p (pv151),.p (pv152)],.tup [.p (pv175),.p (j 0)]⟩]
def g69_2:List Fact:=[⟨1902934344,69,[.p (pv176),.p (pv134)],.tup [.p (pv185),.p (j 0)]⟩,⟨1611158131,69,[.p (pv144),.p (pv186)],.tup [.p (pv193),.p (j 0)]⟩,⟨1180842565,69,[.p (pv117),.p (pv194)],.tup [.p (pv206),.p (j 0)]⟩]
def g69_3:List Fact:=[⟨160418264,69,[.p (pv176),.p (pv131)],.tup [.p (pv207),.p (j 0)]⟩,⟨1688708232,69,[.p (pv125),.p (pv186)],.tup [.p (pv208),.p (j 0)]⟩,⟨865823567,69,[.p (pv209),.p (pv210)],.tup [.p (pv211),.p (j 0)]⟩,⟨686834,69,[.p (pv95),.p (.sl [])],.tup [.p (.sl []),.p (j 0)]⟩,⟨686342,69,[.p (pv95),.p (.nsl)],.tup [.p (.sl []),.p (j 0)]⟩]
def Q69:List Fact:=g69_0++(g69_1++(g69_2++(g69_3)))
noncomputable def XQ12:XR:=orX (onX 69 (factX Q69)) XQ11
def g133_0:List Fact:=[⟨2119287351,133,[.p (pv212),.p (pv211)],.tup [.p (.sl []),.p (j 0)]⟩]
def Q133:List Fact:=g133_0
noncomputable def XQ13:XR:=orX (onX 133 (factX Q133)) XQ12
def g238_0:List Fact:=[⟨1720520200,238,[.p (pv94),.p (pv97)],.tup [.p (pv117),.p (j 0)]⟩,⟨892860697,238,[.p (pv99),.p (pv101)],.tup [.p (pv116),.p (j 0)]⟩,⟨324069369,238,[.p (pv103),.p (pv105)],.tup [.p (pv213),.p (j 0)]⟩,⟨1614177122,238,[.p (pv97),.p (pv106)],.tup [.p (pv125),.p (j 0)]⟩,⟨1167701664,238,[.p (pv107),.p (pv99)],.tup [.p (pv124),.p (j 0)]⟩,⟨795045441,238,[.p (pv109),.p (pv111)],.tup [.p (pv214),.p (j 0)]⟩,⟨514167825,238,[.p (pv106),.p (pv94)],.tup [.p (pv131),.p (j 0)]⟩,⟨2005350651,238,[.p (pv101),.p (pv107)],.tup [.p (pv130),.p (j 0)]⟩,⟨1821402968,238,[.p (pv113),.p (pv115)],.tup [.p (pv215),.p (j 0)]⟩,⟨359246430,238,[.p (.sl []),.p (pv116)],.tup [.p (pv151),.p (j 0)]⟩,⟨975654726,238,[.p (pv117),.p (.sl [])],.tup [.p (pv117),.p (j 0)]⟩,⟨1098000952,238,[.p (pv120),.p (pv123)],.tup [.p (pv209),.p (j 0)]⟩,⟨2052671260,238,[.p (.sl []),.p (pv124)],.tup [.p (pv176),.p (j 0)]⟩,⟨1403935361,238,[.p (pv125),.p (.sl [])],.tup [.p (pv125),.p (j 0)]⟩,⟨794303546,238,[.p (pv127),.p (pv129)],.tup [.p (pv144),.p (j 0)]⟩,⟨284824472,238,[.p (.sl []),.p (pv130)],.tup [.p (pv186),.p (j 0)]⟩,⟨70451048,238,[.p (pv131),.p (.sl [])],.tup [.p (pv131),.p (j 0)]⟩,⟨2093951294,238,[.p (pv132),.p (pv133)],.tup [.p (pv134),.p (j 0)]⟩,⟨1386919896,238,[.p (pv143),.p (pv150)],.tup [.p (pv152),.p (j 0)]⟩]
def g238_1:List Fact:=[⟨708827117,238,[.p (pv185),.p (pv193)],.tup [.p (pv194),.p (j 0)]⟩,⟨575897187,238,[.p (pv175),.p (pv206)],.tup [.p (pv212),.p (j 0)]⟩]
def g238_2:List Fact:=[⟨318510030,238,[.p (pv207),.p (pv208)],.tup [.p (pv210),.p (j 0)]⟩]
def Q238:List Fact:=g238_0++(g238_1++(g238_2))
noncomputable def XQ14:XR:=orX (onX 238 (factX Q238)) XQ13
def g164_0:List Fact:=[⟨331411892,164,[.agg [.p (j 6),.p (pv67),.p (pv10),.p (.sl [])]],.tup [.p (.sl [[pv107],[pv106],[pv95],[pv101],[pv94],[pv95],[pv99],[pv97],[pv95],[pv94],[pv97],[pv117],[pv99],[pv101],[pv116],[pv103],[pv105],[pv213],[pv97],[pv106],[pv125],[pv107],[pv99],[pv124],[pv109],[pv111],[pv214],[pv106],[pv94],[pv131],[pv101],[pv107],[pv130],[pv113],[pv115],[pv215],[.sl []],[.sl []],[pv116],[pv151],[pv117],[.sl []],[pv117],[pv120],[pv123],[pv209],[.sl []],[.sl []],[pv124],[pv176],[pv125],[.sl []],[pv125],[pv127],[pv129],[pv144],[.sl []],[.sl []],[pv130],[pv186],[pv131],[.sl []],[pv131],[pv132],[pv133],[pv134],[pv143],[pv150],[pv152],[pv175],[pv185],[pv193],[pv194],[pv206],[pv212],[pv207],[pv208],[pv210],[pv211],[.sl []]]),.p (.sl []),.p (j 0)]⟩]
def Q164:List Fact:=g164_0
noncomputable def XQ15:XR:=orX (onX 164 (factX Q164)) XQ14
def g97_0:List Fact:=[⟨990490012,97,[.p (pv71),.agg [.p (j 7),.p (pv3)]],.tup [.p (.sl [[.nsl]]),.p (.sl []),.p (j 0)]⟩,⟨576848693,97,[.p (pv72),.agg [.p (j 7),.p (pv3)]],.tup [.p (.sl [[.nsl]]),.p (.sl []),.p (j 0)]⟩]
def Q97:List Fact:=g97_0
noncomputable def XQ16:XR:=orX (onX 97 (factX Q97)) XQ15
def g21_0:List Fact:=[⟨415323651,21,[.p (pv71),.agg [.p (j 7),.p (pv3)],.agg [.p (j 3),.p (j 0),.p (.sl []),.p (.sl []),.p (.sl []),.p (.sl []),.p (.sl []),.p (.sl []),.p (.sl []),.p (.sl []),.p (j 0)],.p (j 1)],.tup [.p (pv216),.agg [.p (j 1),.p (j 6),.p (.nsl),.p (.sl []),.p (pv95),.p (.sl []),.p (.sl []),.p (.sl []),.p (.sl []),.p (.sl []),.p (j 0)],.p (j 0)]⟩,⟨1544490,21,[.p (pv72),.agg [.p (j 7),.p (pv3)],.agg [.p (j 3),.p (j 0),.p (.sl []),.p (.sl []),.p (.sl []),.p (.sl []),.p (.sl []),.p (.sl []),.p (.sl []),.p (.sl []),.p (j 0)],.p (j 0)],.tup [.p (pv216),.agg [.p (j 1),.p (j 6),.p (.nsl),.p (.sl []),.p (pv95),.p (.sl []),.p (.sl []),.p (.sl []),.p (.sl []),.p (.sl []),.p (j 0)],.p (j 0)]⟩]
def Q21:List Fact:=g21_0
noncomputable def XQ17:XR:=orX (onX 21 (factX Q21)) XQ16
def q9_0:Fact:=⟨992582857,9,[.p (pv71),.agg [.p (j 7),.p (pv3)],.p (j 1)],.tup [.p (pv216),.agg [.p (j 1),.p (j 6),.p (.nsl),.p (.sl []),.p (pv95),.p (.sl []),.p (.sl []),.p (.sl []),.p (.sl []),.p (.sl []),.p (j 0)],.p (j 0)]⟩
def q9_1:Fact:=⟨578938176,9,[.p (pv72),.agg [.p (j 7),.p (pv3)],.p (j 0)],.tup [.p (pv216),.agg [.p (j 1),.p (j 6),.p (.nsl),.p (.sl []),.p (pv95),.p (.sl []),.p (.sl []),.p (.sl []),.p (.sl []),.p (.sl []),.p (j 0)],.p (j 0)]⟩
def Q9:List Fact:=[q9_0,q9_1]
noncomputable def XQ18:XR:=orX (onX 9 (factX Q9)) XQ17
def g38_0:List Fact:=[⟨1889942881,38,[.p (pv71),.p (j 10007),.p (j 0)],.tup [.p (pv217),.p (j 0)]⟩,⟨1889946243,38,[.p (pv71),.p (j 10007),.p (j 1)],.tup [.p (pv218),.p (j 0)]⟩,⟨1889949605,38,[.p (pv71),.p (j 10007),.p (j 2)],.tup [.p (pv219),.p (j 0)]⟩,⟨1475481398,38,[.p (pv72),.p (j 5),.p (j 0)],.tup [.p (pv220),.p (j 0)]⟩,⟨1475484760,38,[.p (pv72),.p (j 5),.p (j 1)],.tup [.p (pv221),.p (j 0)]⟩,⟨1475481562,38,[.p (pv72),.p (j 7),.p (j 0)],.tup [.p (pv222),.p (j 0)]⟩,⟨1475484924,38,[.p (pv72),.p (j 7),.p (j 1)],.tup [.p (pv223),.p (j 0)]⟩,⟨1475482054,38,[.p (pv72),.p (j 13),.p (j 0)],.tup [.p (pv224),.p (j 0)]⟩,⟨1475485416,38,[.p (pv72),.p (j 13),.p (j 1)],.tup [.p (pv225),.p (j 0)]⟩,⟨1475489270,38,[.p (pv72),.p (j 101),.p (j 0)],.tup [.p (pv226),.p (j 0)]⟩,⟨1475492632,38,[.p (pv72),.p (j 101),.p (j 1)],.tup [.p (pv227),.p (j 0)]⟩,⟨1475502062,38,[.p (pv72),.p (j 257),.p (j 0)],.tup [.p (pv228),.p (j 0)]⟩,⟨1475505424,38,[.p (pv72),.p (j 257),.p (j 1)],.tup [.p (pv229),.p (j 0)]⟩,⟨1476301562,38,[.p (pv72),.p (j 10007),.p (j 0)],.tup [.p (pv217),.p (j 0)]⟩,⟨1476304924,38,[.p (pv72),.p (j 10007),.p (j 1)],.tup [.p (pv218),.p (j 0)]⟩,⟨1557481234,38,[.p (pv72),.p (j 1000003),.p (j 0)],.tup [.p (pv230),.p (j 0)]⟩,⟨1557484596,38,[.p (pv72),.p (j 1000003),.p (j 1)],.tup [.p (pv231),.p (j 0)]⟩,⟨1475480988,38,[.p (pv72),.p (j 2147483647),.p (j 0)],.tup [.p (pv232),.p (j 0)]⟩,⟨1475484350,38,[.p (pv72),.p (j 2147483647),.p (j 1)],.tup [.p (pv233),.p (j 0)]⟩]
def Q38:List Fact:=g38_0
noncomputable def XQ19:XR:=orX (onX 38 (factX Q38)) XQ18
def g39_0:List Fact:=[⟨1106520554,39,[.p (pv71),.p (j 10007),.p (pv217),.p (.sl [])],.tup [.p (pv243),.p (bt),.p (j 0)]⟩,⟨1976501713,39,[.p (pv71),.p (j 10007),.p (pv218),.p (.sl [])],.tup [.p (pv253),.p (bt),.p (j 0)]⟩,⟨1734170632,39,[.p (pv71),.p (j 10007),.p (pv219),.p (.sl [])],.tup [.p (.sl [[.sl [[j 4263],[j 4580],[j 1]]],[.sl [[j 7093],[j 1795],[j 1]]],[.sl [[j 8700],[j 7794],[j 1]]],[.sl [[j 4008],[j 1607],[j 8601]]],[.sl [[j 3214],[j 5570],[j 5551]]],[.sl [[j 2785],[j 2830],[j 3519]]],[.sl [[j 8400],[j 4008],[j 2051]]],[.sl [[j 4437],[j 3214],[j 5283]]],[.sl [[j 7177],[j 2785],[j 2673]]]]),.p (bt),.p (j 0)]⟩,⟨1522488204,39,[.p (pv72),.p (j 5),.p (pv220),.p (.sl [])],.tup [.p (pv262),.p (bt),.p (j 0)]⟩,⟨1806531052,39,[.p (pv72),.p (j 5),.p (pv221),.p (.sl [])],.tup [.p (pv269),.p (bt),.p (j 0)]⟩,⟨1883452144,39,[.p (pv72),.p (j 7),.p (pv222),.p (.sl [])],.tup [.p (pv278),.p (bt),.p (j 0)]⟩,⟨762254417,39,[.p (pv72),.p (j 7),.p (pv223),.p (.sl [])],.tup [.p (pv287),.p (bt),.p (j 0)]⟩]
def g39_1:List Fact:=[⟨736375994,39,[.p (pv72),.p (j 13),.p (pv224),.p (.sl [])],.tup [.p (pv297),.p (bt),.p (j 0)]⟩,⟨607996292,39,[.p (pv72),.p (j 13),.p (pv225),.p (.sl [])],.tup [.p (pv307),.p (bt),.p (j 0)]⟩,⟨592437702,39,[.p (pv72),.p (j 101),.p (pv226),.p (.sl [])],.tup [.p (pv317),.p (bt),.p (j 0)]⟩,⟨962564675,39,[.p (pv72),.p (j 101),.p (pv227),.p (.sl [])],.tup [.p (pv327),.p (bt),.p (j 0)]⟩,⟨204340056,39,[.p (pv72),.p (j 257),.p (pv228),.p (.sl [])],.tup [.p (pv337),.p (bt),.p (j 0)]⟩,⟨1207485840,39,[.p (pv72),.p (j 257),.p (pv229),.p (.sl [])],.tup [.p (pv347),.p (bt),.p (j 0)]⟩,⟨692879235,39,[.p (pv72),.p (j 10007),.p (pv217),.p (.sl [])],.tup [.p (pv243),.p (bt),.p (j 0)]⟩]
def g39_2:List Fact:=[⟨1562860394,39,[.p (pv72),.p (j 10007),.p (pv218),.p (.sl [])],.tup [.p (pv253),.p (bt),.p (j 0)]⟩,⟨1282756371,39,[.p (pv72),.p (j 1000003),.p (pv230),.p (.sl [])],.tup [.p (pv357),.p (bt),.p (j 0)]⟩,⟨848740574,39,[.p (pv72),.p (j 1000003),.p (pv231),.p (.sl [])],.tup [.p (pv367),.p (bt),.p (j 0)]⟩,⟨20994904,39,[.p (pv72),.p (j 2147483647),.p (pv232),.p (.sl [])],.tup [.p (pv377),.p (bt),.p (j 0)]⟩,⟨212200879,39,[.p (pv72),.p (j 2147483647),.p (pv233),.p (.sl [])],.tup [.p (pv387),.p (bt),.p (j 0)]⟩]
def Q39:List Fact:=g39_0++(g39_1++(g39_2))
noncomputable def XQ20:XR:=orX (onX 39 (factX Q39)) XQ19
def h0(n:Nat)(k:Int)(a:List Int)(b x:Bool)(e:Int):Fact:=⟨n,20,[.p pv71,.p (j 10007),.p (pv217),.p (.sl []),.agg [.p (j k),.p (.sl (a.map fun n=>[j n]))]],.tup [.p (.v (.bool b)),.p (.v (.bool x)),.p (j e)]⟩
def h1(n:Nat)(k:Int)(a:List Int)(b x:Bool)(e:Int):Fact:=⟨n,20,[.p pv71,.p (j 10007),.p (pv218),.p (.sl []),.agg [.p (j k),.p (.sl (a.map fun n=>[j n]))]],.tup [.p (.v (.bool b)),.p (.v (.bool x)),.p (j e)]⟩
def h2(n:Nat)(k:Int)(a:List Int)(b x:Bool)(e:Int):Fact:=⟨n,20,[.p pv71,.p (j 10007),.p (pv219),.p (.sl []),.agg [.p (j k),.p (.sl (a.map fun n=>[j n]))]],.tup [.p (.v (.bool b)),.p (.v (.bool x)),.p (j e)]⟩
def h3(n:Nat)(k:Int)(a:List Int)(b x:Bool)(e:Int):Fact:=⟨n,20,[.p pv72,.p (j 5),.p (pv220),.p (.sl []),.agg [.p (j k),.p (.sl (a.map fun n=>[j n]))]],.tup [.p (.v (.bool b)),.p (.v (.bool x)),.p (j e)]⟩
def h4(n:Nat)(k:Int)(a:List Int)(b x:Bool)(e:Int):Fact:=⟨n,20,[.p pv72,.p (j 5),.p (pv221),.p (.sl []),.agg [.p (j k),.p (.sl (a.map fun n=>[j n]))]],.tup [.p (.v (.bool b)),.p (.v (.bool x)),.p (j e)]⟩
def h5(n:Nat)(k:Int)(a:List Int)(b x:Bool)(e:Int):Fact:=⟨n,20,[.p pv72,.p (j 7),.p (pv222),.p (.sl []),.agg [.p (j k),.p (.sl (a.map fun n=>[j n]))]],.tup [.p (.v (.bool b)),.p (.v (.bool x)),.p (j e)]⟩
def h6(n:Nat)(k:Int)(a:List Int)(b x:Bool)(e:Int):Fact:=⟨n,20,[.p pv72,.p (j 7),.p (pv223),.p (.sl []),.agg [.p (j k),.p (.sl (a.map fun n=>[j n]))]],.tup [.p (.v (.bool b)),.p (.v (.bool x)),.p (j e)]⟩
def h7(n:Nat)(k:Int)(a:List Int)(b x:Bool)(e:Int):Fact:=⟨n,20,[.p pv72,.p (j 13),.p (pv224),.p (.sl []),.agg [.p (j k),.p (.sl (a.map fun n=>[j n]))]],.tup [.p (.v (.bool b)),.p (.v (.bool x)),.p (j e)]⟩
def h8(n:Nat)(k:Int)(a:List Int)(b x:Bool)(e:Int):Fact:=⟨n,20,[.p pv72,.p (j 13),.p (pv225),.p (.sl []),.agg [.p (j k),.p (.sl (a.map fun n=>[j n]))]],.tup [.p (.v (.bool b)),.p (.v (.bool x)),.p (j e)]⟩
def h9(n:Nat)(k:Int)(a:List Int)(b x:Bool)(e:Int):Fact:=⟨n,20,[.p pv72,.p (j 101),.p (pv226),.p (.sl []),.agg [.p (j k),.p (.sl (a.map fun n=>[j n]))]],.tup [.p (.v (.bool b)),.p (.v (.bool x)),.p (j e)]⟩
def h10(n:Nat)(k:Int)(a:List Int)(b x:Bool)(e:Int):Fact:=⟨n,20,[.p pv72,.p (j 101),.p (pv227),.p (.sl []),.agg [.p (j k),.p (.sl (a.map fun n=>[j n]))]],.tup [.p (.v (.bool b)),.p (.v (.bool x)),.p (j e)]⟩
def h11(n:Nat)(k:Int)(a:List Int)(b x:Bool)(e:Int):Fact:=⟨n,20,[.p pv72,.p (j 257),.p (pv228),.p (.sl []),.agg [.p (j k),.p (.sl (a.map fun n=>[j n]))]],.tup [.p (.v (.bool b)),.p (.v (.bool x)),.p (j e)]⟩
def h12(n:Nat)(k:Int)(a:List Int)(b x:Bool)(e:Int):Fact:=⟨n,20,[.p pv72,.p (j 257),.p (pv229),.p (.sl []),.agg [.p (j k),.p (.sl (a.map fun n=>[j n]))]],.tup [.p (.v (.bool b)),.p (.v (.bool x)),.p (j e)]⟩
def h13(n:Nat)(k:Int)(a:List Int)(b x:Bool)(e:Int):Fact:=⟨n,20,[.p pv72,.p (j 10007),.p (pv217),.p (.sl []),.agg [.p (j k),.p (.sl (a.map fun n=>[j n]))]],.tup [.p (.v (.bool b)),.p (.v (.bool x)),.p (j e)]⟩
def h14(n:Nat)(k:Int)(a:List Int)(b x:Bool)(e:Int):Fact:=⟨n,20,[.p pv72,.p (j 10007),.p (pv218),.p (.sl []),.agg [.p (j k),.p (.sl (a.map fun n=>[j n]))]],.tup [.p (.v (.bool b)),.p (.v (.bool x)),.p (j e)]⟩
def h15(n:Nat)(k:Int)(a:List Int)(b x:Bool)(e:Int):Fact:=⟨n,20,[.p pv72,.p (j 1000003),.p (pv230),.p (.sl []),.agg [.p (j k),.p (.sl (a.map fun n=>[j n]))]],.tup [.p (.v (.bool b)),.p (.v (.bool x)),.p (j e)]⟩
def h16(n:Nat)(k:Int)(a:List Int)(b x:Bool)(e:Int):Fact:=⟨n,20,[.p pv72,.p (j 1000003),.p (pv231),.p (.sl []),.agg [.p (j k),.p (.sl (a.map fun n=>[j n]))]],.tup [.p (.v (.bool b)),.p (.v (.bool x)),.p (j e)]⟩
def h17(n:Nat)(k:Int)(a:List Int)(b x:Bool)(e:Int):Fact:=⟨n,20,[.p pv72,.p (j 2147483647),.p (pv232),.p (.sl []),.agg [.p (j k),.p (.sl (a.map fun n=>[j n]))]],.tup [.p (.v (.bool b)),.p (.v (.bool x)),.p (j e)]⟩
def h18(n:Nat)(k:Int)(a:List Int)(b x:Bool)(e:Int):Fact:=⟨n,20,[.p pv72,.p (j 2147483647),.p (pv233),.p (.sl []),.agg [.p (j k),.p (.sl (a.map fun n=>[j n]))]],.tup [.p (.v (.bool b)),.p (.v (.bool x)),.p (j e)]⟩
def hs0:List Fact:=[h0 182828338 1 [0,1] false true 0,h0 166252624 1 [0,2] false true 0,h0 397965026 1 [1,2] false true 0,h0 155328432 2 [0,3] false true 0,h0 89025576 2 [0,7] false true 0,h0 72449862 2 [0,8] false true 0,h0 370465120 2 [1,4] false true 0]
def hs1:List Fact:=[h0 337313692 2 [1,6] false true 0,h0 304162264 2 [1,8] false true 0,h0 585601808 2 [2,5] false true 0,h0 569026094 2 [2,6] false true 0,h0 552450380 2 [2,7] false true 0,h0 839541446 3 [3,4] false true 0,h0 822965732 3 [3,5] false true 0,h0 806390018 3 [3,6] false true 0]
def hs2:List Fact:=[h0 789814304 3 [3,7] false true 0,h0 773238590 3 [3,8] false true 0,h0 1054678134 3 [4,5] false true 0,h0 1038102420 3 [4,6] false true 0,h0 1021526706 3 [4,7] false true 0,h0 1004950992 3 [4,8] false true 0,h0 1269814822 3 [5,6] false true 0,h0 1253239108 3 [5,7] false true 0]
def hs3:List Fact:=[h0 1236663394 3 [5,8] false true 0,h0 1484951510 3 [6,7] false true 0,h0 1468375796 3 [6,8] false true 0,h0 1700088198 3 [7,8] false true 0,h0 845192968 4 [3,4] false true 0,h0 828617254 4 [3,5] false true 0,h0 795465826 4 [3,7] false true 0,h0 778890112 4 [3,8] false true 0]
def hs4:List Fact:=[h0 1060329656 4 [4,5] false true 0,h0 1043753942 4 [4,6] false true 0,h0 1010602514 4 [4,8] false true 0,h0 1275466344 4 [5,6] false true 0,h0 1258890630 4 [5,7] false true 0,h0 1490603032 4 [6,7] false true 0,h0 1474027318 4 [6,8] false true 0,h0 1705739720 4 [7,8] false true 0]
def hs5:List Fact:=[h0 1627140320 6 [0,1,2] false true 0,h0 438297652 7 [3,4,5] false true 0,h0 1972479881 7 [3,4,6] false true 0,h0 1359178463 7 [3,4,7] false true 0,h0 1955904167 7 [3,5,6] false true 0,h0 729301331 7 [3,5,8] false true 0,h0 1326027035 7 [3,6,7] false true 0]
def hs6:List Fact:=[h0 712725617 7 [3,6,8] false true 0,h0 696149903 7 [3,7,8] false true 0,h0 1574315151 7 [4,5,7] false true 0,h0 961013733 7 [4,5,8] false true 0,h0 1557739437 7 [4,6,7] false true 0,h0 944438019 7 [4,6,8] false true 0,h0 927862305 7 [4,7,8] false true 0]
def hs7:List Fact:=[h0 1789451839 7 [5,6,7] false true 0,h0 1176150421 7 [5,6,8] false true 0,h0 1159574707 7 [5,7,8] false true 0,h0 1391287109 7 [6,7,8] true true 0,h1 113784621 7 [6,7,8] true true 0,h2 2018937187 7 [6,7,8] true true 0,h0 1555012223 5 [0,1,0,2] false true 0]
def hs8:List Fact:=[h0 941710805 5 [0,1,1,2] false true 0,h0 925135091 5 [0,2,1,2] false true 0,h3 598795988 1 [0,1] false true 0,h3 582220274 1 [0,2] false true 0,h3 813932676 1 [1,2] false true 0,h3 571296082 2 [0,3] false true 0,h3 504993226 2 [0,7] false true 0]
def hs9:List Fact:=[h3 488417512 2 [0,8] false true 0,h3 786432770 2 [1,4] false true 0,h3 753281342 2 [1,6] false true 0,h3 720129914 2 [1,8] false true 0,h3 1001569458 2 [2,5] false true 0,h3 984993744 2 [2,6] false true 0,h3 968418030 2 [2,7] false true 0,h3 1255509096 3 [3,4] false true 0]
def hs10:List Fact:=[h3 1238933382 3 [3,5] false true 0,h3 1222357668 3 [3,6] false true 0,h3 1205781954 3 [3,7] false true 0,h3 1189206240 3 [3,8] false true 0,h3 1470645784 3 [4,5] false true 0,h3 1454070070 3 [4,6] false true 0,h3 1437494356 3 [4,7] true true 0,h4 1721537204 3 [4,7] false true 0]
def hs11:List Fact:=[h3 1420918642 3 [4,8] false true 0,h3 1685782472 3 [5,6] false true 0,h3 1669206758 3 [5,7] false true 0,h3 1652631044 3 [5,8] false true 0,h3 1900919160 3 [6,7] false true 0,h3 1884343446 3 [6,8] false true 0,h3 2116055848 3 [7,8] false true 0,h3 1261160618 4 [3,4] false true 0]
def hs12:List Fact:=[h3 1244584904 4 [3,5] false true 0,h3 1211433476 4 [3,7] false true 0,h3 1194857762 4 [3,8] false true 0,h3 1476297306 4 [4,5] false true 0,h3 1459721592 4 [4,6] false true 0,h3 1426570164 4 [4,8] false true 0,h3 1691433994 4 [5,6] false true 0,h3 1674858280 4 [5,7] false true 0]
def hs13:List Fact:=[h3 1906570682 4 [6,7] false true 0,h3 1889994968 4 [6,8] false true 0,h3 2121707370 4 [7,8] false true 0,h3 2043107970 6 [0,1,2] false true 0,h3 854265302 7 [3,4,5] false true 0,h3 240963884 7 [3,4,6] false true 0,h3 1775146113 7 [3,4,7] false true 0]
def hs14:List Fact:=[h3 224388170 7 [3,5,6] false true 0,h3 1145268981 7 [3,5,8] false true 0,h3 1741994685 7 [3,6,7] false true 0,h3 1128693267 7 [3,6,8] false true 0,h3 1112117553 7 [3,7,8] false true 0,h3 1990282801 7 [4,5,7] false true 0,h3 1376981383 7 [4,5,8] false true 0]
def hs15:List Fact:=[h3 1973707087 7 [4,6,7] false true 0,h3 1360405669 7 [4,6,8] false true 0,h3 1343829955 7 [4,7,8] false true 0,h3 57935842 7 [5,6,7] false true 0,h3 1592118071 7 [5,6,8] false true 0,h3 1575542357 7 [5,7,8] false true 0,h3 1807254759 7 [6,7,8] true true 0]
def hs16:List Fact:=[h4 2091297607 7 [6,7,8] true true 0,h3 1970979873 5 [0,1,0,2] false true 0,h3 1357678455 5 [0,1,1,2] false true 0,h3 1341102741 5 [0,2,1,2] false true 0,h5 959759928 1 [0,1] false true 0,h5 943184214 1 [0,2] false true 0,h5 1174896616 1 [1,2] false true 0]
def hs17:List Fact:=[h5 932260022 2 [0,3] false true 0,h5 865957166 2 [0,7] false true 0,h5 849381452 2 [0,8] false true 0,h5 1147396710 2 [1,4] false true 0,h5 1114245282 2 [1,6] false true 0,h5 1081093854 2 [1,8] false true 0,h5 1362533398 2 [2,5] false true 0,h5 1345957684 2 [2,6] false true 0]
def hs18:List Fact:=[h5 1329381970 2 [2,7] false true 0,h5 1616473036 3 [3,4] false true 0,h5 1599897322 3 [3,5] false true 0,h5 1583321608 3 [3,6] false true 0,h5 1566745894 3 [3,7] false true 0,h5 1550170180 3 [3,8] false true 0,h5 1831609724 3 [4,5] false true 0,h5 1815034010 3 [4,6] false true 0]
def hs19:List Fact:=[h5 1798458296 3 [4,7] false true 0,h5 1781882582 3 [4,8] false true 0,h5 2046746412 3 [5,6] false true 0,h5 2030170698 3 [5,7] false true 0,h5 2013594984 3 [5,8] false true 0,h5 114399453 3 [6,7] false true 0,h5 97823739 3 [6,8] false true 0,h5 329536141 3 [7,8] false true 0]
def hs20:List Fact:=[h5 1622124558 4 [3,4] false true 0,h5 1605548844 4 [3,5] false true 0,h5 1572397416 4 [3,7] false true 0,h5 1555821702 4 [3,8] false true 0,h5 1837261246 4 [4,5] false true 0,h5 1820685532 4 [4,6] false true 0,h5 1787534104 4 [4,8] false true 0,h5 2052397934 4 [5,6] false true 0]
def hs21:List Fact:=[h5 2035822220 4 [5,7] false true 0,h5 120050975 4 [6,7] false true 0,h5 103475261 4 [6,8] false true 0,h5 335187663 4 [7,8] false true 0,h5 256588263 6 [0,1,2] false true 0,h5 1215229242 7 [3,4,5] false true 0,h5 601927824 7 [3,4,6] false true 0]
def hs22:List Fact:=[h5 2136110053 7 [3,4,7] false true 0,h5 585352110 7 [3,5,6] false true 0,h5 1506232921 7 [3,5,8] false true 0,h5 2102958625 7 [3,6,7] false true 0,h5 1489657207 7 [3,6,8] false true 0,h5 1473081493 7 [3,7,8] false true 0,h5 203763094 7 [4,5,7] false true 0]
def hs23:List Fact:=[h5 1737945323 7 [4,5,8] false true 0,h5 187187380 7 [4,6,7] false true 0,h5 1721369609 7 [4,6,8] false true 0,h5 1704793895 7 [4,7,8] false true 0,h5 418899782 7 [5,6,7] false true 0,h5 1953082011 7 [5,6,8] false true 0,h5 1936506297 7 [5,7,8] false true 0]
def hs24:List Fact:=[h5 20735052 7 [6,7,8] true true 0,h6 1047020972 7 [6,7,8] true true 0,h5 184460166 5 [0,1,0,2] false true 0,h5 1718642395 5 [0,1,1,2] false true 0,h5 1702066681 5 [0,2,1,2] false true 0,h7 1960167425 1 [0,1] false true 0,h7 1943591711 1 [0,2] false true 0]
def hs25:List Fact:=[h7 27820466 1 [1,2] false true 0,h7 1932667519 2 [0,3] false true 0,h7 1866364663 2 [0,7] false true 0,h7 1849788949 2 [0,8] false true 0,h7 320560 2 [1,4] false true 0,h7 2114652779 2 [1,6] true true 0,h8 1986273077 2 [1,6] false true 0,h7 2081501351 2 [1,8] true true 0]
def hs26:List Fact:=[h8 1953121649 2 [1,8] false true 0,h7 215457248 2 [2,5] false true 0,h7 198881534 2 [2,6] false true 0,h7 182305820 2 [2,7] false true 0,h7 469396886 3 [3,4] false true 0,h7 452821172 3 [3,5] false true 0,h7 436245458 3 [3,6] false true 0,h7 419669744 3 [3,7] false true 0]
def hs27:List Fact:=[h7 403094030 3 [3,8] true true 0,h8 274714328 3 [3,8] false true 0,h7 684533574 3 [4,5] false true 0,h7 667957860 3 [4,6] false true 0,h7 651382146 3 [4,7] false true 0,h7 634806432 3 [4,8] false true 0,h7 899670262 3 [5,6] true true 0,h8 771290560 3 [5,6] false true 0]
def hs28:List Fact:=[h7 883094548 3 [5,7] false true 0,h7 866518834 3 [5,8] false true 0,h7 1114806950 3 [6,7] false true 0,h7 1098231236 3 [6,8] false true 0,h7 1329943638 3 [7,8] false true 0,h7 475048408 4 [3,4] false true 0,h7 458472694 4 [3,5] true true 0,h8 330092992 4 [3,5] false true 0]
def hs29:List Fact:=[h7 425321266 4 [3,7] false true 0,h7 408745552 4 [3,8] false true 0,h7 690185096 4 [4,5] false true 0,h7 673609382 4 [4,6] false true 0,h7 640457954 4 [4,8] false true 0,h7 905321784 4 [5,6] false true 0,h7 888746070 4 [5,7] false true 0,h7 1120458472 4 [6,7] false true 0]
def hs30:List Fact:=[h7 1103882758 4 [6,8] true true 0,h8 975503056 4 [6,8] false true 0,h7 1335595160 4 [7,8] false true 0,h7 1256995760 6 [0,1,2] false true 0,h7 68153092 7 [3,4,5] false true 0,h7 1602335321 7 [3,4,6] false true 0,h7 989033903 7 [3,4,7] false true 0]
def hs31:List Fact:=[h7 1585759607 7 [3,5,6] true true 0,h8 1457379905 7 [3,5,6] false true 0,h7 359156771 7 [3,5,8] true true 0,h8 230777069 7 [3,5,8] false true 0,h7 955882475 7 [3,6,7] true true 0,h8 827502773 7 [3,6,7] false true 0,h7 342581057 7 [3,6,8] true true 0]
def hs32:List Fact:=[h8 214201355 7 [3,6,8] false true 0,h7 326005343 7 [3,7,8] true true 0,h8 197625641 7 [3,7,8] false true 0,h7 1204170591 7 [4,5,7] false true 0,h7 590869173 7 [4,5,8] false true 0,h7 1187594877 7 [4,6,7] false true 0,h7 574293459 7 [4,6,8] false true 0]
def hs33:List Fact:=[h7 557717745 7 [4,7,8] false true 0,h7 1419307279 7 [5,6,7] true true 0,h8 1290927577 7 [5,6,7] false true 0,h7 806005861 7 [5,6,8] true true 0,h8 677626159 7 [5,6,8] false true 0,h7 789430147 7 [5,7,8] true true 0,h8 661050445 7 [5,7,8] false true 0]
def hs34:List Fact:=[h7 1021142549 7 [6,7,8] true true 0,h8 892762847 7 [6,7,8] true true 0,h7 1184867663 5 [0,1,0,2] false true 0,h7 571566245 5 [0,1,1,2] false true 0,h7 554990531 5 [0,2,1,2] false true 0,h9 1816229133 1 [0,1] false true 0,h9 1799653419 1 [0,2] false true 0]
def hs35:List Fact:=[h9 2031365821 1 [1,2] false true 0,h9 1788729227 2 [0,3] false true 0,h9 1722426371 2 [0,7] false true 0,h9 1705850657 2 [0,8] false true 0,h9 2003865915 2 [1,4] false true 0,h9 1970714487 2 [1,6] false true 0,h9 1937563059 2 [1,8] false true 0,h9 71518956 2 [2,5] false true 0]
def hs36:List Fact:=[h9 54943242 2 [2,6] false true 0,h9 38367528 2 [2,7] false true 0,h9 325458594 3 [3,4] false true 0,h9 308882880 3 [3,5] false true 0,h9 292307166 3 [3,6] false true 0,h9 275731452 3 [3,7] false true 0,h9 259155738 3 [3,8] false true 0,h9 540595282 3 [4,5] false true 0]
def hs37:List Fact:=[h9 524019568 3 [4,6] false true 0,h9 507443854 3 [4,7] false true 0,h9 490868140 3 [4,8] false true 0,h9 755731970 3 [5,6] false true 0,h9 739156256 3 [5,7] false true 0,h9 722580542 3 [5,8] false true 0,h9 970868658 3 [6,7] false true 0,h9 954292944 3 [6,8] false true 0]
def hs38:List Fact:=[h9 1186005346 3 [7,8] false true 0,h9 331110116 4 [3,4] false true 0,h9 314534402 4 [3,5] false true 0,h9 281382974 4 [3,7] false true 0,h9 264807260 4 [3,8] false true 0,h9 546246804 4 [4,5] false true 0,h9 529671090 4 [4,6] false true 0,h9 496519662 4 [4,8] false true 0]
def hs39:List Fact:=[h9 761383492 4 [5,6] false true 0,h9 744807778 4 [5,7] false true 0,h9 976520180 4 [6,7] false true 0,h9 959944466 4 [6,8] false true 0,h9 1191656868 4 [7,8] false true 0,h9 1113057468 6 [0,1,2] false true 0,h9 2071698447 7 [3,4,5] false true 0,h9 1458397029 7 [3,4,6] false true 0]
def hs40:List Fact:=[h9 845095611 7 [3,4,7] false true 0,h9 1441821315 7 [3,5,6] false true 0,h9 215218479 7 [3,5,8] false true 0,h9 811944183 7 [3,6,7] false true 0,h9 198642765 7 [3,6,8] false true 0,h9 182067051 7 [3,7,8] false true 0,h9 1060232299 7 [4,5,7] false true 0]
def hs41:List Fact:=[h9 446930881 7 [4,5,8] false true 0,h9 1043656585 7 [4,6,7] false true 0,h9 430355167 7 [4,6,8] false true 0,h9 413779453 7 [4,7,8] false true 0,h9 1275368987 7 [5,6,7] false true 0,h9 662067569 7 [5,6,8] false true 0,h9 645491855 7 [5,7,8] false true 0]
def hs42:List Fact:=[h9 877204257 7 [6,7,8] true true 0,h10 1247331230 7 [6,7,8] true true 0,h9 1040929371 5 [0,1,0,2] false true 0,h9 427627953 5 [0,1,1,2] false true 0,h9 411052239 5 [0,2,1,2] false true 0,h11 1428131487 1 [0,1] false true 0,h11 1411555773 1 [0,2] false true 0]
def hs43:List Fact:=[h11 1643268175 1 [1,2] false true 0,h11 1400631581 2 [0,3] false true 0,h11 1334328725 2 [0,7] false true 0,h11 1317753011 2 [0,8] false true 0,h11 1615768269 2 [1,4] false true 0,h11 1582616841 2 [1,6] false true 0,h11 1549465413 2 [1,8] false true 0,h11 1830904957 2 [2,5] false true 0]
def hs44:List Fact:=[h11 1814329243 2 [2,6] false true 0,h11 1797753529 2 [2,7] false true 0,h11 2084844595 3 [3,4] false true 0,h11 2068268881 3 [3,5] false true 0,h11 2051693167 3 [3,6] false true 0,h11 2035117453 3 [3,7] false true 0,h11 2018541739 3 [3,8] false true 0,h11 152497636 3 [4,5] false true 0]
def hs45:List Fact:=[h11 135921922 3 [4,6] false true 0,h11 119346208 3 [4,7] false true 0,h11 102770494 3 [4,8] false true 0,h11 367634324 3 [5,6] false true 0,h11 351058610 3 [5,7] false true 0,h11 334482896 3 [5,8] false true 0,h11 582771012 3 [6,7] false true 0,h11 566195298 3 [6,8] false true 0]
def hs46:List Fact:=[h11 797907700 3 [7,8] false true 0,h11 2090496117 4 [3,4] false true 0,h11 2073920403 4 [3,5] false true 0,h11 2040768975 4 [3,7] false true 0,h11 2024193261 4 [3,8] false true 0,h11 158149158 4 [4,5] false true 0,h11 141573444 4 [4,6] false true 0,h11 108422016 4 [4,8] false true 0]
def hs47:List Fact:=[h11 373285846 4 [5,6] false true 0,h11 356710132 4 [5,7] false true 0,h11 588422534 4 [6,7] false true 0,h11 571846820 4 [6,8] false true 0,h11 803559222 4 [7,8] false true 0,h11 724959822 6 [0,1,2] false true 0,h11 1683600801 7 [3,4,5] false true 0,h11 1070299383 7 [3,4,6] false true 0]
def hs48:List Fact:=[h11 456997965 7 [3,4,7] false true 0,h11 1053723669 7 [3,5,6] false true 0,h11 1974604480 7 [3,5,8] false true 0,h11 423846537 7 [3,6,7] false true 0,h11 1958028766 7 [3,6,8] false true 0,h11 1941453052 7 [3,7,8] false true 0,h11 672134653 7 [4,5,7] false true 0]
def hs49:List Fact:=[h11 58833235 7 [4,5,8] false true 0,h11 655558939 7 [4,6,7] false true 0,h11 42257521 7 [4,6,8] false true 0,h11 25681807 7 [4,7,8] false true 0,h11 887271341 7 [5,6,7] false true 0,h11 273969923 7 [5,6,8] false true 0,h11 257394209 7 [5,7,8] false true 0]
def hs50:List Fact:=[h11 489106611 7 [6,7,8] true true 0,h12 1492252395 7 [6,7,8] true true 0,h11 652831725 5 [0,1,0,2] false true 0,h11 39530307 5 [0,1,1,2] false true 0,h11 22954593 5 [0,2,1,2] false true 0,h13 1916670666 1 [0,1] false true 0,h13 1900094952 1 [0,2] false true 0]
def hs51:List Fact:=[h13 2131807354 1 [1,2] false true 0,h13 1889170760 2 [0,3] false true 0,h13 1822867904 2 [0,7] false true 0,h13 1806292190 2 [0,8] false true 0,h13 2104307448 2 [1,4] false true 0,h13 2071156020 2 [1,6] false true 0,h13 2038004592 2 [1,8] false true 0,h13 171960489 2 [2,5] false true 0]
def hs52:List Fact:=[h13 155384775 2 [2,6] false true 0,h13 138809061 2 [2,7] false true 0,h13 425900127 3 [3,4] false true 0,h13 409324413 3 [3,5] false true 0,h13 392748699 3 [3,6] false true 0,h13 376172985 3 [3,7] false true 0,h13 359597271 3 [3,8] false true 0,h13 641036815 3 [4,5] false true 0]
def hs53:List Fact:=[h13 624461101 3 [4,6] false true 0,h13 607885387 3 [4,7] false true 0,h13 591309673 3 [4,8] false true 0,h13 856173503 3 [5,6] false true 0,h13 839597789 3 [5,7] false true 0,h13 823022075 3 [5,8] false true 0,h13 1071310191 3 [6,7] false true 0,h13 1054734477 3 [6,8] false true 0]
def hs54:List Fact:=[h13 1286446879 3 [7,8] false true 0,h13 431551649 4 [3,4] false true 0,h13 414975935 4 [3,5] false true 0,h13 381824507 4 [3,7] false true 0,h13 365248793 4 [3,8] false true 0,h13 646688337 4 [4,5] false true 0,h13 630112623 4 [4,6] false true 0,h13 596961195 4 [4,8] false true 0]
def hs55:List Fact:=[h13 861825025 4 [5,6] false true 0,h13 845249311 4 [5,7] false true 0,h13 1076961713 4 [6,7] false true 0,h13 1060385999 4 [6,8] false true 0,h13 1292098401 4 [7,8] false true 0,h13 1213499001 6 [0,1,2] false true 0,h13 24656333 7 [3,4,5] false true 0,h13 1558838562 7 [3,4,6] false true 0]
def hs56:List Fact:=[h13 945537144 7 [3,4,7] false true 0,h13 1542262848 7 [3,5,6] false true 0,h13 315660012 7 [3,5,8] false true 0,h13 912385716 7 [3,6,7] false true 0,h13 299084298 7 [3,6,8] false true 0,h13 282508584 7 [3,7,8] false true 0,h13 1160673832 7 [4,5,7] false true 0]
def hs57:List Fact:=[h13 547372414 7 [4,5,8] false true 0,h13 1144098118 7 [4,6,7] false true 0,h13 530796700 7 [4,6,8] false true 0,h13 514220986 7 [4,7,8] false true 0,h13 1375810520 7 [5,6,7] false true 0,h13 762509102 7 [5,6,8] false true 0,h13 745933388 7 [5,7,8] false true 0]
def hs58:List Fact:=[h13 977645790 7 [6,7,8] true true 0,h14 1847626949 7 [6,7,8] true true 0,h13 1141370904 5 [0,1,0,2] false true 0,h13 528069486 5 [0,1,1,2] false true 0,h13 511493772 5 [0,2,1,2] false true 0,h15 359064155 1 [0,1] false true 0,h15 342488441 1 [0,2] false true 0]
def hs59:List Fact:=[h15 574200843 1 [1,2] false true 0,h15 331564249 2 [0,3] false true 0,h15 265261393 2 [0,7] false true 0,h15 248685679 2 [0,8] false true 0,h15 546700937 2 [1,4] false true 0,h15 513549509 2 [1,6] false true 0,h15 480398081 2 [1,8] false true 0,h15 761837625 2 [2,5] false true 0]
def hs60:List Fact:=[h15 745261911 2 [2,6] false true 0,h15 728686197 2 [2,7] false true 0,h15 1015777263 3 [3,4] false true 0,h15 999201549 3 [3,5] false true 0,h15 982625835 3 [3,6] false true 0,h15 966050121 3 [3,7] false true 0,h15 949474407 3 [3,8] false true 0,h15 1230913951 3 [4,5] false true 0]
def hs61:List Fact:=[h15 1214338237 3 [4,6] false true 0,h15 1197762523 3 [4,7] false true 0,h15 1181186809 3 [4,8] false true 0,h15 1446050639 3 [5,6] false true 0,h15 1429474925 3 [5,7] false true 0,h15 1412899211 3 [5,8] false true 0,h15 1661187327 3 [6,7] false true 0,h15 1644611613 3 [6,8] false true 0]
def hs62:List Fact:=[h15 1876324015 3 [7,8] false true 0,h15 1021428785 4 [3,4] false true 0,h15 1004853071 4 [3,5] false true 0,h15 971701643 4 [3,7] false true 0,h15 955125929 4 [3,8] false true 0,h15 1236565473 4 [4,5] false true 0,h15 1219989759 4 [4,6] false true 0,h15 1186838331 4 [4,8] false true 0]
def hs63:List Fact:=[h15 1451702161 4 [5,6] false true 0,h15 1435126447 4 [5,7] false true 0,h15 1666838849 4 [6,7] false true 0,h15 1650263135 4 [6,8] false true 0,h15 1881975537 4 [7,8] false true 0,h15 1803376137 6 [0,1,2] false true 0,h15 614533469 7 [3,4,5] false true 0,h15 1232051 7 [3,4,6] false true 0]
def hs64:List Fact:=[h15 1535414280 7 [3,4,7] false true 0,h15 2132139984 7 [3,5,6] false true 0,h15 905537148 7 [3,5,8] false true 0,h15 1502262852 7 [3,6,7] false true 0,h15 888961434 7 [3,6,8] false true 0,h15 872385720 7 [3,7,8] false true 0,h15 1750550968 7 [4,5,7] false true 0]
def hs65:List Fact:=[h15 1137249550 7 [4,5,8] false true 0,h15 1733975254 7 [4,6,7] false true 0,h15 1120673836 7 [4,6,8] false true 0,h15 1104098122 7 [4,7,8] false true 0,h15 1965687656 7 [5,6,7] false true 0,h15 1352386238 7 [5,6,8] false true 0,h15 1335810524 7 [5,7,8] false true 0]
def hs66:List Fact:=[h15 1567522926 7 [6,7,8] true true 0,h16 1133507129 7 [6,7,8] true true 0,h15 1731248040 5 [0,1,0,2] false true 0,h15 1117946622 5 [0,1,1,2] false true 0,h15 1101370908 5 [0,2,1,2] false true 0,h17 1244786335 1 [0,1] false true 0,h17 1228210621 1 [0,2] false true 0]
def hs67:List Fact:=[h17 1459923023 1 [1,2] false true 0,h17 1217286429 2 [0,3] false true 0,h17 1150983573 2 [0,7] false true 0,h17 1134407859 2 [0,8] false true 0,h17 1432423117 2 [1,4] false true 0,h17 1399271689 2 [1,6] false true 0,h17 1366120261 2 [1,8] false true 0,h17 1647559805 2 [2,5] false true 0]
def hs68:List Fact:=[h17 1630984091 2 [2,6] false true 0,h17 1614408377 2 [2,7] false true 0,h17 1901499443 3 [3,4] false true 0,h17 1884923729 3 [3,5] false true 0,h17 1868348015 3 [3,6] false true 0,h17 1851772301 3 [3,7] false true 0,h17 1835196587 3 [3,8] false true 0,h17 2116636131 3 [4,5] false true 0]
def hs69:List Fact:=[h17 2100060417 3 [4,6] false true 0,h17 2083484703 3 [4,7] false true 0,h17 2066908989 3 [4,8] false true 0,h17 184289172 3 [5,6] false true 0,h17 167713458 3 [5,7] false true 0,h17 151137744 3 [5,8] false true 0,h17 399425860 3 [6,7] false true 0,h17 382850146 3 [6,8] false true 0]
def hs70:List Fact:=[h17 614562548 3 [7,8] false true 0,h17 1907150965 4 [3,4] false true 0,h17 1890575251 4 [3,5] false true 0,h17 1857423823 4 [3,7] false true 0,h17 1840848109 4 [3,8] false true 0,h17 2122287653 4 [4,5] false true 0,h17 2105711939 4 [4,6] false true 0,h17 2072560511 4 [4,8] false true 0]
def hs71:List Fact:=[h17 189940694 4 [5,6] false true 0,h17 173364980 4 [5,7] false true 0,h17 405077382 4 [6,7] false true 0,h17 388501668 4 [6,8] false true 0,h17 620214070 4 [7,8] false true 0,h17 541614670 6 [0,1,2] false true 0,h17 1500255649 7 [3,4,5] false true 0,h17 886954231 7 [3,4,6] false true 0]
def hs72:List Fact:=[h17 273652813 7 [3,4,7] false true 0,h17 870378517 7 [3,5,6] false true 0,h17 1791259328 7 [3,5,8] false true 0,h17 240501385 7 [3,6,7] false true 0,h17 1774683614 7 [3,6,8] false true 0,h17 1758107900 7 [3,7,8] false true 0,h17 488789501 7 [4,5,7] false true 0]
def hs73:List Fact:=[h17 2022971730 7 [4,5,8] false true 0,h17 472213787 7 [4,6,7] false true 0,h17 2006396016 7 [4,6,8] false true 0,h17 1989820302 7 [4,7,8] false true 0,h17 703926189 7 [5,6,7] false true 0,h17 90624771 7 [5,6,8] false true 0,h17 74049057 7 [5,7,8] false true 0]
def hs74:List Fact:=[h17 305761459 7 [6,7,8] true true 0,h18 496967434 7 [6,7,8] true true 0,h17 469486573 5 [0,1,0,2] false true 0,h17 2003668802 5 [0,1,1,2] false true 0,h17 1987093088 5 [0,2,1,2] false true 0]
def Q20:List Fact:=hs0++(hs1++(hs2++(hs3++(hs4++(hs5++(hs6++(hs7++(hs8++(hs9++(hs10++(hs11++(hs12++(hs13++(hs14++(hs15++(hs16++(hs17++(hs18++(hs19++(hs20++(hs21++(hs22++(hs23++(hs24++(hs25++(hs26++(hs27++(hs28++(hs29++(hs30++(hs31++(hs32++(hs33++(hs34++(hs35++(hs36++(hs37++(hs38++(hs39++(hs40++(hs41++(hs42++(hs43++(hs44++(hs45++(hs46++(hs47++(hs48++(hs49++(hs50++(hs51++(hs52++(hs53++(hs54++(hs55++(hs56++(hs57++(hs58++(hs59++(hs60++(hs61++(hs62++(hs63++(hs64++(hs65++(hs66++(hs67++(hs68++(hs69++(hs70++(hs71++(hs72++(hs73++(hs74))))))))))))))))))))))))))))))))))))))))))))))))))))))))))))))))))))))))))
noncomputable def XQ21:XR:=orX (onX 20 (factX Q20)) XQ20
def q6_0:Fact:=⟨1886981861,6,[.p (pv71)],.tup [.p (pv388),.p (j 0)]⟩
def q6_1:Fact:=⟨1473340542,6,[.p (pv72)],.tup [.p (pv388),.p (j 0)]⟩
def Q6:List Fact:=[q6_0,q6_1]
noncomputable def XQ22:XR:=orX (onX 6 (factX Q6)) XQ21
def q7_0:Fact:=⟨1889952967,7,[.p (pv71),.p (j 10007),.p (j 3)],.tup [.p (pv389),.p (j 0)]⟩
def q7_1:Fact:=⟨1889132721,7,[.p (pv71),.p (j 4),.p (j 3)],.tup [.p (.sl []),.p (j 150)]⟩
def q7_2:Fact:=⟨1889942881,7,[.p (pv71),.p (j 10007),.p (j 0)],.tup [.p (.sl []),.p (j 1)]⟩
def q7_3:Fact:=⟨1475488122,7,[.p (pv72),.p (j 5),.p (j 2)],.tup [.p (pv389),.p (j 0)]⟩
def q7_4:Fact:=⟨1475488286,7,[.p (pv72),.p (j 7),.p (j 2)],.tup [.p (pv389),.p (j 0)]⟩
def q7_5:Fact:=⟨1475488778,7,[.p (pv72),.p (j 13),.p (j 2)],.tup [.p (pv389),.p (j 0)]⟩
def q7_6:Fact:=⟨1475495994,7,[.p (pv72),.p (j 101),.p (j 2)],.tup [.p (pv389),.p (j 0)]⟩
def q7_7:Fact:=⟨1475508786,7,[.p (pv72),.p (j 257),.p (j 2)],.tup [.p (pv389),.p (j 0)]⟩
def q7_8:Fact:=⟨1476308286,7,[.p (pv72),.p (j 10007),.p (j 2)],.tup [.p (pv389),.p (j 0)]⟩
def q7_9:Fact:=⟨1557487958,7,[.p (pv72),.p (j 1000003),.p (j 2)],.tup [.p (pv389),.p (j 0)]⟩
def q7_10:Fact:=⟨1475487712,7,[.p (pv72),.p (j 2147483647),.p (j 2)],.tup [.p (pv389),.p (j 0)]⟩
def Q7:List Fact:=[q7_0,q7_1,q7_2,q7_3,q7_4,q7_5,q7_6,q7_7,q7_8,q7_9,q7_10]
noncomputable def XQ23:XR:=orX (onX 7 (factX Q7)) XQ22
def g14_0:List Fact:=[⟨1975759612,14,[.p (pv71),.p (j 10007),.p (j 3),.p (j 1)],.tup [.p (pv389),.p (.sl []),.p (j 0)]⟩]
def Q14:List Fact:=g14_0
noncomputable def XQ24:XR:=orX (onX 14 (factX Q14)) XQ23
def q13_0:Fact:=⟨1850010459,13,[.agg [.p (j 6),.p (.nsl),.p (.sl []),.p (pv95),.p (.sl []),.p (.sl []),.p (.sl [])]],.p (j 0)⟩
def Q13:List Fact:=[q13_0]
noncomputable def XQ25:XR:=orX (onX 13 (factX Q13)) XQ24
def q10_0:Fact:=⟨990490012,10,[.p (pv71),.agg [.p (j 7),.p (pv3)]],.tup [.p (j 9),.p (j 0)]⟩
def q10_1:Fact:=⟨576848693,10,[.p (pv72),.agg [.p (j 7),.p (pv3)]],.tup [.p (j 9),.p (j 0)]⟩
def Q10:List Fact:=[q10_0,q10_1]
noncomputable def XQ26:XR:=orX (onX 10 (factX Q10)) XQ25
def g115_0:List Fact:=[⟨1473340542,115,[.p (pv72)],.p (j 0)⟩]
def Q115:List Fact:=g115_0
noncomputable def XQ27:XR:=orX (onX 115 (factX Q115)) XQ26
def g58_0:List Fact:=[⟨1473340542,58,[.p (pv72)],.tup [.p (.sl []),.p (j 0)]⟩]
def Q58:List Fact:=g58_0
noncomputable def XQ28:XR:=orX (onX 58 (factX Q58)) XQ27
def g118_0:List Fact:=[⟨1473340542,118,[.p (pv72)],.tup [.p (pv92),.p (j 0)]⟩]
def Q118:List Fact:=g118_0
noncomputable def XQ29:XR:=orX (onX 118 (factX Q118)) XQ28
def g264_0:List Fact:=[⟨1473391587,264,[.p (pv72),.p (j 1)],.tup [.p (j 1),.p (j 0)]⟩,⟨1473391669,264,[.p (pv72),.p (j 2)],.tup [.p (j 1),.p (j 0)]⟩,⟨1473391505,264,[.p (pv72),.p (j 0)],.tup [.p (j 1),.p (j 0)]⟩,⟨1473391751,264,[.p (pv72),.p (j 3)],.tup [.p (j 2),.p (j 0)]⟩,⟨1473391833,264,[.p (pv72),.p (j 4)],.tup [.p (j 2),.p (j 0)]⟩,⟨1473391915,264,[.p (pv72),.p (j 5)],.tup [.p (j 2),.p (j 0)]⟩]
def Q264:List Fact:=g264_0
noncomputable def XQ30:XR:=orX (onX 264 (factX Q264)) XQ29
def g120_0:List Fact:=[⟨1473340542,120,[.p (pv72)],.tup [.agg [.p (j 6),.p (pv0),.p (pv10),.p (.sl [])],.p (j 0)]⟩]
def Q120:List Fact:=g120_0
noncomputable def XQ31:XR:=orX (onX 120 (factX Q120)) XQ30
def g59_0:List Fact:=[⟨1475481398,59,[.p (pv72),.p (j 5),.p (j 0)],.tup [.p (pv220),.p (j 0)]⟩,⟨1475484760,59,[.p (pv72),.p (j 5),.p (j 1)],.tup [.p (pv221),.p (j 0)]⟩,⟨1475481562,59,[.p (pv72),.p (j 7),.p (j 0)],.tup [.p (pv222),.p (j 0)]⟩,⟨1475484924,59,[.p (pv72),.p (j 7),.p (j 1)],.tup [.p (pv223),.p (j 0)]⟩,⟨1475482054,59,[.p (pv72),.p (j 13),.p (j 0)],.tup [.p (pv224),.p (j 0)]⟩,⟨1475485416,59,[.p (pv72),.p (j 13),.p (j 1)],.tup [.p (pv225),.p (j 0)]⟩,⟨1475489270,59,[.p (pv72),.p (j 101),.p (j 0)],.tup [.p (pv226),.p (j 0)]⟩,⟨1475492632,59,[.p (pv72),.p (j 101),.p (j 1)],.tup [.p (pv227),.p (j 0)]⟩,⟨1475502062,59,[.p (pv72),.p (j 257),.p (j 0)],.tup [.p (pv228),.p (j 0)]⟩,⟨1475505424,59,[.p (pv72),.p (j 257),.p (j 1)],.tup [.p (pv229),.p (j 0)]⟩,⟨1476301562,59,[.p (pv72),.p (j 10007),.p (j 0)],.tup [.p (pv217),.p (j 0)]⟩,⟨1476304924,59,[.p (pv72),.p (j 10007),.p (j 1)],.tup [.p (pv218),.p (j 0)]⟩,⟨1557481234,59,[.p (pv72),.p (j 1000003),.p (j 0)],.tup [.p (pv230),.p (j 0)]⟩,⟨1557484596,59,[.p (pv72),.p (j 1000003),.p (j 1)],.tup [.p (pv231),.p (j 0)]⟩,⟨1475480988,59,[.p (pv72),.p (j 2147483647),.p (j 0)],.tup [.p (pv232),.p (j 0)]⟩,⟨1475484350,59,[.p (pv72),.p (j 2147483647),.p (j 1)],.tup [.p (pv233),.p (j 0)]⟩]
def Q59:List Fact:=g59_0
noncomputable def XQ32:XR:=orX (onX 59 (factX Q59)) XQ31
def g60_0:List Fact:=[⟨1522488204,60,[.p (pv72),.p (j 5),.p (pv220),.p (.sl [])],.tup [.p (pv262),.p (bt),.p (j 0)]⟩,⟨1806531052,60,[.p (pv72),.p (j 5),.p (pv221),.p (.sl [])],.tup [.p (pv269),.p (bt),.p (j 0)]⟩,⟨1883452144,60,[.p (pv72),.p (j 7),.p (pv222),.p (.sl [])],.tup [.p (pv278),.p (bt),.p (j 0)]⟩,⟨762254417,60,[.p (pv72),.p (j 7),.p (pv223),.p (.sl [])],.tup [.p (pv287),.p (bt),.p (j 0)]⟩,⟨736375994,60,[.p (pv72),.p (j 13),.p (pv224),.p (.sl [])],.tup [.p (pv297),.p (bt),.p (j 0)]⟩,⟨607996292,60,[.p (pv72),.p (j 13),.p (pv225),.p (.sl [])],.tup [.p (pv307),.p (bt),.p (j 0)]⟩]
def g60_1:List Fact:=[⟨592437702,60,[.p (pv72),.p (j 101),.p (pv226),.p (.sl [])],.tup [.p (pv317),.p (bt),.p (j 0)]⟩,⟨962564675,60,[.p (pv72),.p (j 101),.p (pv227),.p (.sl [])],.tup [.p (pv327),.p (bt),.p (j 0)]⟩,⟨204340056,60,[.p (pv72),.p (j 257),.p (pv228),.p (.sl [])],.tup [.p (pv337),.p (bt),.p (j 0)]⟩,⟨1207485840,60,[.p (pv72),.p (j 257),.p (pv229),.p (.sl [])],.tup [.p (pv347),.p (bt),.p (j 0)]⟩,⟨692879235,60,[.p (pv72),.p (j 10007),.p (pv217),.p (.sl [])],.tup [.p (pv243),.p (bt),.p (j 0)]⟩,⟨1562860394,60,[.p (pv72),.p (j 10007),.p (pv218),.p (.sl [])],.tup [.p (pv253),.p (bt),.p (j 0)]⟩]
def g60_2:List Fact:=[⟨1282756371,60,[.p (pv72),.p (j 1000003),.p (pv230),.p (.sl [])],.tup [.p (pv357),.p (bt),.p (j 0)]⟩,⟨848740574,60,[.p (pv72),.p (j 1000003),.p (pv231),.p (.sl [])],.tup [.p (pv367),.p (bt),.p (j 0)]⟩,⟨20994904,60,[.p (pv72),.p (j 2147483647),.p (pv232),.p (.sl [])],.tup [.p (pv377),.p (bt),.p (j 0)]⟩,⟨212200879,60,[.p (pv72),.p (j 2147483647),.p (pv233),.p (.sl [])],.tup [.p (pv387),.p (bt),.p (j 0)]⟩]
def Q60:List Fact:=g60_0++(g60_1++(g60_2))
noncomputable def XQ33:XR:=orX (onX 60 (factX Q60)) XQ32
def g25_0:List Fact:=[⟨1475488122,25,[.p (pv72),.p (j 5),.p (j 2)],.tup [.p (.sl [[pv220,.sl []],[pv221,.sl []]]),.p (j 0)]⟩,⟨1475488286,25,[.p (pv72),.p (j 7),.p (j 2)],.tup [.p (.sl [[pv222,.sl []],[pv223,.sl []]]),.p (j 0)]⟩,⟨1475488778,25,[.p (pv72),.p (j 13),.p (j 2)],.tup [.p (.sl [[pv224,.sl []],[pv225,.sl []]]),.p (j 0)]⟩,⟨1475495994,25,[.p (pv72),.p (j 101),.p (j 2)],.tup [.p (.sl [[pv226,.sl []],[pv227,.sl []]]),.p (j 0)]⟩,⟨1475508786,25,[.p (pv72),.p (j 257),.p (j 2)],.tup [.p (.sl [[pv228,.sl []],[pv229,.sl []]]),.p (j 0)]⟩,⟨1476308286,25,[.p (pv72),.p (j 10007),.p (j 2)],.tup [.p (.sl [[pv217,.sl []],[pv218,.sl []]]),.p (j 0)]⟩,⟨1557487958,25,[.p (pv72),.p (j 1000003),.p (j 2)],.tup [.p (.sl [[pv230,.sl []],[pv231,.sl []]]),.p (j 0)]⟩,⟨1475487712,25,[.p (pv72),.p (j 2147483647),.p (j 2)],.tup [.p (.sl [[pv232,.sl []],[pv233,.sl []]]),.p (j 0)]⟩]
def Q25:List Fact:=g25_0
noncomputable def XQ34:XR:=orX (onX 25 (factX Q25)) XQ33
def q11_0:Fact:=⟨1475488122,11,[.p (pv72),.p (j 5),.p (j 2)],.tup [.p (pv220),.p (.sl []),.p (bt)]⟩
def q11_1:Fact:=⟨1475488286,11,[.p (pv72),.p (j 7),.p (j 2)],.tup [.p (pv222),.p (.sl []),.p (bt)]⟩
def q11_2:Fact:=⟨1475488778,11,[.p (pv72),.p (j 13),.p (j 2)],.tup [.p (pv224),.p (.sl []),.p (bt)]⟩
def q11_3:Fact:=⟨1475495994,11,[.p (pv72),.p (j 101),.p (j 2)],.tup [.p (pv226),.p (.sl []),.p (bt)]⟩
def q11_4:Fact:=⟨1475508786,11,[.p (pv72),.p (j 257),.p (j 2)],.tup [.p (pv228),.p (.sl []),.p (bt)]⟩
def q11_5:Fact:=⟨1476308286,11,[.p (pv72),.p (j 10007),.p (j 2)],.tup [.p (pv217),.p (.sl []),.p (bt)]⟩
def q11_6:Fact:=⟨1557487958,11,[.p (pv72),.p (j 1000003),.p (j 2)],.tup [.p (pv230),.p (.sl []),.p (bt)]⟩
def q11_7:Fact:=⟨1475487712,11,[.p (pv72),.p (j 2147483647),.p (j 2)],.tup [.p (pv232),.p (.sl []),.p (bt)]⟩
def Q11:List Fact:=[q11_0,q11_1,q11_2,q11_3,q11_4,q11_5,q11_6,q11_7]
noncomputable def XQ35:XR:=orX (onX 11 (factX Q11)) XQ34
def q12_0:Fact:=⟨819118147,12,[.p (pv388),.agg [.p (j 7),.p (pv3)]],.p (bt)⟩
def q12_1:Fact:=⟨809529723,12,[.p (pv388),.agg [.p (j 7),.p (pv74)]],.p (bt)⟩
def q12_2:Fact:=⟨809657479,12,[.p (pv388),.agg [.p (j 7),.p (.sl [[j 4],[j 5],[j 6]])]],.p (bf)⟩
def q12_3:Fact:=⟨1809299711,12,[.p (pv388),.agg [.p (j 4),.p (.sl [[j 3],[j 6]])]],.p (bf)⟩
def q12_4:Fact:=⟨1313644503,12,[.p (pv389),.agg [.p (j 7),.p (pv3)]],.p (bt)⟩
def Q12:List Fact:=[q12_0,q12_1,q12_2,q12_3,q12_4]
noncomputable def XQ36:XR:=orX (onX 12 (factX Q12)) XQ35
def q4_0:Fact:=⟨31,4,[],.p (bt)⟩
end Go.Proofs.YtchgldaddcolhaaGreatDoor
namespace Go.Proofs.YtchgldaddcolhaaGreatDoor
set_option maxRecDepth 100000
open Go
noncomputable def noDiv(p n:Nat):Bool:=Nat.rec true (fun k ih=>Bool.rec (Bool.rec ih false (Nat.beq (p % (k + 1)) 0)) ih (Nat.beq k 0)) n
theorem noDiv_get{p n:Nat}(h:noDiv p n = true):∀ d,2 ≤ d→d ≤ n→p % d ≠ 0:=by
 induction n with
 | zero=>intro d h1 h2; omega
 | succ k ih =>
  have e:noDiv p (k + 1) = Bool.rec (Bool.rec (noDiv p k) false (Nat.beq (p % (k + 1)) 0)) (noDiv p k) (Nat.beq k 0):=rfl
  rw[e]at h
  intro d h1 h2
  cases hk:Nat.beq k 0 with
  | true =>
   have:=Nat.eq_of_beq_eq_true hk
   omega
  | false =>
   rw[hk]at h
   cases hm:Nat.beq (p % (k + 1)) 0 with
   | true=>rw[hm]at h; cases h
   | false =>
    rw[hm]at h
    by_cases hd:d = k + 1
    ·subst hd
     intro h0
     rw[h0]at hm
     cases hm
    ·exact ih h d h1 (by omega)
theorem prime_ok(p n:Nat)(h3:3 ≤ p)(hp:p ≤ 2147483647)(hn:p < (n + 1) * (n + 1))(hk:noDiv p n = true):PF X0 Gam 117 [int p] (boo true) :=
 prime_pf h3 hp fun d h1 h2=>noDiv_get hk d h1 (by
  refine Nat.le_of_not_lt fun h=>?_
  have:=Nat.mul_le_mul (show n + 1 ≤ d from h) (show n + 1 ≤ d from h)
  omega)
theorem prime_sims{P:Program}{kn:TypeId→Bool}(hA:SoundAll P kn){S:Sub}:∀ e ∈ Q117,@CallSim S P kn e.f e.args [] (e.r,[]):=by
 have go:∀ p n k:Nat,3 ≤ p→p ≤ 2147483647→p < (n + 1) * (n + 1)→noDiv p n = true→∀ e:Fact,e = ⟨k,117,[int p],boo true⟩→@CallSim S P kn e.f e.args [] (e.r,[]):=fun p n k h1 h2 h3 h4 e he=>by
  subst he
  exact @callSim_plain S P kn X0 Gam (fun f a H r hc=>hA S X0 noX_ok f a H r hc) 117 _ _ (prime_ok p n h1 h2 h3 h4)
 intro e he
 simp only[Q117,g117_0,List.mem_cons,List.not_mem_nil,or_false]at he
 rcases he with h | h | h | h | h | h | h | h
 ·exact go 5 2 _ (by decide) (by decide) (by decide) (by kernel_rfl) e h
 ·exact go 7 2 _ (by decide) (by decide) (by decide) (by kernel_rfl) e h
 ·exact go 13 3 _ (by decide) (by decide) (by decide) (by kernel_rfl) e h
 ·exact go 101 10 _ (by decide) (by decide) (by decide) (by kernel_rfl) e h
 ·exact go 257 16 _ (by decide) (by decide) (by decide) (by kernel_rfl) e h
 ·exact go 10007 100 _ (by decide) (by decide) (by decide) (by kernel_rfl) e h
 ·exact go 1000003 1000 _ (by decide) (by decide) (by decide) (by kernel_rfl) e h
 ·exact go 2147483647 46340 _ (by decide) (by decide) (by decide) (by kernel_rfl) e h
end Go.Proofs.YtchgldaddcolhaaGreatDoor

/- Part of the proof of Rows.FinderAltitudesCardSaid: FaTop. -/
import Derived.Test.YtchgldaddcolhaaGreatDoorChecked
import Derived.Test.YtchgldaddcolhaaGreatDoorRows
import Derived.Lib.LaidTab
import Derived.MakeChecks
import Derived.Below
import Derived.Test.YtchgldaddcolhaaGreatDoorP08
import Derived.Test.YtchgldaddcolhaaGreatDoorP09
import Derived.Test.YtchgldaddcolhaaGreatDoorP44
set_option linter.all false
namespace Go.Proofs.YtchgldaddcolhaaGreatDoor
open Go.Proofs.YtchgldaddcolhaaGreatDoor Go Go.RowKit
theorem soundAll:SoundAll Tryz.prog knT:=fun S X hX=>@call_sound S Tryz.prog knT X Gam (Checked.mixed Tryz.checked) hX Gam_ok
def gh0:Gh:={ blk:=fun _=>0,base:=fun _=>0,cap:=fun _=>0,D:=fun b i=>b = 0∧i < 4,cd:=CD Tryz.prog knT,kin:=fun _=>Kin.at 0 0 }
theorem below_keep{w w':World}{g:Gh}(h:Keep (OwnAny g []) w w'):Below w.heap.size w w':=by
 have ho:∀ b i,¬ OwnAny g [] b i:=fun b i ho=>by obtain⟨⟨l,hl,_⟩,_⟩:=ho; simp at hl
 refine⟨h.1,h.2.2.1.1,h.2.1,h.2.2.2.1,fun k hk=>?_⟩
 have hb:=h.2.2.2.2 k hk
 split at hb
 ·rename_i vs e f hc
  obtain⟨vs',q1,q2,q3⟩:=hb
  have:vs' = vs:=Array.ext_getElem? fun i=>q3 i (ho k i)
  rw[q1,hc,this]
 ·exact hb (ho k 0)
def Bases(w:World):Prop:=∃ t f,w.heap[0]? = some (.cells #[.int .i64 2,.int .i64 3,.int .i64 5,.int .i64 7] t f)
theorem bases_at:∀ {l:List (String×DataW Unit)} {ps:List MemPlace} {w:World},DataW.LaidVars Tryz.prog w l ps→("straightedge/modular.bases",Rows.laid_straightedge_modular_bases) ∈ l→Bases w
 | [],_,_,_,hm=>by cases hm
 | (n',d')::r,ps,w,h,hm=>by
  obtain⟨g,t,cs,fuel,p,q,h1,h2,h3,h4,h5,_⟩:=h
  rcases List.mem_cons.1 hm with e | e
  ·cases e
   have hg:Tryz.prog.globalNamed "straightedge/modular.bases" = some 0:=by kernel_rfl
   obtain rfl:g = 0:=Option.some.inj (h1.symm.trans hg)
   have ht:(Tryz.prog.globals[0]?).map (·.type) = some 102:=by kernel_rfl
   obtain rfl:t = 102:=Option.some.inj (h2.symm.trans ht)
   have hc:=Lib.cells_of_tab (k:=.i64) (zs:=[2,3,5,7]) (n:=4) (e:=3) (by kernel_rfl) (by kernel_rfl) (by kernel_rfl) (by kernel_rfl) h4
   unfold World.var? at h3
   rw[hg]at h3
   simp only[Option.bind_some]at h3
   split at h3
   ·rename_i cs' t f hh
    cases h3
    have:cs = #[.int .i64 2,.int .i64 3,.int .i64 5,.int .i64 7]:=Array.toList_inj.1 hc
    exact⟨t,f,this ▸ hh⟩
   ·cases h3
  ·exact bases_at h5 e
theorem bases_of{w:World}(h:laidMetH Tryz.prog Rows.finderAltitudesRow.laid w):Bases w:=by
 rw[MakeChecks.laidMetH_plain _ _ _ (by kernel_rfl)]at h
 obtain⟨ps,hl,_,_⟩:=h
 exact bases_at hl (by simp[Rows.finderAltitudesRow])
theorem law3(x:Nat→Int)(hx:∀ k,-128 ≤ x k∧x k ≤ 127){v:Int}(hv:0 ≤ v)(hv':v < 256)(w:World)(hb:Bases w):Calls Tryz.prog 3 #[.int .i8 (x 0),.int .i8 (x 1),.int .i8 (x 2),.int .i8 (x 3),.int .i8 (x 4),.int .i8 (x 5),.int .u8 v] w fun e w'=>e = .returned (.bool true)∧Below w.heap.size w w':=by
 obtain⟨H,h⟩:=sim3 soundAll hx hv hv'
 obtain⟨t,f,hb⟩:=hb
 refine (h w gh0 #[.int .i8 (x 0),.int .i8 (x 1),.int .i8 (x 2),.int .i8 (x 3),.int .i8 (x 4),.int .i8 (x 5),.int .u8 v] rfl ?_ ?_).mono fun e w' he=>?_
 ·refine⟨fun l o hl=>by simp at hl,fun l k hl=>by simp at hl,fun l o hl=>by simp at hl,fun b i hd=>?_,fun l b hl=>by simp at hl,fun b cs hm j v hj=>?_⟩
  ·obtain⟨rfl,_⟩:=hd
   exact (Array.getElem?_eq_some_iff.1 hb).1
  ·simp only[glTab,List.mem_singleton,Prod.mk.injEq]at hm
   obtain⟨rfl,rfl⟩:=hm
   have hj4:j < 4:=by
    have:=(List.getElem?_eq_some_iff.1 hj).1
    simpa using this
   refine⟨⟨rfl,hj4⟩,?_⟩
   show w.cell? ⟨0,j,none⟩ = some v
   match j,hj4 with
   | 0,_=>simpa [World.cell?,hb] using hj
   | 1,_=>simpa [World.cell?,hb] using hj
   | 2,_=>simpa [World.cell?,hb] using hj
   | 3,_=>simpa [World.cell?,hb] using hj
 ·refine⟨rfl,fun i v x h1 h2=>?_⟩
  match i with
  | 0=>cases h1; cases h2; exact .p (.v rfl)
  | 1=>cases h1; cases h2; exact .p (.v rfl)
  | 2=>cases h1; cases h2; exact .p (.v rfl)
  | 3=>cases h1; cases h2; exact .p (.v rfl)
  | 4=>cases h1; cases h2; exact .p (.v rfl)
  | 5=>cases h1; cases h2; exact .p (.v rfl)
  | 6=>cases h1; cases h2; exact .p (.v rfl)
  | n + 7=>simp at h2
 ·obtain⟨v,g',rfl,h1,h4,h5⟩:=he
  refine⟨?_,below_keep h1.keep⟩
  cases h5 with
  | p hp=>cases hp; rfl
end Go.Proofs.YtchgldaddcolhaaGreatDoor

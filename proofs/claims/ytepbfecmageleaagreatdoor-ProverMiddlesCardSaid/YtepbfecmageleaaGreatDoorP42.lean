/- Part of the proof of Rows.ProverMiddlesCardSaid: PmTop. -/
import Derived.Test.YtepbfecmageleaaGreatDoorChecked
import Derived.Below
import Derived.Test.YtepbfecmageleaaGreatDoorP15
import Derived.Test.YtepbfecmageleaaGreatDoorP17
import Derived.Test.YtepbfecmageleaaGreatDoorP41
set_option linter.all false
namespace Go.Proofs.YtepbfecmageleaaGreatDoor
open Go Go.RowKit
theorem soundAll:SoundAll Tryz.prog knT:=fun S X hX=>@call_sound S Tryz.prog knT X Gam (Checked.mixed Tryz.checked) hX Gam_ok
def gh0:Gh:={ blk:=fun _=>0,base:=fun _=>0,cap:=fun _=>0,D:=fun _ _=>False,cd:=CD Tryz.prog knT }
theorem below_keep {w w':World} {g:Gh} (h:Keep (OwnAny g []) w w'):Below w.heap.size w w':=by
  have ho:∀ b i,¬ OwnAny g [] b i:=fun b i ho=>by obtain ⟨⟨l,hl,_⟩,_⟩:=ho; simp at hl
  refine ⟨h.1,h.2.2.1.1,h.2.1,h.2.2.2.1,fun k hk=>?_⟩
  have hb:=h.2.2.2.2 k hk
  split at hb
  · rename_i vs e f hc
    obtain ⟨vs',q1,q2,q3⟩:=hb
    have:vs' = vs:=Array.ext_getElem? fun i=>q3 i (ho k i)
    rw [q1,hc,this]
  · exact hb (ho k 0)
theorem law3 (a b c:Int) (w:World):Calls Tryz.prog 3 #[.int .i64 a,.int .i64 b,.int .i64 c] w fun e w'=>e = .returned (.bool true)∧Below w.heap.size w w':=by
  obtain ⟨H,h⟩:=sim3 soundAll a b c
  refine (h w gh0 #[.int .i64 a,.int .i64 b,.int .i64 c] rfl ?_ ?_).mono fun e w' he=>?_
  · exact ⟨fun l o hl=>by simp at hl,fun l k hl=>by simp at hl,fun l o hl=>by simp at hl,fun b i hb=>hb.elim⟩
  · refine ⟨rfl,fun i v x h1 h2=>?_⟩
    match i with
    | 0=>cases h1; cases h2; exact .p (.v rfl)
    | 1=>cases h1; cases h2; exact .p (.v rfl)
    | 2=>cases h1; cases h2; exact .p (.v rfl)
    | n + 3=>simp at h2
  · obtain ⟨v,g',rfl,h1,h4,h5⟩:=he
    refine ⟨?_,below_keep h1.keep⟩
    cases h5 with
    | p hp=>cases hp; rfl
end Go.Proofs.YtepbfecmageleaaGreatDoor

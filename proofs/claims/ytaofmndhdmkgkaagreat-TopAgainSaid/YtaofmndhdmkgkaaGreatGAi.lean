/-
  What is proved here: what functions of the program compute, and what follows; no condition beyond each theorem's own.
-/
import Derived.Test.YtaofmndhdmkgkaaGreatGAh
import Derived.Lib.Overlaps
set_option linter.unusedSimpArgs false
set_option linter.unusedVariables false
set_option linter.unnecessarySimpa false
set_option linter.unusedSectionVars false
namespace Go.Lk
open Go Go.RowKit
theorem zNp {P:Program} {T:Tab} (hT:zFo P T) {f:FuncId} {fn:Func} {t e tR:TypeId} (hf:P.funcs[f]?=some fn) (hname:(fn.name== "runtime.NumGoroutine")=false) (hbd:fn.body.isNone=true) (hn:Extern.findNext fn=none)
  (he:Extern.find fn=some (Extern.SlicesOverlaps.overlaps #[t,t] #[tR])) (hk:(T t).k=.slice e) {hp:Nat->Option Blk} {a b lo n:Nat} {c:Option Nat} {la lb:List (List D)} {sa sb:Nat} {fa fb:Bool}
  (ha:hp a=some (.row la sa fa)) (hb:hp b=some (.row lb sb fb)) (hab:a≠b) (hla:la≠[]) (hl:0<lb.length) (hs:0<sb):yVc P f [.own a,.win b lo n c] hp false:=by
 obtain ⟨hu,hke⟩:=zBi hT hk;refine ⟨⟨fn,hf,by cases hq:fn.body<;>simp_all⟩,fun own M ι w vs hA hh hxs=>?_⟩;have hsz:vs.size=2:=hxs.1
 obtain ⟨v0,v1,rfl⟩:∃ v0 v1,vs=#[v0,v1]:=by
  match vs,hsz with
  |⟨[x,y]⟩,_=>exact ⟨x,y,rfl⟩
 have h0:=hxs.2 0 _ v0 rfl rfl;have h1:=hxs.2 1 _ v1 rfl rfl;rw [run_callFunc_extern hf hname hbd hn he]
 have hz:∀ w:World,(Go.sizeOf e).run P w=.ok (T e).size w:=fun w=>zBd hT w hke
 cases h1 with
 |winL _ _ _ _ _ hL=>rw [(hh.dom b).2 hL] at hb;cases hb
 |win _ _ _ _ Lb k base hLb hnk hcc hkk hbb=>
  obtain ⟨_,csb,Tb,gb,gs,q1,q2,q3,_⟩:=hh.at_ b _ Lb hb hLb
  cases h0 with
  |ownL _ _ hL=>rw [(hh.dom a).2 hL] at ha;cases ha
  |ownE _ a0 hL=>
   obtain ⟨sz2,fr2,e0⟩:=hh.virt a hL
   rw [ha] at e0;cases e0
   exact absurd rfl hla
  |own _ La cap hLa hna hca=>
   obtain ⟨_,csa,Ta,ga,_⟩:=hh.at_ a _ La ha hLa
   have hne:La.blk≠Lb.blk:=fun e=>hab (hh.inj a b La Lb hLa hLb e)
   rw [Lib.run_overlaps_apart w t tR e hu (T e).size hz ⟨La.blk,0,none⟩ ⟨Lb.blk,base,none⟩ La.len cap n k hne Ta Tb csa.size csb.size (by simp [World.shape?,ga]) (by simp [World.shape?,gb]) (by
    have:0<lb.length*sb:=Nat.mul_pos hl hs
    omega) (by simp [World.frozen?,ga]) (by simp [World.frozen?,ga])]
   rfl
end Go.Lk

/-
  What is proved here: what functions of the program compute, and what follows; no condition beyond each theorem's own.
-/
import Derived.Test.YtaofmndhdmkgkaaGreatIAv
set_option linter.unusedSimpArgs false
set_option linter.unusedVariables false
set_option linter.unnecessarySimpa false
set_option linter.unusedSectionVars false
namespace Go.Lk.Hy
open Go Go.Proofs Go.RowKit Go.Lk Go.Lk.St
def evA:Ev:=⟨0,1,1,ByteArray.empty,0,1,1,ByteArray.empty,0,1,2⟩
def evB:Ev:=⟨0,2,1,ByteArray.empty,0,1,2,ByteArray.empty,3,4,5⟩
def pg1:Pg:=(1,1,ByteArray.empty)
theorem map_nil:mapB []=true:=mapB_t.2 ⟨fun x hx=>(List.not_mem_nil hx).elim,fun i hi=>absurd hi (Nat.not_lt_zero _)⟩
theorem yUe:mapB [pg1]=true:=mapB_t.2 ⟨fun x hx=>by
 rw [List.mem_singleton] at hx;subst hx
 exact pgR_out.2 ⟨by decide,by decide,by decide,by decide,by decide⟩,fun i hi=>by simp at hi⟩
theorem do_A:doM [] (opE evA)=([pg1],(0,pg1)):=by
 rw [doM,if_neg (by rw [map_nil];decide),if_pos (show (opE evA).1=1 from rfl),if_neg (by decide)];rfl
theorem do_B:doM [pg1] (opE evB)=([pg1],(0,pg1)):=by
 have hb:plB [pg1] (opE evB).2.1=true:=by decide
 have hn:plN [pg1] (opE evB).2.1=0:=by decide
 rw [doM,if_neg (by rw [yUe];decide),if_neg (show ¬(opE evB).1=1 by decide),if_neg (by rw [hb];decide),hn];rfl
theorem ap_A:apB [evA]=true:=apB_t.2 ⟨fun x hx=>by
 rw [List.mem_singleton] at hx;subst hx;exact ⟨by decide,by decide⟩,List.pairwise_singleton _ _,List.pairwise_singleton _ _⟩
theorem ap_AB:apB [evA,evB]=true:=apB_t.2 ⟨fun x hx=>by
 simp at hx
 rcases hx with rfl|rfl<;>exact ⟨by decide,by decide⟩,by simp [RD];decide,by simp [RW];decide⟩
theorem ap_BA:apB [evB,evA]=true:=apB_t.2 ((AP.perm (.swap _ _ _)).1 (apB_t.1 ap_AB))
theorem ap_AA:apB [evA,evA]=false:=yGf.2 fun h=>by
 have:=h.rd;simp [RD] at this
theorem chk_A:chkM [] [evA]=([pg1],1,0):=by
 rw [chkM,if_neg (by decide),if_neg (by rw [map_nil];decide),if_neg (by rw [ap_A];decide)];show chkGo [] 0 [evA]=_;rw [chkGo,if_neg (by intro e;exact absurd (congrArg Prod.fst e) (by decide)),do_A,if_pos (show (([pg1],0,pg1):List Pg×Res).2=resE evA from rfl),chkGo]
theorem chk_BA:chkM [] [evB,evA]=([pg1],1,2):=by
 rw [chkM,if_neg (by decide),if_neg (by rw [map_nil];decide),if_neg (by rw [ap_BA];decide)];show chkGo [] 0 [evA,evB]=_;rw [chkGo,if_neg (by intro e;exact absurd (congrArg Prod.fst e) (by decide)),do_A,if_pos (show (([pg1],0,pg1):List Pg×Res).2=resE evA from rfl),chkGo,if_neg (by intro e;exact absurd (congrArg Prod.fst e) (by decide)),do_B,if_neg (by intro e;exact absurd (congrArg (fun r:Res=>r.2.2.1) e) (by decide))]
theorem awake_ok:zAi Tryz.prog 48 [] (.bool true):=by
 refine zAe Tryz.func48 0 rfl (by kernel_rfl) (aW ?_);refine zAa (check_ok [] [evA] (by decide) (by decide)) (aW ?_);refine zAa (check_ok [] [evB,evA] (by decide) (by decide)) (aW ?_);rw [chk_A,chk_BA];refine aA ?_;refine zAa (zZ [evA,evB] (by decide)) (aW ?_);rw [ap_AB];refine aA ?_;refine zAa (zZ [evA,evA] (by decide)) (aW ?_);rw [ap_AA];refine aA ?_;exact ret_of rfl rfl
end Go.Lk.Hy

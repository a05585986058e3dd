/-
  What is proved here: what functions of the program compute, and what follows; no condition beyond each theorem's own.
-/
import Derived.LoopIn
import Derived.LoopNIn
import Derived.OwnWalkIn
import Derived.RangeFuncBound
import Derived.RangeFuncBox
import Derived.RangeFuncCalls
import Derived.RangeFuncLeaves
import Derived.RangeFuncNested
import Derived.Shelf.Abstract
import Derived.Shelf.RegionOpen
import Derived.TacticsInMore
import Derived.Test.YtaofmndhdmkgkaaGreatProg
import Derived.WalkKit
set_option linter.unusedSimpArgs false
set_option linter.unusedVariables false
set_option linter.unnecessarySimpa false
set_option linter.unusedSectionVars false
namespace Go.Proofs
open Go.RowKit Go.Shelf
attribute [local go_sem] Oper.semAt_some
def Tryz.upto {α:Type} (f:Nat->α) (k:Nat):List α:=(List.range k).map f
theorem Tryz.upto_succ {α:Type} (f:Nat->α) (k:Nat):Tryz.upto f (k+1)=Tryz.upto f k++[f k]:=by simp [Tryz.upto,List.range_succ]
theorem Tryz.upto_length {α:Type} (f:Nat->α) (k:Nat):(Tryz.upto f k).length=k:=by simp [Tryz.upto]
abbrev Tryz.W:=Int×ByteArray
def Tryz.from_ (ws:Nat->Tryz.W) (len k:Nat):Nat×Tryz.W:=(len-1-k,ws (len-1-k))
set_option maxRecDepth 100000 in
set_option maxHeartbeats 2000000 in
theorem Tryz.back1_in (F:Fence) (n:Nat) (h156:F.fn 246) (hro:F.round=none) (hn:1<=n) (l Bs n₀ b off len cap:Nat) (a:Option Addr) (ha:0<len->a=some ⟨b,off,none⟩) (ws:Nat->Tryz.W) (hreach:len*24<=140737488351232) (hb:0<len->b<n₀) (hBn:Bs<n₀) (J Jx:List (Nat×Tryz.W)->World->Prop)
  (hY:∀ pre x W,J pre W->pre.length<len->YieldAt F (n-1) Tryz.prog l #[.int .i64 (x.1:Int),.agg #[.int .i64 x.2.1,.string x.2.2]] W fun e W'=>
   (e=.returned (.bool true) /\J (pre++[x]) W'/\Below n₀ W W') \/ (e=.returned (.bool false) /\Jx (pre++[x]) W'))
  (W:World) (hBs:W.cell? ⟨Bs,0,none⟩=some (.slice a len cap)) (hc:∀ j,j<len->W.cell? ⟨b,off+j*2,none⟩=some (.int .i64 (ws j).1) /\W.cell? ⟨b,off+j*2+1,none⟩=some (.string (ws j).2)) (h0:J [] W):
  CallsIn F n Tryz.prog 246 #[.func (.yield l) #[] #[],.pointer (some ⟨Bs,0,none⟩)] W fun e W'=>(∃ v,e=.returned v) /\
   ((∃ ys,ys=Tryz.upto (Tryz.from_ ws len) len/\J ys W') \/ (∃ pre,(∃ k,k<=len/\pre=Tryz.upto (Tryz.from_ ws len) k) /\Jx pre W')):=by
 refine callsIn_of_wp Tryz.func246 rfl h156 ?_ hro;simp only [Tryz.ntmps246,List.size_toArray,List.length_cons,List.length_nil,Nat.reduceAdd,Nat.reduceSub,Array.replicate_succ,Array.replicate_zero,List.push_toArray,List.append_toArray,List.nil_append,List.cons_append]
 gi_wp2
 gi_loopw [3] (fun i wr=>∃ k:Nat,k<=len/\i=.int .i64 ((len:Int)-1-k) /\J (Tryz.upto (Tryz.from_ ws len) k) wr/\Below n₀ W wr)
  (fun i _=>((intOf i)+1).toNat)
 case atStart=>
  refine ⟨0,Nat.zero_le _,?_,h0,Below.refl _ _⟩;simp
 case round=>
  obtain ⟨k,hk,rfl,hJs,hnx⟩:=hrel;have hBx:wr.cell? ⟨Bs,0,none⟩=some (.slice a len cap):=(hnx.cell (p:=⟨Bs,0,none⟩) hBn).trans hBs
  by_cases hlt:k<len
  ·have hcx:=hc (len-1-k) (by omega);have hc1:wr.cell? ⟨b,off+(len-1-k)*2,none⟩=some (.int .i64 (ws (len-1-k)).1):=(hnx.cell (p:=⟨b,off+(len-1-k)*2,none⟩) (hb (by omega))).trans hcx.1;have hc2:wr.cell? ⟨b,off+(len-1-k)*2+1,none⟩=some (.string (ws (len-1-k)).2):=(hnx.cell (p:=⟨b,off+(len-1-k)*2+1,none⟩) (hb (by omega))).trans hcx.2;obtain ⟨fn,tmps,assign,body,hy,hR⟩:=hY _ (Tryz.from_ ws len k) wr hJs (by rw [Tryz.upto_length];exact hlt);dsimp only [Tryz.from_] at hy;obtain ⟨j,hj⟩:∃ j,len-1-k=j:=⟨_,rfl⟩
   have ej:(len:Int)-1-k=(j:Int):=by omega
   rw [hj] at hc1 hc2 hy;rw [ej];have ha':=ha (by omega);subst ha'
   gi_wp2
   refine hR.mono ?_;rintro e W3 (⟨rfl,hJ3,hk3⟩|⟨rfl,hJx3⟩)
   ·gi_wp2
    go_roundw
    case rel=>exact ⟨k+1,by omega,by simp;omega,by rw [Tryz.upto_succ];exact hJ3,hnx.trans hk3⟩
    case measure=>simp [intOf]
   ·gi_wp2
    refine bodyPost_ret (results_none rfl _ _ _) rfl ?_;exact ⟨⟨_,rfl⟩,.inr ⟨_,⟨k+1,by omega,(Tryz.upto_succ _ _).symm⟩,hJx3⟩⟩
  ·obtain rfl:k=len:=by omega
   gi_wp2
   go_end0
   exact ⟨⟨_,rfl⟩,.inl ⟨_,rfl,hJs⟩⟩
set_option maxHeartbeats 1000000 in
theorem Tryz.back_in (F:Fence) (n:Nat) (h134:F.fn 178) (hro:F.round=none) (a:Option Addr) (len cap:Nat) (w:World):
  CallsIn F n Tryz.prog 178 #[.slice a len cap] w fun e w'=>e=.returned (.func (.func 246) #[] #[.pointer (some ⟨w.heap.size,0,none⟩)]) /\w'=w.alloc (.cells #[.slice a len cap] 39):=by
 refine callsIn_of_wp Tryz.func178 rfl h134 ?_ hro;simp only [Tryz.ntmps178,List.size_toArray,List.length_cons,List.length_nil,Nat.reduceAdd,Nat.reduceSub,Array.replicate_succ,Array.replicate_zero,List.push_toArray,List.append_toArray,List.nil_append,List.cons_append]
 gi_wp2
 go_ret
 exact ⟨rfl,rfl⟩
structure Tryz.Held (n₀:Nat) (W:World) (a:Option Addr) (len b off:Nat) (ws:Nat->Tryz.W):Prop where
 at_:0<len->a=some ⟨b,off,none⟩
 lt:0<len->b<n₀
 cells:∀ j,j<len->W.cell? ⟨b,off+j*2,none⟩=some (.int .i64 (ws j).1) /\W.cell? ⟨b,off+j*2+1,none⟩=some (.string (ws j).2)
theorem Tryz.Held.below {n₀:Nat} {A B:World} (h:Below n₀ A B) {a:Option Addr} {len b off:Nat} {ws:Nat->Tryz.W} (q:Tryz.Held n₀ A a len b off ws):Tryz.Held n₀ B a len b off ws:=
 ⟨q.at_,q.lt,fun j hj=>⟨(h.cell (p:=⟨b,off+j*2,none⟩) (q.lt (by omega))).trans (q.cells j hj).1,(h.cell (p:=⟨b,off+j*2+1,none⟩) (q.lt (by omega))).trans (q.cells j hj).2⟩⟩
theorem Tryz.back_stops (F:Fence) (n:Nat) (h156:F.fn 246) (hro:F.round=none) (hn:1<=n) (Bs n₀ len cap b off:Nat) (a:Option Addr) (ws:Nat->Tryz.W) (hreach:len*24<=140737488351232) (w:World) (hBs:Bs<n₀) (hn₀:n₀<=w.heap.size)
  (hc:w.cell? ⟨Bs,0,none⟩=some (.slice a len cap)) (hI:Tryz.Held n₀ w a len b off ws):
  SeqStopsK F n Tryz.prog 246 #[.pointer (some ⟨Bs,0,none⟩)] (fun x:Nat×Tryz.W=>#[Value.int .i64 (x.1:Int),Value.agg #[.int .i64 x.2.1,.string x.2.2]]) (Below n₀) (fun ys=>ys=Tryz.upto (Tryz.from_ ws len) len)
   (fun pre=>∃ k,k<=len/\pre=Tryz.upto (Tryz.from_ ws len) k) len w:=fun l J Jx W hW _ _ hY h0=>by
 have hc':=(hW.cell (p:=⟨Bs,0,none⟩) (Nat.lt_of_lt_of_le hBs hn₀)).trans hc;have hI':=hI.below (hW.mono hn₀);exact Tryz.back1_in F n h156 hro hn l Bs n₀ b off len cap a hI'.at_ ws hreach hI'.lt hBs J Jx hY W hc' hI'.cells h0
attribute [local go_sem] Oper.semAt_some
theorem Tryz.keptC {A B:World} {row:Option Nat} {k:Nat} {c:Array Value} {t:TypeId} (h:A.heap[k]?=some (.cells c t)) (hg:A.grownBy B row) (hr:∀ r,row=some r->∃ o:Obj,A.heap[r]?=some o/\o.isCells=false):B.heap[k]?=some (.cells c t):=
 (hg.block k (Array.getElem?_eq_some_iff.1 h).1 (fun e=>by
  obtain ⟨o,h1,h2⟩:=hr k e.symm;rw [h] at h1
  cases h1
  cases h2)).trans h
def Tryz.DPost (sn len : Nat) (secs : Nat → ByteArray) (ws : Nat → Tryz.W) (m : Int) (right : Bool) (w : World) (e : Ending) (W' : World) : Prop := Below w.heap.size w W' ∧
      ((¬ (right = true ∧ 0 ≤ m ∧ m < sn) ∧ e = .returned (.tuple #[.string ByteArray.empty, .int .i64 1])) ∨
       (right = true ∧ 0 ≤ m ∧ m < sn ∧ ((∃ k, k < len ∧ (ws k).1 = m ∧ (∀ j, k < j → j < len → (ws j).1 ≠ m) ∧ e = .returned (.tuple #[.string (ws k).2, .int .i64 0])) ∨ ((∀ j, j < len → (ws j).1 ≠ m) ∧ e = .returned (.tuple #[.string (secs m.toNat), .int .i64 0])))) )
set_option maxRecDepth 100000 in
set_option maxHeartbeats 4000000 in
theorem Tryz.dread_in (sa:Option Addr) (sn scap:Nat) (a:Option Addr) (len cap:Nat) (sb soff b off:Nat) (secs:Nat->ByteArray) (ws:Nat->Tryz.W) (m:Int) (right:Bool) (w:World)
  (h105:∀ W:World,Below w.heap.size w W->Calls Tryz.prog 57 #[.agg #[.slice sa sn scap,.slice a len cap]] W fun e W'=>e=.returned (.bool right) /\Below W.heap.size W W')
  (hlen:right=true->len<=200/\sn<=64) (hS:0<sn->sa=some ⟨sb,soff,none⟩) (hSb:0<sn->sb<w.heap.size) (hSc:∀ j,j<sn->w.cell? ⟨sb,soff+j,none⟩=some (.string (secs j)))
  (hH:Tryz.Held w.heap.size w a len b off ws):
  Calls Tryz.prog 109 #[.agg #[.slice sa sn scap,.slice a len cap],.int .i64 m] w (Tryz.DPost sn len secs ws m right w):=by
 refine (callsIn_wide (n:=3)).1 ?_;refine callsIn_of_wp_marks Tryz.func109 rfl trivial ?_ rfl;simp only [Tryz.ntmps109,List.size_toArray,List.length_cons,List.length_nil,Nat.reduceAdd,Nat.reduceSub,Array.replicate_succ,Array.replicate_zero,List.push_toArray,List.append_toArray,List.nil_append,List.cons_append]
 gi_wp2
 have hB0:Below w.heap.size w ((((w.alloc (.cells #[.slice sa sn scap,.slice a len cap] 41)).alloc (.cells #[.int .i64 m] 3)).alloc (.cells #[.string {data:=#[]}] 9)).alloc (.cells #[.int .i64 0] 65)):=
  ((((Below.refl _ w).alloc (Nat.le_refl _) _).alloc (by simp) _).alloc (by simp;omega) _).alloc (by simp;omega) _
 have x2:((((w.alloc (.cells #[.slice sa sn scap,.slice a len cap] 41)).alloc (.cells #[.int .i64 m] 3)).alloc (.cells #[.string {data:=#[]}] 9)).alloc (.cells #[.int .i64 0] 65)).heap[w.heap.size]?=some (.cells #[.slice sa sn scap,.slice a len cap] 41):=by
  exact (Below.heap_alloc _ _ _ (by simp;omega)).trans ((Below.heap_alloc _ _ _ (by simp;omega)).trans ((Below.heap_alloc _ _ _ (by simp)).trans (World.alloc_heap_new w _)))
 have x3:Boxed ((((w.alloc (.cells #[.slice sa sn scap,.slice a len cap] 41)).alloc (.cells #[.int .i64 m] 3)).alloc (.cells #[.string {data:=#[]}] 9)).alloc (.cells #[.int .i64 0] 65)) (w.heap.size+1) 3 (.int .i64 m):=by
  have:=((Boxed.new (w.alloc (.cells #[.slice sa sn scap,.slice a len cap] 41)) 3 (.int .i64 m)).alloc (.cells #[.string {data:=#[]}] 9)).alloc (.cells #[.int .i64 0] 65)
  rwa [World.size_alloc] at this
 have x4:Boxed ((((w.alloc (.cells #[.slice sa sn scap,.slice a len cap] 41)).alloc (.cells #[.int .i64 m] 3)).alloc (.cells #[.string {data:=#[]}] 9)).alloc (.cells #[.int .i64 0] 65)) (w.heap.size+1+1) 9 (.string {data:=#[]}):=by
  have:=(Boxed.new ((w.alloc (.cells #[.slice sa sn scap,.slice a len cap] 41)).alloc (.cells #[.int .i64 m] 3)) 9 (.string {data:=#[]})).alloc (.cells #[.int .i64 0] 65)
  rwa [World.size_alloc,World.size_alloc] at this
 have x5:Boxed ((((w.alloc (.cells #[.slice sa sn scap,.slice a len cap] 41)).alloc (.cells #[.int .i64 m] 3)).alloc (.cells #[.string {data:=#[]}] 9)).alloc (.cells #[.int .i64 0] 65)) (w.heap.size+1+1+1) 65 (.int .i64 0):=by
  have:=(Boxed.new (((w.alloc (.cells #[.slice sa sn scap,.slice a len cap] 41)).alloc (.cells #[.int .i64 m] 3)).alloc (.cells #[.string {data:=#[]}] 9)) 65 (.int .i64 0))
  rwa [World.size_alloc,World.size_alloc,World.size_alloc] at this
 have hz0:((((w.alloc (.cells #[.slice sa sn scap,.slice a len cap] 41)).alloc (.cells #[.int .i64 m] 3)).alloc (.cells #[.string {data:=#[]}] 9)).alloc (.cells #[.int .i64 0] 65)).heap.size=w.heap.size+4:=by simp
 refine ⟨trivial,?_⟩;refine (callsIn_wide.2 (h105 _ hB0)).mono ?_;generalize ((((w.alloc (.cells #[.slice sa sn scap,.slice a len cap] 41)).alloc (.cells #[.int .i64 m] 3)).alloc (.cells #[.string {data:=#[]}] 9)).alloc (.cells #[.int .i64 0] 65))=W0 at hB0 x2 x3 x4 x5 hz0;rintro e W1 ⟨rfl,hb1⟩;have hB1:Below w.heap.size w W1:=hB0.trans (hb1.mono (by omega));have y2:W1.heap[w.heap.size]?=some (.cells #[.slice sa sn scap,.slice a len cap] 41):=(hb1.block _ (by omega)).trans x2;have y3:Boxed W1 (w.heap.size+1) 3 (.int .i64 m):=(hb1.block _ (by omega)).trans x3;have y4:Boxed W1 (w.heap.size+1+1) 9 (.string {data:=#[]}):=(hb1.block _ (by omega)).trans x4;have y5:Boxed W1 (w.heap.size+1+1+1) 65 (.int .i64 0):=(hb1.block _ (by omega)).trans x5
 have hz1:w.heap.size+4<=W1.heap.size:=by have:=hb1.size;omega
 have c20:W1.cell? ⟨w.heap.size,0,none⟩=some (.slice sa sn scap):=by simp [World.cell?,y2]
 have c21:W1.cell? ⟨w.heap.size,1,none⟩=some (.slice a len cap):=by simp [World.cell?,y2]
 have c3:=y3.cell;have c4:=y4.cell;have c5:=y5.cell;have f4:=y4.frozen;have f5:=y5.frozen
 clear x2 x3 x4 x5
 dsimp only
 have fin:∀ (tmps:Array Value) (W:World) (s:ByteArray) (k:Int),tmps[4]?.getD undef=.pointer (some ⟨w.heap.size+1+1,0,none⟩)->tmps[5]?.getD undef=.pointer (some ⟨w.heap.size+1+1+1,0,none⟩)->
   W.cell? ⟨w.heap.size+1+1,0,none⟩=some (.string s)->W.cell? ⟨w.heap.size+1+1+1,0,none⟩=some (.int .i64 k)->(results Tryz.f109 tmps).run Tryz.prog W=.ok (.tuple #[.string s,.int .i64 k]) W:=by
  intro tmps W s k h4 h5 q4 q5;simp [results,Tryz.f109,go_sem,h4,h5,q4,q5]
 have early:¬(right=true/\0<=m/\m<sn)->∀ tmps:Array Value,tmps[4]?.getD undef=.pointer (some ⟨w.heap.size+1+1,0,none⟩)->tmps[5]?.getD undef=.pointer (some ⟨w.heap.size+1+1+1,0,none⟩)->
   bodyPostM Fence.wide 3 Tryz.prog Tryz.f109 (Tryz.DPost sn len secs ws m right w) Exit.ret {tmps:=tmps,defers:=[]} ((W1.setCell ⟨w.heap.size+1+1,0,none⟩ (.string {data:=#[]})).setCell ⟨w.heap.size+1+1+1,0,none⟩ (.int .i64 1)):=by
  intro hn tmps h4 h5;have z4:Boxed ((W1.setCell ⟨w.heap.size+1+1,0,none⟩ (.string {data:=#[]})).setCell ⟨w.heap.size+1+1+1,0,none⟩ (.int .i64 1)) (w.heap.size+1+1) 9 (.string {data:=#[]}):=(y4.set _).other (by omega) _;have z5:Boxed ((W1.setCell ⟨w.heap.size+1+1,0,none⟩ (.string {data:=#[]})).setCell ⟨w.heap.size+1+1+1,0,none⟩ (.int .i64 1)) (w.heap.size+1+1+1) 65 (.int .i64 1):=(y5.other (by omega) _).set _;exact ⟨_,fin tmps _ _ _ h4 h5 z4.cell z5.cell,(hB1.setCell (by simp;omega) _).setCell (by simp;omega) _,.inl ⟨hn,rfl⟩⟩
 cases right with
 |false=>
  gi_wp2
  exact early (by simp) _ rfl rfl
 |true=>
  have hlen:=hlen rfl
  by_cases hm:0<=m/\m<sn
  ·obtain ⟨hm0,hm1⟩:=hm;obtain ⟨mj,rfl⟩:∃ j:Nat,m=(j:Int):=⟨m.toNat,by omega⟩
   have hd0:decide ((mj:Int)<0)=false:=by simp
   have hd1:decide ((sn:Int) <= (mj:Int))=false:=by simp;omega
   gi_wp2
   all_goals try omega
   refine ⟨trivial,?_⟩;refine (Tryz.back_in Fence.wide 2 trivial rfl _ _ _ _).mono ?_;rintro e w' ⟨rfl,rfl⟩
   gi_wp2
   have hB2:Below w.heap.size w (W1.alloc (.cells #[.slice a len cap] 39)):=hB1.alloc (by omega) _
   have hz2:(W1.alloc (.cells #[.slice a len cap] 39)).heap.size=W1.heap.size+1:=by simp
   have bS:=Boxed.new W1 39 (.slice a len cap);have z2:(W1.alloc (.cells #[.slice a len cap] 39)).heap[w.heap.size]?=some (.cells #[.slice sa sn scap,.slice a len cap] 41):=(Below.heap_alloc _ _ _ (by omega)).trans y2;have z3:=y3.alloc (.cells #[.slice a len cap] 39);have z4:=y4.alloc (.cells #[.slice a len cap] 39);have z5:=y5.alloc (.cells #[.slice a len cap] 39);generalize (W1.alloc (.cells #[.slice a len cap] 39))=W2 at hB2 hz2 bS z2 z3 z4 z5;have hH2:Tryz.Held W2.heap.size W2 a len b off ws:=⟨hH.at_,fun h=>by have:=hH.lt h;omega,(hH.below hB2).cells⟩;refine wpIn_rangeFunc_ownH (w:=W2) rfl (by decide) (gf:=246) (lb:=#[.pointer (some ⟨W1.heap.size,0,none⟩)]) rfl trivial (enters_of Tryz.func246 (by kernel_rfl) rfl)
    (Tryz.back_stops Fence.wide 2 trivial rfl (by decide) W1.heap.size W2.heap.size len cap b off a ws (by omega) W2 (by omega) (Nat.le_refl _) bS.cell hH2) belowK_t (belowK_b (Nat.le_refl _)) (Below.refl _ _) (fun _=>rfl)
    (fun pre W=>((∀ p∈pre,p.2.1≠(mj:Int)) /\W.heap[w.heap.size]?=some (.cells #[.slice sa sn scap,.slice a len cap] 41) /\Boxed W (w.heap.size+1) 3 (.int .i64 (mj:Int)) /\Boxed W (w.heap.size+1+1) 9 (.string {data:=#[]}) /\Boxed W (w.heap.size+1+1+1) 65 (.int .i64 0)) /\Below W2.heap.size W2 W)
    (fun c pre W=>(c=.ret/\ ∃ ini last,pre=ini++[last] /\ (∀ p∈ini,p.2.1≠(mj:Int)) /\last.2.1=(mj:Int) /\Boxed W (w.heap.size+1+1) 9 (.string last.2.2) /\Boxed W (w.heap.size+1+1+1) 65 (.int .i64 0)) /\Below w.heap.size w W)
    (OwnFrom.and (fun s A B row hs hg hr=>⟨hs.1,Tryz.keptC hs.2.1 hg (fun r e=>(hr r e).2),Tryz.keptC hs.2.2.1 hg (fun r e=>(hr r e).2),Tryz.keptC hs.2.2.2.1 hg (fun r e=>(hr r e).2),Tryz.keptC hs.2.2.2.2 hg (fun r e=>(hr r e).2)⟩) (ownFrom_below (Nat.le_refl _) (Nat.le_refl _)))
    (fun c=>OwnFrom.and (fun s A B row hs hg hr=>by obtain ⟨hc,ini,last,e1,e2,e3,e4,e5⟩:=hs;exact ⟨hc,ini,last,e1,e2,e3,Tryz.keptC e4 hg (fun r e=>(hr r e).2),Tryz.keptC e5 hg (fun r e=>(hr r e).2)⟩) (ownFrom_below (Nat.le_refl _) (by omega)))
    ⟨⟨by simp,z2,z3,z4,z5⟩,Below.refl _ _⟩
    (fun x a' W=>∃ Bx,W2.heap.size<=Bx/\W.heap[Bx]?=some (.cells #[.int .i64 x.2.1,.string x.2.2] 144) /\a'={tmps:=#[.agg #[.slice sa sn scap,.slice a len cap],.int .i64 (mj:Int),.pointer (some ⟨w.heap.size,0,none⟩),.pointer (some ⟨w.heap.size+1,0,none⟩),.pointer (some ⟨w.heap.size+1+1,0,none⟩),.pointer (some ⟨w.heap.size+1+1+1,0,none⟩),undef,.pointer (some ⟨Bx,0,none⟩),
     .agg #[.slice sa sn scap,.slice a len cap],.bool true,.bool false,.bool false,.int .i64 (mj:Int),.bool false,.bool false,.bool false,.int .i64 (mj:Int),.pointer (some ⟨w.heap.size,0,none⟩),.slice sa sn scap,.int .i64 sn,.bool false,.bool false,.pointer (some ⟨w.heap.size,1,none⟩),.slice a len cap,
     .func (.func 246) #[] #[.pointer (some ⟨W1.heap.size,0,none⟩)],.int .i64 (x.1:Int),.agg #[.int .i64 x.2.1,.string x.2.2],undef,undef,undef,undef,undef,undef,undef,undef,undef,undef,undef],defers:=[]})
    (fun x a' s A B row hs hg hr=>by obtain ⟨Bx,e1,e2,e3⟩:=hs;exact ⟨Bx,e1,Tryz.keptC e2 hg (fun r e=>(hr r e).2),e3⟩) ?assign ?body ?done ?stop
   case assign=>
    rintro l pre x W K hI hK
    gi_wp2
    obtain ⟨⟨hp,q2,q3,q4,q5⟩,hB⟩:=hI;exact hK _ _ ((KeepsOthers.alloc _ _).from _) ((Below.refl _ W).alloc hB.size _) ⟨⟨hp,(Below.heap_alloc _ _ _ (by have:=hB.size;omega)).trans q2,q3.alloc _,q4.alloc _,q5.alloc _⟩,hB.alloc hB.size _⟩ ⟨W.heap.size,hB.size,World.alloc_heap_new W _,rfl⟩
   case body=>
    rintro l pre x a' W hl ⟨r,hr⟩ ⟨⟨hp,q2,q3,q4,q5⟩,hB⟩ ⟨Bx,hBx,bX,rfl⟩ hlt
    have c0:W.cell? ⟨Bx,0,none⟩=some (.int .i64 x.2.1):=by simp [World.cell?,bX]
    have c1:W.cell? ⟨Bx,1,none⟩=some (.string x.2.2):=by simp [World.cell?,bX]
    have c3:=q3.cell;have c4:=q4.cell;have c5:=q5.cell;have f4:=q4.frozen;have f5:=q5.frozen;have hBw:Below w.heap.size w W:=hB2.trans (hB.mono (by omega))
    gi_wp2
    ·have hx:x.2.1=(mj:Int):=by simpa using (by assumption:(x.2.1==(mj:Int))=true)
     exact ⟨((KeepsOthers.setCell _ _ _).trans (KeepsOthers.setCell _ _ _)).from _,⟨rfl,pre,x,rfl,hp,hx,(q4.set _).other (by omega) _,(q5.other (by omega) _).set _⟩,(hBw.setCell (by simp;omega) _).setCell (by simp;omega) _⟩
    ·have hx:x.2.1≠(mj:Int):=by simpa using (by assumption:(x.2.1==(mj:Int))=false)
     exact ⟨KeepsFrom.refl _ _,Below.refl _ _,⟨⟨fun p hp'=>(List.mem_append.1 hp').elim (hp p) (fun e=>by simp at e;subst e;exact hx),q2,q3,q4,q5⟩,hB⟩⟩
   case done=>
    rintro D ys W hD rfl ⟨⟨hne,q2,q3,q4,q5⟩,hB⟩ hK;have hBw:Below w.heap.size w W:=hB2.trans (hB.mono (by omega))
    have c0:W.cell? ⟨w.heap.size,0,none⟩=some (.slice sa sn scap):=by simp [World.cell?,q2]
    have hsa:=hS (by omega);subst hsa;have c3:=q3.cell;have c4:=q4.cell;have c5:=q5.cell;have f4:=q4.frozen;have f5:=q5.frozen;have cS:W.cell? ⟨sb,soff+mj,none⟩=some (.string (secs mj)):=(hBw.cell (p:=⟨sb,soff+mj,none⟩) (hSb (by omega))).trans (hSc mj (by omega))
    gi_wp2
    have hK':=((KeepsOthers.setCell W ⟨w.heap.size+1+1,0,none⟩ (.string (secs mj))).trans (KeepsOthers.setCell _ ⟨w.heap.size+1+1+1,0,none⟩ (.int .i64 0))).same D _ hK rfl;have z4:Boxed ((W.setCell ⟨w.heap.size+1+1,0,none⟩ (.string (secs mj))).setCell ⟨w.heap.size+1+1+1,0,none⟩ (.int .i64 0)) (w.heap.size+1+1) 9 (.string (secs mj)):=(q4.set _).other (by omega) _;have z5:Boxed ((W.setCell ⟨w.heap.size+1+1,0,none⟩ (.string (secs mj))).setCell ⟨w.heap.size+1+1+1,0,none⟩ (.int .i64 0)) (w.heap.size+1+1+1) 65 (.int .i64 0):=(q5.other (by omega) _).set _;have hBe:Below w.heap.size w ((W.setCell ⟨w.heap.size+1+1,0,none⟩ (.string (secs mj))).setCell ⟨w.heap.size+1+1+1,0,none⟩ (.int .i64 0)):=(hBw.setCell (by simp;omega) _).setCell (by simp;omega) _;generalize ((W.setCell ⟨w.heap.size+1+1,0,none⟩ (.string (secs mj))).setCell ⟨w.heap.size+1+1+1,0,none⟩ (.int .i64 0))=W9 at hK' z4 z5 hBe;refine ⟨by simp,.inl ⟨_,_,rfl,run_takeDeferred hK',?_⟩⟩
    have kept:∀ {k:Nat} {c:Array Value} {t:TypeId},W9.heap[k]?=some (.cells c t)->(W9.putObj D (.deferred none)).heap[k]?=some (.cells c t):=fun h=>Tryz.keptC h (grownBy_putObj' _ D (.deferred none)) (fun r e=>by cases e;exact ⟨_,hK',rfl⟩)
    have z4':Boxed (W9.putObj D (.deferred none)) (w.heap.size+1+1) 9 (.string (secs mj)):=kept z4;have z5':Boxed (W9.putObj D (.deferred none)) (w.heap.size+1+1+1) 65 (.int .i64 0):=kept z5;refine ⟨_,fin _ _ _ _ rfl rfl z4'.cell z5'.cell,hBe.trans (belowK_b (w:=w) (Nat.le_refl _) W9 D _ _ (by have:=hB2.size;omega) hK' rfl rfl),.inr ⟨rfl,hm0,hm1,.inr ⟨fun j hj=>?_,by simp⟩⟩⟩;have:=hne (Tryz.from_ ws len (len-1-j)) (by simp only [Tryz.upto,List.mem_map,List.mem_range];exact ⟨len-1-j,by omega,rfl⟩)
    simpa [Tryz.from_,show len-1-(len-1-j)=j by omega] using this
   case stop=>
    rintro D c pre W hD ⟨k,hk,rfl⟩ ⟨⟨rfl,ini,last,e1,e2,e3,q4,q5⟩,hB⟩ hK
    gi_wp2
    refine ⟨by simp,.inl ⟨_,_,rfl,run_takeDeferred hK,?_⟩⟩
    have kept:∀ {k:Nat} {c:Array Value} {t:TypeId},W.heap[k]?=some (.cells c t)->(W.putObj D (.deferred none)).heap[k]?=some (.cells c t):=fun h=>Tryz.keptC h (grownBy_putObj' _ D (.deferred none)) (fun r e=>by cases e;exact ⟨_,hK,rfl⟩)
    have z4:Boxed (W.putObj D (.deferred none)) (w.heap.size+1+1) 9 (.string last.2.2):=kept q4;have z5:Boxed (W.putObj D (.deferred none)) (w.heap.size+1+1+1) 65 (.int .i64 0):=kept q5;refine ⟨_,fin _ _ _ _ rfl rfl z4.cell z5.cell,hB.trans (belowK_b (w:=w) (Nat.le_refl _) W D _ _ (by have:=hB2.size;omega) hK rfl rfl),.inr ⟨rfl,hm0,hm1,.inl ?_⟩⟩
    obtain ⟨k',rfl⟩:∃ k',k=k'+1:=by
     cases k with
     |zero=>simp [Tryz.upto] at e1
     |succ k'=>exact ⟨k',rfl⟩
    rw [Tryz.upto_succ] at e1;obtain ⟨rfl,e5⟩:=List.append_inj' e1 rfl
    obtain rfl:Tryz.from_ ws len k'=last:=by simpa using e5
    refine ⟨len-1-k',by omega,e3,fun j hj hj2=>?_,rfl⟩;have:=e2 (Tryz.from_ ws len (len-1-j)) (by simp only [Tryz.upto,List.mem_map,List.mem_range];exact ⟨len-1-j,by omega,rfl⟩)
    simpa [Tryz.from_,show len-1-(len-1-j)=j by omega] using this
  ·by_cases hm0:m<0
   ·gi_wp2
    all_goals try omega
    all_goals exact early (by simp;omega) _ rfl rfl
   ·have hm1:(sn:Int) <=m:=by omega
    gi_wp2
    all_goals try omega
    all_goals exact early (by simp;omega) _ rfl rfl
end Go.Proofs

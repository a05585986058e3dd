/-
  What is proved here: what functions of the program compute, and what follows; no condition beyond each theorem's own.
-/
import Derived.Test.YtaofmndhdmkgkaaGreatGAk
import Derived.Shelf.Sort.Plain
set_option linter.unusedSimpArgs false
set_option linter.unusedVariables false
set_option linter.unnecessarySimpa false
set_option linter.unusedSectionVars false
namespace Go.Lk
open Go Go.Proofs Go.RowKit Go.Shelf Go.Sort
def zKx (l:List Int):List Int:=l.mergeSort fun x y=>decide (x<=y)
theorem yHt {M:Mem} {cs:Array Value} {zs:List Int} (h:zGv M cs (zs.map enc1) 1) {j:Nat} (hj:j<zs.length):cs[j]?=some (.int .i64 zs[j]):=by
 obtain ⟨v,hv,hd⟩:=h.den j 0 (enc1 zs[j]) (.int .i64 zs[j]) (by simp [hj]) rfl;rw [Nat.mul_one,Nat.add_zero] at hv
 cases hd
 exact hv
theorem sort_ecall {P:Program} {ρ:Ren} (Ly:Lays.n189 P ρ) (hok:FnOk P (ρ.f 189)) (hnone:∀ (p:Option Addr) (cap:Nat) (w:World),Calls P (ρ.f 189) #[.slice p 0 cap] w fun e w'=>e=.returned (.tuple #[]) /\w'=w)
  {hp:Nat->Option Blk} {b:Nat} {zs:List Int} (hb:hp b=some (.row (zs.map enc1) 1 false)) (hz:zs.length<4611686018427387904):
  zOj P (ρ.f 189) [.own b] hp ⟨.tup [],[(b,.row ((zKx zs).map enc1) 1 false)],none⟩:=by
 refine ⟨hok,fun own M ι w vs ho ha hh hvs=>?_⟩
 obtain ⟨v,rfl⟩:∃ v,vs=#[v]:=by
  have:=hvs.1;simp at this;exact Array.size_eq_one_iff.1 this
 have hv:DenA M ι (.own b) v:=hvs.2 0 _ v rfl rfl
 have hlen:(zKx zs).length=zs.length:=List.length_mergeSort ..
 have hne:hp b≠none:=by rw [hb];simp
 cases hv with
 |own _ L cap hL hn hc=>
  obtain ⟨ho1,cs,Ty,q1,q2,q3,q4,q5,q6,q7⟩:=hh.at_ b _ L hb hL;rw [List.length_map] at q4;have q7':=q7.2 rfl
  have hH:Holds (Value.int .i64) w L.blk 0 zs.toArray:=by
   intro j hj
   have hj:j<zs.length:=by simpa using hj
   rw [Nat.zero_add];refine ⟨?_,?_⟩
   ·rw [cell_of_heap q1,yHt q6 hj,getElem!_pos zs.toArray j (by simpa using hj)];simp
   ·simp [World.frozen?,q1]
  have hblk:L.blk<w.heap.size:=(Array.getElem?_eq_some_iff.1 q1).1;rw [<-q4]
  refine (Any.slices_Sort_int Ly L.blk 0 cap zs w hH hblk hz).mono fun e w' hq=>?_
  obtain ⟨rfl,n,os,rfl⟩:=hq
  have hsame:∀ c,c≠L.blk->c<w.heap.size->(grow (putRow (Value.int .i64) (Sort.ahead w n) L.blk 0 (zKx zs).toArray) os).heap[c]?=w.heap[c]?:=by
   intro c hc hlt;simp only [grow,putRow,mapBlock,Sort.ahead];rw [Array.getElem?_append_left (by simpa using hlt),Array.getElem?_modify,if_neg (fun e=>hc e.symm)]
  have hat:(grow (putRow (Value.int .i64) (Sort.ahead w n) L.blk 0 (zKx zs).toArray) os).heap[L.blk]?=some (.cells (putCells (Value.int .i64) 0 (zKx zs).toArray cs) Ty (0,0)):=by
   simp only [grow,putRow,mapBlock,Sort.ahead];rw [Array.getElem?_append_left (by simpa using hblk),Array.getElem?_modify,if_pos rfl,q1];rfl
  refine ⟨_,M,ι,rfl,⟨rfl,rfl,rfl,by simp [grow,putRow,mapBlock,Sort.ahead],fun c hc=>?_⟩,.refl M,?_,.refl _ _,?_,fun _ _=>rfl,.tup [] #[] rfl fun i x v h=>by simp at h⟩
  ·by_cases hlt:c<w.heap.size
   ·exact hsame c (fun e=>hc (e▸ho1)) hlt
   ·exact absurd (ho c (by omega)) hc
  ·intro b' o v hM
   have hne':b'≠L.blk:=fun e=>by rw [e,q7' o] at hM;cases hM
   have:=ha b' o v hM;unfold World.cell? at this⊢
   have hlt:b'<w.heap.size:=by
    cases hx:w.heap[b']? with
    |none=>rw [hx] at this;simp at this
    |some x=>exact (Array.getElem?_eq_some_iff.1 hx).1
   rw [show (zs.mergeSort fun x y=>decide (x<=y))=zKx zs from rfl,hsame b' hne' hlt];exact this
  ·refine hh.set b _ hne (.refl M) (fun e=>by rw [hL] at e;cases e) (fun L' hL'=>?_) (fun b' L' hbb hL'=>?_)
   ·rw [hL] at hL'
    cases hL'
    refine ⟨_,Ty,hat,by simp [putCells,q2],q3,by simp [hlen,q4],by simpa [hlen] using q5,⟨fun i e h=>?_,fun i j e d h1 h2=>?_⟩,fun h=>(by cases h),fun _=>q7'⟩
    ·rw [List.getElem?_map] at h
     cases hx:(zKx zs)[i]? with
     |none=>simp [hx] at h
     |some x=>simp [hx] at h;subst h;rfl
    ·rw [List.getElem?_map] at h1
     cases hx:(zKx zs)[i]? with
     |none=>simp [hx] at h1
     |some x=>
      simp [hx] at h1;subst h1
      cases j with
      |succ j=>simp [enc1] at h2
      |zero=>
       simp [enc1] at h2;subst h2;obtain ⟨hi,hx'⟩:=List.getElem?_eq_some_iff.1 hx
       have hics:i<cs.size:=by
        have:zs.length*1<=L.size:=by simpa using q5
        omega
       refine ⟨.int .i64 x,?_,.int _ _⟩;rw [Nat.mul_one,Nat.add_zero];simp only [putCells,Array.getElem?_mapIdx];rw [Array.getElem?_eq_getElem hics];simp only [Option.map_some,Option.some.injEq];rw [if_pos ⟨Nat.zero_le _,by simpa using hi⟩,Nat.sub_zero,getElem!_pos (zKx zs).toArray i (by simpa using hi)];simp [hx']
   ·have hne':L'.blk≠L.blk:=fun e=>hbb (hh.inj b' b L' L hL' hL e)
    have hlt:=hh.lt hL';exact ⟨hsame _ hne' hlt,fun B' hB' hfr o=>hh.closed hL' B' hB' hfr o⟩
 |ownE _ a0 hL=>
  obtain ⟨sz2,fr2,e0⟩:=hh.virt b hL;rw [hb] at e0
  have hzs:zs=[]:=by
   cases zs with
   |nil=>rfl
   |cons z r=>cases e0
  subst hzs
  refine (hnone a0 0 w).mono fun e w' hq=>?_
  obtain ⟨rfl,rfl⟩:=hq;refine ⟨_,M,ι,rfl,.refl _ _,.refl M,ha,.refl _ _,?_,fun _ _=>rfl,.tup [] #[] rfl fun i x v h=>by simp at h⟩
  have:(⟨.tup [],[(b,.row ((zKx []).map enc1) 1 false)],none⟩:Eff).hp hp=hp:=by
   rw [show zKx []=[] by simp [zKx]];show upd hp b (some (.row [] 1 false))=hp
   funext c
   by_cases e:c=b
   ·subst e;rw [upd_same,hb];rfl
   ·rw [zAl _ _ e]
  rw [this];exact hh
 |ownL _ _ hL=>exact absurd ((hh.dom b).2 hL) hne
end Go.Lk

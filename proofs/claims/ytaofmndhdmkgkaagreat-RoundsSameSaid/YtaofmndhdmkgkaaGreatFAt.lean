/-
  What is proved here: what functions of the program compute, and what follows; no condition beyond each theorem's own.
-/
import Derived.Test.YtaofmndhdmkgkaaGreatFAk
import Derived.Test.YtaofmndhdmkgkaaGreatFAs
set_option linter.unusedSimpArgs false
set_option linter.unusedVariables false
set_option linter.unnecessarySimpa false
set_option linter.unusedSectionVars false
namespace Go.Lk
open Go Go.Proofs Go.RowKit
theorem Inv.new {n:Nat} (h1:1<=n) (h8:n<=8) {s:List ByteArray} (hs:Rest s) (hz:s[0]?.getD ByteArray.empty=nul16) {P:Nat->Pg} {v u:Int} (h:OnD s [] P v) (hu:0<=u):Inv ⟨newFS n,⟨s,[]⟩,0⟩ P (fun _=>0) v u:=by
 have hfr:∀ i (hi:i<(newFS n).fr.length),(newFS n).fr[i]=(0,0,false):=fun i hi=>by
  have hi2:i<(List.replicate n ((0,0,false):Fr)).length:=hi;show (List.replicate n ((0,0,false):Fr))[i]'hi2=_;rw [List.getElem_replicate]
 refine ⟨⟨FM.new h1 h8,hs,rfl,hz,by show (0:Int) <=0;decide,by show (0:Int) <=_;decide,fun x hx=>by cases hx⟩,fun q h1 h16=>.inr ⟨fun i hi e=>?_,rfl⟩,fun q i hA=>?_,h,fun q=>hu⟩
 ·rw [hfr i hi] at e;have e:(0:Int)=(q:Int):=e;omega
 ·have e:=hA.fr;rw [hfr i hA.hi] at e;have e:(0:Int)=(q:Int):=e;have:=hA.p1;omega
theorem OnD.new {v:Int} (hv:0<=v):OnD (List.replicate 35 nul16) [] (fun _=>zP) v:=
 ⟨fun q _ h16 _=>by rw [get_new h16,if_pos (show zP.1=0 from rfl)],fun _ _ _=>.inl rfl,fun _=>hv⟩
theorem z_new:(List.replicate 35 nul16)[0]?.getD ByteArray.empty=nul16:=by rw [List.getElem?_replicate,if_pos (by decide)];rfl
def p0 (n:Nat):PS:=⟨newFS n,newDS,0⟩
theorem p0_inv {n:Nat} (h1:1<=n) (h8:n<=8):Inv (p0 n) (fun _=>zP) (fun _=>0) 1 0:=Inv.new h1 h8 new_rest z_new (OnD.new (by decide)) (by decide)
theorem Did.eq {p v u} {P':Nat->Pg} {W':Nat->Int} {x:Pg} {e:Int} {r:R4} (h:Did p v u (P',W',x,e) r):∃ q l,r=(q,x,l,e) /\Inv q P' W' v u/\q.now=p.now/\q.f.fr.length=p.f.fr.length/\runL p.d l=q.d/\l.length<=170/\ (e≠0->l=[]):=by
 obtain ⟨q,y,l,f⟩:=r;have h1:=h.told;have h2:=h.err;simp only at h1 h2;subst h1 h2;exact ⟨q,l,rfl,h.inv,h.now,h.len,h.run,h.few,h.none⟩
theorem wrS_sz {n:Nat}:∀ (l:List Wt) (s:List ByteArray),(∀ i,(h:i<s.length)->s[i].size=16)->(∀ w∈l,w.2.size=16)->∀ i,(h:i<(wrS s l).length)->(wrS s l)[i].size=16
 | [],s,hs,_=>hs
 |w::r,s,hs,hw=>wrS_sz (n:=n) r (s.set w.1.toNat w.2) (fun i h=>by
   rw [List.getElem_set]
   split
   ·exact hw w (.head _)
   ·exact hs i (by rw [List.length_set] at h;exact h)) fun x hx=>hw x (.tail _ hx)
theorem DR.sync {d:DS} (h:DR d):DR ⟨wrS d.sec d.ca,[]⟩:=by
 refine ⟨by show 1<= (wrS d.sec d.ca).length;rw [wrS_len];exact h.s1,by show (wrS d.sec d.ca).length<=64;rw [wrS_len];exact h.s2,Nat.zero_le _,wrS_sz (n:=0) _ _ h.s fun w hw=>?_,fun i hi=>absurd hi (Nat.not_lt_zero _)⟩;obtain ⟨i,hi,rfl⟩:=List.mem_iff_getElem.1 hw;exact (okW_out.1 (h.c i hi)).2.2
theorem stepJ_dr {d:DS} (h:DR d) (o:Jo):DR (stepJ d o):=by
 rw [stepJ]
 split
 ·rw [syncM,if_pos h];exact h.sync
 ·rw [putM]
  split
  ·rename_i g
   split
   ·exact h
   ·refine ⟨h.s1,h.s2,by show (d.ca++[o.2]).length<=200;rw [List.length_append];show d.ca.length+1<=200;omega,h.s,fun i hi=>?_⟩;show okW d.sec.length (d.ca++[o.2])[i]=true
    by_cases e:i<d.ca.length
    ·rw [List.getElem_append_left e];exact h.c i e
    ·have hi2:i<(d.ca++[o.2]).length:=hi;rw [List.length_append] at hi2
     have:i=d.ca.length:=by simp at hi2;omega
     subst this;simp [g.2]
  ·exact h
theorem stepJ_len (d:DS) (o:Jo):(stepJ d o).sec.length=d.sec.length:=by
 rw [stepJ]
 split
 ·rw [syncM];split
  ·exact wrS_len ..
  ·rfl
 ·rw [putM];split
  ·split<;>rfl
  ·rfl
theorem stepJ_us {d:DS} (h:Us d) (o:Jo):Us (stepJ d o):=⟨stepJ_dr h.dr o,by rw [stepJ_len];exact h.n⟩
theorem foldJ_us:∀ (l:List Jo) {d:DS},Us d->Us (l.foldl stepJ d)
 | [],_,h=>h
 |o::r,_,h=>foldJ_us r (stepJ_us h o)
theorem runM_us {d:DS} (h:Us d) (l:List Jo) (n:Int):Us (runM d l n):=foldJ_us _ h
theorem commit_us {d:DS} (h:Us d) (p:Int) (s:ByteArray):Us (commitM d p s).1:=by
 rw [commitM];split
 ·exact runM_us h _ _
 ·exact h
theorem setS_us {d:DS} (h:Us d) (x:Pg):Us (setS d x).1:=by
 rw [setS];split
 ·exact commit_us h _ _
 ·exact h
theorem pins_ex {f:FX} (h:FM f):∃ w,PinsL f.fr w:=by
 refine ⟨fun q=>if e:∃ i,∃ hi:i<f.fr.length,f.fr[i].1=(q:Int) then (f.fr[e.choose]'e.choose_spec.choose).2.1 else 0,fun q h1 h16=>?_⟩
 by_cases e:∃ i,∃ hi:i<f.fr.length,f.fr[i].1=(q:Int)
 ·left
  refine ⟨e.choose,e.choose_spec.choose,e.choose_spec.choose_spec,?_⟩;simp only [dif_pos e]
 ·right
  refine ⟨fun i hi g=>e ⟨i,hi,g⟩,?_⟩;simp only [dif_neg e]
theorem pin_fm {f:FX} (h:FM f) (id:Int):FM (pinS f id).1:=by
 obtain ⟨w,hw⟩:=pins_ex h;exact (Kept.pin (a:=⟨1,id,0,ByteArray.empty,zP⟩) h hw rfl).fm
theorem unpin_fm {f:FX} (h:FM f) (id:Int):FM (unpinS f id).1:=by
 obtain ⟨w,hw⟩:=pins_ex h;exact (Kept.unpin (a:=⟨2,id,0,ByteArray.empty,zP⟩) h hw rfl).fm
theorem write_fm {f:FX} (h:FM f) (id:Int) (b:ByteArray) (n:Int):FM (writeS f id b n).1:=by
 obtain ⟨w,hw⟩:=pins_ex h;exact (Kept.write (a:=⟨3,id,n,b,zP⟩) h hw rfl).fm
theorem drop_fm {f:FX} (h:FM f) (id:Int):FM (dropS f id).1:=by
 obtain ⟨w,hw⟩:=pins_ex h;exact (Kept.drop (a:=⟨5,id,0,ByteArray.empty,zP⟩) h hw rfl).fm
theorem load_fm {f:FX} (h:FM f) (x:Pg) (n:Int) (fresh:Bool):FM (loadS f x n fresh).1:=by
 obtain ⟨w,hw⟩:=pins_ex h;exact (Kept.load (a:=⟨6,0,n,ByteArray.empty,x⟩) fresh h hw rfl).fm
structure Gd (m:Int) (p:PS):Prop where
 fm:FM p.f
 us:Us p.d
 now:p.now=m
theorem Gd.wb {m p} (h:Gd m p) (id:Int):Gd m (wbM p id).1:=by
 refine ⟨wb_fm h.fm id,?_,?_⟩
 ·rw [wbM]
  repeat' split
  all_goals first|exact h.us|exact setS_us h.us _
 ·rw [wbM]
  repeat' split
  all_goals exact h.now
theorem Gd.room {m p} (h:Gd m p):Gd m ⟨(roomS p.f).1,p.d,p.now⟩:=⟨room_fm h.fm,h.us,h.now⟩
theorem Gd.mr {m}:∀ (n:Nat) (p:PS) (l:List Jo),Gd m p->Gd m (mrM n p l).1/\ (mrM n p l).2.1.length<=l.length+10*n
 |0,p,l,h=>⟨h,by show l.length<=_;omega⟩
 |n+1,p,l,h=>by
  rw [mrM]
  split
  ·exact ⟨h,by show l.length<=_;omega⟩
  split
  ·exact ⟨h.room,by show l.length<=_;omega⟩
  split
  ·exact ⟨h.room,by show l.length<=_;omega⟩
  ·have ih:=Gd.mr n _ (l++(wbM ⟨(roomS p.f).1,p.d,p.now⟩ (roomS p.f).2.1.1).2.1) (h.room.wb (roomS p.f).2.1.1);refine ⟨ih.1,?_⟩;have h2:=ih.2;have h3:=wb_len ⟨(roomS p.f).1,p.d,p.now⟩ (roomS p.f).2.1.1;rw [List.length_append] at h2;omega
theorem Gd.make {m p} (h:Gd m p):Gd m (makeM p).1/\ (makeM p).2.1.length<=170:=by
 have:=Gd.mr 17 p [] h;exact ⟨this.1,by have h2:=this.2;show (mrM 17 p []).2.1.length<=170;simpa using h2⟩
def GdR (m:Int) (r:R4):Prop:=Gd m r.1/\r.2.2.1.length<=170
theorem Gd.same {m p} (h:Gd m p) (x:Pg) (e:Int):GdR m (p,x,[],e):=⟨h,Nat.zero_le _⟩
theorem Gd.load {m p} (h:Gd m p) (x:Pg) (fresh:Bool):GdR m (poolLoad p x fresh):=by
 obtain ⟨h1,h2⟩:=h.make;rw [poolLoad]
 split
 ·exact h1.same _ _
 split
 ·exact h1.same _ _
 ·exact ⟨⟨load_fm h1.fm _ _ _,h1.us,h1.now⟩,h2⟩
theorem Gd.fetch {m p} (h:Gd m p) (id:Int):GdR m (poolFetch p id):=by
 rw [poolFetch]
 split
 ·split
  ·exact h.same _ _
  ·exact Gd.same (p:=⟨(pinS p.f id).1,p.d,p.now⟩) ⟨pin_fm h.fm _,h.us,h.now⟩ _ _
 split
 ·exact h.same _ _
 ·exact h.load _ _
theorem Gd.create {m p} (h:Gd m p) (id:Int):GdR m (poolCreate p id):=by
 rw [poolCreate]
 split
 ·exact h.same _ _
 split
 ·exact h.load _ _
 split<;>exact h.same _ _
theorem Gd.tail {m p q} (h:Gd m p) (hq:Gd m q) (id:Int):GdR m (delTail p q id):=by
 rw [delTail]
 split
 ·exact hq.same _ _
 split
 ·exact h.same _ _
 ·exact ⟨⟨hq.fm,commit_us h.us _ _,hq.now⟩,by
   show (stepsS p.d (id,0,ByteArray.empty)).length<=170;have:=stepsS_len p.d (id,0,ByteArray.empty)
   omega⟩
theorem Gd.remove {m p} (h:Gd m p) (id:Int):GdR m (poolRemove p id):=by
 rw [poolRemove]
 split
 ·split
  ·exact h.same _ _
  split
  ·exact h.same _ _
  ·exact h.tail (q:=⟨(dropS p.f id).1,p.d,p.now⟩) ⟨drop_fm h.fm _,h.us,h.now⟩ _
 split
 ·exact h.same _ _
 ·exact h.tail h _
theorem Gd.flush {m p} (h:Gd m p) (id:Int):GdR m (poolFlush p id):=by
 rw [poolFlush]
 split
 ·split<;>exact h.same _ _
 split
 ·exact h.same _ _
 split
 ·exact h.same _ _
 ·exact ⟨h.wb id,Nat.le_trans (wb_len p id) (by decide)⟩
theorem Gd.ageL {m p} (h:Gd m p):∀ (ids:List Int) {q:PS} (l:List Jo),Gd m q->Gd m (ageL p ids q l).1/\ (ageL p ids q l).2.2.1.length<=l.length+10*ids.length
 | [],q,l,hq=>⟨hq,by show l.length<=_;omega⟩
 |id::r,q,l,hq=>by
  rw [Lk.ageL]
  split
  ·exact ⟨h,Nat.zero_le _⟩
  ·have ih:=Gd.ageL h r (l++(wbM q id).2.1) (hq.wb id);refine ⟨ih.1,?_⟩;have h2:=ih.2;have h3:=wb_len q id;rw [List.length_append] at h2;show _<=l.length+10*(r.length+1);omega
theorem Gd.age {m p} (h:Gd m p) (n:Int):GdR m (poolAge p n):=by
 have h1:=h.ageL (Dt.dueG p.f.dt p.now n) [] h;have h2:=due_len (now:=p.now) (age:=n) h.fm.dt;refine ⟨h1.1,?_⟩;have h3:=h1.2;rw [poolAge];simp only [List.length_nil] at h3;omega
theorem Gd.pinned {m p} (h:Gd m p) (a:PAct):Gd m (pinnedM p a).1:=by
 rw [pinnedM]
 split
 ·exact h
 split
 ·split
  ·exact h
  ·exact ⟨write_fm h.fm _ _ _,h.us,h.now⟩
 split
 ·split
  ·exact h
  ·exact ⟨unpin_fm h.fm _,h.us,h.now⟩
 ·exact h
theorem Gd.act {m p} (h:Gd m p) (a:PAct):GdR m (poolDo p a):=by
 rw [poolDo]
 repeat' split
 ·exact h.same _ _
 ·exact h.same _ _
 ·exact h.fetch _
 ·exact h.create _
 ·exact h.remove _
 ·exact h.flush _
 ·exact h.age _
 ·exact ⟨h.pinned a,Nat.zero_le _⟩
end Go.Lk
namespace Go.Lk
theorem pin_len (f:FX) (id:Int):(pinS f id).1.fr.length=f.fr.length:=by
 rw [pinS];repeat' split
 all_goals first|rfl|simp [withF]
theorem unpin_len (f:FX) (id:Int):(unpinS f id).1.fr.length=f.fr.length:=by
 rw [unpinS];repeat' split
 all_goals first|rfl|simp [withF]
theorem write_len (f:FX) (id:Int) (b:ByteArray) (n:Int):(writeS f id b n).1.fr.length=f.fr.length:=by
 rw [writeS];repeat' split
 all_goals rfl
theorem clean_len (f:FX) (id:Int):(cleanF f id).1.fr.length=f.fr.length:=by
 rw [cleanF];repeat' split
 all_goals rfl
theorem drop_len (f:FX) (id:Int):(dropS f id).1.fr.length=f.fr.length:=by
 rw [dropS];repeat' split
 all_goals first|rfl|simp [relS]
theorem load_len (f:FX) (x:Pg) (n:Int) (b:Bool):(loadS f x n b).1.fr.length=f.fr.length:=by
 rw [loadS];repeat' split
 all_goals first|rfl|simp [inS]
theorem room_len {f:FX} (h:FM f):(roomS f).1.fr.length=f.fr.length:=by
 rcases room_cases h with ⟨i,hi,_,e⟩|⟨_,_,e⟩|⟨_,l,a,p,hA,hs,hA2,_,e⟩
 ·rw [e]
 ·rw [e]
 ·have hl:l.length=f.fr.length:=by obtain ⟨o1,_⟩:=hs.out;exact o1
  rw [e]
  split
  ·exact hl
  ·show (l.set _ _).length=_;rw [List.length_set];exact hl
theorem wb_length (p:PS) (id:Int):(wbM p id).1.f.fr.length=p.f.fr.length:=by
 rw [wbM];repeat' split
 all_goals first|rfl|exact clean_len _ _
theorem mr_len {t:Int}:∀ (n:Nat) (p:PS) (l:List Jo),Gd t p->(mrM n p l).1.f.fr.length=p.f.fr.length
 |0,p,l,_=>rfl
 |n+1,p,l,h=>by
  have hr:(roomS p.f).1.fr.length=p.f.fr.length:=room_len h.fm;rw [mrM]
  split
  ·rfl
  split
  ·exact hr
  split
  ·exact hr
  ·rw [mr_len n _ _ (h.room.wb _),wb_length];exact hr
theorem make_len {t:Int} {p:PS} (h:Gd t p):(makeM p).1.f.fr.length=p.f.fr.length:=mr_len 17 p [] h
theorem pload_len {t:Int} {p:PS} (h:Gd t p) (x:Pg) (b:Bool):(poolLoad p x b).1.f.fr.length=p.f.fr.length:=by
 rw [poolLoad];repeat' split
 ·exact make_len h
 ·exact make_len h
 ·exact (load_len _ _ _ _).trans (make_len h)
theorem ageL_len {t:Int} {p:PS} (hp:Gd t p):∀ (ids:List Int) (q:PS) (l:List Jo),q.f.fr.length=p.f.fr.length->(ageL p ids q l).1.f.fr.length=p.f.fr.length
 | [],q,l,h=>h
 |id::r,q,l,h=>by
  rw [ageL]
  split
  ·rfl
  ·exact ageL_len hp r _ _ ((wb_length q id).trans h)
theorem tail_len (p q:PS) (id:Int) (h:q.f.fr.length=p.f.fr.length):(delTail p q id).1.f.fr.length=p.f.fr.length:=by
 rw [delTail];repeat' split
 all_goals first|rfl|exact h
theorem do_len {t:Int} {p:PS} (h:Gd t p) (a:PAct):(poolDo p a).1.f.fr.length=p.f.fr.length:=by
 rw [poolDo];repeat' split
 ·rfl
 ·rfl
 ·rw [poolFetch];repeat' split
  all_goals first|rfl|exact pin_len _ _|exact pload_len h _ _
 ·rw [poolCreate];repeat' split
  all_goals first|rfl|exact pload_len h _ _
 ·rw [poolRemove];repeat' split
  all_goals first|rfl|exact tail_len _ _ _ (drop_len _ _)|exact tail_len _ _ _ rfl
 ·rw [poolFlush];repeat' split
  all_goals first|rfl|exact wb_length _ _
 ·exact ageL_len h _ _ _ rfl
 ·show (pinnedM p a).1.f.fr.length=_
  rw [pinnedM];repeat' split
  all_goals first|rfl|exact write_len _ _ _ _|exact unpin_len _ _
theorem Gd.do {t:Int} {p:PS} (h:Gd t p) (a:PAct):Gd t (poolDo p a).1:=(h.act a).1
end Go.Lk
namespace Go.Lk
open Go Go.Proofs Go.RowKit
theorem open_rest {s:List ByteArray} (hs:Rest s) (hz:s[0]?.getD ByteArray.empty=nul16) {n:Int} (h1:1<=n) (h8:n<=8):openM ⟨s,[]⟩ n=(⟨newFS n.toNat,⟨s,[]⟩,0⟩,0):=by
 rw [openM,if_neg,if_neg (by omega),rec_rest hs hz];rintro (g|g)
 ·refine g ?_;rw [getJ,if_pos ⟨hs.us,by decide,by decide⟩]
 ·exact absurd g (show ¬0<([]:List Wt).length by decide)
theorem at_ok (n:Int) (s:ByteArray):ACall Tryz.prog 158 [.int .i64 n,.str s] (.agg (encJ (wJ n s))):=by
 refine acall_of Tryz.func158 2 rfl (by kernel_rfl) (aW ?_);exact ret_of rfl rfl
theorem filled_ok (s:ByteArray) (hs:s.size<=16):ACall Tryz.prog 159 [.str s] (.str (s++nulB (16-s.size))):=by
 refine acall_of Tryz.func159 1 rfl (by kernel_rfl) (w0 ?_);refine aloop (ι:=Nat) (fun k=>[(0,.d (.str (s++nulB k)))]) (fun _=>[])
  (fun k=>s.size+k<=16) (fun k=>16-k) 0 (by omega) (le0 (le_of_cov ⟨?_,trivial⟩ trivial ⟨rfl,rfl,rfl,rfl⟩)) ?_
 ·show AV.d (.str s)=_;rw [nul_0]
  congr 2
  apply bl_ext;rw [bl_app];exact (List.append_nil _).symm
 intro k hk
 have hsz:(s++nulB k).size=s.size+k:=by rw [ByteArray.size_append,nulB_size]
 conv=>whnf
 refine bcase_p (fun h5=>?_) (fun h5=>?_)<;>conv=>whnf
 ·have hk2:s.size+k<16:=by omega
  refine aA ?_;refine condK_of (by rw [hsz,bstr_size];simp;omega) (aW ?_)
  have e:s++nulB k++bstr [0]=s++nulB (k+1):=by
   rw [<-nul_snoc];apply bl_ext;simp only [bl_app,List.append_assoc]
  rw [e];exact ⟨k+1,by omega,by omega,(le0 (le_of_cov ⟨rfl,trivial⟩ trivial ⟨rfl,rfl,rfl,rfl⟩))⟩
 ·refine aA ?_
  have ek:k=16-s.size:=by omega
  subst ek;exact ret_of rfl rfl
theorem rnoughts_ok:ACall Tryz.prog 94 [] (.str (nulB 32)):=by
 refine acall_of Tryz.func94 0 rfl (by kernel_rfl) (aW ?_);refine aloop (ι:=Nat) (fun k=>[(1,.d (.str (nulB k))),(2,.d (.int .i64 k))]) (fun _=>[])
  (fun k=>k<=32) (fun k=>32-k) 0 (by omega) (le0 (le_of_cov ⟨?_,rfl,trivial⟩ trivial ⟨rfl,rfl,rfl,rfl⟩)) ?_
 ·show AV.d (.str ByteArray.empty)=_;rw [nul_0]
 intro k hk
 conv=>whnf
 refine bcase_p (fun h5=>?_) (fun h5=>?_)<;>conv=>whnf
 ·refine aA ?_;refine condK_of (by rw [nulB_size,bstr_size];simp;omega) (aW ?_);rw [nul_snoc];exact ⟨k+1,by omega,by omega,(le0 (le_of_cov ⟨rfl,rfl,trivial⟩ trivial ⟨rfl,rfl,rfl,rfl⟩))⟩
 ·refine aA ?_
  have ek:k=32:=by omega
  subst ek;exact ret_of rfl rfl
theorem nul_0app (s:ByteArray):ByteArray.empty++s=s:=by
 apply bl_ext;rw [bl_app];rfl
theorem by_eps {α:Type} [Nonempty α] (P:α->Prop) (h:P (Classical.epsilon fun a=>¬P a)) (a:α):P a:=
 Classical.byContradiction fun g=>(Classical.epsilon_spec (p:=fun a=>¬P a) ⟨a,g⟩) h
def PlanSaid (a:Nat×ByteArray):Prop:=a.1<=16->a.2.size=32->OCall Tryz.prog 93 [.int .i64 a.1,.str a.2] ((planJ a.1 a.2).map encJ) 3
noncomputable def zP1:Nat×ByteArray:=Classical.epsilon fun a=>¬PlanSaid a
noncomputable def zp:Nat:=zP1.1
noncomputable def zs:ByteArray:=zP1.2
noncomputable def zx:ByteArray:=zs.extract 0 16
noncomputable def zy:ByteArray:=zs.extract 16 32
noncomputable def zh:ByteArray:=headJ zp
def zn:ByteArray:=nul16
theorem rplan_z (hp:zp<=16) (hs:zs.size=32):OCall Tryz.prog 93 [.int .i64 zp,.str zs] (([wJ 1 zx,wJ 2 zy,syJ]++[wJ 0 zh,syJ]++[wJ (2*(zp:Int)+1) zx,wJ (2*(zp:Int)+1+1) zy,syJ]++[wJ 0 zn,syJ]).map encJ) 3:=by
 refine ocall_of Tryz.func93 2 rfl (by kernel_rfl) (aW ?_);refine sliceK_hi (h:=16) (by omega) (aW ?_);refine sliceK_lo (l:=16) (by omega) (aW ?_);rw [show zs.extract 0 16=zx from rfl,show zs.extract 16 zs.size=zy from by rw [hs];rfl];refine callX_pure (at_ok 1 zx) (aW ?_);refine callX_pure (at_ok 2 zy) (aW ?_);refine wrapK_in (u8in (by omega) (by omega)) (aW ?_);refine callX_pure (filled_ok (bstr [74,(zp:Int)]) (by rw [bstr_size];exact (show 2<=16 by decide))) (aW ?_);rw [show bstr [74,(zp:Int)]++nulB (16-(bstr [74,(zp:Int)]).size)=zh from by rw [bstr_size];rfl];refine callX_pure (at_ok 0 zh) (aW ?_);refine callX_pure (at_ok (2*(zp:Int)+1) zx) (aW ?_);refine callX_pure (at_ok (2*(zp:Int)+1+1) zy) (aW ?_);refine callX_pure (filled_ok ByteArray.empty (by decide)) (aW ?_);rw [show ByteArray.empty++nulB (16-ByteArray.empty.size)=zn from nul_0app _];refine callX_pure (at_ok 0 zn) (aW ?_);exact ⟨4,rfl,.inl ⟨38,rfl,rfl⟩⟩
theorem rplan_ok (p:Nat) (s:ByteArray) (hp:p<=16) (hs:s.size=32):OCall Tryz.prog 93 [.int .i64 p,.str s] ((planJ p s).map encJ) 3:=
 by_eps PlanSaid (fun hp hs=>rplan_z hp hs) (p,s) hp hs
open Classical in
noncomputable def stepsR (d:DS) (x:Pg):List Jo:=
 if ¬(Us d/\1<=x.1/\x.1<=16) then [] else if x.2.1=0/\x.2.2=ByteArray.empty then planJ x.1.toNat (nulB 32) else if pgR x=true then planJ x.1.toNat (putB x) else []
theorem rsteps_ok (d:DS) (x:Pg):ACall Tryz.prog 49 [encDS d,.agg (encP x)] (.lst ((stepsR d x).map encJ)):=by
 refine acall_of Tryz.func49 2 rfl (by kernel_rfl) (aW ?_);refine callX_pure (may_ok d) (aW ?_);rw [stepsR]
 refine bcase_intro (fun h1=>?_) (fun h1=>?_)<;>conv=>whnf
 ·refine aA ?_;rw [if_pos (fun q=>by rw [usB_t.2 q.1] at h1;exact absurd h1 (by decide))];exact ret_of rfl rfl
 have hU:Us d:=usB_t.1 (by simpa using h1);refine aA ?_
 refine bcase_p (fun h2=>?_) (fun h2=>?_)<;>conv=>whnf
 ·refine aA ?_;rw [if_pos (fun q=>by omega)];exact ret_of rfl rfl
 refine aA ?_
 refine bcase_p (fun h3=>?_) (fun h3=>?_)<;>conv=>whnf
 ·refine aA ?_;rw [if_pos (fun q=>by omega)];exact ret_of rfl rfl
 rw [if_neg (fun q=>q ⟨hU,by omega,by omega⟩)];obtain ⟨a,v,b⟩:=x;simp only at h2 h3⊢;obtain ⟨k,rfl⟩:∃ k:Nat,a=k:=⟨a.toNat,by omega⟩;rw [Int.toNat_natCast];refine aA ?_
 refine bcase_p (fun h4=>?_) (fun h4=>?_)<;>conv=>whnf
 ·refine aA ?_
  refine bcase_p (fun h5=>?_) (fun h5=>?_)<;>conv=>whnf
  ·rw [if_pos ⟨h4,h5⟩];refine aA ?_;refine callX_pure rnoughts_ok (aW ?_);refine callX_own (rplan_ok k (nulB 32) (by omega) (nulB_size 32)) (aW ?_);exact ret_of rfl rfl
  rw [if_neg (fun q=>h5 q.2)];refine aA ?_;refine callX_pure (rright02_ok ((k:Int),v,b)) (aW ?_)
  refine bcase_intro (fun h6=>?_) (fun h6=>?_)<;>conv=>whnf
  ·refine aA ?_;rw [if_neg (fun q=>by rw [q] at h6;cases h6)];exact ret_of rfl rfl
  have h6:pgR ((k:Int),v,b)=true:=by simpa using h6
  rw [if_pos h6];refine aA ?_;refine callX_pure (rput_ok _ h6) (aW ?_);refine callX_own (rplan_ok k (putB ((k:Int),v,b)) (by omega) (putB_size (pgR_out.1 h6).2.2.2.2)) (aW ?_);exact ret_of rfl rfl
 rw [if_neg (fun q=>h4 q.1)];refine aA ?_;refine callX_pure (rright02_ok ((k:Int),v,b)) (aW ?_)
 refine bcase_intro (fun h6=>?_) (fun h6=>?_)<;>conv=>whnf
 ·refine aA ?_;rw [if_neg (fun q=>by rw [q] at h6;cases h6)];exact ret_of rfl rfl
 have h6:pgR ((k:Int),v,b)=true:=by simpa using h6
 rw [if_pos h6];refine aA ?_;refine callX_pure (rput_ok _ h6) (aW ?_);refine callX_own (rplan_ok k (putB ((k:Int),v,b)) (by omega) (putB_size (pgR_out.1 h6).2.2.2.2)) (aW ?_);exact ret_of rfl rfl
def pL (P:Nat->Pg):List D:=(List.range 17).flatMap fun q=>encP (P q)
theorem szs:(T 3).size=1/\ (T 57).size=3:=⟨rfl,rfl⟩
theorem step_bad {e:DS} {o:Jo} (h:o.1≠true) (h2:¬(DR e/\okW e.sec.length o.2=true/\e.ca.length<200)):stepJ e o=e:=by
 rw [stepJ,if_neg h,putM]
 split
 ·rename_i g
  have h3:¬e.ca.length<200:=fun q=>h2 ⟨g.1,g.2,q⟩
  rw [if_pos (by omega)]
 ·rfl
set_option maxRecDepth 100000 in
theorem rrun_ok (d:DS) (l:List Jo) (most:Int) (hl:l.length<=1000000):ACall Tryz.prog 50 [encDS d,.lst (l.map encJ),.int .i64 most] (encDS (runM d l most)):=by
 refine acall_of Tryz.func50 3 rfl (by kernel_rfl) (w0 ?_)
 have hm:(l.map encJ).length=l.length:=List.length_map ..
 refine aA ?_;refine aloop (ι:=Nat×DS) (fun k=>[(1,.d (.lst (l.map encJ))),(2,.d (.int .i64 most)),(3,.ptr 3 0 0),(6,.ptr 6 0 0),(7,.d (.int .i64 k.1))])
  (fun k=>[(3,.box [.d (.lst (k.2.sec.map encB)),.d (.lst (k.2.ca.map encW))] false),(6,.box [.nil,.nil] false)])
  (fun k=>k.1<=l.length/\ ((k.1:Int) <=most\/k.1=0) /\k.2=(l.take k.1).foldl stepJ d) (fun k=>l.length-k.1) (0,d) ⟨by omega,.inr rfl,rfl⟩ (le0 (le_of_cov ⟨rfl,rfl,rfl,rfl,rfl,trivial⟩ ⟨rfl,rfl,trivial⟩ ⟨rfl,rfl,rfl,rfl⟩)) ?_
 rintro ⟨k,e⟩ ⟨hk,hc,he⟩;simp only at hk hc he⊢
 have tk:∀ j,most.toNat=j->(l.take j).foldl stepJ d=runM d l most:=fun j h=>by rw [runM,h]
 conv=>whnf
 refine bcase_p (fun h5=>?_) (fun h5=>?_)<;>conv=>whnf
 rotate_left
 ·refine aA ?_
  have:e=runM d l most:=by
   rw [he,runM]
   rcases hc with h|h
   ·rw [List.take_of_length_le (by omega),List.take_of_length_le (by omega)]
   ·have:l=[]:=List.length_eq_zero_iff.1 (by omega);subst this;simp
  rw [<-this];exact ret_of rfl rfl
 have hk2:k<l.length:=by omega
 have en:∀ x,stepJ e l[k]=x->(l.take (k+1)).foldl stepJ d=x:=fun x hx=>by rw [take_snoc hk2,List.foldl_append,<-he];exact hx
 refine bcase_p (fun h6=>?_) (fun h6=>?_)<;>conv=>whnf
 rotate_left
 ·refine aA ?_
  have:e=runM d l most:=by
   rcases hc with h|h
   ·rw [he];exact tk k (by omega)
   ·subst h;rw [he];exact tk 0 (by omega)
  rw [<-this];exact ret_of rfl rfl
 refine aA ?_;refine idxK_nat (by omega) (w0 ?_);refine getRow_of (x:=encJ l[k]) (by simp [hk2]) (aW ?_);refine aA ?_;refine idxK_nat (by omega) (w0 ?_);refine getRow_of (x:=encJ l[k]) (by simp [hk2]) (aW ?_);refine aA ?_
 refine bcase_intro (fun h7=>?_) (fun h7=>?_)<;>conv=>whnf
 ·refine aA ?_;refine callX_pure (rdRight_ok e) (aW ?_)
  refine bcase_intro (fun h8=>?_) (fun h8=>?_)<;>conv=>whnf
  ·have hR:DR e:=drB_t.1 h8;refine aA ?_;refine callX_pure (rsync_ok e hR) (aW ?_)
   have hs:stepJ e l[k]=⟨wrS e.sec e.ca,[]⟩:=by rw [stepJ,if_pos h7,syncM,if_pos hR]
   exact ⟨(k+1,⟨wrS e.sec e.ca,[]⟩),⟨by simp only [];omega,.inl (by simp only [];omega),(en _ hs).symm⟩,by simp only [];omega,(le0 (le_of_cov ⟨rfl,rfl,rfl,rfl,rfl,trivial⟩ ⟨rfl,rfl,trivial⟩ ⟨rfl,rfl,rfl,rfl⟩))⟩
  ·have hR:¬DR e:=drB_f.1 h8;refine aA ?_
   have hs:stepJ e l[k]=e:=by rw [stepJ,if_pos h7,syncM,if_neg hR]
   exact ⟨(k+1,e),⟨by simp only [];omega,.inl (by simp only [];omega),(en _ hs).symm⟩,by simp only [];omega,(le0 (le_of_cov ⟨rfl,rfl,rfl,rfl,rfl,trivial⟩ ⟨rfl,rfl,trivial⟩ ⟨rfl,rfl,rfl,rfl⟩))⟩
 have h7':l[k].1≠true:=by rw [h7];decide
 have bad:¬(DR e/\okW e.sec.length l[k].2=true/\e.ca.length<200)->(l.take (k+1)).foldl stepJ d=e:=fun g=>en e (step_bad h7' g)
 have m1:(e.sec.map encB).length=e.sec.length:=List.length_map ..
 have m2:(e.ca.map encW).length=e.ca.length:=List.length_map ..
 refine aA ?_;refine callX_pure (rdRight_ok e) (aW ?_)
 refine bcase_intro (fun h8=>?_) (fun h8=>?_)<;>conv=>whnf
 rotate_left
 ·refine aA ?_;exact ⟨(k+1,e),⟨by simp only [];omega,.inl (by simp only [];omega),(bad (fun g=>drB_f.1 h8 g.1)).symm⟩,by simp only [];omega,(le0 (le_of_cov ⟨rfl,rfl,rfl,rfl,rfl,trivial⟩ ⟨rfl,rfl,trivial⟩ ⟨rfl,rfl,rfl,rfl⟩))⟩
 have hR:DR e:=drB_t.1 h8;refine aA ?_
 refine bcase_p (fun g1=>?_) (fun g1=>?_)<;>conv=>whnf
 rotate_left
 ·refine aA ?_;exact ⟨(k+1,e),⟨by simp only [];omega,.inl (by simp only [];omega),(bad (fun g=>g1 (okW_out.1 g.2.1).1)).symm⟩,by simp only [];omega,(le0 (le_of_cov ⟨rfl,rfl,rfl,rfl,rfl,trivial⟩ ⟨rfl,rfl,trivial⟩ ⟨rfl,rfl,rfl,rfl⟩))⟩
 refine aA ?_
 refine bcase_p (fun g2=>?_) (fun g2=>?_)<;>conv=>whnf
 rotate_left
 ·refine aA ?_;exact ⟨(k+1,e),⟨by simp only [];omega,.inl (by simp only [];omega),(bad (fun g=>g2 (by rw [m1];exact (okW_out.1 g.2.1).2.1))).symm⟩,by simp only [];omega,(le0 (le_of_cov ⟨rfl,rfl,rfl,rfl,rfl,trivial⟩ ⟨rfl,rfl,trivial⟩ ⟨rfl,rfl,rfl,rfl⟩))⟩
 refine aA ?_
 refine bcase_p (fun g3=>?_) (fun g3=>?_)<;>conv=>whnf
 rotate_left
 ·refine aA ?_;exact ⟨(k+1,e),⟨by simp only [];omega,.inl (by simp only [];omega),(bad (fun g=>g3 (by rw [(okW_out.1 g.2.1).2.2];rfl))).symm⟩,by simp only [];omega,(le0 (le_of_cov ⟨rfl,rfl,rfl,rfl,rfl,trivial⟩ ⟨rfl,rfl,trivial⟩ ⟨rfl,rfl,rfl,rfl⟩))⟩
 refine aA ?_
 refine bcase_p (fun g4=>?_) (fun g4=>?_)<;>conv=>whnf
 rotate_left
 ·refine aA ?_;exact ⟨(k+1,e),⟨by simp only [];omega,.inl (by simp only [];omega),(bad (fun g=>g4 (by rw [m2];omega))).symm⟩,by simp only [];omega,(le0 (le_of_cov ⟨rfl,rfl,rfl,rfl,rfl,trivial⟩ ⟨rfl,rfl,trivial⟩ ⟨rfl,rfl,rfl,rfl⟩))⟩
 have hok:okW e.sec.length l[k].2=true:=okW_out.2 ⟨g1,by rw [<-m1];exact g2,by omega⟩
 have hs:stepJ e l[k]=⟨e.sec,e.ca++[l[k].2]⟩:=by
  rw [stepJ,if_neg h7',putM,if_pos ⟨hR,hok⟩,if_neg (by omega)]
 refine aA ?_;refine condK_of (okRows_map (fun _=>rfl) _) (aW ?_);refine roomK_le 1000 1000 (by simp;omega) (by decide) (by decide) (by decide) (aW ?_);refine roomK_le 1000 1000 (by show (e.ca.map encW).length+1<=1000;omega) (by decide) (by decide) (by decide) (aW ?_)
 exact ⟨(k+1,⟨e.sec,e.ca++[l[k].2]⟩),⟨by simp only [];omega,.inl (by simp only [];omega),(en _ hs).symm⟩,by simp only [];omega,
  len [.frz 65 ((e.ca++[l[k].2]).map encW) 2,.cd 3 1 65 ((e.ca++[l[k].2]).map encW) 2] ⟨⟨false,by rw [List.map_append];rfl⟩,⟨rfl,rfl,rfl⟩,trivial⟩ (le_of_cov ⟨rfl,rfl,rfl,rfl,rfl,trivial⟩ ⟨rfl,rfl,trivial⟩ ⟨rfl,rfl,rfl,rfl⟩)⟩
abbrev Nst:=List ByteArray×(Nat->Pg)
def new0:Nst:=(List.replicate 35 nul16,fun _=>zP)
def encKp (n:Int):List D:=[.int .i64 n]
end Go.Lk

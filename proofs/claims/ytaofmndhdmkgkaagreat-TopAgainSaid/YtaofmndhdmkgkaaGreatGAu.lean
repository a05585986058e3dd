/-
  What is proved here: what functions of the program compute, and what follows; no condition beyond each theorem's own.
-/
import Derived.Test.YtaofmndhdmkgkaaGreatGAt
set_option linter.unusedSimpArgs false
set_option linter.unusedVariables false
set_option linter.unnecessarySimpa false
set_option linter.unusedSectionVars false
namespace Go.Lk
open Go Go.Proofs Go.RowKit
theorem yOz {n:Nat}:∀ (l:List Wt) (s:List ByteArray),(∀ i,(h:i<s.length)->s[i].size=16)->(∀ w∈l,w.2.size=16)->∀ i,(h:i<(wrS s l).length)->(wrS s l)[i].size=16
 | [],s,hs,_=>hs
 |w::r,s,hs,hw=>yOz (n:=n) r (s.set w.1.toNat w.2) (fun i h=>by
   rw [List.getElem_set]
   split
   ·exact hw w (.head _)
   ·exact hs i (by rw [List.length_set] at h;exact h)) fun x hx=>hw x (.tail _ hx)
theorem DR.sync {d:DS} (h:DR d):DR ⟨wrS d.sec d.ca,[]⟩:=by
 refine ⟨by show 1<= (wrS d.sec d.ca).length;rw [zIt];exact h.s1,by show (wrS d.sec d.ca).length<=64;rw [zIt];exact h.s2,Nat.zero_le _,yOz (n:=0) _ _ h.s fun w hw=>?_,fun i hi=>absurd hi (Nat.not_lt_zero _)⟩;obtain ⟨i,hi,rfl⟩:=List.mem_iff_getElem.1 hw;exact (zDo.1 (h.c i hi)).2.2
theorem ySb {d:DS} (h:DR d) (o:Jo):DR (zEh d o):=by
 rw [zEh]
 split
 ·rw [zXp,if_pos h];exact h.sync
 ·rw [putM]
  split
  ·rename_i g
   split
   ·exact h
   ·refine ⟨h.s1,h.s2,by show (d.ca++[o.2]).length<=200;rw [List.length_append];show d.ca.length+1<=200;omega,h.s,fun i hi=>?_⟩;show okW d.sec.length (d.ca++[o.2])[i]=true
    by_cases e:i<d.ca.length
    ·rw [List.getElem_append_left e];exact h.c i e
    ·have hi2:i<(d.ca++[o.2]).length:=hi;rw [List.length_append] at hi2
     have:i=d.ca.length:=by simp at hi2;omega
     subst this;simp [g.2]
  ·exact h
theorem yOj (d:DS) (o:Jo):(zEh d o).sec.length=d.sec.length:=by
 rw [zEh]
 split
 ·rw [zXp];split
  ·exact zIt ..
  ·rfl
 ·rw [putM];split
  ·split<;>rfl
  ·rfl
theorem ySc {d:DS} (h:Us d) (o:Jo):Us (zEh d o):=⟨ySb h.dr o,by rw [yOj];exact h.n⟩
theorem yCu:∀ (l:List Jo) {d:DS},Us d->Us (l.foldl zEh d)
 | [],_,h=>h
 |o::r,_,h=>yCu r (ySc h o)
theorem yNu {d:DS} (h:Us d) (l:List Jo) (n:Int):Us (runM d l n):=yCu _ h
theorem z4p {d:DS} (h:Us d) (p:Int) (s:ByteArray):Us (zEq d p s).1:=by
 rw [zEq];split
 ·exact yNu h _ _
 ·exact h
theorem yYm {d:DS} (h:Us d) (x:Pg):Us (setS d x).1:=by
 rw [setS];split
 ·exact z4p h _ _
 ·exact h
theorem zWq {f:FX} (h:FM f):∃ w,zDj f.fr w:=by
 refine ⟨fun q=>if e:∃ i,∃ hi:i<f.fr.length,f.fr[i].1=(q:Int) then (f.fr[e.choose]'e.choose_spec.choose).2.1 else 0,fun q h1 h16=>?_⟩
 by_cases e:∃ i,∃ hi:i<f.fr.length,f.fr[i].1=(q:Int)
 ·left
  refine ⟨e.choose,e.choose_spec.choose,e.choose_spec.choose_spec,?_⟩;simp only [dif_pos e]
 ·right
  refine ⟨fun i hi g=>e ⟨i,hi,g⟩,?_⟩;simp only [dif_neg e]
theorem pin_fm {f:FX} (h:FM f) (id:Int):FM (pinS f id).1:=by
 obtain ⟨w,hw⟩:=zWq h;exact (Kept.pin (a:=⟨1,id,0,ByteArray.empty,zP⟩) h hw rfl).fm
theorem ySs {f:FX} (h:FM f) (id:Int):FM (zEl f id).1:=by
 obtain ⟨w,hw⟩:=zWq h;exact (Kept.unpin (a:=⟨2,id,0,ByteArray.empty,zP⟩) h hw rfl).fm
theorem yTd {f:FX} (h:FM f) (id:Int) (b:ByteArray) (n:Int):FM (zBs f id b n).1:=by
 obtain ⟨w,hw⟩:=zWq h;exact (Kept.write (a:=⟨3,id,n,b,zP⟩) h hw rfl).fm
theorem yWb {f:FX} (h:FM f) (id:Int):FM (zKd f id).1:=by
 obtain ⟨w,hw⟩:=zWq h;exact (Kept.drop (a:=⟨5,id,0,ByteArray.empty,zP⟩) h hw rfl).fm
theorem yXb {f:FX} (h:FM f) (x:Pg) (n:Int) (fresh:Bool):FM (zGz f x n fresh).1:=by
 obtain ⟨w,hw⟩:=zWq h;exact (Kept.load (a:=⟨6,0,n,ByteArray.empty,x⟩) fresh h hw rfl).fm
structure Gd (m:Int) (p:PS):Prop where
 fm:FM p.f
 us:Us p.d
 now:p.now=m
theorem Gd.wb {m p} (h:Gd m p) (id:Int):Gd m (wbM p id).1:=by
 refine ⟨yZo h.fm id,?_,?_⟩
 ·rw [wbM]
  repeat' split
  all_goals first|exact h.us|exact yYm h.us _
 ·rw [wbM]
  repeat' split
  all_goals exact h.now
theorem Gd.room {m p} (h:Gd m p):Gd m ⟨(zC p.f).1,p.d,p.now⟩:=⟨z2v h.fm,h.us,h.now⟩
theorem Gd.mr {m}:∀ (n:Nat) (p:PS) (l:List Jo),Gd m p->Gd m (mrM n p l).1/\ (mrM n p l).2.1.length<=l.length+10*n
 |0,p,l,h=>⟨h,by show l.length<=_;omega⟩
 |n+1,p,l,h=>by
  rw [mrM]
  split
  ·exact ⟨h,by show l.length<=_;omega⟩
  split
  ·exact ⟨h.room,by show l.length<=_;omega⟩
  split
  ·exact ⟨h.room,by show l.length<=_;omega⟩
  ·have ih:=Gd.mr n _ (l++(wbM ⟨(zC p.f).1,p.d,p.now⟩ (zC p.f).2.1.1).2.1) (h.room.wb (zC p.f).2.1.1);refine ⟨ih.1,?_⟩;have h2:=ih.2;have h3:=yFv ⟨(zC p.f).1,p.d,p.now⟩ (zC p.f).2.1.1;rw [List.length_append] at h2;omega
theorem Gd.make {m p} (h:Gd m p):Gd m (zFq p).1/\ (zFq p).2.1.length<=170:=by
 have:=Gd.mr 17 p [] h;exact ⟨this.1,by have h2:=this.2;show (mrM 17 p []).2.1.length<=170;simpa using h2⟩
def GdR (m:Int) (r:R4):Prop:=Gd m r.1/\r.2.2.1.length<=170
theorem Gd.same {m p} (h:Gd m p) (x:Pg) (e:Int):GdR m (p,x,[],e):=⟨h,Nat.zero_le _⟩
theorem Gd.load {m p} (h:Gd m p) (x:Pg) (fresh:Bool):GdR m (zDl p x fresh):=by
 obtain ⟨h1,h2⟩:=h.make;rw [zDl]
 split
 ·exact h1.same _ _
 split
 ·exact h1.same _ _
 ·exact ⟨⟨yXb h1.fm _ _ _,h1.us,h1.now⟩,h2⟩
theorem Gd.fetch {m p} (h:Gd m p) (id:Int):GdR m (zDm p id):=by
 rw [zDm]
 split
 ·split
  ·exact h.same _ _
  ·exact Gd.same (p:=⟨(pinS p.f id).1,p.d,p.now⟩) ⟨pin_fm h.fm _,h.us,h.now⟩ _ _
 split
 ·exact h.same _ _
 ·exact h.load _ _
theorem Gd.create {m p} (h:Gd m p) (id:Int):GdR m (zBt p id):=by
 rw [zBt]
 split
 ·exact h.same _ _
 split
 ·exact h.load _ _
 split<;>exact h.same _ _
theorem Gd.tail {m p q} (h:Gd m p) (hq:Gd m q) (id:Int):GdR m (zIk p q id):=by
 rw [zIk]
 split
 ·exact hq.same _ _
 split
 ·exact h.same _ _
 ·exact ⟨⟨hq.fm,z4p h.us _ _,hq.now⟩,by
   show (zIe p.d (id,0,ByteArray.empty)).length<=170;have:=zSj p.d (id,0,ByteArray.empty)
   omega⟩
theorem Gd.remove {m p} (h:Gd m p) (id:Int):GdR m (zEb p id):=by
 rw [zEb]
 split
 ·split
  ·exact h.same _ _
  split
  ·exact h.same _ _
  ·exact h.tail (q:=⟨(zKd p.f id).1,p.d,p.now⟩) ⟨yWb h.fm _,h.us,h.now⟩ _
 split
 ·exact h.same _ _
 ·exact h.tail h _
theorem Gd.flush {m p} (h:Gd m p) (id:Int):GdR m (zFh p id):=by
 rw [zFh]
 split
 ·split<;>exact h.same _ _
 split
 ·exact h.same _ _
 split
 ·exact h.same _ _
 ·exact ⟨h.wb id,Nat.le_trans (yFv p id) (by decide)⟩
theorem Gd.ageL {m p} (h:Gd m p):∀ (ids:List Int) {q:PS} (l:List Jo),Gd m q->Gd m (ageL p ids q l).1/\ (ageL p ids q l).2.2.1.length<=l.length+10*ids.length
 | [],q,l,hq=>⟨hq,by show l.length<=_;omega⟩
 |id::r,q,l,hq=>by
  rw [Lk.ageL]
  split
  ·exact ⟨h,Nat.zero_le _⟩
  ·have ih:=Gd.ageL h r (l++(wbM q id).2.1) (hq.wb id);refine ⟨ih.1,?_⟩;have h2:=ih.2;have h3:=yFv q id;rw [List.length_append] at h2;show _<=l.length+10*(r.length+1);omega
theorem Gd.age {m p} (h:Gd m p) (n:Int):GdR m (zIo p n):=by
 have h1:=h.ageL (Dt.dueG p.f.dt p.now n) [] h;have h2:=due_len (now:=p.now) (age:=n) h.fm.dt;refine ⟨h1.1,?_⟩;have h3:=h1.2;rw [zIo];simp only [List.length_nil] at h3;omega
theorem Gd.pinned {m p} (h:Gd m p) (a:PAct):Gd m (zCy p a).1:=by
 rw [zCy]
 split
 ·exact h
 split
 ·split
  ·exact h
  ·exact ⟨yTd h.fm _ _ _,h.us,h.now⟩
 split
 ·split
  ·exact h
  ·exact ⟨ySs h.fm _,h.us,h.now⟩
 ·exact h
theorem Gd.act {m p} (h:Gd m p) (a:PAct):GdR m (zBc p a):=by
 rw [zBc]
 repeat' split
 ·exact h.same _ _
 ·exact h.same _ _
 ·exact h.fetch _
 ·exact h.create _
 ·exact h.remove _
 ·exact h.flush _
 ·exact h.age _
 ·exact ⟨h.pinned a,Nat.zero_le _⟩
theorem FM.fl {f:FX} (h:FM f):1<=f.fr.length/\f.fr.length<=8:=⟨h.ck.one,h.ck.most⟩
end Go.Lk
namespace Go.Lk
theorem yXz (f:FX) (id:Int):(pinS f id).1.fr.length=f.fr.length:=by
 rw [pinS];repeat' split
 all_goals first|rfl|simp [zSm]
theorem yOs (f:FX) (id:Int):(zEl f id).1.fr.length=f.fr.length:=by
 rw [zEl];repeat' split
 all_goals first|rfl|simp [zSm]
theorem yPb (f:FX) (id:Int) (b:ByteArray) (n:Int):(zBs f id b n).1.fr.length=f.fr.length:=by
 rw [zBs];repeat' split
 all_goals rfl
theorem yJo (f:FX) (id:Int):(zFs f id).1.fr.length=f.fr.length:=by
 rw [zFs];repeat' split
 all_goals rfl
theorem yPz (f:FX) (id:Int):(zKd f id).1.fr.length=f.fr.length:=by
 rw [zKd];repeat' split
 all_goals first|rfl|simp [relS]
theorem yQu (f:FX) (x:Pg) (n:Int) (b:Bool):(zGz f x n b).1.fr.length=f.fr.length:=by
 rw [zGz];repeat' split
 all_goals first|rfl|simp [inS]
theorem yRq {f:FX} (h:FM f):(zC f).1.fr.length=f.fr.length:=by
 rcases zEc h with ⟨i,hi,_,e⟩|⟨_,_,e⟩|⟨_,l,a,p,hA,hs,hA2,_,e⟩
 ·rw [e]
 ·rw [e]
 ·have hl:l.length=f.fr.length:=by obtain ⟨o1,_⟩:=hs.out;exact o1
  rw [e]
  split
  ·exact hl
  ·show (l.set _ _).length=_;rw [List.length_set];exact hl
theorem zXs (p:PS) (id:Int):(wbM p id).1.f.fr.length=p.f.fr.length:=by
 rw [wbM];repeat' split
 all_goals first|rfl|exact yJo _ _
theorem yUd {t:Int}:∀ (n:Nat) (p:PS) (l:List Jo),Gd t p->(mrM n p l).1.f.fr.length=p.f.fr.length
 |0,p,l,_=>rfl
 |n+1,p,l,h=>by
  have hr:(zC p.f).1.fr.length=p.f.fr.length:=yRq h.fm;rw [mrM]
  split
  ·rfl
  split
  ·exact hr
  split
  ·exact hr
  ·rw [yUd n _ _ (h.room.wb _),zXs];exact hr
theorem z1q {t:Int} {p:PS} (h:Gd t p):(zFq p).1.f.fr.length=p.f.fr.length:=yUd 17 p [] h
theorem z6u {t:Int} {p:PS} (h:Gd t p) (x:Pg) (b:Bool):(zDl p x b).1.f.fr.length=p.f.fr.length:=by
 rw [zDl];repeat' split
 ·exact z1q h
 ·exact z1q h
 ·exact (yQu _ _ _ _).trans (z1q h)
theorem yBu {t:Int} {p:PS} (hp:Gd t p):∀ (ids:List Int) (q:PS) (l:List Jo),q.f.fr.length=p.f.fr.length->(ageL p ids q l).1.f.fr.length=p.f.fr.length
 | [],q,l,h=>h
 |id::r,q,l,h=>by
  rw [ageL]
  split
  ·rfl
  ·exact yBu hp r _ _ ((zXs q id).trans h)
theorem yFm (p q:PS) (id:Int) (h:q.f.fr.length=p.f.fr.length):(zIk p q id).1.f.fr.length=p.f.fr.length:=by
 rw [zIk];repeat' split
 all_goals first|rfl|exact h
theorem yCi {t:Int} {p:PS} (h:Gd t p) (a:PAct):(zBc p a).1.f.fr.length=p.f.fr.length:=by
 rw [zBc];repeat' split
 ·rfl
 ·rfl
 ·rw [zDm];repeat' split
  all_goals first|rfl|exact yXz _ _|exact z6u h _ _
 ·rw [zBt];repeat' split
  all_goals first|rfl|exact z6u h _ _
 ·rw [zEb];repeat' split
  all_goals first|rfl|exact yFm _ _ _ (yPz _ _)|exact yFm _ _ _ rfl
 ·rw [zFh];repeat' split
  all_goals first|rfl|exact zXs _ _
 ·exact yBu h _ _ _ rfl
 ·show (zCy p a).1.f.fr.length=_
  rw [zCy];repeat' split
  all_goals first|rfl|exact yPb _ _ _ _|exact yOs _ _
theorem Gd.do {t:Int} {p:PS} (h:Gd t p) (a:PAct):Gd t (zBc p a).1:=(h.act a).1
end Go.Lk
namespace Go.Lk
open Go Go.Proofs Go.RowKit
theorem zLx {s:List ByteArray} (hs:Rest s) (hz:s[0]?.getD ByteArray.empty=zDe) {n:Int} (h1:1<=n) (h8:n<=8):zNg ⟨s,[]⟩ n=(⟨zGj n.toNat,⟨s,[]⟩,0⟩,0):=by
 rw [zNg,if_neg,if_neg (by omega),yEp hs hz];rintro (g|g)
 ·refine g ?_;rw [getJ,if_pos ⟨hs.us,by decide,by decide⟩]
 ·exact absurd g (show ¬0<([]:List Wt).length by decide)
end Go.Lk

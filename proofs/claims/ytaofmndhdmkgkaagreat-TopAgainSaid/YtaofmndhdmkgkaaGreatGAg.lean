/-
  What is proved here: what functions of the program compute, and what follows; no condition beyond each theorem's own.
-/
import Derived.Test.YtaofmndhdmkgkaaGreatGAf
import Derived.LoopN
import Derived.Orders
set_option linter.unusedSimpArgs false
set_option linter.unusedVariables false
set_option linter.unnecessarySimpa false
set_option linter.unusedSectionVars false
namespace Go.Lk
open Go Go.RowKit
theorem yAf (M:Mem) (ι:Inj) (v:Value):DenA M ι (zHq v) v:=by
 have one:∀ v:Value,DenA M ι (zHq.one v) v:=by
  intro v;unfold zHq.one
  split
  ·exact .d _ _ (.int _ _)
  ·exact .tt
  ·exact .ff
  ·exact .d _ _ (.str _)
  ·exact .nil _
  ·exact .d _ _ .nilp
  ·exact .dead _
 have cells:∀ l:List Value,(zHq.cells l).length=l.length/\ ∀ (i:Nat) (x:AV) (v:Value),(zHq.cells l)[i]?=some x->l[i]?=some v->DenA M ι x v:=by
  intro l
  induction l with
  |nil=>exact ⟨rfl,fun i x v h=>by simp [zHq.cells] at h⟩
  |cons y r ih=>
   refine ⟨by simp [zHq.cells,ih.1],fun i x v h1 h2=>?_⟩
   cases i with
   |zero=>
    simp only [zHq.cells,List.getElem?_cons_zero,Option.some.injEq] at h1 h2;subst h1 h2;exact one y
   |succ i=>exact ih.2 i x v (by simpa [zHq.cells] using h1) (by simpa using h2)
 unfold zHq
 split
 ·exact .d _ _ (.int _ _)
 ·exact .tt
 ·exact .ff
 ·exact .d _ _ (.str _)
 ·exact .nil _
 ·exact .d _ _ .nilp
 ·rename_i cs
  exact .agg _ _ (by simp [(cells cs.toList).1]) fun i x v h1 h2=>(cells cs.toList).2 i x v h1 (by simpa using h2)
 ·exact .dead _
theorem zVe {M:Mem} {ι:Inj} {tm:Nat->AV} {a:Act} (h:∀ t,DenA M ι (tm t) (a.tmps.getD t undef)) (x:Operand):DenA M ι (evT tm x) (a.eval x):=by
 cases x with
 |tmp t=>exact h t
 |const v=>exact yAf M ι v
 |global g=>exact .dead _
 |func f=>exact .d _ _ (.fn f [] #[] rfl fun i x v h=>by simp at h)
def Keeps (ι0 ι:Inj):Prop:=∀ b,1000000<=b->b<1000004->ι b=ι0 b
def ARel (own:Nat->Prop) (w0:World) (M0:Mem) (ι0:Inj) (N:Nat) (st:zAo) (a:Act) (w:World):Prop:=
 ∃ (M:Mem) (ι:Inj),Sub M0 M/\zBj M w/\zCq own M0 M/\zBu own w0 w/\HRel own M ι st.hp w/\Keeps ι0 ι/\ (∀ t,DenA M ι (st.tm t) (a.tmps.getD t undef)) /\a.tmps.size=N/\a.defers=[]
theorem yYc {a:Act} {t:Tmp} {v:Value} (ht:t<a.tmps.size) (s:Tmp):((a.put (some t) v).tmps.getD s undef)=if s=t then v else a.tmps.getD s undef:=by
 simp only [Act.put,Array.getD_eq_getD_getElem?]
 by_cases h:s=t
 ·subst h
  rw [Array.getElem?_setIfInBounds_self_of_lt ht];simp
 ·rw [Array.getElem?_setIfInBounds_ne (fun e=>h e.symm),if_neg h]
theorem zLu {M M':Mem} {ι ι':Inj} {k:Option Nat} (hs:Sub M M') (hι:∀ b,Kp k b->ι' b=ι b) {tm:Nat->AV} {t:Nat} {v:Value} (h:DenA M ι (tm t) v):DenA M' ι' (zRt k tm t) v:=by
 cases k with
 |none=>
  have:ι'=ι:=funext fun b=>hι b trivial
  subst this;exact h.mono hs
 |some k=>exact ((h.killV k).mono hs).turn (b:=k) (fun b' hb=>hι b' hb) (zRu k (tm t))
theorem yTf {kl:Option Nat} {b:Nat} (hk:∀ k,kl=some k->¬(1000000<=k/\k<1000004)) (h0:1000000<=b) (h1:b<1000004):Kp kl b:=by
 cases kl with
 |none=>trivial
 |some k=>
  have hk:=hk k rfl;show Fm k b=false;unfold Fm
  cases hb:Nat.ble 2000000 k&&Nat.beq (k%8) 0 with
  |true=>
   have:=Nat.le_of_ble_eq_true (Bool.and_eq_true_iff.1 hb).1
   cases hc:Nat.beq (b/8) (k/8) with
   |false=>rfl
   |true=>have:=Nat.eq_of_beq_eq_true hc;omega
  |false=>
   cases hc:Nat.beq b k with
   |false=>rfl
   |true=>have:=Nat.eq_of_beq_eq_true hc;omega
def z7s (N:Nat) (o:Oper):Prop:=∀ d,o.dst=some d->d<N
section
variable {own:Nat->Prop} {w0:World} {M0:Mem} {ι0:Inj} {N:Nat}
theorem z2m (a:Act) (d:Option Tmp) (v:Value):(a.put d v).tmps.size=a.tmps.size:=by
 cases d<;>simp [Act.put]
theorem put_def (a:Act) (d:Option Tmp) (v:Value):(a.put d v).defers=a.defers:=by
 cases d<;>rfl
theorem put_den {M:Mem} {ι:Inj} {tm:Nat->AV} {a:Act} {av:AV} {v:Value} {dst:Option Tmp} (hd:∀ d,dst=some d->d<a.tmps.size) (hv:DenA M ι av v) (h:∀ t,DenA M ι (tm t) (a.tmps.getD t undef)) (t:Tmp):
  DenA M ι (putT tm dst av t) ((a.put dst v).tmps.getD t undef):=by
 cases dst with
 |none=>exact h t
 |some d=>
  rw [yYc (hd d rfl)];simp only [putT]
  by_cases e:t=d
  ·subst e;rw [upd_same,if_pos rfl];exact hv
  ·rw [zAl _ _ e,if_neg e];exact h t
theorem yFg {M:Mem} {ι:Inj} {tm:Nat->AV} {hp:Nat->Option Blk} {a:Act} {w w':World} {e:Eff} {v:Value} {dst:Option Tmp} (hown:∀ c,w0.heap.size<=c->own c) (h1:Sub M0 M) (h3:zCq own M0 M) (h4:zBu own w0 w) (h6:Keeps ι0 ι) (h7:∀ t,DenA M ι (tm t) (a.tmps.getD t undef)) (h8:a.tmps.size=N) (h9:a.defers=[])
  (hp1:Post own M ι hp w e v w') (hd:∀ d,dst=some d->d<N) (hk:∀ k,e.kl=some k->¬(1000000<=k/\k<1000004)):
  ARel own w0 M0 ι0 N ⟨putT (zRt e.kl tm) dst e.av,e.hp hp⟩ (a.put dst v) w':=by
 obtain ⟨M',ι',f1,s1,a1,n1,g1,k1,d1⟩:=hp1;refine ⟨M',ι',h1.trans s1,a1,h3.trans n1,h4.trans f1,g1,fun b hb hb'=>?_,put_den (by rw [h8];exact hd) d1 fun t=>zLu s1 k1 (h7 t),by rw [z2m,h8],by rw [put_def,h9]⟩;rw [k1 b (yTf hk hb hb')];exact h6 b hb hb'
theorem yEw {tm:Nat->AV} {hp:Nat->Option Blk} {a:Act} {w:World} {dst:Option Tmp} (h:ARel own w0 M0 ι0 N ⟨tm,hp⟩ a w) (hd:∀ d,dst=some d->d<N):
  ARel own w0 M0 ι0 N ⟨putT tm dst (.tup []),hp⟩ (a.put dst undef) w:=by
 obtain ⟨M,ι,h1,h2,h3,h4,h5,h6,h7,h8,h9⟩:=h;exact ⟨M,ι,h1,h2,h3,h4,h5,h6,put_den (by rw [h8];exact hd) (.tup [] #[] rfl fun i x v h=>by simp at h) h7,by rw [z2m,h8],by rw [put_def,h9]⟩
theorem DenA.fewer {M:Mem} {ι ι':Inj} (hι:∀ b,ι' b=none\/ι' b=ι b) {x:AV} {v:Value} (h:DenA M ι x v):DenA M ι' x v:=by
 induction h with
 |d x v hx=>exact .d x v hx
 |tt=>exact .tt
 |ff=>exact .ff
 |agg c vs hl _ ih=>exact .agg c vs hl ih
 |tup c vs hl _ ih=>exact .tup c vs hl ih
 |own b L cap hL hn hc=>
  rcases hι b with e|e
  ·exact .ownL _ _ e
  ·exact .own b L cap (e.trans hL) hn hc
 |ownE b a hL=>
  rcases hι b with e|e
  ·exact .ownL _ _ e
  ·exact .ownE b a (e.trans hL)
 |ownL b v hL=>
  rcases hι b with e|e
  ·exact .ownL _ _ e
  ·exact .ownL b v (e.trans hL)
 |ptr b i j L hL=>
  rcases hι b with e|e
  ·exact .ptrL _ _ _ _ e
  ·exact .ptr b i j L (e.trans hL)
 |ptrL b i j v hL=>
  rcases hι b with e|e
  ·exact .ptrL _ _ _ _ e
  ·exact .ptrL b i j v (e.trans hL)
 |win b lo n c L k base hL q1 q2 q3 q4=>
  rcases hι b with e|e
  ·exact .winL _ _ _ _ _ e
  ·exact .win b lo n c L k base (e.trans hL) q1 q2 q3 q4
 |winL b lo n c v hL=>
  rcases hι b with e|e
  ·exact .winL _ _ _ _ _ e
  ·exact .winL b lo n c v (e.trans hL)
 |nil a=>exact .nil a
 |fn f cap vs hl _ ih=>exact .fn f cap vs hl ih
 |dead v=>exact .dead v
theorem HRel.fewer {M:Mem} {ι ι':Inj} {hp hp':Nat->Option Blk} {w:World} (h:HRel own M ι hp w) (hb:∀ b,(hp' b=none/\ι' b=none) \/ (hp' b=hp b/\ι' b=ι b)):HRel own M ι' hp' w:=by
 have hι:∀ b,ι' b=none\/ι' b=ι b:=fun b=>(hb b).elim (fun e=>.inl e.2) (fun e=>.inr e.2)
 have up:∀ b L,ι' b=some L->ι b=some L/\hp' b=hp b:=fun b L e=>by
  rcases hb b with ⟨_,e2⟩|⟨e1,e2⟩
  ·rw [e2] at e;cases e
  ·exact ⟨e2▸e,e1⟩
 refine ⟨fun b=>?_,fun b hv=>?_,fun b B L hB hL=>?_,fun b b' L L' h1 h2 he=>h.inj b b' L L' (up b _ h1).1 (up b' _ h2).1 he⟩
 ·rcases hb b with ⟨e1,e2⟩|⟨e1,e2⟩
  ·simp [e1,e2]
  ·rw [e1,e2];exact h.dom b
 ·obtain ⟨e1,e2⟩:=up b _ hv
  rw [e2];exact h.virt b e1
 ·obtain ⟨e1,e2⟩:=up b _ hL;rw [e2] at hB;obtain ⟨g1,cs,Ty,g2,g3,g4⟩:=h.at_ b B L hB e1;refine ⟨g1,cs,Ty,g2,g3,?_⟩
  cases B with
  |row l sz fr=>exact g4
  |box c fr=>exact ⟨g4.1,g4.2.1,⟨g4.2.2.1.size,fun j x hx=>let ⟨v,y1,y2⟩:=g4.2.2.1.den j x hx;⟨v,y1,y2.fewer hι⟩⟩,g4.2.2.2⟩
open Classical in
theorem ARel.le {s st:zAo} {a:Act} {w:World} (h:ARel own w0 M0 ι0 N st a w) (hl:Le s st):ARel own w0 M0 ι0 N s a w:=by
 obtain ⟨M,ι,h1,h2,h3,h4,h5,h6,h7,h8,h9⟩:=h;obtain ⟨l1,l2,l3⟩:=hl
 let ι':Inj:=fun b=>if s.hp b=none then none else ι b
 have hι:∀ b,ι' b=none\/ι' b=ι b:=fun b=>by
  by_cases e:s.hp b=none
  ·exact .inl (if_pos e)
  ·exact .inr (if_neg e)
 have hb:∀ b,(s.hp b=none/\ι' b=none) \/ (s.hp b=st.hp b/\ι' b=ι b):=fun b=>by
  by_cases e:s.hp b=none
  ·exact .inl ⟨e,if_pos e⟩
  ·exact .inr ⟨(l2 b).resolve_left e,if_neg e⟩
 refine ⟨M,ι',h1,h2,h3,h4,h5.fewer hb,fun b hb1 hb2=>?_,fun t=>?_,h8,h9⟩
 ·rw [<-h6 b hb1 hb2]
  have e:s.hp b=st.hp b:=by
   obtain ⟨a1,a2,a3,a4⟩:=l3
   have:b=1000000\/b=1000001\/b=1000002\/b=1000003:=by omega
   rcases this with rfl|rfl|rfl|rfl
   ·exact a1
   ·exact a2
   ·exact a3
   ·exact a4
  by_cases hn:s.hp b=none
  ·rw [show ι' b=none from if_pos hn];exact ((h5.dom b).1 (e▸hn)).symm
  ·exact if_neg hn
 ·rcases l1 t with e|e
  ·rw [e];exact .dead _
  ·rw [e];exact (h7 t).fewer hι
theorem ARel.nil1 {k:NilK} {st:zAo} {a:Act} {w:World} (h:ARel own w0 M0 ι0 N st a w) (hk:z6f k st):ARel own w0 M0 ι0 N (Lk.nil1 k st) a w:=by
 obtain ⟨M,ι,h1,h2,h3,h4,h5,h6,h7,h8,h9⟩:=h
 cases k with
 |row t b sz=>
  obtain ⟨e1,e2⟩:=hk;refine ⟨M,upd ι b (some none),h1,h2,h3,h4,h5.virtual b sz false,fun c hc hc'=>?_,fun s=>?_,h8,h9⟩
  ·rw [zAl _ _ (fun e=>?_)]
   ·exact h6 c hc hc'
   ·subst e;rw [Nat.ble_eq_true_of_le hc,Nat.ble_eq_true_of_le (show c<=1000003 by omega)] at e2
    cases e2
  ·by_cases e:s=t
   ·subst e;show DenA M _ (upd (zRt (some b) st.tm) s (.own b) s) _;rw [upd_same];have:=h7 s;rw [e1] at this;generalize a.tmps.getD s undef=u at this⊢
    cases this with
    |nil a0=>exact .ownE b a0 (upd_same _ _ _)
   ·show DenA M _ (upd (zRt (some b) st.tm) t (.own b) s) _;rw [zAl _ _ e];exact zLu (.refl M) (fun c hc=>zAl _ _ (zTg hc)) (h7 s)
 |lst t=>
  refine ⟨M,ι,h1,h2,h3,h4,h5,h6,fun s=>?_,h8,h9⟩
  by_cases e:s=t
  ·subst e;show DenA M _ (upd st.tm s (.d (.lst [])) s) _;rw [upd_same];have:=h7 s;rw [show st.tm s=.nil from hk] at this;generalize a.tmps.getD s undef=u at this⊢
   cases this with
   |nil a0=>exact .d _ _ (.emp a0 0)
  ·show DenA M _ (upd st.tm t (.d (.lst [])) s) _;rw [zAl _ _ e];exact h7 s
 |cell bx j b sz=>
  obtain ⟨e1,e2,e3⟩:=hk
  have hne:bx≠b:=fun e=>by subst e;simp at e2
  have hv:=h5.virtual b sz false
  have hk6:∀ c,1000000<=c->c<1000004->upd ι b (some none) c=ι0 c:=fun c hc hc'=>by
   rw [zAl _ _ (fun e=>?_)]
   ·exact h6 c hc hc'
   ·subst e;rw [Nat.ble_eq_true_of_le hc,Nat.ble_eq_true_of_le (show c<=1000003 by omega)] at e3
    cases e3
  unfold Lk.nil1
  split at e1
  ·rename_i c fr hb;obtain ⟨e4,rfl⟩:=e1;simp only [hb]
   have hb':upd (zD (some b) st.hp) b (some (.row [] sz false)) bx=some (.box (zBl.cells b c) false):=by
    rw [zAl _ _ hne]
    simp only [zD,hb];rfl
   refine ⟨M,upd ι b (some none),h1,h2,h3,h4,?_,hk6,fun s=>zLu (.refl M) (fun c hc=>zAl _ _ (zTg hc)) (h7 s),h8,h9⟩;refine hv.set bx _ (by rw [hb'];simp) (.refl M) (fun e=>?_) (fun L hL=>?_) (fun b' L' hbb hL'=>⟨rfl,fun B' hB' hfr o=>hv.closed hL' B' hB' hfr o⟩)
   ·obtain ⟨sz2,fr2,e0⟩:=hv.virt bx e
    rw [hb'] at e0;cases e0
   ·obtain ⟨_,cs,Ty,q1,q2,q3,q4,q5,q6⟩:=hv.at_ bx _ L hb' hL;refine ⟨cs,Ty,q1,q2,by simpa using q3,by simpa using q4,⟨by simpa using q5.size,fun i x hx=>?_⟩,⟨fun h=>(by cases h),fun _=>q6.2 rfl⟩⟩;rw [List.getElem?_set] at hx
    split at hx
    ·rename_i e;subst e
     split at hx
     ·cases hx
      obtain ⟨v,hv1,hv2⟩:=q5.den j .nil (by rw [zDw,e4];rfl);refine ⟨v,hv1,?_⟩
      cases hv2 with
      |nil a0=>exact .ownE b a0 (upd_same _ _ _)
     ·cases hx
    ·exact q5.den i x hx
  ·exact e1.elim
 |wk t y=>
  refine ⟨M,ι,h1,h2,h3,h4,h5,h6,fun s=>?_,h8,h9⟩
  by_cases e:s=t
  ·subst e;show DenA M _ (upd st.tm s y s) _;rw [upd_same];exact hk.out _ _ _ (h7 s)
  ·show DenA M _ (upd st.tm t y s) _;rw [zAl _ _ e];exact h7 s
 |wkc bx j y=>
  dsimp only [z6f] at hk;dsimp only [Lk.nil1]
  split at hk
  ·rename_i c fr hb;obtain ⟨⟨x0,e4,e5⟩,rfl⟩:=hk;refine ⟨M,ι,h1,h2,h3,h4,?_,h6,h7,h8,h9⟩;refine h5.set bx _ (by rw [hb];simp) (.refl M) (fun e=>?_) (fun L hL=>?_) (fun b' L' hbb hL'=>⟨rfl,fun B' hB' hfr o=>h5.closed hL' B' hB' hfr o⟩)
   ·obtain ⟨sz2,fr2,e0⟩:=h5.virt bx e
    rw [hb] at e0;cases e0
   ·obtain ⟨_,cs,Ty,q1,q2,q3,q4,q5,q6⟩:=h5.at_ bx _ L hb hL;refine ⟨cs,Ty,q1,q2,by simpa using q3,by simpa using q4,⟨by simpa using q5.size,fun i x hx=>?_⟩,⟨fun h=>(by cases h),fun _=>q6.2 rfl⟩⟩;rw [List.getElem?_set] at hx
    split at hx
    ·rename_i e;subst e
     split at hx
     ·cases hx
      obtain ⟨v,hv1,hv2⟩:=q5.den j x0 e4;exact ⟨v,hv1,e5.out _ _ _ hv2⟩
     ·cases hx
    ·exact q5.den i x hx
  ·exact hk.elim
 |frz b l sz=>
  obtain ⟨fr,hb⟩:=hk;obtain ⟨M1,s1,a1,n1,g1⟩:=yCv h2 h5 hb (B':=.row l sz true) (.inl ⟨_,_,_,rfl,rfl⟩);exact ⟨M1,ι,h1.trans s1,a1,h3.trans n1,h4,g1,h6,fun t=>(h7 t).mono s1,h8,h9⟩
 |sd t b l sz=>
  obtain ⟨e1,e2⟩:=hk;refine ⟨M,ι,h1,h2,h3,h4,h5,h6,fun s=>?_,h8,h9⟩
  by_cases e:s=t
  ·subst e;show DenA M ι (upd st.tm s (.d (.lst l)) s) _;rw [upd_same];have:=h7 s;rw [e1] at this;exact .d _ _ (z0v h5 e2 this)
  ·show DenA M ι (upd st.tm t (.d (.lst l)) s) _;rw [zAl _ _ e];exact h7 s
 |cd bx j b l sz=>
  dsimp only [z6f] at hk;dsimp only [Lk.nil1];obtain ⟨e2,hk⟩:=hk
  split at hk
  ·rename_i c fr hb;obtain ⟨e4,rfl⟩:=hk;refine ⟨M,ι,h1,h2,h3,h4,?_,h6,h7,h8,h9⟩;refine h5.set bx _ (by rw [hb];simp) (.refl M) (fun e=>?_) (fun L hL=>?_) (fun b' L' hbb hL'=>⟨rfl,fun B' hB' hfr o=>h5.closed hL' B' hB' hfr o⟩)
   ·obtain ⟨sz2,fr2,e0⟩:=h5.virt bx e
    rw [hb] at e0;cases e0
   ·obtain ⟨_,cs,Ty,q1,q2,q3,q4,q5,q6⟩:=h5.at_ bx _ L hb hL;refine ⟨cs,Ty,q1,q2,by simpa using q3,by simpa using q4,⟨by simpa using q5.size,fun i x hx=>?_⟩,⟨fun h=>(by cases h),fun _=>q6.2 rfl⟩⟩;rw [List.getElem?_set] at hx
    split at hx
    ·rename_i e;subst e
     split at hx
     ·cases hx
      obtain ⟨v,hv1,hv2⟩:=q5.den j _ e4;exact ⟨v,hv1,.d _ _ (z0v h5 e2 hv2)⟩
     ·cases hx
    ·exact q5.den i x hx
  ·exact hk.elim
theorem ARel.nilsR:∀ {ns:List NilK} {st:zAo} {a:Act} {w:World},ARel own w0 M0 ι0 N st a w->yDv ns st->ARel own w0 M0 ι0 N (Lk.nils ns st) a w
 | [],_,_,_,h,_=>h
 |k::r,st,_,_,h,hk=>ARel.nilsR (ns:=r) (st:=Lk.nil1 k st) (ARel.nil1 h hk.1) hk.2
theorem ARel.leN {s st:zAo} {a:Act} {w:World} (h:ARel own w0 M0 ι0 N st a w) (hl:LeN s st):ARel own w0 M0 ι0 N s a w:=by
 obtain ⟨ns,h1,h2⟩:=hl.out;exact (ARel.nilsR h h1).le h2
theorem Oper.wp_monoQ {P:Program} {o:Oper} {a:Act} {w:World} {K K':Act->World->Prop} {Q Q':Exit->Act->World->Prop} (hK:∀ a w,K a w->K' a w) (hQ:∀ e a w,Q e a w->Q' e a w) (h:o.wp P a w K Q):o.wp P a w K' Q':=by
 unfold Oper.wp at*
 generalize (execOp a.eval o).run P w=r at*
 cases r with
 |ok n w'=>
  cases n<;>simp only [Oper.upon] at h⊢<;>
   first
    |exact hK _ _ h
    |exact Calls.mono h (fun e w'' he=>by
      cases e with
      |returned v=>exact hK _ _ he
      |panicked c=>exact hQ _ _ _ he
      |outgrown=>obtain ⟨a0,w0,q⟩:=he;exact ⟨a0,w0,hQ _ _ _ q⟩)
    |exact Rows.mono h (fun _ _ he=>hK _ _ he)
 |halt x w'=>cases x<;>simp only [Oper.upon] at h⊢<;>exact hQ _ _ _ h
theorem zXu {ops:Array Oper} {a:Act} {g:Nat} {t:Tmp} {b:Bool} (ht:(ops[g]?).bind (·.dst)=some t) (h:a.tmps.getD t undef=.bool b):yielded ops a.tmps g=some b:=by
 have:a.tmps[t]?=some (.bool b):=by
  rw [Array.getD_eq_getD_getElem?] at h
  cases hx:a.tmps[t]? with
  |none=>rw [hx] at h;simp [undef] at h
  |some v=>rw [hx] at h;simp at h;rw [h]
 simp [yielded,ht,this]
theorem ARel.refine {tm:Nat->AV} {hp:Nat->Option Blk} {a:Act} {w:World} {t:Tmp} {b:Bool} (h:ARel own w0 M0 ι0 N ⟨tm,hp⟩ a w) (ht:tm t=.d (.bool b)):
  ARel own w0 M0 ι0 N ⟨upd tm t (bif b then .tt else .ff),hp⟩ a w:=by
 obtain ⟨M,ι,h1,h2,h3,h4,h5,h6,h7,h8,h9⟩:=h;refine ⟨M,ι,h1,h2,h3,h4,h5,h6,fun s=>?_,h8,h9⟩
 by_cases e:s=t
 ·subst e;show DenA M ι (upd tm s _ s) _;rw [upd_same];have:=h7 s;have hv:a.tmps.getD s undef=.bool b:=den_bool (by rw [<-ht];exact this);rw [hv]
  cases b
  ·exact .ff
  ·exact .tt
 ·show DenA M ι (upd tm t _ s) _
  rw [zAl _ _ e];exact h7 s
theorem zIz {M:Mem} {ι:Inj} {x:AV} {v:Value} (h:DenA M ι x v):(x=.tt->v=.bool true) /\ (x=.ff->v=.bool false):=
 ⟨fun e=>by subst e;cases h;rfl,fun e=>by subst e;cases h;rfl⟩
theorem den_undef {M:Mem} {ι:Inj} {v:Value} (h:DenA M ι (.tup []) v):v=undef:=by
 cases h with
 |tup _ vs hl _=>
  have:vs=#[]:=by simpa using hl
  rw [this];rfl
theorem zTe {ops:Array Oper} {a:Act} {g:Nat} {t:Tmp} (ht:(ops[g]?).bind (·.dst)=some t) (h:a.tmps.getD t undef=undef):yielded ops a.tmps g=none:=by
 unfold yielded;rw [ht];simp only [Option.bind_some];rw [Array.getD_eq_getD_getElem?] at h
 cases hx:a.tmps[t]? with
 |none=>rfl
 |some v=>
  rw [hx] at h;simp only [Option.getD_some] at h
  rw [h];rfl
theorem yBm {P:Program} {ops:Array Oper} {Q:Exit->Act->World->Prop} {i:Nat} {rest:List Nat} {o:Oper} {a:Act} {w:World} (ho:ops[i]?=some o)
  (h:if Region.wanted o (yielded ops a.tmps) then o.wp P a w (wpOps P ops Q rest) Q else wpOps P ops Q rest (a.put o.dst undef) w):wpOps P ops Q (i::rest) a w:=by
 simp only [wpOps,ho]
 split
 ·rename_i hw;rw [if_pos hw] at h;exact .inl h
 ·rename_i hw;rw [if_neg hw] at h;exact h
variable {P:Program} {T:Tab} (hT:zFo P T)
theorem zSg {P:Program} (w:World) (n:Nat) (t e:TypeId) (b:Option Addr) (k c:Nat) (hu:P.underlying t=some (.slice e)):(Op.equalIn (n+1) t (.slice b k c) (.slice none 0 0)).run P w=.ok b.isNone w:=by
 cases b<;>simp [Op.equalIn,run_underlying hu]
include hT in
theorem yXp {bo:BinOp} {t e:TypeId} {x y:Operand} {av:AV} {hp:Nat->Option Blk} {K:Eff->Prop} {M:Mem} {ι:Inj} {w:World} {a:Act} {v:Value} (hk:(T t).k=.slice e) (hy:yDg y=true)
  (h:yMm av hp (z6g bo K)) (hh:HRel own M ι hp w) (hv:DenA M ι av v):∃ b:Bool,K ⟨.d (.bool b),[],none⟩ /\ (do eqGuard bo t x y v (a.eval y);binOp bo t v (a.eval y):Sem Value).run P w=.ok (.bool b) w:=by
 have hu:=(zBi hT hk).1
 have hyv:a.eval y=.slice none 0 0:=by
  unfold yDg at hy
  split at hy
  ·rfl
  ·cases hy
 rw [hyv]
 have key:∀ (r:Bool) (b:Option Addr) (n c:Nat),v=.slice b n c->r=b.isNone->z6g bo K r->∃ b:Bool,K ⟨.d (.bool b),[],none⟩ /\ (do eqGuard bo t x y v (.slice none 0 0);binOp bo t v (.slice none 0 0):Sem Value).run P w=.ok (.bool b) w:=by
  intro r b n c hv hr hK;subst hv;have heq:=zSg w 9999 t e b n c hu;rw [<-hr] at heq;unfold z6g at hK
  split at hK
  ·exact ⟨r,hK,by simp [eqGuard,binOp,Op.equal,Op.maxDepth,heq]⟩
  ·exact ⟨!r,hK,by simp [eqGuard,binOp,Op.equal,Op.maxDepth,heq]⟩
  ·exact hK.elim
 unfold yMm at h
 split at h
 ·rename_i l
  cases hv with
  |d _ _ hd=>
   cases hd with
   |emp a0 c=>exact key _ a0 0 c rfl rfl (h.out _ fun _=>rfl)
   |lst _ b off cap sz val hl _ _ _=>exact key false _ _ _ rfl rfl (h.out _ fun e=>by cases e)
 ·cases hv with
  |nil a0=>exact key _ a0 0 0 rfl rfl (h.out _ fun _=>rfl)
 ·rename_i b
  split at h
  ·rename_i l sz fr hb
   cases hv with
   |own _ L cap hL hn hc=>exact key false _ _ _ rfl rfl (h.out _ fun e=>by cases e)
   |ownE _ a0 hL=>
    obtain ⟨sz2,fr2,e0⟩:=hh.virt b hL
    rw [hb] at e0;cases e0
    exact key _ a0 0 0 rfl rfl (h.out _ fun _=>rfl)
   |ownL _ _ hL=>rw [(hh.dom b).2 hL] at hb;cases hb
  ·exact h.elim
 ·exact h.elim
include hT in
theorem ySp (hown:∀ c,w0.heap.size<=c->own c) {o:Oper} {tm:Nat->AV} {hp:Nat->Option Blk} {a:Act} {w:World} {K:zAo->Prop} {Q:Exit->Act->World->Prop} (h:opN T P o (evT tm) hp fun e=>step tm hp o.dst e K)
  (hr:ARel own w0 M0 ι0 N ⟨tm,hp⟩ a w) (hd:z7s N o):o.wp P a w (fun a' w'=>∃ st,K st/\ARel own w0 M0 ι0 N st a' w') Q:=by
 obtain ⟨M,ι,h1,h2,h3,h4,h5,h6,h7,h8,h9⟩:=hr
 have plain:opG T P o (evT tm) hp (fun e=>step tm hp o.dst e K)->o.wp P a w (fun a' w'=>∃ st,K st/\ARel own w0 M0 ι0 N st a' w') Q:=by
  intro h;obtain ⟨e,hs,hsem⟩:=zPv hT h;obtain ⟨hk,hK⟩:=zQl hs;refine Oper.wp_monoQ (fun a' w' hq=>?_) (fun _ _ _ hf=>hf.elim) (hsem own M ι a w (fun c hc=>hown c (Nat.le_trans h4.size hc)) h2 h5 (zVe h7));obtain ⟨v,rfl,hpost⟩:=hq;exact ⟨_,hK,yFg hown h1 h3 h4 h6 h7 h8 h9 hpost hd hk⟩
 unfold opN at h
 split at h
 ·rename_i bo t x y z ho
  split at h
  ·rename_i e hk
   cases hn:yDg y with
   |false=>simp [hn] at h
   |true=>
    simp only [hn,cond_true] at h;obtain ⟨b,hs,hrun⟩:=yXp (a:=a) (x:=x) hT hk hn h h5 (zVe h7 x);obtain ⟨hk2,hK⟩:=zQl hs;unfold Oper.wp
    have:(execOp a.eval o).run P w=.ok (.value (.bool b)) w:=by
     rw [show execOp a.eval o=(do pure (.value (<-(do eqGuard bo t x y (a.eval x) (a.eval y);binOp bo t (a.eval x) (a.eval y):Sem Value)))) by simp [execOp,ho]];generalize (do eqGuard bo t x y (a.eval x) (a.eval y);binOp bo t (a.eval x) (a.eval y):Sem Value)=s at hrun;simp [hrun]
    rw [this];exact ⟨_,hK,yFg hown h1 h3 h4 h6 h7 h8 h9 (yEm h2 h5 (.d _ _ (.bool b))) hd hk2⟩
  ·exact plain h
 ·exact plain h
include hT in
theorem zQt (hown:∀ c,w0.heap.size<=c->own c) {ops:Array Oper} {Q:Exit->Act->World->Prop} {K:zAo->Prop} (hQ:∀ st a w,K st->ARel own w0 M0 ι0 N st a w->Q .normal a w) (hd:∀ o∈ops,z7s N o):
  ∀ (l:List Oper) (i:Nat) (st:zAo) (a:Act) (w:World),ops.toList.drop i=l->AOps T P ops l st K->ARel own w0 M0 ι0 N st a w->wpOps P ops Q (List.range' i l.length) a w
 | [],i,st,a,w,hl,h,hr=>hQ st a w (yPc.mp h) hr
 |o::rest,i,st,a,w,hl,h,hr=>by
  have ho:ops[i]?=some o:=by
   have:=congrArg (·[0]?) hl
   simpa using this
  have hl':ops.toList.drop (i+1)=rest:=by
   have:=congrArg (List.drop 1) hl
   simpa [Nat.add_comm] using this
  have hdo:=hd o (Array.mem_of_getElem? ho);obtain ⟨tm,hp⟩:=st;simp only [List.length_cons,List.range'_succ]
  have take:∀ tm',opN T P o (evT tm') hp (fun e=>step tm' hp o.dst e fun st=>AOps T P ops rest st K)->ARel own w0 M0 ι0 N ⟨tm',hp⟩ a w->o.wp P a w (wpOps P ops Q (List.range' (i+1) rest.length)) Q:=by
   intro tm' h hr;refine Oper.wp_monoQ (fun a' w' hq=>?_) (fun _ _ _ h=>h) (ySp hT hown h hr hdo);obtain ⟨st',k1,k2⟩:=hq;exact zQt hown hQ hd rest (i+1) st' a' w' hl' k1 k2
  have skip:∀ tm',step tm' hp o.dst ⟨.tup [],[],none⟩ (fun st=>AOps T P ops rest st K)->ARel own w0 M0 ι0 N ⟨tm',hp⟩ a w->wpOps P ops Q (List.range' (i+1) rest.length) (a.put o.dst undef) w:=by
   intro tm' h hr;exact zQt hown hQ hd rest (i+1) _ _ w hl' (zQl h).2 (yEw hr hdo)
  apply yBm ho;rw [yIe] at h;simp only [yYu] at h
  cases hg:o.guard with
  |none=>
   simp only [hg] at h;rw [if_pos (by simp [Region.wanted,hg])];exact take tm h hr
  |some gw=>
   obtain ⟨g,want⟩:=gw;simp only [hg] at h
   cases ht:(ops[g]?).bind (·.dst) with
   |none=>simp [ht] at h
   |some t=>
    simp only [ht] at h
    have hden:∃ M ι,DenA M ι (tm t) (a.tmps.getD t undef):=by
     obtain ⟨M,ι,h1,h2,h3,h4,h5,h6,h7,h8,h9⟩:=hr;exact ⟨M,ι,h7 t⟩
    obtain ⟨M,ι,hden⟩:=hden
    have run:∀ (b:Bool) tm',a.tmps.getD t undef=.bool b->ARel own w0 M0 ι0 N ⟨tm',hp⟩ a w->
      (if b=want then opN T P o (evT tm') hp (fun e=>step tm' hp o.dst e fun st=>AOps T P ops rest st K) else step tm' hp o.dst ⟨.tup [],[],none⟩ (fun st=>AOps T P ops rest st K))->
      if Region.wanted o (yielded ops a.tmps) then o.wp P a w (wpOps P ops Q (List.range' (i+1) rest.length)) Q else wpOps P ops Q (List.range' (i+1) rest.length) (a.put o.dst undef) w:=by
     intro b tm' hv hr' h;have hy:=zXu ht hv
     have hw:Region.wanted o (yielded ops a.tmps)=(b==want):=by
      simp [Region.wanted,hg,hy]
     rw [hw]
     by_cases e:b=want
     ·subst e;rw [if_pos rfl] at h;rw [if_pos (by simp)];exact take tm' h hr'
     ·rw [if_neg e] at h;rw [if_neg (by simpa using e)];exact skip tm' h hr'
    split at h
    ·rename_i hx;refine run true tm ((zIz hden).1 hx) hr ?_
     cases want
     ·simpa using h
     ·simpa using h
    ·rename_i hx;refine run false tm ((zIz hden).2 hx) hr ?_
     cases want
     ·simpa using h
     ·simpa using h
    ·rename_i b hx
     rcases bcase_out h with ⟨rfl,h1⟩|⟨rfl,h1⟩
     ·refine run true (upd tm t .tt) (den_bool (hx▸hden)) (hr.refine hx) ?_
      cases want
      ·simpa using h1
      ·simpa using h1
     ·refine run false (upd tm t .ff) (den_bool (hx▸hden)) (hr.refine hx) ?_
      cases want
      ·simpa using h1
      ·simpa using h1
    ·rename_i hx;have hv:a.tmps.getD t undef=undef:=den_undef (hx▸hden)
     have hw:Region.wanted o (yielded ops a.tmps)=false:=by
      simp [Region.wanted,hg,zTe ht hv]
     rw [hw,if_neg (by simp)];exact skip tm h hr
    ·exact h.elim
end
theorem zEn {b:Nat}:∀ {l:List Nat},memN b l=true↔b∈l
 | []=>by simp [memN]
 |x::r=>by
  simp only [memN]
  cases hb:Nat.beq b x with
  |true=>
   have:b=x:=Nat.eq_of_beq_eq_true hb;simp [this]
  |false=>
   have:b≠x:=fun e=>by subst e;simp at hb
   simp [this,zEn]
theorem yFh:∀ {l F:List Nat},subN l F=true->∀ x∈l,x∈F
 | [],F,_,x,hx=>by cases hx
 |y::r,F,h,x,hx=>by
  simp only [subN] at h
  cases hm:memN y F with
  |false=>simp [hm] at h
  |true=>
   simp only [hm,cond_true] at h
   cases hx with
   |head=>exact zEn.1 hm
   |tail _ hx=>exact yFh h x hx
theorem zOy:∀ {l F:List Nat},disN l F=true->∀ x∈l,x∉F
 | [],F,_,x,hx=>by cases hx
 |y::r,F,h,x,hx=>by
  simp only [disN] at h
  cases hm:memN y F with
  |true=>simp [hm] at h
  |false=>
   simp only [hm,cond_false] at h
   cases hx with
   |head=>exact fun e=>by rw [zEn.2 e] at hm;cases hm
   |tail _ hx=>exact zOy h x hx
theorem zPu {k:Nat} (hl:Solo k) {x:AV} {ns:List Nat} (h:zAv.one x=some ns) (hk:k∉ns):killV.one k x=false:=by
 cases x with
 |own b=>
  simp only [zAv.one,Option.some.injEq] at h;subst h;simp only [killV.one,hl.out]
  cases hb:Nat.beq b k with
  |true=>exact absurd (by rw [Nat.eq_of_beq_eq_true hb];exact List.mem_singleton_self _) hk
  |false=>rfl
 |ptr b i j=>
  simp only [zAv.one,Option.some.injEq] at h;subst h;simp only [killV.one,hl.out]
  cases hb:Nat.beq b k with
  |true=>exact absurd (by rw [Nat.eq_of_beq_eq_true hb];exact List.mem_singleton_self _) hk
  |false=>rfl
 |win b lo n c=>
  simp only [zAv.one,Option.some.injEq] at h;subst h;simp only [killV.one,hl.out]
  cases hb:Nat.beq b k with
  |true=>exact absurd (by rw [Nat.eq_of_beq_eq_true hb];exact List.mem_singleton_self _) hk
  |false=>rfl
 |d x=>rfl
 |tt=>rfl
 |ff=>rfl
 |nil=>rfl
 |dead=>rfl
 |agg c=>cases h
 |tup c=>cases h
 |fn f c=>cases h
theorem cells_keep {k:Nat} (hl:Solo k):∀ {c:List AV} {ns:List Nat},zAv.cells c=some ns->k∉ns->killV.names k c=false
 | [],ns,h,hk=>rfl
 |x::r,ns,h,hk=>by
  simp only [zAv.cells] at h
  cases h1:zAv.one x with
  |none=>simp [h1] at h
  |some a=>
   cases h2:zAv.cells r with
   |none=>simp [h1,h2] at h
   |some b=>
    simp only [h1,h2,Option.some.injEq] at h;subst h;simp only [killV.names,zPu hl h1 fun e=>hk (List.mem_append_left _ e),cond_false]
    exact cells_keep hl h2 fun e=>hk (List.mem_append_right _ e)
theorem yNa {k:Nat} (hl:Solo k) {x:AV} {ns:List Nat} (h:zAv.part x=some ns) (hk:k∉ns):killV.part k x=false:=by
 cases x with
 |agg c=>exact cells_keep hl h hk
 |_=>simp only [zAv.part] at h;simp only [killV.part];exact zPu hl h hk
theorem zZq {k:Nat} (hl:Solo k):∀ {c:List AV} {ns:List Nat},zAv.parts c=some ns->k∉ns->killV.parts k c=false
 | [],ns,h,hk=>rfl
 |x::r,ns,h,hk=>by
  simp only [zAv.parts] at h
  cases h1:zAv.part x with
  |none=>simp [h1] at h
  |some a=>
   cases h2:zAv.parts r with
   |none=>simp [h1,h2] at h
   |some b=>
    simp only [h1,h2,Option.some.injEq] at h;subst h;simp only [killV.parts,yNa hl h1 fun e=>hk (List.mem_append_left _ e),cond_false]
    exact zZq hl h2 fun e=>hk (List.mem_append_right _ e)
theorem zZh {k:Nat} (hl:Solo k) {x:AV} {ns:List Nat} (h:zAv x=some ns) (hk:k∉ns):killV k x=x:=by
 cases x with
 |own b=>have:=zPu hl (x:=.own b) h hk;simp only [killV.one] at this;simp [killV,this]
 |ptr b i j=>have:=zPu hl (x:=.ptr b i j) h hk;simp only [killV.one] at this;simp [killV,this]
 |win b lo n c=>have:=zPu hl (x:=.win b lo n c) h hk;simp only [killV.one] at this;simp [killV,this]
 |agg c=>simp only [killV,cells_keep hl h hk,cond_false]
 |tup c=>simp only [killV,zZq hl h hk,cond_false]
 |fn f c=>simp only [killV,cells_keep hl h hk,cond_false]
 |_=>rfl
theorem zVx {k:Nat} {x:AV} (h:zAv (killV k x)≠none):killV k x=x:=by
 cases x with
 |own b=>simp only [killV] at h⊢;cases hb:Fm k b<;>simp_all [zAv,zAv.one]
 |ptr b i j=>simp only [killV] at h⊢;cases hb:Fm k b<;>simp_all [zAv,zAv.one]
 |win b lo n c=>simp only [killV] at h⊢;cases hb:Fm k b<;>simp_all [zAv,zAv.one]
 |agg c=>simp only [killV] at h⊢;cases hb:killV.names k c<;>simp_all [zAv,zAv.one]
 |tup c=>simp only [killV] at h⊢;cases hb:killV.parts k c<;>simp_all [zAv,zAv.one]
 |fn f c=>simp only [killV] at h⊢;cases hb:killV.names k c<;>simp_all [zAv,zAv.one]
 |_=>rfl
theorem zZg (a b:Nat) (x:AV):killV a (killV b x)=killV b (killV a x):=by
 cases x with
 |own c=>simp only [killV];cases h1:Fm a c<;>cases h2:Fm b c<;>simp [killV,h1,h2]
 |ptr c i j=>simp only [killV];cases h1:Fm a c<;>cases h2:Fm b c<;>simp [killV,h1,h2]
 |win c lo n q=>simp only [killV];cases h1:Fm a c<;>cases h2:Fm b c<;>simp [killV,h1,h2]
 |agg c=>simp only [killV];cases h1:killV.names a c<;>cases h2:killV.names b c<;>simp [killV,h1,h2]
 |tup c=>simp only [killV];cases h1:killV.parts a c<;>cases h2:killV.parts b c<;>simp [killV,h1,h2]
 |fn f c=>simp only [killV];cases h1:killV.names a c<;>cases h2:killV.names b c<;>simp [killV,h1,h2]
 |_=>rfl
theorem yRh {x:AV} (h:zAv.one x≠none):zAv x≠none:=by
 cases x<;>first|exact h|exact absurd rfl h
theorem yMs {k:Nat} {x:AV} (h:zAv.one (killV k x)≠none):killV k x=x:=zVx (yRh h)
theorem zVv {k:Nat} (hl:Solo k):∀ {c:List AV} {ns:List Nat},zAv.cells c=some ns->k∉ns->zBl.cells k c=c
 | [],ns,h,hk=>rfl
 |x::r,ns,h,hk=>by
  simp only [zAv.cells] at h
  cases h1:zAv.one x with
  |none=>simp [h1] at h
  |some a=>
   cases h2:zAv.cells r with
   |none=>simp [h1,h2] at h
   |some b=>
    simp only [h1,h2,Option.some.injEq] at h;subst h
    have hx:zAv x=some a:=by cases x<;>first|exact h1|cases h1
    simp only [zBl.cells,zZh hl hx fun e=>hk (List.mem_append_left _ e),zVv hl h2 fun e=>hk (List.mem_append_right _ e)]
theorem zSu {k:Nat}:∀ {c:List AV},zAv.cells (zBl.cells k c)≠none->zBl.cells k c=c
 | [],h=>rfl
 |x::r,h=>by
  simp only [zBl.cells,zAv.cells] at h⊢
  cases h1:zAv.one (killV k x) with
  |none=>simp [h1] at h
  |some a=>
   cases h2:zAv.cells (zBl.cells k r) with
   |none=>simp [h1,h2] at h
   |some b=>rw [yMs (by rw [h1];simp),zSu (by rw [h2];simp)]
theorem yHa {k:Nat} (hl:Solo k) {B:Blk} {ns:List Nat} (h:zFg B=some ns) (hk:k∉ns):zBl k B=B:=by
 cases B with
 |row l sz fr=>rfl
 |box c fr=>simp only [zBl,zVv hl h hk]
theorem z9m {k:Nat} {B:Blk} (h:zFg (zBl k B)≠none):zBl k B=B:=by
 cases B with
 |row l sz fr=>rfl
 |box c fr=>simp only [zBl,zFg] at h⊢;rw [zSu h]
theorem yH (a b:Nat) (B:Blk):zBl a (zBl b B)=zBl b (zBl a B):=by
 cases B with
 |row l sz fr=>rfl
 |box c fr=>
  simp only [zBl]
  congr 1
  induction c with
  |nil=>rfl
  |cons x r ih=>simp only [zBl.cells,zZg,ih]
theorem zNy {o:Option (List Nat)} {F:List Nat} (h:inO o F=true):∃ ns,o=some ns/\ ∀ b∈ns,b∈F:=by
 cases o with
 |none=>cases h
 |some ns=>exact ⟨ns,rfl,yFh h⟩
theorem z1z {b:Nat} {x:AV} {ns:List Nat} (h:zAv.one x=some ns) (hb:b∉ns):Free b x:=by
 cases x with
 |own b'=>cases h;exact .own b' fun e=>hb (by simp [e])
 |ptr b' i j=>cases h;exact .ptr b' i j fun e=>hb (by simp [e])
 |win b' lo n c=>cases h;exact .win b' lo n c fun e=>hb (by simp [e])
 |d x=>exact .d x
 |tt=>exact .tt
 |ff=>exact .ff
 |nil=>exact .nil
 |dead=>exact .dead
 |agg c=>cases h
 |tup c=>cases h
 |fn f c=>cases h
theorem cells_free {b:Nat}:∀ {c:List AV} {ns:List Nat},zAv.cells c=some ns->b∉ns->∀ x∈c,Free b x
 | [],ns,h,hb,x,hx=>by cases hx
 |y::r,ns,h,hb,x,hx=>by
  simp only [zAv.cells] at h
  cases h1:zAv.one y with
  |none=>simp [h1] at h
  |some a=>
   cases h2:zAv.cells r with
   |none=>simp [h1,h2] at h
   |some q=>
    simp only [h1,h2,Option.some.injEq] at h;subst h
    cases hx with
    |head=>exact z1z h1 fun e=>hb (List.mem_append_left _ e)
    |tail _ hx=>exact cells_free h2 (fun e=>hb (List.mem_append_right _ e)) x hx
theorem yMz {b:Nat} {x:AV} {ns:List Nat} (h:zAv.part x=some ns) (hb:b∉ns):Free b x:=by
 cases x with
 |agg c=>exact .agg c (cells_free h hb)
 |_=>exact z1z h hb
theorem zZp {b:Nat}:∀ {c:List AV} {ns:List Nat},zAv.parts c=some ns->b∉ns->∀ x∈c,Free b x
 | [],ns,h,hb,x,hx=>by cases hx
 |y::r,ns,h,hb,x,hx=>by
  simp only [zAv.parts] at h
  cases h1:zAv.part y with
  |none=>simp [h1] at h
  |some a=>
   cases h2:zAv.parts r with
   |none=>simp [h1,h2] at h
   |some q=>
    simp only [h1,h2,Option.some.injEq] at h;subst h
    cases hx with
    |head=>exact yMz h1 fun e=>hb (List.mem_append_left _ e)
    |tail _ hx=>exact zZp h2 (fun e=>hb (List.mem_append_right _ e)) x hx
theorem yHh {b:Nat} {x:AV} {ns:List Nat} (h:zAv x=some ns) (hb:b∉ns):Free b x:=by
 cases x with
 |agg c=>exact .agg c (cells_free h hb)
 |tup c=>exact .tup c (zZp h hb)
 |fn f c=>exact .fn f c (cells_free h hb)
 |_=>exact z1z h hb
theorem yGs {x:AV} {F:List Nat} (h:inO (zAv x) F=true) (b:Nat) (hb:b∉F):Free b x:=by
 obtain ⟨ns,e,hn⟩:=zNy h
 exact yHh e fun hm=>hb (hn b hm)
theorem zNx {B:Blk} {F:List Nat} (h:inO (zFg B) F=true) (b:Nat) (hb:b∉F):∀ c fr,B=.box c fr->∀ x∈c,Free b x:=by
 rintro c fr rfl x hx;obtain ⟨ns,e,hn⟩:=zNy h;exact cells_free e (fun hm=>hb (hn b hm)) x hx
def zFm:List (Nat×Blk)->Nat->Option Blk
 | [],_=>none
 |(b,B)::r,c=>match zFm r c with
  |some B'=>some B'
  |none=>bif Nat.beq c b then some B else none
theorem zSn:∀ (ws:List (Nat×Blk)) (hp:Nat->Option Blk) (c:Nat),zBa hp ws c=match zFm ws c with|some B=>some B|none=>hp c
 | [],hp,c=>rfl
 |(b,B)::r,hp,c=>by
  simp only [zBa,zFm];rw [zSn r]
  cases hr:zFm r c with
  |some B'=>rfl
  |none=>
   simp only [upd]
   cases Nat.beq c b<;>rfl
theorem wrGet_none {ws:List (Nat×Blk)} {c:Nat}:zFm ws c=none↔c∉zEt ws:=by
 induction ws with
 |nil=>simp [zFm,zEt]
 |cons p r ih=>
  obtain ⟨b,B⟩:=p;simp only [zFm,zEt,List.mem_cons,not_or]
  cases hr:zFm r c with
  |some B'=>rw [hr] at ih;simp at ih;simp [ih]
  |none=>
   rw [hr] at ih;have:=ih.1 rfl
   cases hb:Nat.beq c b with
   |true=>simp [Nat.eq_of_beq_eq_true hb]
   |false=>
    have hne:c≠b:=fun e=>by subst e;simp at hb
    simp [this,hne]
theorem z7o {ws:List (Nat×Blk)} {c:Nat} {B:Blk} (h:zFm ws c=some B):(c,B)∈ws:=by
 induction ws with
 |nil=>cases h
 |cons p r ih=>
  obtain ⟨b,B0⟩:=p;simp only [zFm] at h
  cases hr:zFm r c with
  |some B'=>rw [hr] at h;simp only [Option.some.injEq] at h;subst h;exact List.mem_cons_of_mem _ (ih hr)
  |none=>
   rw [hr] at h
   cases hb:Nat.beq c b with
   |false=>simp [hb] at h
   |true=>
    simp only [hb,cond_true,Option.some.injEq] at h;subst h
    rw [Nat.eq_of_beq_eq_true hb];exact List.mem_cons_self ..
def zEk (k:Option Nat) (o:Option Blk):Option Blk:=match k with|none=>o|some k=>o.map (zBl k)
theorem yQp (k:Option Nat) (hp:Nat->Option Blk) (c:Nat):zD k hp c=zEk k (hp c):=by
 cases k with
 |none=>rfl
 |some k=>simp only [zD,zEk];cases hp c<;>rfl
theorem eff_hp_get (e:Eff) (hp:Nat->Option Blk) (c:Nat):e.hp hp c=match zFm e.wr c with|some B=>some B|none=>zEk e.kl (hp c):=by
 unfold Eff.hp;rw [zSn,yQp]
def zYd (k:Option Nat) (x:AV):AV:=match k with|none=>x|some k=>killV k x
theorem yDj (k:Option Nat) (tm:Nat->AV) (t:Nat):zRt k tm t=zYd k (tm t):=by cases k<;>rfl
structure EffFact (F:List Nat) (dst:Option Tmp) (e:Eff):Prop where
 kl:∀ k,e.kl=some k->k∈zEt e.wr
 lt:∀ k,e.kl=some k->Solo k
 wr:∀ b∈zEt e.wr,b∈F\/e.kl=some b
 blk:∀ c B,zFm e.wr c=some B->inO (zFg B) (F++effW e)=true
 av:∀ d,dst=some d->e.av=.dead\/inO (zAv e.av) (F++effW e)=true
theorem yOp:∀ {l F:List Nat},(∀ x∈l,x∈F)->subN l F=true
 | [],F,_=>rfl
 |y::r,F,h=>by simp only [subN,zEn.2 (h y (List.mem_cons_self ..)),cond_true];exact yOp fun x hx=>h x (List.mem_cons_of_mem _ hx)
theorem zTu {o:Option (List Nat)} {F G:List Nat} (h:inO o F=true) (hs:∀ b∈F,b∈G):inO o G=true:=by
 obtain ⟨ns,rfl,hn⟩:=zNy h
 exact yOp fun x hx=>hs x (hn x hx)
theorem zQq {F:List Nat}:∀ {ws:List (Nat×Blk)},wrOk F ws=true->∀ p∈ws,p.1∈F/\inO (zFg p.2) F=true
 | [],_,p,hp=>by cases hp
 |(b,B)::r,h,p,hp=>by
  simp only [wrOk] at h
  cases hm:(memN b F&&inO (zFg B) F) with
  |false=>simp [hm] at h
  |true=>
   simp only [hm,cond_true] at h;simp only [Bool.and_eq_true] at hm
   cases hp with
   |head=>exact ⟨zEn.1 hm.1,hm.2⟩
   |tail _ hp=>exact zQq h p hp
theorem zWf {ws:List (Nat×Blk)} {b:Nat}:b∈zEt ws↔∃ B,(b,B)∈ws:=by
 induction ws with
 |nil=>simp [zEt]
 |cons p r ih=>
  obtain ⟨c,B⟩:=p;simp only [zEt,List.mem_cons,ih,Prod.mk.injEq]
  constructor
  ·rintro (rfl|⟨B',h⟩)
   ·exact ⟨B,.inl ⟨rfl,rfl⟩⟩
   ·exact ⟨B',.inr h⟩
  ·rintro ⟨B',⟨rfl,_⟩|h⟩
   ·exact .inl rfl
   ·exact .inr ⟨B',h⟩
theorem yBv {F:List Nat} {dst:Option Tmp} {av:AV} (h:avOk F dst av=true) (d:Tmp) (hd:dst=some d):av=.dead\/inO (zAv av) F=true:=by
 subst hd
 cases av<;>first|exact .inl rfl|exact .inr h
theorem yKg {F:List Nat} {dst:Option Tmp} {e:Eff} (h:yQ F dst e=true):EffFact F dst e:=by
 unfold yQ at h
 cases hk:e.kl with
 |none=>
  simp only [hk,Bool.and_eq_true] at h;obtain ⟨h1,h2⟩:=h;refine ⟨fun k hk'=>(by rw [hk] at hk';cases hk'),fun k hk'=>(by rw [hk] at hk';cases hk'),fun b hb=>?_,fun c B hc=>?_,fun d hd=>?_⟩
  ·obtain ⟨B,hB⟩:=zWf.1 hb;exact .inl (zQq h1 _ hB).1
  ·exact zTu (zQq h1 _ (z7o hc)).2 fun b hb=>List.mem_append_left _ hb
  ·exact orR (yBv h2 d hd) fun h=>zTu h fun b hb=>List.mem_append_left _ hb
 |some k=>
  simp only [hk,Bool.and_eq_true] at h;obtain ⟨⟨⟨h00,h0⟩,h1⟩,h2⟩:=h
  have hsub:∀ b∈k::F,b∈F++effW e:=by
   intro b hb
   cases hb with
   |head=>exact List.mem_append_right _ (by simp [effW,hk])
   |tail _ hb=>exact List.mem_append_left _ hb
  refine ⟨fun k' hk'=>?_,fun k' hk'=>?_,fun b hb=>?_,fun c B hc=>?_,fun d hd=>?_⟩
  ·rw [hk] at hk';cases hk';exact zEn.1 h0
  ·rw [hk] at hk';cases hk';exact yYr h00
  ·obtain ⟨B,hB⟩:=zWf.1 hb;have:=(zQq h1 _ hB).1
   cases this with
   |head=>exact .inr hk
   |tail _ h=>exact .inl h
  ·exact zTu (zQq h1 _ (z7o hc)).2 hsub
  ·exact orR (yBv h2 d hd) fun h=>zTu h hsub
theorem zIb {e:Eff} {b:Nat}:b∈effW e↔e.kl=some b\/b∈zEt e.wr:=by
 unfold effW
 cases e.kl with
 |none=>simp
 |some k=>simp [eq_comm]
theorem zEp.turnS {M:Mem} {ι ι':Inj} {S:Nat->Prop} (hι:∀ b,S b->ι' b=ι b) {w:World} {B:Blk} {L:Loc} (h:zEp M ι w B L) (hf:∀ b,¬S b->∀ c fr,B=.box c fr->∀ x∈c,Free b x):zEp M ι' w B L:=by
 obtain ⟨cs,Ty,g2,g3,g4⟩:=h;refine ⟨cs,Ty,g2,g3,?_⟩
 cases B with
 |row l sz fr=>exact g4
 |box c fr=>exact ⟨g4.1,g4.2.1,⟨g4.2.2.1.size,fun j x hx=>let ⟨v,y1,y2⟩:=g4.2.2.1.den j x hx;⟨v,y1,y2.turnS hι fun b hb=>hf b hb c fr rfl x (List.mem_of_getElem? hx)⟩⟩,g4.2.2.2⟩
open Classical in
theorem yAg {P:Program} {o:Oper} {ρ ρ':Operand->AV} {F:List Nat} {hp hp':Nat->Option Blk} {e:Eff} (hsem:zCr P o ρ (zHr F hp) e) (he:EffFact F o.dst e)
  (hρ:∀ x,ρ x=.dead\/ρ x=ρ' x) (hH:∀ b∈F,hp' b=hp b) (hcl:∀ b∈F,∀ B,hp b=some B->inO (zFg B) F=true):
  ∀ (own:Nat->Prop) (M:Mem) (ι:Inj) (a:Act) (w:World),(∀ c,w.heap.size<=c->own c)->zBj M w->HRel own M ι hp' w->(∀ x,DenA M ι (ρ' x) (a.eval x))->
  o.wp P a w (fun a' w'=>∃ v,a'=a.put o.dst v/\ ∃ (M':Mem) (ι':Inj),zBu own w w'/\Sub M M'/\zBj M' w'/\zCq own M M'/\HRel own M' ι' (e.hp hp') w'/\ (∀ b,Kp e.kl b->ι' b=ι b) /\ (o.dst≠none->DenA M' ι' e.av v)) (fun _ _ _=>False):=by
 intro own M ι a w hown ha hh hden
 let ι0:Inj:=fun b=>if b∈F then ι b else none
 let own0:Nat->Prop:=fun c=>own c/\ ∀ b L,b∉F->ι b=some (some L)->L.blk≠c
 have hr0:∀ b∈F,zHr F hp b=hp' b:=fun b hb=>by unfold zHr;rw [zEn.2 hb,cond_true,hH b hb]
 have hrn:∀ b,b∉F->zHr F hp b=none:=fun b hb=>by
  unfold zHr
  cases hm:memN b F with
  |true=>exact absurd (zEn.1 hm) hb
  |false=>rfl
 have hi0:∀ b∈F,ι0 b=ι b:=fun b hb=>if_pos hb
 have hin:∀ b,b∉F->ι0 b=none:=fun b hb=>if_neg hb
 have hfew:∀ b,ι0 b=none\/ι0 b=ι b:=fun b=>by
  by_cases hb:b∈F
  ·exact .inr (hi0 b hb)
  ·exact .inl (hin b hb)
 have hh1:HRel own M ι0 (zHr F hp) w:=hh.fewer fun b=>by
  by_cases hb:b∈F
  ·exact .inr ⟨hr0 b hb,hi0 b hb⟩
  ·exact .inl ⟨hrn b hb,hin b hb⟩
 have hh0:HRel own0 M ι0 (zHr F hp) w:=by
  refine ⟨hh1.dom,hh1.virt,fun b B L hB hL=>⟨⟨(hh1.at_ b B L hB hL).1,fun b' L' hb' hL' e=>?_⟩,(hh1.at_ b B L hB hL).2⟩,hh1.inj⟩
  have hbF:b∈F:=Classical.byContradiction fun hb=>by rw [hin b hb] at hL;cases hL
  have:=hh.inj b' b L' L hL' (hi0 b hbF▸hL) e;exact hb' (this▸hbF)
 have hown0:∀ c,w.heap.size<=c->own0 c:=fun c hc=>⟨hown c hc,fun b L _ hL e=>by have:=hh.lt hL;omega⟩
 have hden0:∀ x,DenA M ι0 (ρ x) (a.eval x):=fun x=>by
  rcases hρ x with e|e
  ·rw [e];exact .dead _
  ·rw [e];exact (hden x).fewer hfew
 refine Oper.wp_monoQ (fun a' w' hq=>?_) (fun _ _ _ h=>h) (hsem own0 M ι0 a w hown0 ha hh0 hden0);obtain ⟨v,rfl,M',ι1,f1,s1,a1,n1,g1,k1,d1⟩:=hq;refine ⟨v,rfl,?_⟩
 let S:Nat->Prop:=fun b=>b∈F\/e.kl=some b
 let ι':Inj:=fun b=>if S b then ι1 b else ι b
 have hSi:∀ b,S b->ι' b=ι1 b:=fun b hb=>if_pos hb
 have hSn:∀ b,¬S b->ι' b=ι b:=fun b hb=>if_neg hb
 have hkeep:∀ b,Kp e.kl b->ι' b=ι b:=fun b hb=>by
  by_cases hF:b∈F
  ·rw [hSi b (.inl hF),k1 b hb,hi0 b hF]
  ·exact hSn b fun h=>h.elim hF fun h=>by rw [h] at hb;exact zTg hb rfl
 have hSin:∀ b,b∈F++effW e->S b:=fun b hb=>by
  rcases List.mem_append.1 hb with h|h
  ·exact .inl h
  ·rcases zIb.1 h with h|h
   ·exact .inr h
   ·exact he.wr b h
 have hnames:∀ {o:Option (List Nat)},inO o (F++effW e)=true->∀ b,¬S b->b∉F++effW e:=fun _ b hb hm=>hb (hSin b hm)
 have hpS:∀ b,S b->e.hp hp' b=e.hp (zHr F hp) b:=fun b hb=>by
  rw [eff_hp_get,eff_hp_get]
  cases hw:zFm e.wr b with
  |some B=>rfl
  |none=>
   rcases hb with hb|hb
   ·rw [hr0 b hb]
   ·exact absurd (he.kl b hb) (wrGet_none.1 hw)
 have hpN:∀ b,¬S b->e.hp hp' b=zEk e.kl (hp' b):=fun b hb=>by
  rw [eff_hp_get]
  have:zFm e.wr b=none:=wrGet_none.2 fun hm=>hb (he.wr b hm)
  rw [this]
 have hboxS:∀ b B,S b->e.hp (zHr F hp) b=some B->∀ b',¬S b'->∀ c fr,B=.box c fr->∀ x∈c,Free b' x:=by
  intro b B hb hB b' hb';rw [eff_hp_get] at hB
  cases hw:zFm e.wr b with
  |some B0=>
   rw [hw] at hB;simp only [Option.some.injEq] at hB;subst hB
   exact zNx (he.blk b B0 hw) b' fun hm=>hb' (hSin b' hm)
  |none=>
   rw [hw] at hB
   have hbF:b∈F:=hb.elim id fun h=>absurd (he.kl b h) (wrGet_none.1 hw)
   rw [hr0 b hbF] at hB;simp only at hB;intro c fr e1 x hx
   cases hx2:hp' b with
   |none=>rw [hx2] at hB;unfold zEk at hB;split at hB<;>cases hB
   |some B0=>
    have hB0:=hcl b hbF B0 (by rw [<-hH b hbF];exact hx2)
    have hF':b'∉F:=fun hm=>hb' (.inl hm)
    rw [hx2] at hB;unfold zEk at hB
    split at hB
    ·simp only [Option.some.injEq] at hB;subst hB;exact zNx hB0 b' hF' c fr e1 x hx
    ·rename_i k hk;simp only [Option.map_some,Option.some.injEq] at hB;subst hB
     cases B0 with
     |row l sz fr=>cases e1
     |box c0 fr0=>
      simp only [zBl,Blk.box.injEq] at e1;obtain ⟨rfl,rfl⟩:=e1;obtain ⟨i,hi⟩:=List.getElem?_of_mem hx;rw [zDw] at hi
      cases hc0:c0[i]? with
      |none=>rw [hc0] at hi;cases hi
      |some y=>
       rw [hc0] at hi;simp only [Option.map_some,Option.some.injEq] at hi;subst hi
       rcases z9n k y with e2|e2
       ·rw [e2];exact zNx hB0 b' hF' c0 fr0 rfl y (List.mem_of_getElem? hc0)
       ·rw [e2];exact .dead
 have hkey:∀ b B L,e.hp hp' b=some B->ι' b=some (some L)->own L.blk/\zEp M' ι' w' B L/\ (S b->own0 L.blk) /\ (¬S b->¬own0 L.blk):=by
  intro b B L hB hL
  by_cases hb:S b
  ·rw [hpS b hb] at hB;rw [hSi b hb] at hL;obtain ⟨q1,q2⟩:=g1.at_ b B L hB hL;exact ⟨q1.1,q2.turnS hSi fun b' hb'=>hboxS b B hb hB b' hb',fun _=>q1,fun h=>absurd hb h⟩
  ·rw [hpN b hb] at hB;rw [hSn b hb] at hL
   have hno:¬own0 L.blk:=fun h=>h.2 b L (fun hm=>hb (.inl hm)) hL rfl
   cases hx2:hp' b with
   |none=>rw [hx2] at hB;unfold zEk at hB;split at hB<;>cases hB
   |some B0=>
    obtain ⟨q1,q2⟩:=hh.at_ b B0 L hx2 hL
    have q3:zEp M' ι w' B0 L:=q2.keep s1 (f1.block _ hno) fun hfr o=>by
     cases hv:M' L.blk o with
     |none=>rfl
     |some u=>
      rcases n1 _ _ _ hv with h|h
      ·rw [hh.closed hL B0 hx2 hfr o] at h;cases h
      ·exact absurd h hno
    refine ⟨q1,?_,fun h=>absurd h hb,fun _=>hno⟩;rw [hx2] at hB;unfold zEk at hB
    split at hB
    ·rename_i hk;simp only [Option.some.injEq] at hB;subst hB
     have:ι'=ι:=funext fun b=>hkeep b (by rw [hk];trivial)
     rw [this];exact q3
    ·rename_i k hk;simp only [Option.map_some,Option.some.injEq] at hB;subst hB
     exact q3.kill fun b' hb'=>hkeep b' (by rw [hk];exact hb')
 refine ⟨M',ι',⟨f1.os,f1.tape,f1.output,f1.size,fun c hc=>f1.block c fun h=>hc h.1⟩,s1,a1,fun b o v hv=>orR (n1 b o v hv) fun h=>h.1,⟨fun b=>?_,fun b hv=>?_,fun b B L hB hL=>⟨(hkey b B L hB hL).1,(hkey b B L hB hL).2.1⟩,fun b b' L L' hL hL' heq=>?_⟩,hkeep,fun hd=>?_⟩
 ·by_cases hb:S b
  ·rw [hpS b hb,hSi b hb];exact g1.dom b
  ·rw [hpN b hb,hSn b hb,<-hh.dom b];unfold zEk
   split
   ·rfl
   ·cases hp' b<;>simp
 ·by_cases hb:S b
  ·rw [hSi b hb] at hv
   rw [hpS b hb];exact g1.virt b hv
  ·rw [hSn b hb] at hv;obtain ⟨sz,fr,e0⟩:=hh.virt b hv;rw [hpN b hb,e0];refine ⟨sz,fr,?_⟩;unfold zEk
   split<;>rfl
 ·have get:∀ b L,ι' b=some (some L)->∃ B,e.hp hp' b=some B:=fun b L hL=>by
   cases hx:e.hp hp' b with
   |some B=>exact ⟨B,rfl⟩
   |none=>
    exfalso
    by_cases hb:S b
    ·rw [hpS b hb] at hx
     rw [hSi b hb,(g1.dom b).1 hx] at hL;cases hL
    ·rw [hpN b hb] at hx;rw [hSn b hb] at hL
     have:hp' b=none:=by
      unfold zEk at hx
      split at hx
      ·exact hx
      ·cases hq:hp' b<;>simp_all
     rw [(hh.dom b).1 this] at hL;cases hL
  obtain ⟨B,hB⟩:=get b L hL;obtain ⟨B',hB'⟩:=get b' L' hL';have q:=(hkey b B L hB hL).2.2;have q':=(hkey b' B' L' hB' hL').2.2
  by_cases hb:S b
  ·by_cases hb':S b'
   ·rw [hSi b hb] at hL;rw [hSi b' hb'] at hL';exact g1.inj b b' L L' hL hL' heq
   ·exact absurd (heq▸q.1 hb) (q'.2 hb')
  ·by_cases hb':S b'
   ·exact absurd (heq▸q'.1 hb') (q.2 hb)
   ·rw [hSn b hb] at hL;rw [hSn b' hb'] at hL';exact hh.inj b b' L L' hL hL' heq
 ·cases hdst:o.dst with
  |none=>exact absurd hdst hd
  |some d=>
   rcases he.av d hdst with e1|e1
   ·rw [e1];exact .dead _
   ·exact d1.turnS hSi fun b hb=>yGs e1 b fun hm=>hb (hSin b hm)
structure DOp where
 o:Oper
 act:Bool
 e:Eff
 s:Summ
def DOp.app (x:DOp) (st:zAo):zAo:=⟨putT (zRt x.e.kl st.tm) x.o.dst x.e.av,x.e.hp st.hp⟩
def GSay (av:AV) (want act:Bool):Prop:=(∃ b,(av=.d (.bool b) \/ (av=.tt/\b=true) \/ (av=.ff/\b=false)) /\act=(b==want)) \/ (av=.tup [] /\act=false)
structure zIg (P:Program) (ops:Array Oper) (x:DOp) (st:zAo):Prop where
 dst:x.s.dst=x.o.dst
 W:x.s.W=effW x.e
 foot:x.s.wd=false->∀ t∈x.s.rd,inO (zAv (st.tm t)) x.s.F=true
 footh:x.s.wd=false->x.s.bl=false->∀ b∈x.s.F,∀ B,st.hp b=some B->inO (zFg B) x.s.F=true
 ks:x.s.k=klOf x.e
 eff:x.s.wd=false->EffFact x.s.F x.o.dst x.e
 kl:∀ k,x.e.kl=some k->¬(1000000<=k/\k<1000004)
 guard:match x.o.guard with
  |none=>x.act=true
  |some (g,want)=>∃ t,(ops[g]?).bind (·.dst)=some t/\t∈x.s.rd/\GSay (st.tm t) want x.act
 sem:x.act=true->∃ rd,(∀ t∈rd,t∈x.s.rd) /\ (x.s.wd=false->x.s.bl=false->zCr P x.o (evT (zHs rd st.tm)) (zHr x.s.F st.hp) x.e) /\ (x.s.wd=false->x.s.bl=true->∀ hp,zCr P x.o (evT (zHs rd st.tm)) hp x.e) /\ (x.s.wd=true->zCr P x.o (evT (zHs rd st.tm)) st.hp x.e)
 off:x.act=false->x.e=⟨.tup [],[],none⟩
structure Off (y x:DOp):Prop where
 nw:x.s.wd=false
 dst:∀ d,y.o.dst=some d->d∉x.s.rd
 W:x.s.bl=false->∀ b∈effW y.e,b∉x.s.F
 K:∀ k,y.e.kl=some k->k∉x.s.F
 kl:∀ k,y.e.kl=some k->k∈zEt y.e.wr
 lt:∀ k,y.e.kl=some k->Solo k
theorem zYi (x:DOp) (st:zAo) (t:Nat):(x.app st).tm t=if x.o.dst=some t then x.e.av else zYd x.e.kl (st.tm t):=by
 show putT (zRt x.e.kl st.tm) x.o.dst x.e.av t=_
 cases hd:x.o.dst with
 |none=>simp [putT,yDj]
 |some d=>
  simp only [putT,Option.some.injEq]
  by_cases e:t=d
  ·subst e;rw [upd_same,if_pos rfl]
  ·rw [zAl _ _ e,if_neg fun h=>e h.symm,yDj]
theorem zYh (x:DOp) (st:zAo) (b:Nat):(x.app st).hp b=match zFm x.e.wr b with|some B=>some B|none=>zEk x.e.kl (st.hp b):=eff_hp_get x.e st.hp b
theorem zRr {k:Option Nat} {x:AV} {F:List Nat} (h:inO (zAv x) F=true) (hl:∀ b,k=some b->Solo b) (hk:∀ b,k=some b->b∉F):zYd k x=x:=by
 cases k with
 |none=>rfl
 |some k=>
  obtain ⟨ns,e,hn⟩:=zNy h
  exact zZh (hl k rfl) e fun hm=>hk k rfl (hn k hm)
theorem zRs {k:Option Nat} {o:Option Blk} {F:List Nat} (h:∀ B,o=some B->inO (zFg B) F=true) (hl:∀ b,k=some b->Solo b) (hk:∀ b,k=some b->b∉F):zEk k o=o:=by
 cases k with
 |none=>rfl
 |some k=>
  cases o with
  |none=>rfl
  |some B=>
   obtain ⟨ns,e,hn⟩:=zNy (h B rfl);simp only [zEk,Option.map_some,yHa (hl k rfl) e fun hm=>hk k rfl (hn k hm)]
theorem yVf {y x:DOp} {st:zAo} (ho:Off y x) (hf:∀ t∈x.s.rd,inO (zAv (st.tm t)) x.s.F=true) (hh:x.s.bl=false->∀ b∈x.s.F,∀ B,st.hp b=some B->inO (zFg B) x.s.F=true):
  (∀ t∈x.s.rd,(y.app st).tm t=st.tm t) /\ (x.s.bl=false->∀ b∈x.s.F,(y.app st).hp b=st.hp b):=by
 refine ⟨fun t ht=>?_,fun hbl b hb=>?_⟩
 ·rw [zYi,if_neg fun h=>ho.dst t h ht];exact zRr (hf t ht) ho.lt ho.K
 ·rw [zYh,wrGet_none.2 fun hm=>ho.W hbl b (zIb.2 (.inr hm)) hb];exact zRs (hh hbl b hb) ho.lt ho.K
theorem yVe {y x:DOp} {st:zAo} (ho:Off y x) (hf:∀ t∈x.s.rd,inO (zAv ((y.app st).tm t)) x.s.F=true) (hh:x.s.bl=false->∀ b∈x.s.F,∀ B,(y.app st).hp b=some B->inO (zFg B) x.s.F=true):
  (∀ t∈x.s.rd,(y.app st).tm t=st.tm t) /\ (x.s.bl=false->∀ b∈x.s.F,(y.app st).hp b=st.hp b):=by
 refine ⟨fun t ht=>?_,fun hbl b hb=>?_⟩
 ·have h1:=hf t ht;rw [zYi,if_neg fun h=>ho.dst t h ht] at h1⊢;obtain ⟨ns,e,_⟩:=zNy h1
  cases hk:y.e.kl with
  |none=>rfl
  |some k=>
   rw [hk] at e;exact zVx (by show zAv (zYd (some k) (st.tm t))≠none;rw [e];simp)
 ·have h1:=hh hbl b hb;rw [zYh,wrGet_none.2 fun hm=>ho.W hbl b (zIb.2 (.inr hm)) hb] at h1⊢;simp only at h1⊢
  cases hk:y.e.kl with
  |none=>rfl
  |some k=>
   cases hx:st.hp b with
   |none=>rfl
   |some B=>
    rw [hk,hx] at h1;obtain ⟨ns,e,_⟩:=zNy (h1 _ rfl);simp only [zEk,Option.map_some];rw [z9m (by rw [e];simp)]
theorem zIg.turn {P:Program} {ops:Array Oper} {x:DOp} {st st':zAo} (h:zIg P ops x st) (hw:x.s.wd=false) (ht:∀ t∈x.s.rd,st'.tm t=st.tm t) (hb:x.s.bl=false->∀ b∈x.s.F,st'.hp b=st.hp b):zIg P ops x st':=by
 refine ⟨h.dst,h.W,fun _ t m=>by rw [ht t m];exact h.foot hw t m,fun _ hbl b m B hB=>h.footh hw hbl b m B (by rw [<-hb hbl b m];exact hB),h.ks,h.eff,h.kl,?_,fun ha=>?_,h.off⟩
 ·have hg:=h.guard
  split at hg
  ·exact hg
  ·rename_i g want e;obtain ⟨t,h1,h2,h3⟩:=hg;exact ⟨t,h1,h2,by rw [ht t h2];exact h3⟩
 ·obtain ⟨rd,h1,h2,h3,_⟩:=h.sem ha
  have e1:zHs rd st'.tm=zHs rd st.tm:=by
   funext t
   unfold zHs
   cases hm:memN t rd with
   |true=>simp only [cond_true];exact ht t (h1 t (zEn.1 hm))
   |false=>rfl
  refine ⟨rd,h1,fun _ hbl=>?_,fun _ hbl=>by rw [e1];exact h3 hw hbl,fun h'=>by rw [hw] at h';cases h'⟩
  have e2:zHr x.s.F st'.hp=zHr x.s.F st.hp:=by
   funext b
   unfold zHr
   cases hm:memN b x.s.F with
   |true=>simp only [cond_true];exact hb hbl b (zEn.1 hm)
   |false=>rfl
  rw [e1,e2];exact h2 hw hbl
theorem zIg.fwd {P:Program} {ops:Array Oper} {x y:DOp} {st:zAo} (h:zIg P ops x st) (ho:Off y x):zIg P ops x (y.app st):=
 let ⟨a,b⟩:=yVf ho (h.foot ho.nw) (h.footh ho.nw)
 h.turn ho.nw a b
theorem zIg.bwd {P:Program} {ops:Array Oper} {x y:DOp} {st:zAo} (h:zIg P ops x (y.app st)) (ho:Off y x):zIg P ops x st:=
 let ⟨a,b⟩:=yVe ho (h.foot ho.nw) (h.footh ho.nw)
 h.turn ho.nw (fun t m=>(a t m).symm) fun hbl c m=>(b hbl c m).symm
structure Ind (x y:DOp):Prop where
 xy:Off x y
 yx:Off y x
 dst:∀ d,x.o.dst=some d->y.o.dst≠some d
 W:∀ b∈effW x.e,b∉effW y.e
structure Own (x:DOp):Prop where
 dst:x.s.dst=x.o.dst
 W:x.s.W=effW x.e
 ks:x.s.k=klOf x.e
 eff:x.s.wd=false->EffFact x.s.F x.o.dst x.e
theorem yQq {e:Eff} {k:Nat}:k∈klOf e↔e.kl=some k:=by
 unfold klOf
 cases e.kl with
 |none=>simp
 |some k=>simp [eq_comm]
theorem yWp {x y:DOp} (hx:Own x) (hy:Own y) (h:yGu x.s y.s=true):Ind x y:=by
 simp only [yGu,Bool.and_eq_true,Bool.not_eq_true'] at h;obtain ⟨⟨wx,wy⟩,⟨⟨⟨⟨h1,h2⟩,h3⟩,h4⟩,h5⟩,h6⟩:=h;have hex:=hx.eff wx;have hey:=hy.eff wy
 have nin:∀ (d:Option Tmp) (l:List Nat),yRc d l=true->∀ t,d=some t->t∉l:=by
  intro d l h t ht hm;subst ht;simp only [yRc,Bool.not_eq_true'] at h
  rw [zEn.2 hm] at h;cases h
 have off:∀ {x y:DOp},Own x->disN (bif y.s.bl then x.s.k else x.s.W) y.s.F=true->(y.s.bl=false->∀ b∈effW x.e,b∉y.s.F) /\ ∀ k,x.e.kl=some k->k∉y.s.F:=by
  intro x y hx h
  cases hb:y.s.bl with
  |true=>
   simp only [hb,cond_true] at h;exact ⟨fun h'=>(by cases h'),fun k hk=>zOy h k (by rw [hx.ks];exact yQq.2 hk)⟩
  |false=>
   simp only [hb,cond_false] at h;exact ⟨fun _ b hb=>zOy h b (by rw [hx.W];exact hb),fun k hk=>zOy h k (by rw [hx.W];exact zIb.2 (.inl hk))⟩
 obtain ⟨a1,a2⟩:=off hx h5;obtain ⟨b1,b2⟩:=off hy h6
 refine ⟨⟨wy,fun d hd=>nin _ _ h1 d (by rw [hx.dst];exact hd),a1,a2,hex.kl,hex.lt⟩,
  ⟨wx,fun d hd=>nin _ _ h3 d (by rw [hy.dst];exact hd),b1,b2,hey.kl,hey.lt⟩,fun d hd hd'=>?_,fun b hb hm=>zOy h4 b (by rw [hx.W];exact hb) (by rw [hy.W];exact hm)⟩
 rw [hx.dst,hy.dst,hd,hd'] at h2;simp [notEq] at h2
theorem yGz (a b:Option Nat) (x:AV):zYd a (zYd b x)=zYd b (zYd a x):=by
 cases a<;>cases b<;>first|rfl|exact zZg _ _ _
theorem yHb (a b:Option Nat) (x:Option Blk):zEk a (zEk b x)=zEk b (zEk a x):=by
 cases a<;>cases b<;>first|rfl|(cases x<;>simp [zEk,yH])
theorem z0r {x y:DOp} (hx:Own x) (hy:Own y) (h:Ind x y) (st:zAo):y.app (x.app st)=x.app (y.app st):=by
 have hex:=hx.eff h.yx.nw;have hey:=hy.eff h.xy.nw
 have kx:∀ b,x.e.kl=some b->b∉y.s.F++effW y.e:=fun b hb hm=>by
  have hb':=zIb.2 (.inl hb)
  rcases List.mem_append.1 hm with m|m
  ·exact h.xy.K b hb m
  ·exact h.W b hb' m
 have ky:∀ b,y.e.kl=some b->b∉x.s.F++effW x.e:=fun b hb hm=>by
  have hb':=zIb.2 (.inl hb)
  rcases List.mem_append.1 hm with m|m
  ·exact h.yx.K b hb m
  ·exact h.W b m hb'
 have avx:∀ d,x.o.dst=some d->zYd y.e.kl x.e.av=x.e.av:=fun d hd=>by
  rcases hex.av d hd with e|e
  ·rw [e];cases y.e.kl<;>rfl
  ·exact zRr e hey.lt ky
 have avy:∀ d,y.o.dst=some d->zYd x.e.kl y.e.av=y.e.av:=fun d hd=>by
  rcases hey.av d hd with e|e
  ·rw [e];cases x.e.kl<;>rfl
  ·exact zRr e hex.lt kx
 have e1:(y.app (x.app st)).tm=(x.app (y.app st)).tm:=by
  funext t
  rw [zYi,zYi,zYi,zYi]
  by_cases dx:x.o.dst=some t
  ·have dy:¬y.o.dst=some t:=h.dst t dx;rw [if_neg dy,if_pos dx,if_pos dx,avx t dx]
  ·by_cases dy:y.o.dst=some t
   ·rw [if_pos dy,if_neg dx,if_pos dy,avy t dy]
   ·rw [if_neg dy,if_neg dx,if_neg dx,if_neg dy,yGz]
 have e2:(y.app (x.app st)).hp=(x.app (y.app st)).hp:=by
  funext b
  rw [zYh,zYh,zYh,zYh]
  cases wx:zFm x.e.wr b with
  |some B=>
   have hbx:b∈zEt x.e.wr:=Classical.byContradiction fun hn=>by rw [wrGet_none.2 hn] at wx;cases wx
   have wy:zFm y.e.wr b=none:=wrGet_none.2 fun hm=>h.W b (zIb.2 (.inr hbx)) (zIb.2 (.inr hm))
   rw [wy];exact zRs (fun B' e=>by cases e;exact hex.blk b B wx) hey.lt ky
  |none=>
   cases wy:zFm y.e.wr b with
   |some B=>exact (zRs (fun B' e=>by cases e;exact hey.blk b B wy) hex.lt kx).symm
   |none=>exact yHb _ _ _
 cases hl:y.app (x.app st) with
 |mk a1 b1=>
  cases hr:x.app (y.app st) with
  |mk a2 b2=>
   rw [hl,hr] at e1 e2;simp only at e1 e2;rw [e1,e2]
def fold (l:List (DOp×Nat)) (st:zAo):zAo:=l.foldl (fun s p=>p.1.app s) st
theorem zGh (p:DOp×Nat) (l:List (DOp×Nat)) (st:zAo):fold (p::l) st=fold l (p.1.app st):=rfl
theorem zVj (a b:List (DOp×Nat)) (st:zAo):fold (a++b) st=fold b (fold a st):=by simp [fold]
theorem zPf {x:DOp}:∀ {l:List (DOp×Nat)},(∀ p∈l,∀ st,p.1.app (x.app st)=x.app (p.1.app st))->∀ st,fold l (x.app st)=x.app (fold l st)
 | [],_,st=>rfl
 |p::r,h,st=>by
  rw [zGh,zGh,h p (List.mem_cons_self ..)];exact zPf (fun q hq=>h q (List.mem_cons_of_mem _ hq)) _
theorem zZ:∀ {a b:List (DOp×Nat)},(∀ p∈a,∀ q∈b,∀ st,q.1.app (p.1.app st)=p.1.app (q.1.app st))->∀ st,fold b (fold a st)=fold a (fold b st)
 | [],b,_,st=>rfl
 |p::r,b,h,st=>by
  rw [zGh,zGh,zZ (fun p' hp=>h p' (List.mem_cons_of_mem _ hp)),zPf (x:=p.1) fun q hq=>h p (List.mem_cons_self ..) q hq]
theorem zYz {D:Nat->Bool}:∀ {l:List (DOp×Nat)},l.Pairwise (fun p q=>D p.2=false->D q.2=true->∀ st,q.1.app (p.1.app st)=p.1.app (q.1.app st))->∀ st,
  fold l st=fold (l.filter fun p=>!D p.2) (fold (l.filter fun p=>D p.2) st)
 | [],_,st=>rfl
 |p::r,h,st=>by
  rw [List.pairwise_cons] at h;rw [zGh,zYz h.2]
  cases hp:D p.2 with
  |true=>simp [List.filter_cons,hp,zGh]
  |false=>
   simp only [List.filter_cons,hp,Bool.not_false,if_true,zGh,Bool.false_eq_true,if_false];rw [zPf (x:=p.1) fun q hq=>h.1 q (List.mem_filter.1 hq).1 hp (by simpa using (List.mem_filter.1 hq).2)]
theorem z5e {P:Program} {ops:Array Oper} {x:DOp}:∀ {l:List (DOp×Nat)} {st:zAo},zIg P ops x st->(∀ p∈l,Off p.1 x)->zIg P ops x (fold l st)
 | [],st,h,_=>h
 |p::r,st,h,ho=>z5e (l:=r) (h.fwd (ho p (List.mem_cons_self ..))) fun q hq=>ho q (List.mem_cons_of_mem _ hq)
theorem zVg {P:Program} {ops:Array Oper} {x:DOp}:∀ {l:List (DOp×Nat)} {st:zAo},zIg P ops x (fold l st)->(∀ p∈l,Off p.1 x)->zIg P ops x st
 | [],st,h,_=>h
 |p::r,st,h,ho=>(zVg (l:=r) (st:=p.1.app st) h fun q hq=>ho q (List.mem_cons_of_mem _ hq)).bwd (ho p (List.mem_cons_self ..))
theorem zWo {s:Summ} {p:Nat}:∀ {l:List Summ} {m:Nat},z2b s p m l=true->∀ (i:Nat) (x:Summ),l[i]?=some x->Nat.testBit p (m+i)=true\/yGu x s=true
 | [],m,_,i,x,h=>by simp at h
 |y::r,m,h,i,x,hx=>by
  simp only [z2b] at h
  cases hb:(Nat.testBit p m||yGu y s) with
  |false=>simp [hb] at h
  |true=>
   simp only [hb,cond_true] at h
   cases i with
   |zero=>
    simp only [List.getElem?_cons_zero,Option.some.injEq] at hx;subst hx
    simpa using hb
   |succ i=>
    have:=zWo h i x (by simpa using hx)
    rwa [show m+1+i=m+(i+1) by omega] at this
theorem zIu {i:Nat}:∀ {l:List Edge},zYj i l=true->∀ e∈l,zOq e=true->e.on<i
 | [],_,e,he,_=>by cases he
 |y::r,h,e,he,hb=>by
  simp only [zYj] at h
  cases hy:zOq y with
  |false=>
   simp only [hy,cond_false] at h
   cases he with
   |head=>rw [hy] at hb;cases hb
   |tail _ he=>exact zIu h e he hb
  |true=>
   simp only [hy,cond_true] at h
   cases hlt:Nat.blt y.on i with
   |false=>simp [hlt] at h
   |true=>
    simp only [hlt,cond_true] at h
    cases he with
    |head=>exact Nat.le_of_ble_eq_true hlt
    |tail _ he=>exact zIu h e he hb
theorem zOd {pm:List Nat} {m:Nat}:∀ {l:List Edge},Nat.testBit (zIp pm l) m=true->∃ e∈l,zOq e=true/\ (m=e.on\/Nat.testBit (pm.getD e.on 0) m=true)
 | [],h=>by simp [zIp] at h
 |y::r,h=>by
  simp only [zIp] at h
  cases hy:zOq y with
  |false=>
   simp only [hy,cond_false] at h;obtain ⟨e,he,h1⟩:=zOd h;exact ⟨e,List.mem_cons_of_mem _ he,h1⟩
  |true=>
   simp only [hy,cond_true] at h;have h:(2^y.on|||pm.getD y.on 0|||zIp pm r).testBit m=true:=h;rw [Nat.testBit_or,Nat.testBit_or,Bool.or_eq_true,Bool.or_eq_true] at h
   rcases h with (h|h)|h
   ·refine ⟨y,List.mem_cons_self ..,hy,.inl ?_⟩;rw [Nat.testBit_two_pow] at h;exact (of_decide_eq_true h).symm
   ·exact ⟨y,List.mem_cons_self ..,hy,.inr h⟩
   ·obtain ⟨e,he,h1⟩:=zOd h;exact ⟨e,List.mem_cons_of_mem _ he,h1⟩
theorem zYq:∀ {r:List Oper} {q:List Summ} {i:Nat} {done:List Summ} {pm:List Nat},zJa r q i done pm=true->done.length=i->pm.length=i->
  ∃ Ps:List Nat,Ps.take i=pm/\q.length=r.length/\ ∀ (k:Nat) (o:Oper) (s:Summ),r[k]?=some o->q[k]?=some s->
   zYj (i+k) o.after.toList=true/\ (∀ m,Nat.testBit (Ps.getD (i+k) 0) m=true->∃ e∈o.after.toList,zOq e=true/\ (m=e.on\/Nat.testBit (Ps.getD e.on 0) m=true)) /\
   ∀ (m:Nat) (x:Summ),(done++q)[m]?=some x->m<i+k->Nat.testBit (Ps.getD (i+k) 0) m=true\/yGu x s=true
 | [],[],i,done,pm,_,_,hp=>⟨pm,by simp [<-hp],rfl,fun k o s h=>by simp at h⟩
 | [],_::_,_,_,_,h,_,_=>by simp [zJa] at h
 |_::_,[],_,_,_,h,_,_=>by simp [zJa] at h
 |o::r,s::q,i,done,pm,h,hd,hp=>by
  simp only [zJa,Bool.and_eq_true] at h;obtain ⟨⟨h1,h2⟩,h3⟩:=h;obtain ⟨Ps,e1,e2,e3⟩:=zYq h3 (by simp [hd]) (by simp [hp])
  have hPi:Ps[i]?=some (zIp pm o.after.toList):=by
   have:=congrArg (·[i]?) e1;simp only [List.getElem?_take,show i<i+1 by omega,if_true] at this;rw [this,List.getElem?_append_right (by omega)];simp [hp]
  have hPd:Ps.getD i 0=zIp pm o.after.toList:=by simp [List.getD_eq_getElem?_getD,hPi]
  have hPm:∀ j,j<i->Ps.getD j 0=pm.getD j 0:=by
   intro j hj;have:=congrArg (·[j]?) e1;simp only [List.getElem?_take,show j<i+1 by omega,if_true] at this;rw [List.getElem?_append_left (by omega)] at this;simp [List.getD_eq_getElem?_getD,this]
  refine ⟨Ps,?_,by simp [e2],fun k o' s' hk1 hk2=>?_⟩
  ·have:=congrArg (List.take i) e1;rw [List.take_take,Nat.min_eq_left (by omega)] at this;rw [this,List.take_append_of_le_length (by omega)];exact List.take_of_length_le (by omega)
  ·cases k with
   |zero=>
    simp only [List.getElem?_cons_zero,Option.some.injEq] at hk1 hk2;subst hk1 hk2;refine ⟨h1,fun m hm=>?_,fun m x hx hm=>?_⟩
    ·rw [Nat.add_zero,hPd] at hm;obtain ⟨e,he,hb,h⟩:=zOd hm;refine ⟨e,he,hb,orR h fun h=>?_⟩
     rw [hPm e.on (zIu h1 e he hb)];exact h
    ·rw [Nat.add_zero,hPd];rw [List.getElem?_append_left (by omega)] at hx
     simpa using zWo h2 m x hx
   |succ k=>
    obtain ⟨g1,g2,g3⟩:=e3 k o' s' (by simpa using hk1) (by simpa using hk2)
    have hik:i+1+k=i+(k+1):=by omega
    rw [hik] at g1 g2 g3;refine ⟨g1,g2,fun m x hx hm=>g3 m x ?_ hm⟩
    rw [List.append_assoc];exact hx
theorem zEy:∀ {l:List Nat} {K:List Nat->Prop},zLo l K->K l
 | [],_,h=>h
 |x::r,K,h=>zEy (l:=r) (K:=fun r=>K (x::r)) h
theorem zVk {tm:Nat->AV} {F:List Nat}:∀ {rd:List Nat},yGr tm rd F=true->∀ t∈rd,inO (zAv (tm t)) F=true
 | [],_,t,ht=>by cases ht
 |x::r,h,t,ht=>by
  simp only [yGr] at h
  cases hx:inO (zAv (tm x)) F with
  |false=>simp [hx] at h
  |true=>
   simp only [hx,cond_true] at h
   cases ht with
   |head=>exact hx
   |tail _ ht=>exact zVk h t ht
theorem zPg {hp:Nat->Option Blk} {F:List Nat}:∀ {G:List Nat},z9e hp F G=true->∀ b∈G,∀ B,hp b=some B->inO (zFg B) F=true
 | [],_,b,hb,_,_=>by cases hb
 |x::r,h,b,hb,B,hB=>by
  simp only [z9e] at h
  cases hx:hp x with
  |none=>
   simp only [hx] at h
   cases hb with
   |head=>rw [hx] at hB;cases hB
   |tail _ hb=>exact zPg h b hb B hB
  |some B0=>
   simp only [hx] at h
   cases hi:inO (zFg B0) F with
   |false=>simp [hi] at h
   |true=>
    simp only [hi,cond_true] at h
    cases hb with
    |head=>rw [hx] at hB;cases hB;exact hi
    |tail _ hb=>exact zPg h b hb B hB
section
variable {P:Program} {T:Tab} (hT:zFo P T)
include hT
omit hT in
theorem yHy {g:Bool} {o:Oper} {ρ:Operand->AV} {F:List Nat} {e:Eff} {K:Eff->Prop} (h:zXj g e K) (hf:EffFact F o.dst e):
  ∃ e',K e'/\ (∀ hp,zCr P o ρ hp e->zCr P o ρ hp e') /\EffFact F o.dst e'/\effW e'=effW e/\klOf e'=klOf e:=by
 have turn:∀ (b:Bool) (av:AV),e.av=.d (.bool b)->zAv av=some []->(∀ (M:Mem) (ι:Inj),DenA M ι av (.bool b))->(∀ hp,zCr P o ρ hp e->zCr P o ρ hp ⟨av,e.wr,e.kl⟩) /\EffFact F o.dst ⟨av,e.wr,e.kl⟩:=by
  intro b av he hn hv;refine ⟨fun hp hs own M ι a w ho ha hh hρ=>Oper.wp_monoQ (fun a' w' hq=>?_) (fun _ _ _ h=>h) (hs own M ι a w ho ha hh hρ),⟨hf.kl,hf.lt,hf.wr,hf.blk,fun d hd=>.inr ?_⟩⟩
  ·obtain ⟨v,e1,M',ι',f1,s1,a1,n1,g1,k1,d1⟩:=hq;rw [he] at d1;have:=den_bool d1;subst this;exact ⟨_,e1,M',ι',f1,s1,a1,n1,g1,k1,hv M' ι'⟩
  ·show inO (zAv av) _=true
   rw [hn];rfl
 cases g with
 |false=>exact ⟨e,h,fun _ hs=>hs,hf,rfl,rfl⟩
 |true=>
  obtain ⟨av,wr,kl⟩:=e;simp only [zXj] at h
  split at h
  ·rename_i b
   rcases bcase_out h with ⟨rfl,h1⟩|⟨rfl,h1⟩
   ·obtain ⟨q1,q2⟩:=turn true .tt rfl rfl fun _ _=>.tt
    exact ⟨_,h1,q1,q2,rfl,rfl⟩
   ·obtain ⟨q1,q2⟩:=turn false .ff rfl rfl fun _ _=>.ff
    exact ⟨_,h1,q1,q2,rfl,rfl⟩
  ·exact ⟨_,h,fun _ hs=>hs,hf,rfl,rfl⟩
omit hT in
theorem yQf {v:AV} {K:AV->Prop} (h:v≠.dead) (k:K v):force v K:=by
 cases v<;>first|exact k|exact absurd rfl h
omit hT in
theorem yB {g:Bool} {o:Oper} {ρ:Operand->AV} {e:Eff} {K:Eff->Prop} (h:zXj g e K):
  ∃ e',K e'/\ (∀ hp,zCr P o ρ hp e->zCr P o ρ hp e') /\effW e'=effW e/\klOf e'=klOf e:=by
 have turn:∀ (b:Bool) (av:AV),e.av=.d (.bool b)->(∀ (M:Mem) (ι:Inj),DenA M ι av (.bool b))->(∀ hp,zCr P o ρ hp e->zCr P o ρ hp ⟨av,e.wr,e.kl⟩):=by
  intro b av he hv hp hs own M ι a w ho ha hh hρ;refine Oper.wp_monoQ (fun a' w' hq=>?_) (fun _ _ _ h=>h) (hs own M ι a w ho ha hh hρ);obtain ⟨v,e1,M',ι',f1,s1,a1,n1,g1,k1,d1⟩:=hq;rw [he] at d1;have:=den_bool d1;subst this;exact ⟨_,e1,M',ι',f1,s1,a1,n1,g1,k1,hv M' ι'⟩
 cases g with
 |false=>exact ⟨e,h,fun _ hs=>hs,rfl,rfl⟩
 |true=>
  obtain ⟨av,wr,kl⟩:=e;simp only [zXj] at h
  split at h
  ·rename_i b
   rcases bcase_out h with ⟨rfl,h1⟩|⟨rfl,h1⟩
   ·exact ⟨_,h1,turn true .tt rfl fun _ _=>.tt,rfl,rfl⟩
   ·exact ⟨_,h1,turn false .ff rfl fun _ _=>.ff,rfl,rfl⟩
  ·exact ⟨_,h,fun _ hs=>hs,rfl,rfl⟩
omit hT in
theorem footW_out {bl:Bool} {tm:Nat->AV} {hp:Nat->Option Blk} {rd:List Nat} {K:List Nat->Prop} {K2:Prop} (h:yWh bl tm hp rd K K2):
  K2\/ ∃ F,K F/\ (∀ t∈rd,inO (zAv (tm t)) F=true) /\ (bl=false->∀ b∈F,∀ B,hp b=some B->inO (zFg B) F=true):=by
 unfold yWh at h
 split at h
 ·have h:=zEy h
  cases hb:(yGr tm rd _&&(bif bl then true else z9e hp _ _)) with
  |false=>rw [hb] at h;exact .inl h
  |true=>
   rw [hb] at h;rw [Bool.and_eq_true] at hb;exact .inr ⟨_,h,zVk hb.1,fun e=>zPg (by have:=hb.2;rw [e] at this⊢;exact this)⟩
 ·exact .inl h
omit hT in
theorem yJd {o:Oper} {ρ:Operand->AV} {hp:Nat->Option Blk} {K:Eff->Prop} (hb:zNs o.op=true) (h:opG T P o ρ hp K):∃ e,K e/\ ∀ hp',opG T P o ρ hp' (fun e'=>e'=e):=by
 have one:∀ x:Operand,force (ρ x) (val K)->∃ e,K e/\force (ρ x) (val fun e'=>e'=e):=fun x h=>
  let q:=force_out h
  ⟨_,q.1,yQf q.2 rfl⟩
 cases ho:o.op with
 |move x=>
  simp only [opG,ho] at h⊢
  obtain ⟨e,h1,h2⟩:=one _ h;exact ⟨e,h1,fun _=>h2⟩
 |assign x=>
  simp only [opG,ho] at h⊢
  obtain ⟨e,h1,h2⟩:=one _ h;exact ⟨e,h1,fun _=>h2⟩
 |pick c a b=>
  simp only [opG,ho] at h⊢
  split at h
  ·obtain ⟨e,h1,h2⟩:=one _ h;exact ⟨e,h1,fun _=>h2⟩
  ·obtain ⟨e,h1,h2⟩:=one _ h;exact ⟨e,h1,fun _=>h2⟩
  ·rename_i c' _
   rcases bcase_out h with ⟨rfl,h'⟩|⟨rfl,h'⟩
   ·obtain ⟨e,h1,h2⟩:=one _ h';exact ⟨e,h1,fun _=>⟨h2⟩⟩
   ·obtain ⟨e,h1,h2⟩:=one _ h';exact ⟨e,h1,fun _=>⟨h2⟩⟩
  ·exact h.elim
 |_=>rw [ho] at hb;cases hb
theorem opD_out {ops:Array Oper} {o:Oper} {gb:Bool} {gs:List Nat} {tm:Nat->AV} {hp:Nat->Option Blk} {K:Eff->Summ->Prop} (h:opD T P o gb gs tm hp K) (hgs:∀ t∈gs,zAv (tm t)=some [])
  (hg:match o.guard with
  |none=>True
  |some (g,want)=>∃ t,(ops[g]?).bind (·.dst)=some t/\t∈gs/\GSay (tm t) want true):
  ∃ e s,K e s/\ ((∀ k,e.kl=some k->¬(1000000<=k/\k<1000004))->zIg P ops ⟨o,true,e,s⟩ ⟨tm,hp⟩):=by
 unfold opD at h;have h:=zEy h
 rcases footW_out h with h|⟨F,h,h1,h2⟩
 ·obtain ⟨e,h,hs⟩:=zPv hT h;have h:=zEy (zEy h);obtain ⟨e,h,hturn,hW,hks⟩:=yB (P:=P) (o:=o) (ρ:=evT (zHs (z3l (zWw o.op tm)) tm)) h;rw [<-hW] at h;refine ⟨e,_,h,fun hk=>⟨rfl,rfl,fun h=>(by cases h),fun h=>(by cases h),rfl,fun h=>(by cases h),hk,?_,fun _=>⟨z3l (zWw o.op tm),fun t ht=>List.mem_append_right _ ht,fun h=>(by cases h),fun h=>(by cases h),fun _=>hturn _ hs⟩,fun h=>by cases h⟩⟩
  split at hg
  ·rename_i e0
   show match o.guard with|none=>_|some (g,want)=>_
   rw [e0]
  ·rename_i g want e0;obtain ⟨t,q1,q2,q3⟩:=hg
   show match o.guard with|none=>_|some (g,want)=>_
   rw [e0];exact ⟨t,q1,List.mem_append_left _ q2,q3⟩
 have hsem:∃ e,(bif yQ F o.dst e then zLo (effW e) fun W=>zLo (gs++z3l (zWw o.op tm)) fun rg=>zXj gb e fun e'=>K e' ⟨o.dst,rg,F,W,zNs o.op,klOf e',false⟩ else False) /\
   (zNs o.op=false->zCr P o (evT (zHs (z3l (zWw o.op tm)) tm)) (zHr F hp) e) /\ (zNs o.op=true->∀ hp',zCr P o (evT (zHs (z3l (zWw o.op tm)) tm)) hp' e):=by
  cases hb:zNs o.op with
  |false=>
   obtain ⟨e,h,hs⟩:=zPv hT h;exact ⟨e,by rw [hb] at h;exact h,fun _=>hs,fun h=>by cases h⟩
  |true=>
   obtain ⟨e,h,hs⟩:=yJd hb h;refine ⟨e,by rw [hb] at h;exact h,(fun h=>by cases h),fun _ hp'=>?_⟩;obtain ⟨e',he,hs⟩:=zPv hT (hs hp')
   rw [<-he];exact hs
 obtain ⟨e,h,hsem,hsemb⟩:=hsem;obtain ⟨he,h⟩:=bif_one h;have h:=zEy (zEy h);obtain ⟨e,h,hturn,he,hW,hks⟩:=yHy h (yKg he);rw [<-hW] at h;refine ⟨e,_,h,fun hk=>⟨rfl,rfl,fun _ t ht=>?_,fun _ hb=>h2 hb,rfl,fun _=>he,hk,?_,fun _=>⟨z3l (zWw o.op tm),fun t ht=>List.mem_append_right _ ht,fun _ hb=>hturn _ (hsem hb),fun _ hb hp'=>hturn _ (hsemb hb hp'),fun h=>by cases h⟩,fun h=>by cases h⟩⟩
 ·rcases List.mem_append.1 ht with m|m
  ·show inO (zAv (tm t)) F=true
   rw [hgs t m];rfl
  ·exact h1 t m
 ·split at hg
  ·rename_i e0
   show match o.guard with|none=>_|some (g,want)=>_
   rw [e0]
  ·rename_i g want e0;obtain ⟨t,q1,q2,q3⟩:=hg
   show match o.guard with|none=>_|some (g,want)=>_
   rw [e0];exact ⟨t,q1,List.mem_append_left _ q2,q3⟩
omit hT in
def yIg (P:Program) (ops:Array Oper) (K:zAo->Prop) (l:List Oper) (tm:Nat->AV) (hp:Nat->Option Blk) (acc:List Summ):Prop:=
 ∃ xs:List DOp,xs.map (·.o)=l/\zJa ops.toList (acc++xs.map (·.s)) 0 [] []=true/\K (xs.foldl (fun s x=>x.app s) ⟨tm,hp⟩) /\
   ∀ (i:Nat) (x:DOp),xs[i]?=some x->zIg P ops x ((xs.take i).foldl (fun s x=>x.app s) ⟨tm,hp⟩)
theorem z3v {ops:Array Oper} {K:zAo->Prop}:∀ {l:List Oper} {tm:Nat->AV} {hp:Nat->Option Blk} {acc:List Summ},zUi T P ops l tm hp acc K->yIg P ops K l tm hp acc
 | [],tm,hp,acc,h=>by
  obtain ⟨h1,h2⟩:=zBh h;exact ⟨[],rfl,by simpa using h1,h2,fun i x h=>by simp at h⟩
 |o::rest,tm,hp,acc,h=>by
  have next:∀ (x:DOp),x.o=o->zIg P ops x ⟨tm,hp⟩->zUi T P ops rest (x.app ⟨tm,hp⟩).tm (x.app ⟨tm,hp⟩).hp (acc++[x.s]) K->
    yIg P ops K (o::rest) tm hp acc:=by
   intro x hx hf h;obtain ⟨xs,e1,e2,e3,e4⟩:=z3v h;refine ⟨x::xs,by simp [hx,e1],by simpa using e2,e3,fun i y hy=>?_⟩
   cases i with
   |zero=>
    simp only [List.getElem?_cons_zero,Option.some.injEq] at hy;subst hy;exact hf
   |succ i=>exact e4 i y (by simpa using hy)
  have take:∀ gs,(∀ t∈gs,zAv (tm t)=some [])->(match o.guard with
  |none=>True
  |some (g,want)=>∃ t,(ops[g]?).bind (·.dst)=some t/\t∈gs/\GSay (tm t) want true)->
    opD T P o (isG ops o.dst ops.toList) gs tm hp (fun e s=>step tm hp o.dst e fun st=>zUi T P ops rest st.tm st.hp (acc++[s]) K)->yIg P ops K (o::rest) tm hp acc:=by
   intro gs h1 h2 h;obtain ⟨e,s,h3,h4⟩:=opD_out hT h h1 h2;obtain ⟨h5,h6⟩:=zQl h3;exact next ⟨o,true,e,s⟩ rfl (h4 h5) h6
  have skip:∀ t,zAv (tm t)=some []->(match o.guard with
  |none=>False
  |some (g,want)=>(ops[g]?).bind (·.dst)=some t/\GSay (tm t) want false)->
    step tm hp o.dst ⟨.tup [],[],none⟩ (fun st=>zUi T P ops rest st.tm st.hp (acc++[⟨o.dst,[t],[],[],false,[],false⟩]) K)->yIg P ops K (o::rest) tm hp acc:=by
   intro t h1 h2 h;obtain ⟨h5,h6⟩:=zQl h;refine next ⟨o,false,⟨.tup [],[],none⟩,⟨o.dst,[t],[],[],false,[],false⟩⟩ rfl ⟨rfl,rfl,fun _ t' ht=>?_,fun _ _ b hb=>(by cases hb),rfl,fun _=>⟨fun k h=>(by cases h),fun k h=>(by cases h),fun b hb=>(by cases hb),fun c B h=>(by cases h),fun d _=>.inr rfl⟩,fun k h=>(by cases h),?_,fun h=>(by cases h),fun _=>rfl⟩ h6
   ·have:t'=t:=by simpa using ht
    subst this;show inO (zAv (tm t')) []=true
    rw [h1];rfl
   ·split at h2
    ·exact h2.elim
    ·rename_i g want e0;obtain ⟨q1,q3⟩:=h2
     show match o.guard with|none=>_|some (g,want)=>_
     rw [e0];exact ⟨t,q1,by simp,q3⟩
  rw [yG] at h;simp only [yYv,stD_eq] at h
  cases hg:o.guard with
  |none=>
   simp only [hg] at h;exact take [] (fun t ht=>by cases ht) (by rw [hg];trivial) h
  |some gw=>
   obtain ⟨g,want⟩:=gw;simp only [hg] at h take skip
   cases ht:(ops[g]?).bind (·.dst) with
   |none=>simp [ht] at h
   |some t=>
    simp only [ht] at h
    have go:∀ b,zAv (tm t)=some []->(tm t=.d (.bool b) \/ (tm t=.tt/\b=true) \/ (tm t=.ff/\b=false))->
      (if b=want then opD T P o (isG ops o.dst ops.toList) [t] tm hp (fun e s=>step tm hp o.dst e fun st=>zUi T P ops rest st.tm st.hp (acc++[s]) K) else step tm hp o.dst ⟨.tup [],[],none⟩ (fun st=>zUi T P ops rest st.tm st.hp (acc++[⟨o.dst,[t],[],[],false,[],false⟩]) K))->yIg P ops K (o::rest) tm hp acc:=by
     intro b hn hb h
     by_cases e:b=want
     ·rw [if_pos e] at h;exact take [t] (fun t' ht'=>by rw [List.mem_singleton.1 ht'];exact hn) ⟨t,ht,by simp,.inl ⟨b,hb,by simp [e]⟩⟩ h
     ·rw [if_neg e] at h;exact skip t hn ⟨ht,.inl ⟨b,hb,by simp [e]⟩⟩ h
    split at h
    ·rename_i hx;refine go true (by rw [hx];rfl) (.inr (.inl ⟨hx,rfl⟩)) ?_
     cases want
     ·simpa using h
     ·simpa using h
    ·rename_i hx;refine go false (by rw [hx];rfl) (.inr (.inr ⟨hx,rfl⟩)) ?_
     cases want
     ·simpa using h
     ·simpa using h
    ·rename_i b hx
     rcases bcase_out h with ⟨rfl,h1⟩|⟨rfl,h1⟩
     ·refine go true (by rw [hx];rfl) (.inl hx) ?_
      cases want
      ·simpa using h1
      ·simpa using h1
     ·refine go false (by rw [hx];rfl) (.inl hx) ?_
      cases want
      ·simpa using h1
      ·simpa using h1
    ·rename_i hx;exact skip t (by rw [hx];rfl) ⟨ht,.inr ⟨hx,rfl⟩⟩ h
    ·exact h.elim
end
theorem z4d (e:Edge):Region.binds .any e=zOq e:=by
 unfold Region.binds zOq
 split<;>simp_all<;>rfl
theorem yKv (l:List (DOp×Nat)) (st:zAo):fold l st=(l.map (·.1)).foldl (fun s x=>x.app s) st:=by
 simp [fold,List.foldl_map]
section
variable {own:Nat->Prop} {w0:World} {M0:Mem} {ι0:Inj} {N:Nat} {P:Program}
theorem ARel.drawn {st:zAo} {a:Act} {w:World} (h:ARel own w0 M0 ι0 N st a w) (n:Nat):ARel own w0 M0 ι0 N st a {w with drawn:=n}:=by
 obtain ⟨M,ι,h1,h2,h3,h4,h5,h6,h7,h8,h9⟩:=h;exact ⟨M,ι,h1,h2,h3,⟨h4.os,h4.tape,h4.output,h4.size,h4.block⟩,⟨h5.dom,h5.virt,h5.at_,h5.inj⟩,h6,h7,h8,h9⟩
theorem yRt {ops:Array Oper} {Q:Exit->Act->World->Prop} (hown:∀ c,w0.heap.size<=c->own c) {x:DOp} {st:zAo} {a:Act} {w:World} {j:Nat} {K:Act->World->Prop} (hj:ops[j]?=some x.o) (hf:zIg P ops x st) (hr:ARel own w0 M0 ι0 N st a w) (hd:z7s N x.o)
  (hK:∀ a' w',ARel own w0 M0 ι0 N (x.app st) a' w'->K a' w'):wpOp P ops Q j K a w:=by
 obtain ⟨M,ι,h1,h2,h3,h4,h5,h6,h7,h8,h9⟩:=hr
 have hw:Region.wanted x.o (yielded ops a.tmps)=x.act:=by
  have hg:=hf.guard;unfold Region.wanted
  split at hg
  ·rename_i e;rw [e,hg]
  ·rename_i g want e;rw [e];obtain ⟨t,q1,q2,⟨b,q3,q4⟩|⟨q3,q4⟩⟩:=hg
   ·have hv:a.tmps.getD t undef=.bool b:=by
     have hden:=h7 t
     rcases q3 with q|⟨q,rfl⟩|⟨q,rfl⟩
     ·exact den_bool (q▸hden)
     ·exact (zIz hden).1 q
     ·exact (zIz hden).2 q
    simp [zXu q1 hv,q4]
   ·simp [zTe q1 (den_undef (q3▸h7 t)),q4]
 unfold wpOp;rw [hj];simp only [hw]
 cases hact:x.act with
 |false=>
  simp only [Bool.false_eq_true,if_false];have he:=hf.off hact;refine hK _ _ ?_
  have:x.app st=⟨putT st.tm x.o.dst (.tup []),st.hp⟩:=by simp only [DOp.app,he];rfl
  rw [this];exact yEw ⟨M,ι,h1,h2,h3,h4,h5,h6,h7,h8,h9⟩ hd
 |true=>
  simp only [if_true]
  left
  obtain ⟨rd,hrd,hsem,hsemb,hsemw⟩:=hf.sem hact
  have hρ:∀ y,evT (zHs rd st.tm) y=.dead\/evT (zHs rd st.tm) y=evT st.tm y:=fun y=>by
   cases y with
   |tmp t=>
    simp only [evT,zHs]
    cases memN t rd with
    |true=>exact .inr rfl
    |false=>exact .inl rfl
   |_=>exact .inr rfl
  have hrun:x.o.wp P a w (fun a' w'=>∃ v,a'=a.put x.o.dst v/\ ∃ (M':Mem) (ι':Inj),zBu own w w'/\Sub M M'/\zBj M' w'/\zCq own M M'/\HRel own M' ι' (x.e.hp st.hp) w'/\ (∀ b,Kp x.e.kl b->ι' b=ι b) /\ (x.o.dst≠none->DenA M' ι' x.e.av v)) (fun _ _ _=>False):=by
   have ho:∀ c,w.heap.size<=c->own c:=fun c hc=>hown c (Nat.le_trans h4.size hc)
   have plain:zCr P x.o (evT (zHs rd st.tm)) st.hp x.e->x.o.wp P a w (fun a' w'=>∃ v,a'=a.put x.o.dst v/\ ∃ (M':Mem) (ι':Inj),zBu own w w'/\Sub M M'/\zBj M' w'/\zCq own M M'/\HRel own M' ι' (x.e.hp st.hp) w'/\ (∀ b,Kp x.e.kl b->ι' b=ι b) /\ (x.o.dst≠none->DenA M' ι' x.e.av v)) (fun _ _ _=>False):=by
    intro hs;refine Oper.wp_monoQ (fun a' w' hq=>?_) (fun _ _ _ h=>h.elim) (hs own M ι a w ho h2 h5 fun y=>?_)
    ·obtain ⟨v,e1,M',ι',f1,s1,a1,n1,g1,k1,d1⟩:=hq;exact ⟨v,e1,M',ι',f1,s1,a1,n1,g1,k1,fun _=>d1⟩
    ·rcases hρ y with e|e
     ·rw [e];exact .dead _
     ·rw [e];exact zVe h7 y
   cases hwd:x.s.wd with
   |true=>exact plain (hsemw hwd)
   |false=>
    cases hbl:x.s.bl with
    |false=>exact yAg (hsem hwd hbl) (hf.eff hwd) hρ (fun _ _=>rfl) (hf.footh hwd hbl) own M ι a w ho h2 h5 (zVe h7)
    |true=>exact plain (hsemb hwd hbl st.hp)
  refine Oper.wp_monoQ (fun a' w' hq=>?_) (fun _ _ _ h=>h.elim) hrun;obtain ⟨v,rfl,M',ι',f1,s1,a1,n1,g1,k1,d1⟩:=hq;refine hK _ _ ⟨M',ι',h1.trans s1,a1,h3.trans n1,h4.trans f1,g1,fun b hb hb'=>?_,?_,by rw [z2m,h8],by rw [put_def,h9]⟩
  ·rw [k1 b (yTf hf.kl hb hb')];exact h6 b hb hb'
  ·intro t;show DenA M' ι' (putT (zRt x.e.kl st.tm) x.o.dst x.e.av t) _
   cases hdst:x.o.dst with
   |none=>exact zLu s1 k1 (h7 t)
   |some d=>
    rw [<-hdst];exact put_den (by rw [h8];exact hd) (d1 (by rw [hdst];simp)) (fun t=>zLu s1 k1 (h7 t)) t
theorem z4r {α:Type} {p q:α->Bool}:∀ {l:List α} {x:α},(∀ y,q y=true->p y=true)->x∈l->p x=true->q x=false->l.countP q<l.countP p
 | [],x,_,hx,_,_=>by cases hx
 |y::r,x,h,hx,h1,h2=>by
  have hle:r.countP q<=r.countP p:=List.countP_mono_left fun z _=>h z
  cases hx with
  |head=>
   rw [List.countP_cons_of_pos h1,List.countP_cons_of_neg (by simp [h2])];omega
  |tail _ hx=>
   have:=z4r h hx h1 h2
   cases hq:q y with
   |true=>rw [List.countP_cons_of_pos (h y hq),List.countP_cons_of_pos hq];omega
   |false=>
    rw [List.countP_cons_of_neg (p:=q) (by simp [hq])]
    cases hp:p y with
    |true=>rw [List.countP_cons_of_pos hp];omega
    |false=>rw [List.countP_cons_of_neg (by simp [hp])];exact this
def Dn (listed:Array Bool) (i:Nat):Bool:=listed.getD i false
theorem z0x {listed:Array Bool} {i:Nat} (hi:i<listed.size):listed.getD i true=Dn listed i:=by simp [Dn,Array.getD,hi]
theorem zYp {listed:Array Bool} {i j:Nat} (hi:i<listed.size):Dn (listed.setIfInBounds i true) j=(decide (j=i)||Dn listed j):=by
 by_cases h:j=i
 ·subst h;simp [Dn,Array.getD,hi]
 ·have:=getD_set_ne (listed:=listed) (i:=i) (j:=j) false fun e=>h e.symm
  simp [Dn,this,h]
theorem yIt {ops:Array Oper} {Q:Exit->Act->World->Prop} (hown:∀ c,w0.heap.size<=c->own c) (hdst:∀ o∈ops,z7s N o) {xs:List DOp} {s0:zAo} (hxs:xs.map (·.o)=ops.toList) (hdraw:zJa ops.toList (xs.map (·.s)) 0 [] []=true)
  (hfact:∀ (i:Nat) (x:DOp),xs[i]?=some x->zIg P ops x ((xs.take i).foldl (fun s x=>x.app s) s0)) (hQ:∀ a w,ARel own w0 M0 ι0 N (xs.foldl (fun s x=>x.app s) s0) a w->Q .normal a w):
  ∀ (fuel:Nat) (listed:Array Bool) (a:Act) (w:World),listed.size=ops.size->(List.range ops.size).countP (fun i=>!Dn listed i) <=fuel->(∀ (k:Nat) (o:Oper),ops[k]?=some o->Dn listed k=true->∀ e∈o.after,Region.binds .any e=true->Dn listed e.on=true)->
   ARel own w0 M0 ι0 N (fold (xs.zipIdx.filter fun p=>Dn listed p.2) s0) a w->wpAny P .any ops Q fuel listed a w:=by
 obtain ⟨Ps,_,hlen,hpairs⟩:=zYq hdraw rfl rfl;simp only [Nat.zero_add,List.nil_append] at hpairs
 have hn:xs.length=ops.size:=by have:=congrArg List.length hxs;simpa using this
 have hop:∀ (k:Nat) (x:DOp),xs[k]?=some x->ops[k]?=some x.o:=fun k x hx=>by
  have:=congrArg (·[k]?) hxs;simp only [List.getElem?_map,hx,Option.map_some,Array.getElem?_toList] at this;exact this.symm
 have hsum:∀ (k:Nat) (x:DOp),xs[k]?=some x->(xs.map (·.s))[k]?=some x.s:=fun k x hx=>by simp [hx]
 have hown':∀ (k:Nat) (x:DOp),xs[k]?=some x->Own x:=fun k x hx=>let h:=hfact k x hx;⟨h.dst,h.W,h.ks,h.eff⟩
 have hmem:∀ p∈xs.zipIdx,xs[p.2]?=some p.1:=fun p hp=>by
  obtain ⟨i,hi⟩:=List.getElem?_of_mem hp;rw [List.getElem?_zipIdx] at hi
  cases hx:xs[i]? with
  |none=>rw [hx] at hi;cases hi
  |some y=>
   rw [hx] at hi;simp only [Option.map_some,Option.some.injEq,Nat.zero_add] at hi;subst hi;exact hx
 intro fuel
 have main:∀ (listed:Array Bool),listed.size=ops.size->(∀ (k:Nat) (o:Oper),ops[k]?=some o->Dn listed k=true->∀ e∈o.after,Region.binds .any e=true->Dn listed e.on=true)->
   ∀ (j:Nat) (x:DOp),xs[j]?=some x->Dn listed j=false->(∀ e∈x.o.after,Region.binds .any e=true->Dn listed e.on=true)->
    zIg P ops x (fold (xs.zipIdx.filter fun p=>Dn listed p.2) s0) /\fold (xs.zipIdx.filter fun p=>Dn (listed.setIfInBounds j true) p.2) s0=x.app (fold (xs.zipIdx.filter fun p=>Dn listed p.2) s0):=by
  intro listed hsz hcl j x hx hjn hready;have hj:j<xs.length:=(List.getElem?_eq_some_iff.1 hx).1
  have reach:∀ (m q:Nat) (o:Oper),ops[q]?=some o->(∀ e∈o.after,Region.binds .any e=true->Dn listed e.on=true)->Nat.testBit (Ps.getD q 0) m=true->Dn listed m=true:=by
   intro m q
   induction q using Nat.strongRecOn with
   |_ q ih=>
    intro o ho hp hb;have hq:q<ops.size:=(Array.getElem?_eq_some_iff.1 ho).1;obtain ⟨y,hy⟩:∃ y,xs[q]?=some y:=⟨xs[q]'(by omega),by simp⟩
    have hyo:y.o=o:=by have:=hop q y hy;rw [ho] at this;exact (Option.some.inj this).symm
    subst hyo;obtain ⟨g1,g2,_⟩:=hpairs q y.o y.s (by simpa using ho) (hsum q y hy);obtain ⟨e,he,hbe,h⟩:=g2 m hb;have hD:=hp e (by simpa using he) (by rw [z4d];exact hbe)
    rcases h with rfl|h
    ·exact hD
    ·have hlt:=zIu g1 e he hbe
     have ho':ops[e.on]?=some (ops[e.on]'(by omega)):=by simp
     exact ih e.on hlt _ ho' (hcl _ _ ho' hD) h
  have ind:∀ (m k:Nat) (y z:DOp),xs[m]?=some y->xs[k]?=some z->m<k->Dn listed m=false->(∀ e∈z.o.after,Region.binds .any e=true->Dn listed e.on=true)->Ind y z:=by
   intro m k y z hy hz hmk hm hp;obtain ⟨_,_,g3⟩:=hpairs k z.o z.s (by have:=hop k z hz;simpa using this) (hsum k z hz)
   rcases g3 m y.s (hsum m y hy) hmk with h|h
   ·rw [reach m k z.o (hop k z hz) hp h] at hm;cases hm
   ·exact yWp (hown' m y hy) (hown' k z hz) h
  have closedOf:∀ (k:Nat) (z:DOp),xs[k]?=some z->Dn listed k=true->∀ e∈z.o.after,Region.binds .any e=true->Dn listed e.on=true:=fun k z hz hk=>hcl k z.o (hop k z hz) hk
  let L:=xs.zipIdx
  let A:=L.take j
  let B:=L.drop (j+1)
  have hLj:L[j]?=some (x,j):=by
   show (xs.zipIdx)[j]?=_
   rw [List.getElem?_zipIdx,hx];simp
  have hL:L=A++(x,j)::B:=by
   have h1:L=L.take j++L.drop j:=(List.take_append_drop j L).symm
   have h2:L.drop j=(x,j)::L.drop (j+1):=by
    have hjl:=(List.getElem?_eq_some_iff.1 hLj).1;rw [List.drop_eq_getElem_cons hjl]
    congr 1
    have:=List.getElem?_eq_getElem hjl;rw [this] at hLj;exact Option.some.inj hLj
   rw [h2] at h1;exact h1
  have hA:∀ p∈A,p.2<j/\xs[p.2]?=some p.1:=fun p hp=>by
   obtain ⟨i,hi⟩:=List.getElem?_of_mem hp
   have:i<j:=by
    have:=(List.getElem?_eq_some_iff.1 hi).1
    have h2:A.length<=j:=by simp [A];omega
    omega
   rw [List.getElem?_take_of_lt this,List.getElem?_zipIdx] at hi
   cases hy:xs[i]? with
   |none=>rw [hy] at hi;cases hi
   |some y=>
    rw [hy] at hi;simp only [Option.map_some,Option.some.injEq,Nat.zero_add] at hi;subst hi;exact ⟨this,hy⟩
  have hB:∀ p∈B,j<p.2/\xs[p.2]?=some p.1:=fun p hp=>by
   obtain ⟨i,hi⟩:=List.getElem?_of_mem hp;rw [List.getElem?_drop,List.getElem?_zipIdx] at hi
   cases hy:xs[j+1+i]? with
   |none=>rw [hy] at hi;cases hi
   |some y=>
    rw [hy] at hi;simp only [Option.map_some,Option.some.injEq,Nat.zero_add] at hi;subst hi;exact ⟨by simp;omega,hy⟩
  have hS:fold (L.filter fun p=>Dn listed p.2) s0=fold (B.filter fun p=>Dn listed p.2) (fold (A.filter fun p=>Dn listed p.2) s0):=by
   rw [hL,List.filter_append,List.filter_cons,if_neg (by simp [hjn]),zVj]
  have hS':fold (L.filter fun p=>Dn (listed.setIfInBounds j true) p.2) s0=fold (B.filter fun p=>Dn listed p.2) (x.app (fold (A.filter fun p=>Dn listed p.2) s0)):=by
   have eA:A.filter (fun p=>Dn (listed.setIfInBounds j true) p.2)=A.filter fun p=>Dn listed p.2:=List.filter_congr fun p hp=>by
    rw [zYp (by omega)];simp [show p.2≠j by have:=(hA p hp).1;omega]
   have eB:B.filter (fun p=>Dn (listed.setIfInBounds j true) p.2)=B.filter fun p=>Dn listed p.2:=List.filter_congr fun p hp=>by
    rw [zYp (by omega)];simp [show p.2≠j by have:=(hB p hp).1;omega]
   rw [hL,List.filter_append,List.filter_cons,if_pos (by rw [zYp (by omega)];simp),zVj,eA,eB,zGh]
  have indB:∀ p∈B.filter (fun p=>Dn listed p.2),Ind x p.1:=fun p hp=>by
   obtain ⟨m1,m2⟩:=List.mem_filter.1 hp;obtain ⟨q1,q2⟩:=hB p m1;exact ind j p.2 x p.1 hx q2 q1 hjn (closedOf p.2 p.1 q2 m2)
  refine ⟨?_,?_⟩
  ·show zIg P ops x (fold (L.filter fun p=>Dn listed p.2) s0);rw [hS]
   have f0:zIg P ops x (fold A s0):=by
    have:=hfact j x hx;rw [yKv]
    have e:A.map (·.1)=xs.take j:=by
     show (xs.zipIdx.take j).map (·.1)=_;rw [List.map_take,List.zipIdx_map_fst]
    rw [e];exact this
   have f1:=z5e (l:=B.filter fun p=>Dn listed p.2) f0 fun p hp=>(indB p hp).yx
   have pw:A.Pairwise fun p q=>Dn listed p.2=false->Dn listed q.2=true->∀ st,q.1.app (p.1.app st)=p.1.app (q.1.app st):=by
    have key:L.Pairwise fun p q=>p.2<q.2:=by
     rw [List.pairwise_iff_getElem];intro i k hi hk hik;simp only [L,List.getElem_zipIdx];omega
    refine (key.sublist (List.take_sublist j L)).imp_of_mem fun {p q} hp hq hlt hp1 hq1 st=>?_
    have ip:=ind p.2 q.2 p.1 q.1 (hA p hp).2 (hA q hq).2 hlt hp1 (closedOf q.2 q.1 (hA q hq).2 hq1);exact z0r (hown' _ _ (hA p hp).2) (hown' _ _ (hA q hq).2) ip st
   rw [zYz (D:=Dn listed) pw,zZ] at f1
   ·exact zVg f1 fun p hp=>by
     obtain ⟨m1,m2⟩:=List.mem_filter.1 hp;exact (ind p.2 j p.1 x (hA p m1).2 hx (hA p m1).1 (by simpa using m2) hready).xy
   ·intro p hp q hq st;obtain ⟨m1,m2⟩:=List.mem_filter.1 hp;obtain ⟨m3,m4⟩:=List.mem_filter.1 hq;have ip:=ind p.2 q.2 p.1 q.1 (hA p m1).2 (hB q m3).2 (by have:=(hA p m1).1;have:=(hB q m3).1;omega) (by simpa using m2) (closedOf q.2 q.1 (hB q m3).2 m4);exact z0r (hown' _ _ (hA p m1).2) (hown' _ _ (hB q m3).2) ip st
  ·show fold (L.filter fun p=>Dn (listed.setIfInBounds j true) p.2) s0=x.app (fold (L.filter fun p=>Dn listed p.2) s0);rw [hS,hS'];refine zPf (fun p hp st=>?_) _;exact z0r (hown' j x hx) (hown' _ _ (hB p (List.mem_filter.1 hp).1).2) (indB p hp) st
 have stepOk:∀ (listed:Array Bool) (a:Act) (w:World) (K:Act->World->Prop),listed.size=ops.size->(∀ (k:Nat) (o:Oper),ops[k]?=some o->Dn listed k=true->∀ e∈o.after,Region.binds .any e=true->Dn listed e.on=true)->
   ARel own w0 M0 ι0 N (fold (xs.zipIdx.filter fun p=>Dn listed p.2) s0) a w->∀ j∈Region.ready .any ops listed,
   (∀ a' w',ARel own w0 M0 ι0 N (fold (xs.zipIdx.filter fun p=>Dn (listed.setIfInBounds j true) p.2) s0) a' w'->K a' w')->wpOp P ops Q j K a w:=by
  intro listed a w K hsz hcl hr j hj hK;obtain ⟨h1,o,ho,h2⟩:=mem_ready.1 hj;have hjl:j<ops.size:=(Array.getElem?_eq_some_iff.1 ho).1;rw [z0x (by omega)] at h1;obtain ⟨x,hx⟩:∃ x,xs[j]?=some x:=⟨xs[j]'(by omega),by simp⟩
  have hxo:x.o=o:=by have:=hop j x hx;rw [ho] at this;exact (Option.some.inj this).symm
  subst hxo;obtain ⟨q1,q2⟩:=main listed hsz hcl j x hx h1 h2
  exact yRt hown ho q1 hr (hdst x.o (Array.mem_of_getElem? ho)) fun a' w' hr'=>hK a' w' (by rw [q2];exact hr')
 have doneAll:∀ (listed:Array Bool) (a:Act) (w:World),listed.size=ops.size->ARel own w0 M0 ι0 N (fold (xs.zipIdx.filter fun p=>Dn listed p.2) s0) a w->Region.ready .any ops listed=[]->Q .normal a w:=by
  intro listed a w hsz hr hnil
  have all:∀ j,j<ops.size->Dn listed j=true:=by
   intro j
   induction j using Nat.strongRecOn with
   |_ j ih=>
    intro hj
    cases hd:Dn listed j with
    |true=>rfl
    |false=>
     exfalso
     have ho:ops[j]?=some (ops[j]):=by simp
     obtain ⟨x,hx⟩:∃ x,xs[j]?=some x:=⟨xs[j]'(by omega),by simp⟩;have hxo:=hop j x hx;obtain ⟨g1,_,_⟩:=hpairs j x.o x.s (by simpa using hxo) (hsum j x hx)
     have:j∈Region.ready .any ops listed:=mem_ready.2 ⟨by rw [z0x (by omega)];exact hd,x.o,hxo,fun e he hb=>by
      have hlt:=zIu g1 e (by simpa using he) (by rw [<-z4d];exact hb)
      exact ih e.on hlt (by omega)⟩
     rw [hnil] at this
     cases this
  refine hQ a w ?_
  have e:xs.zipIdx.filter (fun p=>Dn listed p.2)=xs.zipIdx:=List.filter_eq_self.2 fun p hp=>all p.2 (by
   have:=(List.getElem?_eq_some_iff.1 (hmem p hp)).1
   omega)
  rw [e,yKv,List.zipIdx_map_fst] at hr;exact hr
 induction fuel with
 |zero=>
  intro listed a w hsz hc hcl hr
  have hnil:Region.ready .any ops listed=[]:=by
   cases hr0:Region.ready .any ops listed with
   |nil=>rfl
   |cons j r=>
    exfalso
    have hj:j∈Region.ready .any ops listed:=by rw [hr0];exact List.mem_cons_self ..
    obtain ⟨h1,o,ho,_⟩:=mem_ready.1 hj;have hjl:j<ops.size:=(Array.getElem?_eq_some_iff.1 ho).1;rw [z0x (by omega)] at h1;have:0<(List.range ops.size).countP (fun i=>!Dn listed i):=List.countP_pos_iff.2 ⟨j,List.mem_range.2 hjl,by simp [h1]⟩;omega
  exact ⟨hnil,doneAll listed a w hsz hr hnil⟩
 |succ fuel ih=>
  intro listed a w hsz hc hcl hr;refine ⟨doneAll listed a w hsz hr,fun j hj=>stepOk listed a w _ hsz hcl hr j hj fun a' w' hr'=>?_⟩;obtain ⟨h1,o,ho,h2⟩:=mem_ready.1 hj;have hjl:j<ops.size:=(Array.getElem?_eq_some_iff.1 ho).1;rw [z0x (by omega)] at h1;refine ih _ a' w' (by simp [hsz]) ?_ ?_ hr'
  ·have:=z4r (p:=fun i=>!Dn listed i) (q:=fun i=>!Dn (listed.setIfInBounds j true) i) (l:=List.range ops.size) (x:=j)
    (fun y hy=>by simp only [zYp (show j<listed.size by omega),Bool.not_or,Bool.and_eq_true] at hy;exact hy.2) (List.mem_range.2 hjl) (by simp [h1]) (by simp [zYp (show j<listed.size by omega)])
   omega
  ·intro k o' ho' hk e he hb;rw [zYp (by omega)] at hk⊢;simp only [Bool.or_eq_true,decide_eq_true_eq] at hk⊢
   right
   rcases hk with rfl|hk
   ·rw [ho] at ho';cases ho';exact h2 e he hb
   ·exact hcl k o' ho' hk e he hb
theorem z7q {T:Tab} (hT:zFo P T) (hown:∀ c,w0.heap.size<=c->own c) {ops:Array Oper} {Q:Exit->Act->World->Prop} {K:zAo->Prop} (hQ:∀ st a w,K st->ARel own w0 M0 ι0 N st a w->Q .normal a w) (hd:∀ o∈ops,z7s N o) (hm:P.follows .mixedOrders=true) (id:Nat)
  {tm:Nat->AV} {hp:Nat->Option Blk} {a:Act} {w:World} (h:zUi T P ops ops.toList tm hp [] K) (hr:ARel own w0 M0 ι0 N ⟨tm,hp⟩ a w):(Code.region id ops true).wp P Q a w:=by
 obtain ⟨xs,e1,e2,e3,e4⟩:=z3v hT h;refine wp_region_any hm (yIt (s0:=⟨tm,hp⟩) hown hd e1 (by simpa using e2) e4 (fun a w hr=>hQ _ a w e3 hr) ops.size _ a _ (by simp) ?_ ?_ ?_)
 ·exact Nat.le_trans (List.countP_le_length) (by simp)
 ·intro k o _ hk;simp [Dn,Array.getD] at hk
 ·have:xs.zipIdx.filter (fun p=>Dn (Array.replicate ops.size false) p.2)=[]:=List.filter_eq_nil_iff.2 fun p _=>by
   simp [Dn,Array.getD]
  rw [this];exact hr.drawn _
end
end Go.Lk

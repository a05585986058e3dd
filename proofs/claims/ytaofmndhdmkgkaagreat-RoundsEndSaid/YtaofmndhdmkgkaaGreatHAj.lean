/-
  What is proved here: what functions of the program compute, and what follows; no condition beyond each theorem's own.
-/
import Derived.Test.YtaofmndhdmkgkaaGreatHAi
import Derived.LoopN
import Derived.Orders
set_option linter.unusedSimpArgs false
set_option linter.unusedVariables false
set_option linter.unnecessarySimpa false
set_option linter.unusedSectionVars false
namespace Go.Lk
open Go Go.RowKit
theorem ofConst_den (M:Mem) (ι:Inj) (v:Value):DenA M ι (ofConst v) v:=by
 have one:∀ v:Value,DenA M ι (ofConst.one v) v:=by
  intro v;unfold ofConst.one
  split
  ·exact .d _ _ (.int _ _)
  ·exact .tt
  ·exact .ff
  ·exact .d _ _ (.str _)
  ·exact .nil _
  ·exact .d _ _ .nilp
  ·exact .dead _
 have cells:∀ l:List Value,(ofConst.cells l).length=l.length/\ ∀ (i:Nat) (x:AV) (v:Value),(ofConst.cells l)[i]?=some x->l[i]?=some v->DenA M ι x v:=by
  intro l
  induction l with
  |nil=>exact ⟨rfl,fun i x v h=>by simp [ofConst.cells] at h⟩
  |cons y r ih=>
   refine ⟨by simp [ofConst.cells,ih.1],fun i x v h1 h2=>?_⟩
   cases i with
   |zero=>
    simp only [ofConst.cells,List.getElem?_cons_zero,Option.some.injEq] at h1 h2;subst h1 h2;exact one y
   |succ i=>exact ih.2 i x v (by simpa [ofConst.cells] using h1) (by simpa using h2)
 unfold ofConst
 split
 ·exact .d _ _ (.int _ _)
 ·exact .tt
 ·exact .ff
 ·exact .d _ _ (.str _)
 ·exact .nil _
 ·exact .d _ _ .nilp
 ·rename_i cs
  exact .agg _ _ (by simp [(cells cs.toList).1]) fun i x v h1 h2=>(cells cs.toList).2 i x v h1 (by simpa using h2)
 ·exact .dead _
theorem evT_den {M:Mem} {ι:Inj} {tm:Nat->AV} {a:Act} (h:∀ t,DenA M ι (tm t) (a.tmps.getD t undef)) (x:Operand):DenA M ι (evT tm x) (a.eval x):=by
 cases x with
 |tmp t=>exact h t
 |const v=>exact ofConst_den M ι v
 |global g=>exact .dead _
 |func f=>exact .d _ _ (.fn f [] #[] rfl fun i x v h=>by simp at h)
def Keeps (ι0 ι:Inj):Prop:=∀ b,1000000<=b->b<1000004->ι b=ι0 b
def ARel (own:Nat->Prop) (w0:World) (M0:Mem) (ι0:Inj) (N:Nat) (st:AState) (a:Act) (w:World):Prop:=
 ∃ (M:Mem) (ι:Inj),Sub M0 M/\Agree M w/\NewDom own M0 M/\FrameOwn own w0 w/\HRel own M ι st.hp w/\Keeps ι0 ι/\ (∀ t,DenA M ι (st.tm t) (a.tmps.getD t undef)) /\a.tmps.size=N/\a.defers=[]
theorem put_get {a:Act} {t:Tmp} {v:Value} (ht:t<a.tmps.size) (s:Tmp):((a.put (some t) v).tmps.getD s undef)=if s=t then v else a.tmps.getD s undef:=by
 simp only [Act.put,Array.getD_eq_getD_getElem?]
 by_cases h:s=t
 ·subst h
  rw [Array.getElem?_setIfInBounds_self_of_lt ht];simp
 ·rw [Array.getElem?_setIfInBounds_ne (fun e=>h e.symm),if_neg h]
theorem killT_den {M M':Mem} {ι ι':Inj} {k:Option Nat} (hs:Sub M M') (hι:∀ b,Kp k b->ι' b=ι b) {tm:Nat->AV} {t:Nat} {v:Value} (h:DenA M ι (tm t) v):DenA M' ι' (killT k tm t) v:=by
 cases k with
 |none=>
  have:ι'=ι:=funext fun b=>hι b trivial
  subst this;exact h.mono hs
 |some k=>exact ((h.killV k).mono hs).turn (b:=k) (fun b' hb=>hι b' hb) (killV_free k (tm t))
theorem Kp_far {kl:Option Nat} {b:Nat} (hk:∀ k,kl=some k->¬(1000000<=k/\k<1000004)) (h0:1000000<=b) (h1:b<1000004):Kp kl b:=by
 cases kl with
 |none=>trivial
 |some k=>
  have hk:=hk k rfl;show Fm k b=false;unfold Fm
  cases hb:Nat.ble 2000000 k&&Nat.beq (k%8) 0 with
  |true=>
   have:=Nat.le_of_ble_eq_true (Bool.and_eq_true_iff.1 hb).1
   cases hc:Nat.beq (b/8) (k/8) with
   |false=>rfl
   |true=>have:=Nat.eq_of_beq_eq_true hc;omega
  |false=>
   cases hc:Nat.beq b k with
   |false=>rfl
   |true=>have:=Nat.eq_of_beq_eq_true hc;omega
def DstOk (N:Nat) (o:Oper):Prop:=∀ d,o.dst=some d->d<N
section
variable {own:Nat->Prop} {w0:World} {M0:Mem} {ι0:Inj} {N:Nat}
theorem put_size (a:Act) (d:Option Tmp) (v:Value):(a.put d v).tmps.size=a.tmps.size:=by
 cases d<;>simp [Act.put]
theorem put_def (a:Act) (d:Option Tmp) (v:Value):(a.put d v).defers=a.defers:=by
 cases d<;>rfl
theorem put_den {M:Mem} {ι:Inj} {tm:Nat->AV} {a:Act} {av:AV} {v:Value} {dst:Option Tmp} (hd:∀ d,dst=some d->d<a.tmps.size) (hv:DenA M ι av v) (h:∀ t,DenA M ι (tm t) (a.tmps.getD t undef)) (t:Tmp):
  DenA M ι (putT tm dst av t) ((a.put dst v).tmps.getD t undef):=by
 cases dst with
 |none=>exact h t
 |some d=>
  rw [put_get (hd d rfl)];simp only [putT]
  by_cases e:t=d
  ·subst e;rw [upd_same,if_pos rfl];exact hv
  ·rw [upd_other _ _ e,if_neg e];exact h t
theorem step_rel {M:Mem} {ι:Inj} {tm:Nat->AV} {hp:Nat->Option Blk} {a:Act} {w w':World} {e:Eff} {v:Value} {dst:Option Tmp} (hown:∀ c,w0.heap.size<=c->own c) (h1:Sub M0 M) (h3:NewDom own M0 M) (h4:FrameOwn own w0 w) (h6:Keeps ι0 ι) (h7:∀ t,DenA M ι (tm t) (a.tmps.getD t undef)) (h8:a.tmps.size=N) (h9:a.defers=[])
  (hp1:Post own M ι hp w e v w') (hd:∀ d,dst=some d->d<N) (hk:∀ k,e.kl=some k->¬(1000000<=k/\k<1000004)):
  ARel own w0 M0 ι0 N ⟨putT (killT e.kl tm) dst e.av,e.hp hp⟩ (a.put dst v) w':=by
 obtain ⟨M',ι',f1,s1,a1,n1,g1,k1,d1⟩:=hp1;refine ⟨M',ι',h1.trans s1,a1,h3.trans n1,h4.trans f1,g1,fun b hb hb'=>?_,put_den (by rw [h8];exact hd) d1 fun t=>killT_den s1 k1 (h7 t),by rw [put_size,h8],by rw [put_def,h9]⟩;rw [k1 b (Kp_far hk hb hb')];exact h6 b hb hb'
theorem skip_rel {tm:Nat->AV} {hp:Nat->Option Blk} {a:Act} {w:World} {dst:Option Tmp} (h:ARel own w0 M0 ι0 N ⟨tm,hp⟩ a w) (hd:∀ d,dst=some d->d<N):
  ARel own w0 M0 ι0 N ⟨putT tm dst (.tup []),hp⟩ (a.put dst undef) w:=by
 obtain ⟨M,ι,h1,h2,h3,h4,h5,h6,h7,h8,h9⟩:=h;exact ⟨M,ι,h1,h2,h3,h4,h5,h6,put_den (by rw [h8];exact hd) (.tup [] #[] rfl fun i x v h=>by simp at h) h7,by rw [put_size,h8],by rw [put_def,h9]⟩
theorem DenA.fewer {M:Mem} {ι ι':Inj} (hι:∀ b,ι' b=none\/ι' b=ι b) {x:AV} {v:Value} (h:DenA M ι x v):DenA M ι' x v:=by
 induction h with
 |d x v hx=>exact .d x v hx
 |tt=>exact .tt
 |ff=>exact .ff
 |agg c vs hl _ ih=>exact .agg c vs hl ih
 |tup c vs hl _ ih=>exact .tup c vs hl ih
 |own b L cap hL hn hc=>
  rcases hι b with e|e
  ·exact .ownL _ _ e
  ·exact .own b L cap (e.trans hL) hn hc
 |ownE b a hL=>
  rcases hι b with e|e
  ·exact .ownL _ _ e
  ·exact .ownE b a (e.trans hL)
 |ownL b v hL=>
  rcases hι b with e|e
  ·exact .ownL _ _ e
  ·exact .ownL b v (e.trans hL)
 |ptr b i j L hL=>
  rcases hι b with e|e
  ·exact .ptrL _ _ _ _ e
  ·exact .ptr b i j L (e.trans hL)
 |ptrL b i j v hL=>
  rcases hι b with e|e
  ·exact .ptrL _ _ _ _ e
  ·exact .ptrL b i j v (e.trans hL)
 |win b lo n c L k base hL q1 q2 q3 q4=>
  rcases hι b with e|e
  ·exact .winL _ _ _ _ _ e
  ·exact .win b lo n c L k base (e.trans hL) q1 q2 q3 q4
 |winL b lo n c v hL=>
  rcases hι b with e|e
  ·exact .winL _ _ _ _ _ e
  ·exact .winL b lo n c v (e.trans hL)
 |nil a=>exact .nil a
 |fn f cap vs hl _ ih=>exact .fn f cap vs hl ih
 |dead v=>exact .dead v
theorem HRel.fewer {M:Mem} {ι ι':Inj} {hp hp':Nat->Option Blk} {w:World} (h:HRel own M ι hp w) (hb:∀ b,(hp' b=none/\ι' b=none) \/ (hp' b=hp b/\ι' b=ι b)):HRel own M ι' hp' w:=by
 have hι:∀ b,ι' b=none\/ι' b=ι b:=fun b=>(hb b).elim (fun e=>.inl e.2) (fun e=>.inr e.2)
 have up:∀ b L,ι' b=some L->ι b=some L/\hp' b=hp b:=fun b L e=>by
  rcases hb b with ⟨_,e2⟩|⟨e1,e2⟩
  ·rw [e2] at e;cases e
  ·exact ⟨e2▸e,e1⟩
 refine ⟨fun b=>?_,fun b hv=>?_,fun b B L hB hL=>?_,fun b b' L L' h1 h2 he=>h.inj b b' L L' (up b _ h1).1 (up b' _ h2).1 he⟩
 ·rcases hb b with ⟨e1,e2⟩|⟨e1,e2⟩
  ·simp [e1,e2]
  ·rw [e1,e2];exact h.dom b
 ·obtain ⟨e1,e2⟩:=up b _ hv
  rw [e2];exact h.virt b e1
 ·obtain ⟨e1,e2⟩:=up b _ hL;rw [e2] at hB;obtain ⟨g1,cs,Ty,g2,g3,g4⟩:=h.at_ b B L hB e1;refine ⟨g1,cs,Ty,g2,g3,?_⟩
  cases B with
  |row l sz fr=>exact g4
  |box c fr=>exact ⟨g4.1,g4.2.1,⟨g4.2.2.1.size,fun j x hx=>let ⟨v,y1,y2⟩:=g4.2.2.1.den j x hx;⟨v,y1,y2.fewer hι⟩⟩,g4.2.2.2⟩
open Classical in
theorem ARel.le {s st:AState} {a:Act} {w:World} (h:ARel own w0 M0 ι0 N st a w) (hl:Le s st):ARel own w0 M0 ι0 N s a w:=by
 obtain ⟨M,ι,h1,h2,h3,h4,h5,h6,h7,h8,h9⟩:=h;obtain ⟨l1,l2,l3⟩:=hl
 let ι':Inj:=fun b=>if s.hp b=none then none else ι b
 have hι:∀ b,ι' b=none\/ι' b=ι b:=fun b=>by
  by_cases e:s.hp b=none
  ·exact .inl (if_pos e)
  ·exact .inr (if_neg e)
 have hb:∀ b,(s.hp b=none/\ι' b=none) \/ (s.hp b=st.hp b/\ι' b=ι b):=fun b=>by
  by_cases e:s.hp b=none
  ·exact .inl ⟨e,if_pos e⟩
  ·exact .inr ⟨(l2 b).resolve_left e,if_neg e⟩
 refine ⟨M,ι',h1,h2,h3,h4,h5.fewer hb,fun b hb1 hb2=>?_,fun t=>?_,h8,h9⟩
 ·rw [<-h6 b hb1 hb2]
  have e:s.hp b=st.hp b:=by
   obtain ⟨a1,a2,a3,a4⟩:=l3
   have:b=1000000\/b=1000001\/b=1000002\/b=1000003:=by omega
   rcases this with rfl|rfl|rfl|rfl
   ·exact a1
   ·exact a2
   ·exact a3
   ·exact a4
  by_cases hn:s.hp b=none
  ·rw [show ι' b=none from if_pos hn];exact ((h5.dom b).1 (e▸hn)).symm
  ·exact if_neg hn
 ·rcases l1 t with e|e
  ·rw [e];exact .dead _
  ·rw [e];exact (h7 t).fewer hι
theorem ARel.nil1 {k:NilK} {st:AState} {a:Act} {w:World} (h:ARel own w0 M0 ι0 N st a w) (hk:nilOk1 k st):ARel own w0 M0 ι0 N (Lk.nil1 k st) a w:=by
 obtain ⟨M,ι,h1,h2,h3,h4,h5,h6,h7,h8,h9⟩:=h
 cases k with
 |row t b sz=>
  obtain ⟨e1,e2⟩:=hk;refine ⟨M,upd ι b (some none),h1,h2,h3,h4,h5.virtual b sz false,fun c hc hc'=>?_,fun s=>?_,h8,h9⟩
  ·rw [upd_other _ _ (fun e=>?_)]
   ·exact h6 c hc hc'
   ·subst e;rw [Nat.ble_eq_true_of_le hc,Nat.ble_eq_true_of_le (show c<=1000003 by omega)] at e2
    cases e2
  ·by_cases e:s=t
   ·subst e;show DenA M _ (upd (killT (some b) st.tm) s (.own b) s) _;rw [upd_same];have:=h7 s;rw [e1] at this;generalize a.tmps.getD s undef=u at this⊢
    cases this with
    |nil a0=>exact .ownE b a0 (upd_same _ _ _)
   ·show DenA M _ (upd (killT (some b) st.tm) t (.own b) s) _;rw [upd_other _ _ e];exact killT_den (.refl M) (fun c hc=>upd_other _ _ (Kp_ne hc)) (h7 s)
 |lst t=>
  refine ⟨M,ι,h1,h2,h3,h4,h5,h6,fun s=>?_,h8,h9⟩
  by_cases e:s=t
  ·subst e;show DenA M _ (upd st.tm s (.d (.lst [])) s) _;rw [upd_same];have:=h7 s;rw [show st.tm s=.nil from hk] at this;generalize a.tmps.getD s undef=u at this⊢
   cases this with
   |nil a0=>exact .d _ _ (.emp a0 0)
  ·show DenA M _ (upd st.tm t (.d (.lst [])) s) _;rw [upd_other _ _ e];exact h7 s
 |cell bx j b sz=>
  obtain ⟨e1,e2,e3⟩:=hk
  have hne:bx≠b:=fun e=>by subst e;simp at e2
  have hv:=h5.virtual b sz false
  have hk6:∀ c,1000000<=c->c<1000004->upd ι b (some none) c=ι0 c:=fun c hc hc'=>by
   rw [upd_other _ _ (fun e=>?_)]
   ·exact h6 c hc hc'
   ·subst e;rw [Nat.ble_eq_true_of_le hc,Nat.ble_eq_true_of_le (show c<=1000003 by omega)] at e3
    cases e3
  unfold Lk.nil1
  split at e1
  ·rename_i c fr hb;obtain ⟨e4,rfl⟩:=e1;simp only [hb]
   have hb':upd (killH (some b) st.hp) b (some (.row [] sz false)) bx=some (.box (killB.cells b c) false):=by
    rw [upd_other _ _ hne]
    simp only [killH,hb];rfl
   refine ⟨M,upd ι b (some none),h1,h2,h3,h4,?_,hk6,fun s=>killT_den (.refl M) (fun c hc=>upd_other _ _ (Kp_ne hc)) (h7 s),h8,h9⟩;refine hv.set bx _ (by rw [hb'];simp) (.refl M) (fun e=>?_) (fun L hL=>?_) (fun b' L' hbb hL'=>⟨rfl,fun B' hB' hfr o=>hv.closed hL' B' hB' hfr o⟩)
   ·obtain ⟨sz2,fr2,e0⟩:=hv.virt bx e
    rw [hb'] at e0;cases e0
   ·obtain ⟨_,cs,Ty,q1,q2,q3,q4,q5,q6⟩:=hv.at_ bx _ L hb' hL;refine ⟨cs,Ty,q1,q2,by simpa using q3,by simpa using q4,⟨by simpa using q5.size,fun i x hx=>?_⟩,⟨fun h=>(by cases h),fun _=>q6.2 rfl⟩⟩;rw [List.getElem?_set] at hx
    split at hx
    ·rename_i e;subst e
     split at hx
     ·cases hx
      obtain ⟨v,hv1,hv2⟩:=q5.den j .nil (by rw [killB_cells_get,e4];rfl);refine ⟨v,hv1,?_⟩
      cases hv2 with
      |nil a0=>exact .ownE b a0 (upd_same _ _ _)
     ·cases hx
    ·exact q5.den i x hx
  ·exact e1.elim
 |wk t y=>
  refine ⟨M,ι,h1,h2,h3,h4,h5,h6,fun s=>?_,h8,h9⟩
  by_cases e:s=t
  ·subst e;show DenA M _ (upd st.tm s y s) _;rw [upd_same];exact hk.out _ _ _ (h7 s)
  ·show DenA M _ (upd st.tm t y s) _;rw [upd_other _ _ e];exact h7 s
 |wkc bx j y=>
  dsimp only [nilOk1] at hk;dsimp only [Lk.nil1]
  split at hk
  ·rename_i c fr hb;obtain ⟨⟨x0,e4,e5⟩,rfl⟩:=hk;refine ⟨M,ι,h1,h2,h3,h4,?_,h6,h7,h8,h9⟩;refine h5.set bx _ (by rw [hb];simp) (.refl M) (fun e=>?_) (fun L hL=>?_) (fun b' L' hbb hL'=>⟨rfl,fun B' hB' hfr o=>h5.closed hL' B' hB' hfr o⟩)
   ·obtain ⟨sz2,fr2,e0⟩:=h5.virt bx e
    rw [hb] at e0;cases e0
   ·obtain ⟨_,cs,Ty,q1,q2,q3,q4,q5,q6⟩:=h5.at_ bx _ L hb hL;refine ⟨cs,Ty,q1,q2,by simpa using q3,by simpa using q4,⟨by simpa using q5.size,fun i x hx=>?_⟩,⟨fun h=>(by cases h),fun _=>q6.2 rfl⟩⟩;rw [List.getElem?_set] at hx
    split at hx
    ·rename_i e;subst e
     split at hx
     ·cases hx
      obtain ⟨v,hv1,hv2⟩:=q5.den j x0 e4;exact ⟨v,hv1,e5.out _ _ _ hv2⟩
     ·cases hx
    ·exact q5.den i x hx
  ·exact hk.elim
 |frz b l sz=>
  obtain ⟨fr,hb⟩:=hk;obtain ⟨M1,s1,a1,n1,g1⟩:=freeze h2 h5 hb (B':=.row l sz true) (.inl ⟨_,_,_,rfl,rfl⟩);exact ⟨M1,ι,h1.trans s1,a1,h3.trans n1,h4,g1,h6,fun t=>(h7 t).mono s1,h8,h9⟩
 |sd t b l sz=>
  obtain ⟨e1,e2⟩:=hk;refine ⟨M,ι,h1,h2,h3,h4,h5,h6,fun s=>?_,h8,h9⟩
  by_cases e:s=t
  ·subst e;show DenA M ι (upd st.tm s (.d (.lst l)) s) _;rw [upd_same];have:=h7 s;rw [e1] at this;exact .d _ _ (den_own h5 e2 this)
  ·show DenA M ι (upd st.tm t (.d (.lst l)) s) _;rw [upd_other _ _ e];exact h7 s
 |cd bx j b l sz=>
  dsimp only [nilOk1] at hk;dsimp only [Lk.nil1];obtain ⟨e2,hk⟩:=hk
  split at hk
  ·rename_i c fr hb;obtain ⟨e4,rfl⟩:=hk;refine ⟨M,ι,h1,h2,h3,h4,?_,h6,h7,h8,h9⟩;refine h5.set bx _ (by rw [hb];simp) (.refl M) (fun e=>?_) (fun L hL=>?_) (fun b' L' hbb hL'=>⟨rfl,fun B' hB' hfr o=>h5.closed hL' B' hB' hfr o⟩)
   ·obtain ⟨sz2,fr2,e0⟩:=h5.virt bx e
    rw [hb] at e0;cases e0
   ·obtain ⟨_,cs,Ty,q1,q2,q3,q4,q5,q6⟩:=h5.at_ bx _ L hb hL;refine ⟨cs,Ty,q1,q2,by simpa using q3,by simpa using q4,⟨by simpa using q5.size,fun i x hx=>?_⟩,⟨fun h=>(by cases h),fun _=>q6.2 rfl⟩⟩;rw [List.getElem?_set] at hx
    split at hx
    ·rename_i e;subst e
     split at hx
     ·cases hx
      obtain ⟨v,hv1,hv2⟩:=q5.den j _ e4;exact ⟨v,hv1,.d _ _ (den_own h5 e2 hv2)⟩
     ·cases hx
    ·exact q5.den i x hx
  ·exact hk.elim
theorem ARel.nilsR:∀ {ns:List NilK} {st:AState} {a:Act} {w:World},ARel own w0 M0 ι0 N st a w->nilsOk ns st->ARel own w0 M0 ι0 N (Lk.nils ns st) a w
 | [],_,_,_,h,_=>h
 |k::r,st,_,_,h,hk=>ARel.nilsR (ns:=r) (st:=Lk.nil1 k st) (ARel.nil1 h hk.1) hk.2
theorem ARel.leN {s st:AState} {a:Act} {w:World} (h:ARel own w0 M0 ι0 N st a w) (hl:LeN s st):ARel own w0 M0 ι0 N s a w:=by
 obtain ⟨ns,h1,h2⟩:=hl.out;exact (ARel.nilsR h h1).le h2
theorem Oper.wp_monoQ {P:Program} {o:Oper} {a:Act} {w:World} {K K':Act->World->Prop} {Q Q':Exit->Act->World->Prop} (hK:∀ a w,K a w->K' a w) (hQ:∀ e a w,Q e a w->Q' e a w) (h:o.wp P a w K Q):o.wp P a w K' Q':=by
 unfold Oper.wp at*
 generalize (execOp a.eval o).run P w=r at*
 cases r with
 |ok n w'=>
  cases n<;>simp only [Oper.upon] at h⊢<;>
   first
    |exact hK _ _ h
    |exact Calls.mono h (fun e w'' he=>by
      cases e with
      |returned v=>exact hK _ _ he
      |panicked c=>exact hQ _ _ _ he
      |outgrown=>obtain ⟨a0,w0,q⟩:=he;exact ⟨a0,w0,hQ _ _ _ q⟩)
    |exact Rows.mono h (fun _ _ he=>hK _ _ he)
 |halt x w'=>cases x<;>simp only [Oper.upon] at h⊢<;>exact hQ _ _ _ h
theorem yields_bool {ops:Array Oper} {a:Act} {g:Nat} {t:Tmp} {b:Bool} (ht:(ops[g]?).bind (·.dst)=some t) (h:a.tmps.getD t undef=.bool b):yielded ops a.tmps g=some b:=by
 have:a.tmps[t]?=some (.bool b):=by
  rw [Array.getD_eq_getD_getElem?] at h
  cases hx:a.tmps[t]? with
  |none=>rw [hx] at h;simp [undef] at h
  |some v=>rw [hx] at h;simp at h;rw [h]
 simp [yielded,ht,this]
theorem ARel.refine {tm:Nat->AV} {hp:Nat->Option Blk} {a:Act} {w:World} {t:Tmp} {b:Bool} (h:ARel own w0 M0 ι0 N ⟨tm,hp⟩ a w) (ht:tm t=.d (.bool b)):
  ARel own w0 M0 ι0 N ⟨upd tm t (bif b then .tt else .ff),hp⟩ a w:=by
 obtain ⟨M,ι,h1,h2,h3,h4,h5,h6,h7,h8,h9⟩:=h;refine ⟨M,ι,h1,h2,h3,h4,h5,h6,fun s=>?_,h8,h9⟩
 by_cases e:s=t
 ·subst e;show DenA M ι (upd tm s _ s) _;rw [upd_same];have:=h7 s;have hv:a.tmps.getD s undef=.bool b:=den_bool (by rw [<-ht];exact this);rw [hv]
  cases b
  ·exact .ff
  ·exact .tt
 ·show DenA M ι (upd tm t _ s) _
  rw [upd_other _ _ e];exact h7 s
theorem den_guard {M:Mem} {ι:Inj} {x:AV} {v:Value} (h:DenA M ι x v):(x=.tt->v=.bool true) /\ (x=.ff->v=.bool false):=
 ⟨fun e=>by subst e;cases h;rfl,fun e=>by subst e;cases h;rfl⟩
theorem den_undef {M:Mem} {ι:Inj} {v:Value} (h:DenA M ι (.tup []) v):v=undef:=by
 cases h with
 |tup _ vs hl _=>
  have:vs=#[]:=by simpa using hl
  rw [this];rfl
theorem yields_undef {ops:Array Oper} {a:Act} {g:Nat} {t:Tmp} (ht:(ops[g]?).bind (·.dst)=some t) (h:a.tmps.getD t undef=undef):yielded ops a.tmps g=none:=by
 unfold yielded;rw [ht];simp only [Option.bind_some];rw [Array.getD_eq_getD_getElem?] at h
 cases hx:a.tmps[t]? with
 |none=>rfl
 |some v=>
  rw [hx] at h;simp only [Option.getD_some] at h
  rw [h];rfl
theorem wpOps_cons' {P:Program} {ops:Array Oper} {Q:Exit->Act->World->Prop} {i:Nat} {rest:List Nat} {o:Oper} {a:Act} {w:World} (ho:ops[i]?=some o)
  (h:if Region.wanted o (yielded ops a.tmps) then o.wp P a w (wpOps P ops Q rest) Q else wpOps P ops Q rest (a.put o.dst undef) w):wpOps P ops Q (i::rest) a w:=by
 simp only [wpOps,ho]
 split
 ·rename_i hw;rw [if_pos hw] at h;exact .inl h
 ·rename_i hw;rw [if_neg hw] at h;exact h
variable {P:Program} {T:Tab} (hT:TabOk P T)
theorem run_equalIn_slice {P:Program} (w:World) (n:Nat) (t e:TypeId) (b:Option Addr) (k c:Nat) (hu:P.underlying t=some (.slice e)):(Op.equalIn (n+1) t (.slice b k c) (.slice none 0 0)).run P w=.ok b.isNone w:=by
 cases b<;>simp [Op.equalIn,run_underlying hu]
include hT in
theorem nil_run {bo:BinOp} {t e:TypeId} {x y:Operand} {av:AV} {hp:Nat->Option Blk} {K:Eff->Prop} {M:Mem} {ι:Inj} {w:World} {a:Act} {v:Value} (hk:(T t).k=.slice e) (hy:isNilC y=true)
  (h:nilCmp av hp (nilOp bo K)) (hh:HRel own M ι hp w) (hv:DenA M ι av v):∃ b:Bool,K ⟨.d (.bool b),[],none⟩ /\ (do eqGuard bo t x y v (a.eval y);binOp bo t v (a.eval y):Sem Value).run P w=.ok (.bool b) w:=by
 have hu:=(und_slice hT hk).1
 have hyv:a.eval y=.slice none 0 0:=by
  unfold isNilC at hy
  split at hy
  ·rfl
  ·cases hy
 rw [hyv]
 have key:∀ (r:Bool) (b:Option Addr) (n c:Nat),v=.slice b n c->r=b.isNone->nilOp bo K r->∃ b:Bool,K ⟨.d (.bool b),[],none⟩ /\ (do eqGuard bo t x y v (.slice none 0 0);binOp bo t v (.slice none 0 0):Sem Value).run P w=.ok (.bool b) w:=by
  intro r b n c hv hr hK;subst hv;have heq:=run_equalIn_slice w 9999 t e b n c hu;rw [<-hr] at heq;unfold nilOp at hK
  split at hK
  ·exact ⟨r,hK,by simp [eqGuard,binOp,Op.equal,Op.maxDepth,heq]⟩
  ·exact ⟨!r,hK,by simp [eqGuard,binOp,Op.equal,Op.maxDepth,heq]⟩
  ·exact hK.elim
 unfold nilCmp at h
 split at h
 ·rename_i l
  cases hv with
  |d _ _ hd=>
   cases hd with
   |emp a0 c=>exact key _ a0 0 c rfl rfl (h.out _ fun _=>rfl)
   |lst _ b off cap sz val hl _ _ _=>exact key false _ _ _ rfl rfl (h.out _ fun e=>by cases e)
 ·cases hv with
  |nil a0=>exact key _ a0 0 0 rfl rfl (h.out _ fun _=>rfl)
 ·rename_i b
  split at h
  ·rename_i l sz fr hb
   cases hv with
   |own _ L cap hL hn hc=>exact key false _ _ _ rfl rfl (h.out _ fun e=>by cases e)
   |ownE _ a0 hL=>
    obtain ⟨sz2,fr2,e0⟩:=hh.virt b hL
    rw [hb] at e0;cases e0
    exact key _ a0 0 0 rfl rfl (h.out _ fun _=>rfl)
   |ownL _ _ hL=>rw [(hh.dom b).2 hL] at hb;cases hb
  ·exact h.elim
 ·exact h.elim
include hT in
theorem take_rel (hown:∀ c,w0.heap.size<=c->own c) {o:Oper} {tm:Nat->AV} {hp:Nat->Option Blk} {a:Act} {w:World} {K:AState->Prop} {Q:Exit->Act->World->Prop} (h:opN T P o (evT tm) hp fun e=>step tm hp o.dst e K)
  (hr:ARel own w0 M0 ι0 N ⟨tm,hp⟩ a w) (hd:DstOk N o):o.wp P a w (fun a' w'=>∃ st,K st/\ARel own w0 M0 ι0 N st a' w') Q:=by
 obtain ⟨M,ι,h1,h2,h3,h4,h5,h6,h7,h8,h9⟩:=hr
 have plain:opG T P o (evT tm) hp (fun e=>step tm hp o.dst e K)->o.wp P a w (fun a' w'=>∃ st,K st/\ARel own w0 M0 ι0 N st a' w') Q:=by
  intro h;obtain ⟨e,hs,hsem⟩:=opG_sound hT h;obtain ⟨hk,hK⟩:=step_out hs;refine Oper.wp_monoQ (fun a' w' hq=>?_) (fun _ _ _ hf=>hf.elim) (hsem own M ι a w (fun c hc=>hown c (Nat.le_trans h4.size hc)) h2 h5 (evT_den h7));obtain ⟨v,rfl,hpost⟩:=hq;exact ⟨_,hK,step_rel hown h1 h3 h4 h6 h7 h8 h9 hpost hd hk⟩
 unfold opN at h
 split at h
 ·rename_i bo t x y z ho
  split at h
  ·rename_i e hk
   cases hn:isNilC y with
   |false=>simp [hn] at h
   |true=>
    simp only [hn,cond_true] at h;obtain ⟨b,hs,hrun⟩:=nil_run (a:=a) (x:=x) hT hk hn h h5 (evT_den h7 x);obtain ⟨hk2,hK⟩:=step_out hs;unfold Oper.wp
    have:(execOp a.eval o).run P w=.ok (.value (.bool b)) w:=by
     rw [show execOp a.eval o=(do pure (.value (<-(do eqGuard bo t x y (a.eval x) (a.eval y);binOp bo t (a.eval x) (a.eval y):Sem Value)))) by simp [execOp,ho]];generalize (do eqGuard bo t x y (a.eval x) (a.eval y);binOp bo t (a.eval x) (a.eval y):Sem Value)=s at hrun;simp [hrun]
    rw [this];exact ⟨_,hK,step_rel hown h1 h3 h4 h6 h7 h8 h9 (post_val h2 h5 (.d _ _ (.bool b))) hd hk2⟩
  ·exact plain h
 ·exact plain h
include hT in
theorem AOps_sound (hown:∀ c,w0.heap.size<=c->own c) {ops:Array Oper} {Q:Exit->Act->World->Prop} {K:AState->Prop} (hQ:∀ st a w,K st->ARel own w0 M0 ι0 N st a w->Q .normal a w) (hd:∀ o∈ops,DstOk N o):
  ∀ (l:List Oper) (i:Nat) (st:AState) (a:Act) (w:World),ops.toList.drop i=l->AOps T P ops l st K->ARel own w0 M0 ι0 N st a w->wpOps P ops Q (List.range' i l.length) a w
 | [],i,st,a,w,hl,h,hr=>hQ st a w (AOps_nil.mp h) hr
 |o::rest,i,st,a,w,hl,h,hr=>by
  have ho:ops[i]?=some o:=by
   have:=congrArg (·[0]?) hl
   simpa using this
  have hl':ops.toList.drop (i+1)=rest:=by
   have:=congrArg (List.drop 1) hl
   simpa [Nat.add_comm] using this
  have hdo:=hd o (Array.mem_of_getElem? ho);obtain ⟨tm,hp⟩:=st;simp only [List.length_cons,List.range'_succ]
  have take:∀ tm',opN T P o (evT tm') hp (fun e=>step tm' hp o.dst e fun st=>AOps T P ops rest st K)->ARel own w0 M0 ι0 N ⟨tm',hp⟩ a w->o.wp P a w (wpOps P ops Q (List.range' (i+1) rest.length)) Q:=by
   intro tm' h hr;refine Oper.wp_monoQ (fun a' w' hq=>?_) (fun _ _ _ h=>h) (take_rel hT hown h hr hdo);obtain ⟨st',k1,k2⟩:=hq;exact AOps_sound hown hQ hd rest (i+1) st' a' w' hl' k1 k2
  have skip:∀ tm',step tm' hp o.dst ⟨.tup [],[],none⟩ (fun st=>AOps T P ops rest st K)->ARel own w0 M0 ι0 N ⟨tm',hp⟩ a w->wpOps P ops Q (List.range' (i+1) rest.length) (a.put o.dst undef) w:=by
   intro tm' h hr;exact AOps_sound hown hQ hd rest (i+1) _ _ w hl' (step_out h).2 (skip_rel hr hdo)
  apply wpOps_cons' ho;rw [AOps_cons] at h;simp only [stepA] at h
  cases hg:o.guard with
  |none=>
   simp only [hg] at h;rw [if_pos (by simp [Region.wanted,hg])];exact take tm h hr
  |some gw=>
   obtain ⟨g,want⟩:=gw;simp only [hg] at h
   cases ht:(ops[g]?).bind (·.dst) with
   |none=>simp [ht] at h
   |some t=>
    simp only [ht] at h
    have hden:∃ M ι,DenA M ι (tm t) (a.tmps.getD t undef):=by
     obtain ⟨M,ι,h1,h2,h3,h4,h5,h6,h7,h8,h9⟩:=hr;exact ⟨M,ι,h7 t⟩
    obtain ⟨M,ι,hden⟩:=hden
    have run:∀ (b:Bool) tm',a.tmps.getD t undef=.bool b->ARel own w0 M0 ι0 N ⟨tm',hp⟩ a w->
      (if b=want then opN T P o (evT tm') hp (fun e=>step tm' hp o.dst e fun st=>AOps T P ops rest st K) else step tm' hp o.dst ⟨.tup [],[],none⟩ (fun st=>AOps T P ops rest st K))->
      if Region.wanted o (yielded ops a.tmps) then o.wp P a w (wpOps P ops Q (List.range' (i+1) rest.length)) Q else wpOps P ops Q (List.range' (i+1) rest.length) (a.put o.dst undef) w:=by
     intro b tm' hv hr' h;have hy:=yields_bool ht hv
     have hw:Region.wanted o (yielded ops a.tmps)=(b==want):=by
      simp [Region.wanted,hg,hy]
     rw [hw]
     by_cases e:b=want
     ·subst e;rw [if_pos rfl] at h;rw [if_pos (by simp)];exact take tm' h hr'
     ·rw [if_neg e] at h;rw [if_neg (by simpa using e)];exact skip tm' h hr'
    split at h
    ·rename_i hx;refine run true tm ((den_guard hden).1 hx) hr ?_
     cases want
     ·simpa using h
     ·simpa using h
    ·rename_i hx;refine run false tm ((den_guard hden).2 hx) hr ?_
     cases want
     ·simpa using h
     ·simpa using h
    ·rename_i b hx
     rcases bcase_out h with ⟨rfl,h1⟩|⟨rfl,h1⟩
     ·refine run true (upd tm t .tt) (den_bool (hx▸hden)) (hr.refine hx) ?_
      cases want
      ·simpa using h1
      ·simpa using h1
     ·refine run false (upd tm t .ff) (den_bool (hx▸hden)) (hr.refine hx) ?_
      cases want
      ·simpa using h1
      ·simpa using h1
    ·rename_i hx;have hv:a.tmps.getD t undef=undef:=den_undef (hx▸hden)
     have hw:Region.wanted o (yielded ops a.tmps)=false:=by
      simp [Region.wanted,hg,yields_undef ht hv]
     rw [hw,if_neg (by simp)];exact skip tm h hr
    ·exact h.elim
end
theorem memN_iff {b:Nat}:∀ {l:List Nat},memN b l=true↔b∈l
 | []=>by simp [memN]
 |x::r=>by
  simp only [memN]
  cases hb:Nat.beq b x with
  |true=>
   have:b=x:=Nat.eq_of_beq_eq_true hb;simp [this]
  |false=>
   have:b≠x:=fun e=>by subst e;simp at hb
   simp [this,memN_iff]
theorem subN_out:∀ {l F:List Nat},subN l F=true->∀ x∈l,x∈F
 | [],F,_,x,hx=>by cases hx
 |y::r,F,h,x,hx=>by
  simp only [subN] at h
  cases hm:memN y F with
  |false=>simp [hm] at h
  |true=>
   simp only [hm,cond_true] at h
   cases hx with
   |head=>exact memN_iff.1 hm
   |tail _ hx=>exact subN_out h x hx
theorem disN_out:∀ {l F:List Nat},disN l F=true->∀ x∈l,x∉F
 | [],F,_,x,hx=>by cases hx
 |y::r,F,h,x,hx=>by
  simp only [disN] at h
  cases hm:memN y F with
  |true=>simp [hm] at h
  |false=>
   simp only [hm,cond_false] at h
   cases hx with
   |head=>exact fun e=>by rw [memN_iff.2 e] at hm;cases hm
   |tail _ hx=>exact disN_out h x hx
theorem one_keep {k:Nat} (hl:Solo k) {x:AV} {ns:List Nat} (h:namesO.one x=some ns) (hk:k∉ns):killV.one k x=false:=by
 cases x with
 |own b=>
  simp only [namesO.one,Option.some.injEq] at h;subst h;simp only [killV.one,hl.out]
  cases hb:Nat.beq b k with
  |true=>exact absurd (by rw [Nat.eq_of_beq_eq_true hb];exact List.mem_singleton_self _) hk
  |false=>rfl
 |ptr b i j=>
  simp only [namesO.one,Option.some.injEq] at h;subst h;simp only [killV.one,hl.out]
  cases hb:Nat.beq b k with
  |true=>exact absurd (by rw [Nat.eq_of_beq_eq_true hb];exact List.mem_singleton_self _) hk
  |false=>rfl
 |win b lo n c=>
  simp only [namesO.one,Option.some.injEq] at h;subst h;simp only [killV.one,hl.out]
  cases hb:Nat.beq b k with
  |true=>exact absurd (by rw [Nat.eq_of_beq_eq_true hb];exact List.mem_singleton_self _) hk
  |false=>rfl
 |d x=>rfl
 |tt=>rfl
 |ff=>rfl
 |nil=>rfl
 |dead=>rfl
 |agg c=>cases h
 |tup c=>cases h
 |fn f c=>cases h
theorem cells_keep {k:Nat} (hl:Solo k):∀ {c:List AV} {ns:List Nat},namesO.cells c=some ns->k∉ns->killV.names k c=false
 | [],ns,h,hk=>rfl
 |x::r,ns,h,hk=>by
  simp only [namesO.cells] at h
  cases h1:namesO.one x with
  |none=>simp [h1] at h
  |some a=>
   cases h2:namesO.cells r with
   |none=>simp [h1,h2] at h
   |some b=>
    simp only [h1,h2,Option.some.injEq] at h;subst h;simp only [killV.names,one_keep hl h1 fun e=>hk (List.mem_append_left _ e),cond_false]
    exact cells_keep hl h2 fun e=>hk (List.mem_append_right _ e)
theorem part_keep {k:Nat} (hl:Solo k) {x:AV} {ns:List Nat} (h:namesO.part x=some ns) (hk:k∉ns):killV.part k x=false:=by
 cases x with
 |agg c=>exact cells_keep hl h hk
 |_=>simp only [namesO.part] at h;simp only [killV.part];exact one_keep hl h hk
theorem parts_keep {k:Nat} (hl:Solo k):∀ {c:List AV} {ns:List Nat},namesO.parts c=some ns->k∉ns->killV.parts k c=false
 | [],ns,h,hk=>rfl
 |x::r,ns,h,hk=>by
  simp only [namesO.parts] at h
  cases h1:namesO.part x with
  |none=>simp [h1] at h
  |some a=>
   cases h2:namesO.parts r with
   |none=>simp [h1,h2] at h
   |some b=>
    simp only [h1,h2,Option.some.injEq] at h;subst h;simp only [killV.parts,part_keep hl h1 fun e=>hk (List.mem_append_left _ e),cond_false]
    exact parts_keep hl h2 fun e=>hk (List.mem_append_right _ e)
theorem killV_keep {k:Nat} (hl:Solo k) {x:AV} {ns:List Nat} (h:namesO x=some ns) (hk:k∉ns):killV k x=x:=by
 cases x with
 |own b=>have:=one_keep hl (x:=.own b) h hk;simp only [killV.one] at this;simp [killV,this]
 |ptr b i j=>have:=one_keep hl (x:=.ptr b i j) h hk;simp only [killV.one] at this;simp [killV,this]
 |win b lo n c=>have:=one_keep hl (x:=.win b lo n c) h hk;simp only [killV.one] at this;simp [killV,this]
 |agg c=>simp only [killV,cells_keep hl h hk,cond_false]
 |tup c=>simp only [killV,parts_keep hl h hk,cond_false]
 |fn f c=>simp only [killV,cells_keep hl h hk,cond_false]
 |_=>rfl
theorem killV_clean {k:Nat} {x:AV} (h:namesO (killV k x)≠none):killV k x=x:=by
 cases x with
 |own b=>simp only [killV] at h⊢;cases hb:Fm k b<;>simp_all [namesO,namesO.one]
 |ptr b i j=>simp only [killV] at h⊢;cases hb:Fm k b<;>simp_all [namesO,namesO.one]
 |win b lo n c=>simp only [killV] at h⊢;cases hb:Fm k b<;>simp_all [namesO,namesO.one]
 |agg c=>simp only [killV] at h⊢;cases hb:killV.names k c<;>simp_all [namesO,namesO.one]
 |tup c=>simp only [killV] at h⊢;cases hb:killV.parts k c<;>simp_all [namesO,namesO.one]
 |fn f c=>simp only [killV] at h⊢;cases hb:killV.names k c<;>simp_all [namesO,namesO.one]
 |_=>rfl
theorem killV_comm (a b:Nat) (x:AV):killV a (killV b x)=killV b (killV a x):=by
 cases x with
 |own c=>simp only [killV];cases h1:Fm a c<;>cases h2:Fm b c<;>simp [killV,h1,h2]
 |ptr c i j=>simp only [killV];cases h1:Fm a c<;>cases h2:Fm b c<;>simp [killV,h1,h2]
 |win c lo n q=>simp only [killV];cases h1:Fm a c<;>cases h2:Fm b c<;>simp [killV,h1,h2]
 |agg c=>simp only [killV];cases h1:killV.names a c<;>cases h2:killV.names b c<;>simp [killV,h1,h2]
 |tup c=>simp only [killV];cases h1:killV.parts a c<;>cases h2:killV.parts b c<;>simp [killV,h1,h2]
 |fn f c=>simp only [killV];cases h1:killV.names a c<;>cases h2:killV.names b c<;>simp [killV,h1,h2]
 |_=>rfl
theorem one_none {x:AV} (h:namesO.one x≠none):namesO x≠none:=by
 cases x<;>first|exact h|exact absurd rfl h
theorem one_killV {k:Nat} {x:AV} (h:namesO.one (killV k x)≠none):killV k x=x:=killV_clean (one_none h)
theorem killBc_keep {k:Nat} (hl:Solo k):∀ {c:List AV} {ns:List Nat},namesO.cells c=some ns->k∉ns->killB.cells k c=c
 | [],ns,h,hk=>rfl
 |x::r,ns,h,hk=>by
  simp only [namesO.cells] at h
  cases h1:namesO.one x with
  |none=>simp [h1] at h
  |some a=>
   cases h2:namesO.cells r with
   |none=>simp [h1,h2] at h
   |some b=>
    simp only [h1,h2,Option.some.injEq] at h;subst h
    have hx:namesO x=some a:=by cases x<;>first|exact h1|cases h1
    simp only [killB.cells,killV_keep hl hx fun e=>hk (List.mem_append_left _ e),killBc_keep hl h2 fun e=>hk (List.mem_append_right _ e)]
theorem killBc_clean {k:Nat}:∀ {c:List AV},namesO.cells (killB.cells k c)≠none->killB.cells k c=c
 | [],h=>rfl
 |x::r,h=>by
  simp only [killB.cells,namesO.cells] at h⊢
  cases h1:namesO.one (killV k x) with
  |none=>simp [h1] at h
  |some a=>
   cases h2:namesO.cells (killB.cells k r) with
   |none=>simp [h1,h2] at h
   |some b=>rw [one_killV (by rw [h1];simp),killBc_clean (by rw [h2];simp)]
theorem killB_keep {k:Nat} (hl:Solo k) {B:Blk} {ns:List Nat} (h:namesB B=some ns) (hk:k∉ns):killB k B=B:=by
 cases B with
 |row l sz fr=>rfl
 |box c fr=>simp only [killB,killBc_keep hl h hk]
theorem killB_clean {k:Nat} {B:Blk} (h:namesB (killB k B)≠none):killB k B=B:=by
 cases B with
 |row l sz fr=>rfl
 |box c fr=>simp only [killB,namesB] at h⊢;rw [killBc_clean h]
theorem killB_comm (a b:Nat) (B:Blk):killB a (killB b B)=killB b (killB a B):=by
 cases B with
 |row l sz fr=>rfl
 |box c fr=>
  simp only [killB]
  congr 1
  induction c with
  |nil=>rfl
  |cons x r ih=>simp only [killB.cells,killV_comm,ih]
theorem inO_out {o:Option (List Nat)} {F:List Nat} (h:inO o F=true):∃ ns,o=some ns/\ ∀ b∈ns,b∈F:=by
 cases o with
 |none=>cases h
 |some ns=>exact ⟨ns,rfl,subN_out h⟩
theorem one_free {b:Nat} {x:AV} {ns:List Nat} (h:namesO.one x=some ns) (hb:b∉ns):Free b x:=by
 cases x with
 |own b'=>cases h;exact .own b' fun e=>hb (by simp [e])
 |ptr b' i j=>cases h;exact .ptr b' i j fun e=>hb (by simp [e])
 |win b' lo n c=>cases h;exact .win b' lo n c fun e=>hb (by simp [e])
 |d x=>exact .d x
 |tt=>exact .tt
 |ff=>exact .ff
 |nil=>exact .nil
 |dead=>exact .dead
 |agg c=>cases h
 |tup c=>cases h
 |fn f c=>cases h
theorem cells_free {b:Nat}:∀ {c:List AV} {ns:List Nat},namesO.cells c=some ns->b∉ns->∀ x∈c,Free b x
 | [],ns,h,hb,x,hx=>by cases hx
 |y::r,ns,h,hb,x,hx=>by
  simp only [namesO.cells] at h
  cases h1:namesO.one y with
  |none=>simp [h1] at h
  |some a=>
   cases h2:namesO.cells r with
   |none=>simp [h1,h2] at h
   |some q=>
    simp only [h1,h2,Option.some.injEq] at h;subst h
    cases hx with
    |head=>exact one_free h1 fun e=>hb (List.mem_append_left _ e)
    |tail _ hx=>exact cells_free h2 (fun e=>hb (List.mem_append_right _ e)) x hx
theorem part_free {b:Nat} {x:AV} {ns:List Nat} (h:namesO.part x=some ns) (hb:b∉ns):Free b x:=by
 cases x with
 |agg c=>exact .agg c (cells_free h hb)
 |_=>exact one_free h hb
theorem parts_free {b:Nat}:∀ {c:List AV} {ns:List Nat},namesO.parts c=some ns->b∉ns->∀ x∈c,Free b x
 | [],ns,h,hb,x,hx=>by cases hx
 |y::r,ns,h,hb,x,hx=>by
  simp only [namesO.parts] at h
  cases h1:namesO.part y with
  |none=>simp [h1] at h
  |some a=>
   cases h2:namesO.parts r with
   |none=>simp [h1,h2] at h
   |some q=>
    simp only [h1,h2,Option.some.injEq] at h;subst h
    cases hx with
    |head=>exact part_free h1 fun e=>hb (List.mem_append_left _ e)
    |tail _ hx=>exact parts_free h2 (fun e=>hb (List.mem_append_right _ e)) x hx
theorem names_free {b:Nat} {x:AV} {ns:List Nat} (h:namesO x=some ns) (hb:b∉ns):Free b x:=by
 cases x with
 |agg c=>exact .agg c (cells_free h hb)
 |tup c=>exact .tup c (parts_free h hb)
 |fn f c=>exact .fn f c (cells_free h hb)
 |_=>exact one_free h hb
theorem free_of_in {x:AV} {F:List Nat} (h:inO (namesO x) F=true) (b:Nat) (hb:b∉F):Free b x:=by
 obtain ⟨ns,e,hn⟩:=inO_out h
 exact names_free e fun hm=>hb (hn b hm)
theorem free_of_inB {B:Blk} {F:List Nat} (h:inO (namesB B) F=true) (b:Nat) (hb:b∉F):∀ c fr,B=.box c fr->∀ x∈c,Free b x:=by
 rintro c fr rfl x hx;obtain ⟨ns,e,hn⟩:=inO_out h;exact cells_free e (fun hm=>hb (hn b hm)) x hx
def wrGet:List (Nat×Blk)->Nat->Option Blk
 | [],_=>none
 |(b,B)::r,c=>match wrGet r c with
  |some B'=>some B'
  |none=>bif Nat.beq c b then some B else none
theorem writes_get:∀ (ws:List (Nat×Blk)) (hp:Nat->Option Blk) (c:Nat),writes hp ws c=match wrGet ws c with|some B=>some B|none=>hp c
 | [],hp,c=>rfl
 |(b,B)::r,hp,c=>by
  simp only [writes,wrGet];rw [writes_get r]
  cases hr:wrGet r c with
  |some B'=>rfl
  |none=>
   simp only [upd]
   cases Nat.beq c b<;>rfl
theorem wrGet_none {ws:List (Nat×Blk)} {c:Nat}:wrGet ws c=none↔c∉wrNames ws:=by
 induction ws with
 |nil=>simp [wrGet,wrNames]
 |cons p r ih=>
  obtain ⟨b,B⟩:=p;simp only [wrGet,wrNames,List.mem_cons,not_or]
  cases hr:wrGet r c with
  |some B'=>rw [hr] at ih;simp at ih;simp [ih]
  |none=>
   rw [hr] at ih;have:=ih.1 rfl
   cases hb:Nat.beq c b with
   |true=>simp [Nat.eq_of_beq_eq_true hb]
   |false=>
    have hne:c≠b:=fun e=>by subst e;simp at hb
    simp [this,hne]
theorem wrGet_mem {ws:List (Nat×Blk)} {c:Nat} {B:Blk} (h:wrGet ws c=some B):(c,B)∈ws:=by
 induction ws with
 |nil=>cases h
 |cons p r ih=>
  obtain ⟨b,B0⟩:=p;simp only [wrGet] at h
  cases hr:wrGet r c with
  |some B'=>rw [hr] at h;simp only [Option.some.injEq] at h;subst h;exact List.mem_cons_of_mem _ (ih hr)
  |none=>
   rw [hr] at h
   cases hb:Nat.beq c b with
   |false=>simp [hb] at h
   |true=>
    simp only [hb,cond_true,Option.some.injEq] at h;subst h
    rw [Nat.eq_of_beq_eq_true hb];exact List.mem_cons_self ..
def killO (k:Option Nat) (o:Option Blk):Option Blk:=match k with|none=>o|some k=>o.map (killB k)
theorem killH_eq (k:Option Nat) (hp:Nat->Option Blk) (c:Nat):killH k hp c=killO k (hp c):=by
 cases k with
 |none=>rfl
 |some k=>simp only [killH,killO];cases hp c<;>rfl
theorem eff_hp_get (e:Eff) (hp:Nat->Option Blk) (c:Nat):e.hp hp c=match wrGet e.wr c with|some B=>some B|none=>killO e.kl (hp c):=by
 unfold Eff.hp;rw [writes_get,killH_eq]
def killA (k:Option Nat) (x:AV):AV:=match k with|none=>x|some k=>killV k x
theorem killT_eq (k:Option Nat) (tm:Nat->AV) (t:Nat):killT k tm t=killA k (tm t):=by cases k<;>rfl
structure EffFact (F:List Nat) (dst:Option Tmp) (e:Eff):Prop where
 kl:∀ k,e.kl=some k->k∈wrNames e.wr
 lt:∀ k,e.kl=some k->Solo k
 wr:∀ b∈wrNames e.wr,b∈F\/e.kl=some b
 blk:∀ c B,wrGet e.wr c=some B->inO (namesB B) (F++effW e)=true
 av:∀ d,dst=some d->e.av=.dead\/inO (namesO e.av) (F++effW e)=true
theorem subN_of:∀ {l F:List Nat},(∀ x∈l,x∈F)->subN l F=true
 | [],F,_=>rfl
 |y::r,F,h=>by simp only [subN,memN_iff.2 (h y (List.mem_cons_self ..)),cond_true];exact subN_of fun x hx=>h x (List.mem_cons_of_mem _ hx)
theorem inO_mono {o:Option (List Nat)} {F G:List Nat} (h:inO o F=true) (hs:∀ b∈F,b∈G):inO o G=true:=by
 obtain ⟨ns,rfl,hn⟩:=inO_out h
 exact subN_of fun x hx=>hs x (hn x hx)
theorem wrOk_out {F:List Nat}:∀ {ws:List (Nat×Blk)},wrOk F ws=true->∀ p∈ws,p.1∈F/\inO (namesB p.2) F=true
 | [],_,p,hp=>by cases hp
 |(b,B)::r,h,p,hp=>by
  simp only [wrOk] at h
  cases hm:(memN b F&&inO (namesB B) F) with
  |false=>simp [hm] at h
  |true=>
   simp only [hm,cond_true] at h;simp only [Bool.and_eq_true] at hm
   cases hp with
   |head=>exact ⟨memN_iff.1 hm.1,hm.2⟩
   |tail _ hp=>exact wrOk_out h p hp
theorem mem_wrNames {ws:List (Nat×Blk)} {b:Nat}:b∈wrNames ws↔∃ B,(b,B)∈ws:=by
 induction ws with
 |nil=>simp [wrNames]
 |cons p r ih=>
  obtain ⟨c,B⟩:=p;simp only [wrNames,List.mem_cons,ih,Prod.mk.injEq]
  constructor
  ·rintro (rfl|⟨B',h⟩)
   ·exact ⟨B,.inl ⟨rfl,rfl⟩⟩
   ·exact ⟨B',.inr h⟩
  ·rintro ⟨B',⟨rfl,_⟩|h⟩
   ·exact .inl rfl
   ·exact .inr ⟨B',h⟩
theorem avOk_out {F:List Nat} {dst:Option Tmp} {av:AV} (h:avOk F dst av=true) (d:Tmp) (hd:dst=some d):av=.dead\/inO (namesO av) F=true:=by
 subst hd
 cases av<;>first|exact .inl rfl|exact .inr h
theorem effOk_out {F:List Nat} {dst:Option Tmp} {e:Eff} (h:effOk F dst e=true):EffFact F dst e:=by
 unfold effOk at h
 cases hk:e.kl with
 |none=>
  simp only [hk,Bool.and_eq_true] at h;obtain ⟨h1,h2⟩:=h;refine ⟨fun k hk'=>(by rw [hk] at hk';cases hk'),fun k hk'=>(by rw [hk] at hk';cases hk'),fun b hb=>?_,fun c B hc=>?_,fun d hd=>?_⟩
  ·obtain ⟨B,hB⟩:=mem_wrNames.1 hb;exact .inl (wrOk_out h1 _ hB).1
  ·exact inO_mono (wrOk_out h1 _ (wrGet_mem hc)).2 fun b hb=>List.mem_append_left _ hb
  ·exact orR (avOk_out h2 d hd) fun h=>inO_mono h fun b hb=>List.mem_append_left _ hb
 |some k=>
  simp only [hk,Bool.and_eq_true] at h;obtain ⟨⟨⟨h00,h0⟩,h1⟩,h2⟩:=h
  have hsub:∀ b∈k::F,b∈F++effW e:=by
   intro b hb
   cases hb with
   |head=>exact List.mem_append_right _ (by simp [effW,hk])
   |tail _ hb=>exact List.mem_append_left _ hb
  refine ⟨fun k' hk'=>?_,fun k' hk'=>?_,fun b hb=>?_,fun c B hc=>?_,fun d hd=>?_⟩
  ·rw [hk] at hk';cases hk';exact memN_iff.1 h0
  ·rw [hk] at hk';cases hk';exact solo_of h00
  ·obtain ⟨B,hB⟩:=mem_wrNames.1 hb;have:=(wrOk_out h1 _ hB).1
   cases this with
   |head=>exact .inr hk
   |tail _ h=>exact .inl h
  ·exact inO_mono (wrOk_out h1 _ (wrGet_mem hc)).2 hsub
  ·exact orR (avOk_out h2 d hd) fun h=>inO_mono h hsub
theorem effW_mem {e:Eff} {b:Nat}:b∈effW e↔e.kl=some b\/b∈wrNames e.wr:=by
 unfold effW
 cases e.kl with
 |none=>simp
 |some k=>simp [eq_comm]
theorem BlkAt.turnS {M:Mem} {ι ι':Inj} {S:Nat->Prop} (hι:∀ b,S b->ι' b=ι b) {w:World} {B:Blk} {L:Loc} (h:BlkAt M ι w B L) (hf:∀ b,¬S b->∀ c fr,B=.box c fr->∀ x∈c,Free b x):BlkAt M ι' w B L:=by
 obtain ⟨cs,Ty,g2,g3,g4⟩:=h;refine ⟨cs,Ty,g2,g3,?_⟩
 cases B with
 |row l sz fr=>exact g4
 |box c fr=>exact ⟨g4.1,g4.2.1,⟨g4.2.2.1.size,fun j x hx=>let ⟨v,y1,y2⟩:=g4.2.2.1.den j x hx;⟨v,y1,y2.turnS hι fun b hb=>hf b hb c fr rfl x (List.mem_of_getElem? hx)⟩⟩,g4.2.2.2⟩
open Classical in
theorem opSem_frame {P:Program} {o:Oper} {ρ ρ':Operand->AV} {F:List Nat} {hp hp':Nat->Option Blk} {e:Eff} (hsem:OpSem P o ρ (restrH F hp) e) (he:EffFact F o.dst e)
  (hρ:∀ x,ρ x=.dead\/ρ x=ρ' x) (hH:∀ b∈F,hp' b=hp b) (hcl:∀ b∈F,∀ B,hp b=some B->inO (namesB B) F=true):
  ∀ (own:Nat->Prop) (M:Mem) (ι:Inj) (a:Act) (w:World),(∀ c,w.heap.size<=c->own c)->Agree M w->HRel own M ι hp' w->(∀ x,DenA M ι (ρ' x) (a.eval x))->
  o.wp P a w (fun a' w'=>∃ v,a'=a.put o.dst v/\ ∃ (M':Mem) (ι':Inj),FrameOwn own w w'/\Sub M M'/\Agree M' w'/\NewDom own M M'/\HRel own M' ι' (e.hp hp') w'/\ (∀ b,Kp e.kl b->ι' b=ι b) /\ (o.dst≠none->DenA M' ι' e.av v)) (fun _ _ _=>False):=by
 intro own M ι a w hown ha hh hden
 let ι0:Inj:=fun b=>if b∈F then ι b else none
 let own0:Nat->Prop:=fun c=>own c/\ ∀ b L,b∉F->ι b=some (some L)->L.blk≠c
 have hr0:∀ b∈F,restrH F hp b=hp' b:=fun b hb=>by unfold restrH;rw [memN_iff.2 hb,cond_true,hH b hb]
 have hrn:∀ b,b∉F->restrH F hp b=none:=fun b hb=>by
  unfold restrH
  cases hm:memN b F with
  |true=>exact absurd (memN_iff.1 hm) hb
  |false=>rfl
 have hi0:∀ b∈F,ι0 b=ι b:=fun b hb=>if_pos hb
 have hin:∀ b,b∉F->ι0 b=none:=fun b hb=>if_neg hb
 have hfew:∀ b,ι0 b=none\/ι0 b=ι b:=fun b=>by
  by_cases hb:b∈F
  ·exact .inr (hi0 b hb)
  ·exact .inl (hin b hb)
 have hh1:HRel own M ι0 (restrH F hp) w:=hh.fewer fun b=>by
  by_cases hb:b∈F
  ·exact .inr ⟨hr0 b hb,hi0 b hb⟩
  ·exact .inl ⟨hrn b hb,hin b hb⟩
 have hh0:HRel own0 M ι0 (restrH F hp) w:=by
  refine ⟨hh1.dom,hh1.virt,fun b B L hB hL=>⟨⟨(hh1.at_ b B L hB hL).1,fun b' L' hb' hL' e=>?_⟩,(hh1.at_ b B L hB hL).2⟩,hh1.inj⟩
  have hbF:b∈F:=Classical.byContradiction fun hb=>by rw [hin b hb] at hL;cases hL
  have:=hh.inj b' b L' L hL' (hi0 b hbF▸hL) e;exact hb' (this▸hbF)
 have hown0:∀ c,w.heap.size<=c->own0 c:=fun c hc=>⟨hown c hc,fun b L _ hL e=>by have:=hh.lt hL;omega⟩
 have hden0:∀ x,DenA M ι0 (ρ x) (a.eval x):=fun x=>by
  rcases hρ x with e|e
  ·rw [e];exact .dead _
  ·rw [e];exact (hden x).fewer hfew
 refine Oper.wp_monoQ (fun a' w' hq=>?_) (fun _ _ _ h=>h) (hsem own0 M ι0 a w hown0 ha hh0 hden0);obtain ⟨v,rfl,M',ι1,f1,s1,a1,n1,g1,k1,d1⟩:=hq;refine ⟨v,rfl,?_⟩
 let S:Nat->Prop:=fun b=>b∈F\/e.kl=some b
 let ι':Inj:=fun b=>if S b then ι1 b else ι b
 have hSi:∀ b,S b->ι' b=ι1 b:=fun b hb=>if_pos hb
 have hSn:∀ b,¬S b->ι' b=ι b:=fun b hb=>if_neg hb
 have hkeep:∀ b,Kp e.kl b->ι' b=ι b:=fun b hb=>by
  by_cases hF:b∈F
  ·rw [hSi b (.inl hF),k1 b hb,hi0 b hF]
  ·exact hSn b fun h=>h.elim hF fun h=>by rw [h] at hb;exact Kp_ne hb rfl
 have hSin:∀ b,b∈F++effW e->S b:=fun b hb=>by
  rcases List.mem_append.1 hb with h|h
  ·exact .inl h
  ·rcases effW_mem.1 h with h|h
   ·exact .inr h
   ·exact he.wr b h
 have hnames:∀ {o:Option (List Nat)},inO o (F++effW e)=true->∀ b,¬S b->b∉F++effW e:=fun _ b hb hm=>hb (hSin b hm)
 have hpS:∀ b,S b->e.hp hp' b=e.hp (restrH F hp) b:=fun b hb=>by
  rw [eff_hp_get,eff_hp_get]
  cases hw:wrGet e.wr b with
  |some B=>rfl
  |none=>
   rcases hb with hb|hb
   ·rw [hr0 b hb]
   ·exact absurd (he.kl b hb) (wrGet_none.1 hw)
 have hpN:∀ b,¬S b->e.hp hp' b=killO e.kl (hp' b):=fun b hb=>by
  rw [eff_hp_get]
  have:wrGet e.wr b=none:=wrGet_none.2 fun hm=>hb (he.wr b hm)
  rw [this]
 have hboxS:∀ b B,S b->e.hp (restrH F hp) b=some B->∀ b',¬S b'->∀ c fr,B=.box c fr->∀ x∈c,Free b' x:=by
  intro b B hb hB b' hb';rw [eff_hp_get] at hB
  cases hw:wrGet e.wr b with
  |some B0=>
   rw [hw] at hB;simp only [Option.some.injEq] at hB;subst hB
   exact free_of_inB (he.blk b B0 hw) b' fun hm=>hb' (hSin b' hm)
  |none=>
   rw [hw] at hB
   have hbF:b∈F:=hb.elim id fun h=>absurd (he.kl b h) (wrGet_none.1 hw)
   rw [hr0 b hbF] at hB;simp only at hB;intro c fr e1 x hx
   cases hx2:hp' b with
   |none=>rw [hx2] at hB;unfold killO at hB;split at hB<;>cases hB
   |some B0=>
    have hB0:=hcl b hbF B0 (by rw [<-hH b hbF];exact hx2)
    have hF':b'∉F:=fun hm=>hb' (.inl hm)
    rw [hx2] at hB;unfold killO at hB
    split at hB
    ·simp only [Option.some.injEq] at hB;subst hB;exact free_of_inB hB0 b' hF' c fr e1 x hx
    ·rename_i k hk;simp only [Option.map_some,Option.some.injEq] at hB;subst hB
     cases B0 with
     |row l sz fr=>cases e1
     |box c0 fr0=>
      simp only [killB,Blk.box.injEq] at e1;obtain ⟨rfl,rfl⟩:=e1;obtain ⟨i,hi⟩:=List.getElem?_of_mem hx;rw [killB_cells_get] at hi
      cases hc0:c0[i]? with
      |none=>rw [hc0] at hi;cases hi
      |some y=>
       rw [hc0] at hi;simp only [Option.map_some,Option.some.injEq] at hi;subst hi
       rcases killV_cases k y with e2|e2
       ·rw [e2];exact free_of_inB hB0 b' hF' c0 fr0 rfl y (List.mem_of_getElem? hc0)
       ·rw [e2];exact .dead
 have hkey:∀ b B L,e.hp hp' b=some B->ι' b=some (some L)->own L.blk/\BlkAt M' ι' w' B L/\ (S b->own0 L.blk) /\ (¬S b->¬own0 L.blk):=by
  intro b B L hB hL
  by_cases hb:S b
  ·rw [hpS b hb] at hB;rw [hSi b hb] at hL;obtain ⟨q1,q2⟩:=g1.at_ b B L hB hL;exact ⟨q1.1,q2.turnS hSi fun b' hb'=>hboxS b B hb hB b' hb',fun _=>q1,fun h=>absurd hb h⟩
  ·rw [hpN b hb] at hB;rw [hSn b hb] at hL
   have hno:¬own0 L.blk:=fun h=>h.2 b L (fun hm=>hb (.inl hm)) hL rfl
   cases hx2:hp' b with
   |none=>rw [hx2] at hB;unfold killO at hB;split at hB<;>cases hB
   |some B0=>
    obtain ⟨q1,q2⟩:=hh.at_ b B0 L hx2 hL
    have q3:BlkAt M' ι w' B0 L:=q2.keep s1 (f1.block _ hno) fun hfr o=>by
     cases hv:M' L.blk o with
     |none=>rfl
     |some u=>
      rcases n1 _ _ _ hv with h|h
      ·rw [hh.closed hL B0 hx2 hfr o] at h;cases h
      ·exact absurd h hno
    refine ⟨q1,?_,fun h=>absurd h hb,fun _=>hno⟩;rw [hx2] at hB;unfold killO at hB
    split at hB
    ·rename_i hk;simp only [Option.some.injEq] at hB;subst hB
     have:ι'=ι:=funext fun b=>hkeep b (by rw [hk];trivial)
     rw [this];exact q3
    ·rename_i k hk;simp only [Option.map_some,Option.some.injEq] at hB;subst hB
     exact q3.kill fun b' hb'=>hkeep b' (by rw [hk];exact hb')
 refine ⟨M',ι',⟨f1.os,f1.tape,f1.output,f1.size,fun c hc=>f1.block c fun h=>hc h.1⟩,s1,a1,fun b o v hv=>orR (n1 b o v hv) fun h=>h.1,⟨fun b=>?_,fun b hv=>?_,fun b B L hB hL=>⟨(hkey b B L hB hL).1,(hkey b B L hB hL).2.1⟩,fun b b' L L' hL hL' heq=>?_⟩,hkeep,fun hd=>?_⟩
 ·by_cases hb:S b
  ·rw [hpS b hb,hSi b hb];exact g1.dom b
  ·rw [hpN b hb,hSn b hb,<-hh.dom b];unfold killO
   split
   ·rfl
   ·cases hp' b<;>simp
 ·by_cases hb:S b
  ·rw [hSi b hb] at hv
   rw [hpS b hb];exact g1.virt b hv
  ·rw [hSn b hb] at hv;obtain ⟨sz,fr,e0⟩:=hh.virt b hv;rw [hpN b hb,e0];refine ⟨sz,fr,?_⟩;unfold killO
   split<;>rfl
 ·have get:∀ b L,ι' b=some (some L)->∃ B,e.hp hp' b=some B:=fun b L hL=>by
   cases hx:e.hp hp' b with
   |some B=>exact ⟨B,rfl⟩
   |none=>
    exfalso
    by_cases hb:S b
    ·rw [hpS b hb] at hx
     rw [hSi b hb,(g1.dom b).1 hx] at hL;cases hL
    ·rw [hpN b hb] at hx;rw [hSn b hb] at hL
     have:hp' b=none:=by
      unfold killO at hx
      split at hx
      ·exact hx
      ·cases hq:hp' b<;>simp_all
     rw [(hh.dom b).1 this] at hL;cases hL
  obtain ⟨B,hB⟩:=get b L hL;obtain ⟨B',hB'⟩:=get b' L' hL';have q:=(hkey b B L hB hL).2.2;have q':=(hkey b' B' L' hB' hL').2.2
  by_cases hb:S b
  ·by_cases hb':S b'
   ·rw [hSi b hb] at hL;rw [hSi b' hb'] at hL';exact g1.inj b b' L L' hL hL' heq
   ·exact absurd (heq▸q.1 hb) (q'.2 hb')
  ·by_cases hb':S b'
   ·exact absurd (heq▸q'.1 hb') (q.2 hb)
   ·rw [hSn b hb] at hL;rw [hSn b' hb'] at hL';exact hh.inj b b' L L' hL hL' heq
 ·cases hdst:o.dst with
  |none=>exact absurd hdst hd
  |some d=>
   rcases he.av d hdst with e1|e1
   ·rw [e1];exact .dead _
   ·exact d1.turnS hSi fun b hb=>free_of_in e1 b fun hm=>hb (hSin b hm)
end Go.Lk

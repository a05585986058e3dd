/-
  What is proved here: what functions of the program compute, and what follows; no condition beyond each theorem's own.
-/
import Derived.Test.YtaofmndhdmkgkaaGreatGAe
import Derived.Laws.BytesString
set_option linter.unusedSimpArgs false
set_option linter.unusedVariables false
set_option linter.unnecessarySimpa false
set_option linter.unusedSectionVars false
namespace Go.Lk
open Go Go.RowKit
section
variable {P:Program} {T:Tab} (hT:zFo P T)
theorem zYm:∀ {l:List (List D)} {ns:List Int},zYl l=some ns->l=ns.map fun n=>[D.int .u8 n]
 | [],ns,h=>by simp [zYl] at h;subst h;rfl
 |e::r,ns,h=>by
  simp only [zYl] at h
  split at h
  ·rename_i k n
   cases hk:Nat.beq (zFw k) 4 with
   |false=>rw [hk] at h;cases h
   |true=>
    rw [hk] at h
    have ek:k=.u8:=by cases k<;>first|rfl|exact absurd hk (by decide)
    subst ek;simp only [cond_true] at h
    split at h
    ·rename_i ms hms
     cases h
     rw [zYm hms];rfl
    ·cases h
  ·cases h
theorem yJi {M:Mem} {w:World} {ad:Option Addr} {cp:Nat} {l:List (List D)} {vs:Array Value} {ns:List Int} (hs:z0f P M w (.slice ad l.length cp) l 1 vs) (h:zYl l=some ns):
  (Conv.bytesToString (.slice ad l.length cp)).run P w=.ok (.string (bstr ns)) w:=by
 have hl:=zYm h
 have hln:l.length=ns.length:=by rw [hl];simp
 have hvs:vs=(ns.map (Value.int .u8)).toArray:=by
  apply Array.ext
  ·rw [hs.size];simp [hln]
  ·intro i h1 h2
   have hi:i<ns.length:=by simpa using h2
   obtain ⟨v,hv,hd⟩:=hs.row.den i 0 [D.int .u8 ns[i]] (.int .u8 ns[i]) (by rw [hl];simp [hi]) rfl;rw [Nat.mul_one,Nat.add_zero,Array.getElem?_eq_getElem h1] at hv;have hv:vs[i]=v:=Option.some.inj hv;generalize vs[i]=u at hv⊢;subst hv
   cases hd
   simp
 have hr:=hs.run w (fun _ _=>rfl)
 cases ad with
 |none=>
  simp only [Builtin.firstCells,Sem.run_pure] at hr
  have e:vs=#[]:=by injection hr with q _;exact q.symm
  have:ns=[]:=by
   have:=congrArg Array.size (hvs.symm.trans e)
   simpa using this
  subst this;simp [Conv.bytesToString,bstr,Sem.run_pure]
 |some a=>
  simp only [Builtin.firstCells,Nat.mul_one] at hr;exact run_bytesToString w a l.length cp ns (by rw [hr,hvs])
theorem yQo {k k':IntKind} {A:Prop} (h:bif Nat.beq (zFw k) (zFw k') then A else False):k=k'/\A:=by
 obtain ⟨h1,h2⟩:=bif_one h;exact ⟨zLt h1,h2⟩
theorem sem_of {o:Oper} {ρ:Operand->AV} {hp:Nat->Option Blk} {av:AV} {s:(Operand->Value)->Sem Value}
  (ho:∀ f:Operand->Value,execOp f o=(do pure (.value (<-s f)))) (K:Eff->Prop) (hK:K ⟨av,[],none⟩)
  (h:∀ (own:Nat->Prop) (M:Mem) (ι:Inj) (a:Act) (w:World),zBj M w->HRel own M ι hp w->(∀ x,DenA M ι (ρ x) (a.eval x))->∃ v,(s a.eval).run P w=.ok v w/\DenA M ι av v):
  ∃ e,K e/\zCr P o ρ hp e:=by
 refine ⟨_,hK,opSem_val fun own M ι a w ha hh hρ=>?_⟩;obtain ⟨v,h1,h2⟩:=h own M ι a w ha hh hρ;exact ⟨v,by rw [ho];simp [h1],h2⟩
include hT in
theorem yWx {o:Oper} {c:Call} {x:Operand} {t:TypeId} {ρ:Operand->AV} {hp:Nat->Option Blk} {K:Eff->Prop} (ho:o.op=.call c) (hc:c.callee=.builtin .len) (ha:c.args.toList=[x]) (ht:c.argTypes.toList=[t])
  (h:lenA T t (ρ x) hp (val K)):∃ e,K e/\zCr P o ρ hp e:=by
 have ha':c.args=#[x]:=by rw [<-Array.toList_inj];exact ha
 have ht':c.argTypes=#[t]:=by rw [<-Array.toList_inj];exact ht
 have hex:∀ f:Operand->Value,execOp f o=(do pure (.value (<-(do let d <-resolve f c o.type;match d.target with| .builtin _ at' ty _=>Builtin.len_ at' ty d.args|_=>pure undef)))):=by
  intro f;simp [execOp,ho,resolve,hc,invoke,builtin]
 have key:∀ (n:Nat),(∀ (own:Nat->Prop) (M:Mem) (ι:Inj) (w:World) (v:Value),HRel own M ι hp w->DenA M ι (ρ x) v->(Builtin.len_ #[t] o.type #[v]).run P w=.ok (.int .i64 n) w)->K ⟨.d (.int .i64 n),[],none⟩->∃ e,K e/\zCr P o ρ hp e:=by
  intro n hr hK
  refine sem_of hex K hK fun own M ι a w hA hh hρ=>⟨.int .i64 n,?_,.d _ _ (.int _ _)⟩
  have:=hr own M ι w _ hh (hρ x);simp [resolve,hc,ha',ht',this]
 unfold lenA at h
 split at h
 ·rename_i hk;have hu:=zOh hT hk
  split at h
  ·rename_i s hx;refine key s.size (fun own M ι w v hh hv=>?_) h;rw [hx] at hv;rw [den_str hv];simp [Builtin.len_,run_underlying hu,goInt]
  ·exact h.elim
 ·rename_i el hk;obtain ⟨hu,_⟩:=zBi hT hk
  have run:∀ (w:World) (a:Option Addr) (n c:Nat),(Builtin.len_ #[t] o.type #[.slice a n c]).run P w=.ok (.int .i64 n) w:=by
   intro w a n c;simp [Builtin.len_,run_underlying hu,goInt]
  split at h
  ·rename_i l hx;refine key l.length (fun own M ι w v hh hv=>?_) h;rw [hx] at hv
   cases hv with
   |d _ _ hv=>
    cases hv with
    |emp a c=>exact run w a 0 c
    |lst _ b off cap sz val hl hs hm hd=>exact run w _ _ _
  ·rename_i hx;refine key 0 (fun own M ι w v hh hv=>?_) h;rw [hx] at hv
   cases hv with
   |nil a=>exact run w a 0 0
  ·rename_i b lo n cp hx
   split at h
   ·rename_i B hb;refine key n (fun own M ι w v hh hv=>?_) h;rw [hx] at hv
    cases hv with
    |win _ _ _ _ L k base hL hn hc hk hbb=>exact run w _ _ _
    |winL _ _ _ _ _ hL=>rw [(hh.dom b).2 hL] at hb;cases hb
   ·exact h.elim
  ·rename_i b hx
   split at h
   ·rename_i l sz fr hb;refine key l.length (fun own M ι w v hh hv=>?_) h;rw [hx] at hv
    cases hv with
    |own _ L cap hL hn hc=>
     obtain ⟨_,cs,Ty,_,_,_,q,_⟩:=hh.at_ b _ L hb hL;rw [q];exact run w _ _ _
    |ownE _ a hL=>
     obtain ⟨sz2,fr2,e0⟩:=hh.virt b hL
     rw [hb] at e0;cases e0
     exact run w a 0 0
    |ownL _ _ hL=>rw [(hh.dom b).2 hL] at hb;cases hb
   ·exact h.elim
  ·exact h.elim
 ·exact h.elim
theorem minmax_sem {o:Oper} {c:Call} {x y:Operand} {ρ:Operand->AV} {hp:Nat->Option Blk} {K:Eff->Prop} {g:Int->Int->Int} {b:Go.Builtin} {s:Array TypeId->TypeId->Array Value->Sem Value} (ho:o.op=.call c) (hc:c.callee=.builtin b) (ha:c.args.toList=[x,y])
  (hb:∀ t1 t2 cs vs,builtin b t1 t2 cs vs=do pure (.value (<-s t1 t2 vs))) (hg:∀ t1 t2 k n m w,(s t1 t2 #[.int k n,.int k m]).run P w=.ok (.int k (g n m)) w)
  (h:match ρ x with
    | .d (.int k a)=>match ρ y with
     | .d (.int k' b)=>bif Nat.beq (zFw k) (zFw k') then K ⟨.d (.int k (g a b)),[],none⟩ else False
     |_=>False
    |_=>False):∃ e,K e/\zCr P o ρ hp e:=by
 have ha':c.args=#[x,y]:=by rw [<-Array.toList_inj];exact ha
 split at h
 ·rename_i k n hx
  split at h
  ·rename_i k' m hy;obtain ⟨e0,hK⟩:=yQo h;subst e0;refine ⟨_,hK,opSem_val fun own M ι a w hA hh hρ=>⟨.int k (g n m),?_,.d _ _ (.int _ _)⟩⟩;have ex:=den_int (hx▸hρ x);have ey:=den_int (hy▸hρ y);simp [execOp,ho,resolve,hc,invoke,hb,ha',ex,ey,hg]
  ·exact h.elim
 ·exact h.elim
include hT in
theorem yGe {o : Oper} {c : Call} {x y : Operand} {t t2 : TypeId} {ρ : Operand → AV} {hp : Nat → Option Blk} {K : Eff → Prop} (ho : o.op = .call c) (hc : c.callee = .builtin .append) (ha : c.args.toList = [x, y]) (ht : c.argTypes.toList = [t, t2]) {e e2 : TypeId} (hk : (T t).k = .slice e) (hk2 : (T t2).k = .slice e2)
    (h : zZy (T e).size (ρ y) hp fun src => match ρ x with
            | .nil => match o.dst with
              | some d => zTi src.length (T e).bytes (K ⟨.own d, [(d, .row src (T e).size false)], some d⟩)
              | none => False
            | .own b => match hp b with
              | some (.row l sz false) => bif Nat.beq sz (T e).size then zTi (l.length + src.length) (T e).bytes (K ⟨.own b, [(b, .row (l ++ src) sz false)], some b⟩) else False
              | _ => False
            | .win b lo n (some c) => z0k T e b lo n c src hp o.dst K
            | _ => False) : ∃ e, K e ∧ zCr P o ρ hp e := by
  have ha' : c.args = #[x, y] := by rw [← Array.toList_inj]; exact ha
  have ht' : c.argTypes = #[t, t2] := by rw [← Array.toList_inj]; exact ht
  have hex : ∀ (a : Act) (w w' : World) (v : Value), (Builtin.append_ #[t, t2] o.type #[a.eval x, a.eval y]).run P w = .ok v w' → (execOp a.eval o).run P w = .ok (.value v) w' := by
    intro a w w' v hr
    simp [execOp, ho, resolve, hc, invoke, builtin, ha', ht', hr]
  obtain ⟨src, h, hsrc⟩ := zZz (P := P) h
  split at h
  · rename_i hx
    split at h
    · rename_i d hd
      obtain ⟨r1, r2, h⟩ := zJp h
      refine ⟨_, h, zCu fun own M ι a w hown hA hh hρ => ?_⟩
      obtain ⟨ad, cp, vs, hu, hs, hone⟩ := hsrc own M ι w _ hA hh (hρ y)
      have hv := hρ x
      rw [hx] at hv
      generalize hvx : a.eval x = v at hv
      cases hv with
      | nil a0 =>
        rw [hu] at hs
        obtain ⟨v, w', hr, hp'⟩ := zNi hT (ty := o.type) hk hk2 hown hA hh (x := d) (base := a0) hs r1 r2
        exact ⟨v, w', hex a w w' v (by rw [hvx, hu]; exact hr), hp'⟩
    · exact h.elim
  · rename_i b hx
    split at h
    · rename_i l sz hb
      obtain ⟨hsz, h⟩ := bif_one h
      have hsz := Nat.eq_of_beq_eq_true hsz
      subst hsz
      obtain ⟨r1, r2, h⟩ := zJp h
      refine ⟨_, h, zCu fun own M ι a w hown hA hh hρ => ?_⟩
      obtain ⟨ad, cp, vs, hu, hs, hone⟩ := hsrc own M ι w _ hA hh (hρ y)
      rw [hu] at hs
      obtain ⟨v, w', hr, hp'⟩ := zXx hT (ty := o.type) hk hk2 hown hA hh hb (hx ▸ hρ x) hs hone r1 r2
      exact ⟨v, w', hex a w w' v (by rw [hu]; exact hr), hp'⟩
    · exact h.elim
  · rename_i b lo n cp hx
    exact zXy hT ho hc ha ht hk hk2 hx hsrc h
  · exact h.elim
theorem yKl {ρ:Operand->AV} {M:Mem} {ι:Inj} {a:Act} (hρ:∀ x,DenA M ι (ρ x) (a.eval x)) (l:Array Operand):yPg M ι (evs ρ l.toList) (l.map a.eval):=by
 refine ⟨by rw [z9a];simp,fun i x v e1 e2=>?_⟩;rw [z8z] at e1;simp only [Array.getElem?_map] at e2
 cases hx:l[i]? with
 |none=>simp [hx] at e2
 |some y=>
  simp only [hx,Option.map_some,Option.some.injEq] at e2;rw [Array.getElem?_toList,hx] at e1;simp only [Option.map_some,Option.some.injEq] at e1;subst e1 e2;exact hρ y
theorem zVc {o:Oper} {a:Act} {w:World} {f:FuncId} {vs:Array Value} {N:Act->World->Prop} {X:Exit->Act->World->Prop} (hr:(execOp a.eval o).run P w=.ok (.enter f vs) w)
  (h:Calls P f vs w fun en w'=>∃ v,en=.returned v/\N (a.put o.dst v) w'):o.wp P a w N X:=by
 unfold Oper.wp;rw [hr,Oper.upon_enter]
 refine h.mono fun en w' hq=>?_
 obtain ⟨v,rfl,hN⟩:=hq;exact hN
theorem yMb (f:Operand->Value) (l:Array Operand):(l.toList.map f).toArray=l.map f:=by
 rw [<-Array.toList_inj];simp
theorem z3y {o:Oper} {c:Call} {f:FuncId} {ρ:Operand->AV} {hp:Nat->Option Blk} {K:Eff->Prop} (ho:o.op=.call c) (hc:c.callee=.value (.func f))
  (h:yGi P f (evs ρ c.args.toList) hp K):∃ e,K e/\zCr P o ρ hp e:=by
 rcases h.out with ⟨e,hE,hK⟩|⟨b,hE,hK⟩
 ·refine ⟨e,hK,fun own M ι a w hown ha hh hρ=>zVc (zVf ho hc hE.1 a w) ?_⟩
  refine (hE.2 own M ι w _ hown ha hh (yKl hρ c.args)).mono fun en w' hq=>?_
  obtain ⟨v,M',ι',e1,e2,e3,e4,e5,e6,e7,e8⟩:=hq;exact ⟨v,e1,v,rfl,M',ι',e2,e3,e4,e5,e6,e7,e8⟩
 ·refine ⟨_,hK,opSem_val fun own M ι a w hA hh hρ=>⟨.bool b,?_,.d _ _ (.bool b)⟩⟩;have:=hE.2 own M ι w _ hA hh (yKl hρ c.args);simp [execOp,ho,resolve,hc,Act.eval,Deferred.ofValue,invoke,this]
theorem yI {o:Oper} {c:Call} {f:FuncId} {ρ:Operand->AV} {hp:Nat->Option Blk} {K:Eff->Prop} (ho:o.op=.call c) (hc:c.callee=.value (.func f))
  (h:zNj hp ρ c.args.toList fun ds ns=>zR P f true (evs ρ c.args.toList) hp o.dst ds ns K):∃ e,K e/\zCr P o ρ hp e:=by
 obtain ⟨ds,ns,h,hlen,hd⟩:=zRb h
 have h':zR P f true (evs ρ c.args.toList) hp o.dst (ds++[]) ns K:=by rw [List.append_nil];exact h
 obtain ⟨e,hK,hf,hsem⟩:=z4g h' hlen hd (fun _=>⟨rfl,rfl⟩);refine ⟨e,hK,fun own M ι a w hown ha hh hρ=>zVc (zVf ho hc hf a w) ?_⟩;have:=hsem own M ι a w #[] hown ha hh hρ ⟨rfl,fun i d v h1=>by simp at h1⟩;rw [yMb,Array.append_empty] at this
 exact this.mono fun en w' hq=>let ⟨v,e1,e2⟩:=hq;⟨v,e1,v,rfl,e2⟩
theorem z8j {o:Oper} {c:Call} {f:FuncId} {t:Tmp} {cs:List D} {ρ:Operand->AV} {hp:Nat->Option Blk} {K:Eff->Prop} (ho:o.op=.call c) (hc:c.callee=.value (.tmp t)) (ht:ρ (.tmp t)=.d (.fn f cs))
  (h:zNj hp ρ c.args.toList fun ds ns=>zR P f false [] hp o.dst (ds++cs) ns K):∃ e,K e/\zCr P o ρ hp e:=by
 obtain ⟨ds,ns,h,hlen,hd⟩:=zRb h;obtain ⟨e,hK,hf,hsem⟩:=z4g h hlen hd (fun h=>by cases h);refine ⟨e,hK,fun own M ι a w hown ha hh hρ=>?_⟩;have hv:=hρ (.tmp t);rw [ht] at hv;generalize hvt:a.eval (.tmp t)=v at hv
 cases hv with
 |d _ _ hv=>
  cases hv with
  |fn _ _ vs hl hdv=>
   refine zVc (z5d ho hc hf a w hvt) ?_;have:=hsem own M ι a w vs hown ha hh hρ ⟨hl,hdv⟩;rw [yMb] at this
   exact this.mono fun en w' hq=>let ⟨v,e1,e2⟩:=hq;⟨v,e1,v,rfl,e2⟩
include hT in
theorem z8f {o:Oper} {c:Call} {ρ:Operand->AV} {hp:Nat->Option Blk} {K:Eff->Prop} (ho:o.op=.call c) (h:yVp T P o c ρ hp K):∃ e,K e/\zCr P o ρ hp e:=by
 unfold yVp at h
 split at h
 ·rename_i b hc
  split at h
  ·split at h
   ·rename_i x ha
    split at h
    ·rename_i t ht;exact yWx hT ho hc ha ht h
    ·exact h.elim
   ·exact h.elim
  ·split at h
   ·rename_i x y ha
    exact minmax_sem (g:=min) (s:=Builtin.min_) ho hc ha (fun _ _ _ _=>rfl) (fun t1 t2 k n m w=>by
     simp only [Builtin.min_,List.foldlM_cons,List.foldlM_nil,Builtin.min2,Sem.run_bind,Sem.run_pure,Result.andThen_ok]
     congr 2
     simp only [Int.min_def]
     split<;>split<;>first|rfl|omega) h
   ·exact h.elim
  ·split at h
   ·rename_i x y ha
    exact minmax_sem (g:=max) (s:=Builtin.max_) ho hc ha (fun _ _ _ _=>rfl) (fun t1 t2 k n m w=>by
     simp only [Builtin.max_,List.foldlM_cons,List.foldlM_nil,Builtin.max2,Sem.run_bind,Sem.run_pure,Result.andThen_ok]
     congr 2
     simp only [Int.max_def]
     split<;>split<;>first|rfl|omega) h
   ·exact h.elim
  ·split at h
   ·rename_i x y ha
    split at h
    ·rename_i t t2 ht
     split at h
     ·rename_i e2 hk2
      split at h
      ·rename_i e hk;exact yGe hT ho hc ha ht hk hk2 h
      ·exact h.elim
     ·rename_i ki hk2
      split at h
      ·rename_i e hk
       split at h
       ·rename_i b lo n cp hx
        split at h
        ·rename_i ky q hy;exact z8b hT ho hc ha ht hk hk2 hx hy h
        ·exact h.elim
       ·rename_i hx
        split at h
        ·rename_i ky q hy;exact z7z hT ho hc ha ht hk hk2 hx hy h
        ·exact h.elim
       ·exact h.elim
      ·exact h.elim
     ·exact h.elim
    ·exact h.elim
   ·exact h.elim
  ·split at h
   ·rename_i x ha
    split at h
    ·rename_i t ht
     split at h
     ·rename_i e hk;exact yVq hT ho hc ha ht hk h
     ·exact h.elim
    ·exact h.elim
   ·exact h.elim
  ·split at h
   ·rename_i x y ha
    split at h
    ·rename_i t t2 ht
     split at h
     ·rename_i e hk;exact yPu hT ho hc ha ht hk h
     ·exact h.elim
    ·exact h.elim
   ·exact h.elim
  ·split at h
   ·rename_i x ha
    split at h
    ·rename_i t ht
     split at h
     ·rename_i e hk;exact yJq hT ho hc ha ht hk h
     ·exact h.elim
    ·exact h.elim
   ·exact h.elim
  ·exact h.elim
 ·rename_i f hc
  split at h
  ·rename_i f
   cases hp1:yIs (evs ρ c.args.toList) with
   |true=>rw [hp1] at h;exact z3y ho hc h
   |false=>rw [hp1] at h;exact yI ho hc h
  ·rename_i t
   split at h
   ·rename_i f cs hcap;refine z8j ho hc ?_ h;unfold yJj at hcap
    split at hcap
    ·rename_i f' c' hx;simp only [Option.some.injEq,Prod.mk.injEq] at hcap;obtain ⟨rfl,rfl⟩:=hcap;exact hx
    ·cases hcap
   ·exact h.elim
  ·exact h.elim
 ·exact h.elim
theorem yZh {P:Program} {T:Tab} (hT:zFo P T) {t e:TypeId} (h:(T t).k=.ptr e):P.underlying t=some (.pointer e):=by
 obtain ⟨d,i,hu,_,hk,_,_,_,he,_⟩:=(zEe hT (t:=t) (by rw [h];rfl)).desc;rw [h] at hk he
 cases d<;>simp [kindChk] at hk
 subst hk;exact hu
theorem zKq {P:Program} (w:World) (n:Nat) (t e:TypeId) (a:Option Addr) (hu:P.underlying t=some (.pointer e)):(Op.equalIn (n+1) t (.pointer a) (.pointer none)).run P w=.ok a.isNone w:=by
 cases a<;>simp [Op.equalIn,run_underlying hu]
theorem yHo {P:Program} {T:Tab} (hT:zFo P T) {t e:TypeId} {bo:BinOp} {x y:AV} {hp:Nat->Option Blk} {K:Eff->Prop} (hk:(T t).k=.ptr e) (h:yNh bo x y hp K):
  ∃ r:Bool,K ⟨.d (.bool r),[],none⟩ /\ ∀ (own:Nat->Prop) (M:Mem) (ι:Inj) (v u:Value) (X Y:Operand) (w:World),HRel own M ι hp w->DenA M ι x v->DenA M ι y u->
   (do eqGuard bo t X Y v u;binOp bo t v u:Sem Value).run P w=.ok (.bool r) w:=by
 have hu:=yZh hT hk
 have key:∀ (r:Bool),z6g bo K r->∃ r':Bool,K ⟨.d (.bool r'),[],none⟩ /\ ∀ (a:Option Addr) (X Y:Operand) (w:World),r=a.isNone->
   (do eqGuard bo t X Y (.pointer a) (.pointer none);binOp bo t (.pointer a) (.pointer none):Sem Value).run P w=.ok (.bool r') w:=by
  intro r hK;unfold z6g at hK
  split at hK
  ·exact ⟨r,hK,fun a X Y w hr=>by have heq:=zKq w 9999 t e a hu;rw [<-hr] at heq;simp [eqGuard,binOp,Op.equal,Op.maxDepth,heq]⟩
  ·exact ⟨!r,hK,fun a X Y w hr=>by have heq:=zKq w 9999 t e a hu;rw [<-hr] at heq;simp [eqGuard,binOp,Op.equal,Op.maxDepth,heq]⟩
  ·exact hK.elim
 unfold yNh at h
 split at h
 ·split at h
  ·rename_i b i j
   split at h
   ·rename_i B hb;obtain ⟨r,hK,hs⟩:=key _ h;refine ⟨r,hK,fun own M ι v u X Y w hh hv hu=>?_⟩
    cases hu with
    |d _ _ hu=>
     cases hu
     cases hv with
     |ptr _ _ _ L hL=>exact hs _ X Y w rfl
     |ptrL _ _ _ _ hL=>rw [(hh.dom b).2 hL] at hb;cases hb
   ·exact h.elim
  ·obtain ⟨r,hK,hs⟩:=key _ h;refine ⟨r,hK,fun own M ι v u X Y w hh hv hu=>?_⟩
   cases hu with
   |d _ _ hu=>
    cases hu
    cases hv with
    |d _ _ hv=>cases hv;exact hs _ X Y w rfl
  ·exact h.elim
 ·exact h.elim
include hT in
theorem zPv {o:Oper} {ρ:Operand->AV} {hp:Nat->Option Blk} {K:Eff->Prop} (h:opG T P o ρ hp K):∃ e,K e/\zCr P o ρ hp e:=by
 unfold opG at h
 split at h
 case h_1 x ho=>exact sem_of (s:=fun f=>pure (f x)) (fun f=>by simp [execOp,ho]) K (force_out h).1 fun own M ι a w _ _ hρ=>⟨_,rfl,hρ x⟩
 case h_2 x ho=>exact sem_of (s:=fun f=>pure (f x)) (fun f=>by simp [execOp,ho]) K (force_out h).1 fun own M ι a w _ _ hρ=>⟨_,rfl,hρ x⟩
 case h_3 c x y ho=>
  have key:∀ (b:Bool) (z:Operand),(∀ (M:Mem) (ι:Inj) v,DenA M ι (ρ c) v->v=.bool b)->(z=if b then x else y)->force (ρ z) (val K)->∃ e,K e/\zCr P o ρ hp e:=by
   intro b z hb hz h
   refine sem_of (s:=fun f=>do pure (if <-asBool (f c) then f x else f y)) (fun f=>by simp [execOp,ho]) K (force_out h).1 fun own M ι a w _ _ hρ=>⟨_,?_,hρ z⟩
   rw [hb M ι _ (hρ c),hz]
   cases b<;>simp [asBool]
  split at h
  ·rename_i hc;exact key true x (fun M ι v hv=>by rw [hc] at hv;cases hv;rfl) rfl h
  ·rename_i hc;exact key false y (fun M ι v hv=>by rw [hc] at hv;cases hv;rfl) rfl h
  ·rename_i b hc
   rcases bcase_out h with ⟨rfl,h1⟩|⟨rfl,h1⟩
   ·exact key true x (fun M ι v hv=>den_bool (hc▸hv)) rfl h1
   ·exact key false y (fun M ι v hv=>den_bool (hc▸hv)) rfl h1
  ·exact h.elim
 case h_4 t x ho=>
  obtain ⟨av,hK,hs⟩:=z5x hT h
  exact sem_of (s:=fun f=>Instr.loadAt t (f x)) (fun f=>by simp [execOp,ho]) K hK fun own M ι a w hA hh hρ=>hs own M ι w _ hA hh (hρ x)
 case h_5 x ho=>
  split at h
  ·rename_i b i j hx
   split at h
   ·rename_i B hb;refine ⟨_,h,opSem_val fun own M ι a w hA hh hρ=>⟨a.eval x,?_,hx▸hρ x⟩⟩;have hv:=hρ x;rw [hx] at hv;generalize hvx:a.eval x=v at hv
    cases hv with
    |ptr _ _ _ L hL=>simp [execOp,ho,hvx]
    |ptrL _ _ _ _ hL=>rw [(hh.dom b).2 hL] at hb;cases hb
   ·exact h.elim
  ·rename_i c j hx;refine ⟨_,h,opSem_val fun own M ι a w hA hh hρ=>⟨a.eval x,?_,hx▸hρ x⟩⟩;have hv:=hρ x;rw [hx] at hv;generalize hvx:a.eval x=v at hv
   cases hv with
   |d _ _ hv=>
    cases hv with
    |dp _ _ b off val hm hdd=>simp [execOp,ho,hvx]
  ·exact h.elim
 case h_6 op t x y k ho=>
  split at h
  ·rename_i e hk;obtain ⟨r,hK,hs⟩:=yHo hT hk h
   exact sem_of (s:=fun f=>do eqGuard op t x y (f x) (f y);binOp op t (f x) (f y)) (fun f=>by simp [execOp,ho]) K hK fun own M ι a w hA hh hρ=>⟨_,hs own M ι _ _ x y w hh (hρ x) (hρ y),.d _ _ (.bool r)⟩
  ·obtain ⟨av,hK,hs⟩:=yPo hT h
   exact sem_of (s:=fun f=>do eqGuard op t x y (f x) (f y);binOp op t (f x) (f y)) (fun f=>by simp [execOp,ho]) K hK fun own M ι a w hA hh hρ=>hs M ι _ _ (hρ x) (hρ y) x y w
 case h_7 op t x ho=>
  split at h
  ·split at h
   ·rename_i b hx
    exact sem_of (s:=fun f=>Op.unary .not (f x)) (fun f=>by simp [execOp,ho]) K h fun own M ι a w hA hh hρ=>⟨.bool (!b),by have e0:=den_bool (hx▸hρ x);rw [e0];simp [Op.unary],.d _ _ (.bool _)⟩
   ·rename_i hx
    exact sem_of (s:=fun f=>Op.unary .not (f x)) (fun f=>by simp [execOp,ho]) K h fun own M ι a w hA hh hρ=>⟨.bool false,by
     have hv:=hρ x;rw [hx] at hv;generalize hvx:a.eval x=v at hv
     cases hv;simp [Op.unary],.ff⟩
   ·rename_i hx
    exact sem_of (s:=fun f=>Op.unary .not (f x)) (fun f=>by simp [execOp,ho]) K h fun own M ι a w hA hh hρ=>⟨.bool true,by
     have hv:=hρ x;rw [hx] at hv;generalize hvx:a.eval x=v at hv
     cases hv;simp [Op.unary],.tt⟩
   ·exact h.elim
  ·split at h
   ·rename_i k n hx
    exact sem_of (s:=fun f=>Op.unary .xor (f x)) (fun f=>by simp [execOp,ho]) K h fun own M ι a w hA hh hρ=>⟨_,by have e0:=den_int (hx▸hρ x);rw [e0];simp [Op.unary,Op.intBits,zIh],.d _ _ (.int _ _)⟩
   ·exact h.elim
  ·exact h.elim
 case h_8 src dst x ho=>
  split at h
  ·rename_i k hk
   split at h
   ·rename_i k2 hk2
    split at h
    ·rename_i k' n hx;have hK:=wrapK_out h
     exact sem_of (s:=fun f=>convert src dst (f x)) (fun f=>by simp [execOp,ho]) K hK fun own M ι a w hA hh hρ=>⟨_,by have e0:=den_int (hx▸hρ x);rw [e0];simp [convert,run_underlying (zOg hT hk),run_underlying (zOg hT hk2),Conv.intToInt],.d _ _ (.int _ _)⟩
    ·exact h.elim
   ·exact h.elim
  ·rename_i hk
   split at h
   ·rename_i e hk2
    split at h
    ·rename_i ik hk3
     cases hik:Nat.beq (zFw ik) 4 with
     |false=>rw [hik] at h;exact h.elim
     |true=>
      rw [hik] at h
      have eik:ik=.u8:=by cases ik<;>first|rfl|exact absurd hik (by decide)
      subst eik;obtain ⟨l,h,hsrc⟩:=zZz (P:=P) (show zZy 1 (ρ x) hp _ from h)
      split at h
      ·rename_i ns hns
       refine sem_of (s:=fun f=>convert src dst (f x)) (fun f=>by simp [execOp,ho]) K h fun own M ι a w hA hh hρ=>?_
       obtain ⟨ad,cp,vs,hu,hs,_⟩:=hsrc own M ι w _ hA hh (hρ x);rw [hu] at hs;refine ⟨_,?_,.d _ _ (.str _)⟩;rw [hu,run_convert_bytes_string w src dst e ad _ _ (zBi hT hk2).1 (zOg hT hk3) (zOh hT hk)];exact yJi hs hns
      ·exact h.elim
    ·exact h.elim
   ·exact h.elim
  ·exact h.elim
 case h_9 t x lo hi mx ho=>exact yOa hT ho h
 case h_10 s x f ho=>
  split at h
  ·rename_i b i j hx
   split at h
   ·rename_i B hb;obtain ⟨F,fl,hu,hf,hk,hK⟩:=zLk hT h
    refine sem_of (s:=fun g=>Instr.fieldAt s (g x) f) (fun f=>by simp [execOp,ho]) K hK fun own M ι a w hA hh hρ=>?_
    have hv:=hρ x;rw [hx] at hv;generalize hvx:a.eval x=v at hv
    cases hv with
    |ptr _ _ _ L hL=>exact ⟨_,zVi hT hu hf hk _ _ w,by rw [Nat.add_assoc];exact .ptr b i _ L hL⟩
    |ptrL _ _ _ _ hL=>rw [(hh.dom b).2 hL] at hb;cases hb
   ·exact h.elim
  ·rename_i c j hx;obtain ⟨F,fl,hu,hf,hk,hK⟩:=zLk hT h
   refine sem_of (s:=fun g=>Instr.fieldAt s (g x) f) (fun f=>by simp [execOp,ho]) K hK fun own M ι a w hA hh hρ=>?_
   have hv:=hρ x;rw [hx] at hv;generalize hvx:a.eval x=v at hv
   cases hv with
   |d _ _ hv=>
    cases hv with
    |dp _ _ b off val hm hdd=>exact ⟨_,zVi hT hu hf hk _ _ w,by rw [Nat.add_assoc];exact .d _ _ (.dp c _ b off val hm hdd)⟩
  ·exact h.elim
 case h_11 s x f ho=>
  split at h
  ·rename_i c hx;obtain ⟨F,fl,hu,hf,hk,h⟩:=zLk hT h;obtain ⟨av,hK,hl,hd⟩:=zPx h (size_one hT hk)
   refine sem_of (s:=fun g=>Instr.field s (g x) f) (fun f=>by simp [execOp,ho]) K hK fun own M ι a w hA hh hρ=>?_
   have hv:=hρ x;rw [hx] at hv;obtain ⟨vs,hvs,hs,hdv⟩:=zFt hv
   obtain ⟨g,hg,hden⟩:=hd M ι (fun i=>vs[i]?) (fun i x hx=>by
    have hlt:i<vs.size:=by rw [hs];exact (List.getElem?_eq_some_iff.1 hx).1
    exact ⟨vs[i],by simp [hlt],hdv i x _ hx (by simp [hlt])⟩)
   refine ⟨_,?_,hden⟩;rw [hvs];simp only [Instr.field,asAgg,Sem.run_bind,Sem.run_pure,Result.andThen_ok,run_underlying hu,hf,part,zMz hT w hk]
   cases ha:(T fl.type).k.agg with
   |true=>
    simp only [if_true,Sem.run_bind,zBd hT w hk,Result.andThen_ok,Sem.run_pure]
    congr 2
    apply Array.ext_getElem?;intro i;rw [Array.getElem?_extract];simp only [List.getElem?_toArray,List.getElem?_map]
    split
    ·rename_i hi
     rw [hg i (by omega),List.getElem?_range (by omega)];rfl
    ·rename_i hi
     rw [List.getElem?_eq_none (by simp;omega)];rfl
   |false=>
    have:=hg 0 (by have:=zFj hT hk;omega);simp only [Nat.add_zero] at this;simp [this]
  ·exact h.elim
 case h_12 t x i ho=>
  obtain ⟨av,hK,hs⟩:=zYc hT h
  exact sem_of (s:=fun f=>Instr.indexAt t (f x) (f i)) (fun f=>by simp [execOp,ho]) K hK fun own M ι a w hA hh hρ=>hs own M ι w _ _ hh (hρ x) (hρ i)
 case h_13 t x i ho=>
  obtain ⟨av,hK,hs⟩:=yGv hT h
  exact sem_of (s:=fun f=>Instr.index t (f x) (f i)) (fun f=>by simp [execOp,ho]) K hK fun own M ι a w hA hh hρ=>hs M ι w _ _ (hρ x) (hρ i)
 case h_14 x i ho=>
  split at h
  ·rename_i c hx;unfold getC at h
   split at h
   ·rename_i y hy
    refine sem_of (s:=fun f=>Instr.extract (f x) i) (fun f=>by simp [execOp,ho]) K (force_out h).1 fun own M ι a w hA hh hρ=>?_
    have hv:=hρ x;rw [hx] at hv;obtain ⟨vs,hvs,hs,hdv⟩:=z8m hv
    have hlt:i<vs.size:=by rw [hs];exact (List.getElem?_eq_some_iff.1 hy).1
    exact ⟨vs[i],by rw [hvs];simp [Instr.extract,hlt],hdv i y _ hy (by simp [hlt])⟩
   ·exact h.elim
  ·exact h.elim
 case h_15 t ps ho=>exact yJg hT ho h
 case h_16 t ho=>
  split at h
  ·rename_i d hd;exact yIr hT ho h
  ·exact h.elim
 case h_17 t x ho=>
  split at h
  ·rename_i d hd;exact yVo ho h
  ·exact h.elim
 case h_18 t x y ho=>
  split at h
  ·rename_i b i j hx
   split at h
   ·rename_i c hb;exact z7e hT ho hx hb h
   ·rename_i l sz hb;exact z7g hT ho hx hb h
   ·exact h.elim
  ·exact h.elim
 case h_19 t x y ho=>
  split at h
  ·rename_i d hd
   split at h
   ·rename_i e hk
    split at h
    ·rename_i k1 n hx
     split at h
     ·rename_i k2 c hy;exact z1p hT ho hx hy hk h
     ·exact h.elim
    ·exact h.elim
   ·exact h.elim
  ·exact h.elim
 case h_20 t n ps ho=>
  split at h
  ·rename_i d hd;exact zY hT ho h
  ·exact h.elim
 case h_21 fn first cap ho=>
  split at h
  ·rename_i f;exact z6a ho h
  ·exact h.elim
 case h_22 c ho=>exact z8f hT ho h
 case h_23=>exact h.elim
end
end Go.Lk

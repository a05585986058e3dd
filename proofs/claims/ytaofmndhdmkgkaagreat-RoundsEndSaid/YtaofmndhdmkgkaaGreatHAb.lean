/-
  What is proved here: what functions of the program compute, and what follows; no condition beyond each theorem's own.
-/
import Derived.Test.YtaofmndhdmkgkaaGreatHAa
set_option linter.unusedSimpArgs false
set_option linter.unusedVariables false
set_option linter.unnecessarySimpa false
set_option linter.unusedSectionVars false
namespace Go.Lk
open Go Go.RowKit
def Agree (M:Mem) (w:World):Prop:=∀ (b o:Nat) (v:Value),M b o=some v->w.cell? ⟨b,o,none⟩=some v
def Fresh (w:World) (M M':Mem):Prop:=∀ (b o:Nat) (v:Value),M' b o=some v->M b o=some v\/w.heap.size<=b
def DenDs (M:Mem) (ds:List D) (vs:Array Value):Prop:=vs.size=ds.length/\ ∀ (i:Nat) (d:D) (v:Value),ds[i]?=some d->vs[i]?=some v->DenD M d v
def DenAs (M:Mem) (ι:Inj) (xs:List AV) (vs:Array Value):Prop:=vs.size=xs.length/\ ∀ (i:Nat) (d:AV) (v:Value),xs[i]?=some d->vs[i]?=some v->DenA M ι d v
structure RowAt (M:Mem) (cs:Array Value) (l:List (List D)) (sz:Nat):Prop where
 len:∀ (i:Nat) (e:List D),l[i]?=some e->e.length=sz
 den:∀ (i j:Nat) (e:List D) (d:D),l[i]?=some e->e[j]?=some d->∃ v,cs[i*sz+j]?=some v/\DenD M d v
structure BoxAt (M:Mem) (ι:Inj) (cs:Array Value) (c:List AV):Prop where
 size:cs.size=c.length
 den:∀ (j:Nat) (x:AV),c[j]?=some x->∃ v,cs[j]?=some v/\DenA M ι x v
def Frz (M:Mem) (blk:Nat) (cs:Array Value) (n:Nat) (fr:Bool):Prop:=
 (fr=true->∀ (o:Nat) (v:Value),o<n->cs[o]?=some v->M blk o=some v) /\ (fr=false->∀ o:Nat,M blk o=none)
def BlkAt (M:Mem) (ι:Inj) (w:World) (B:Blk) (L:Loc):Prop:=
 ∃ (cs:Array Value) (T:TypeId),w.heap[L.blk]?=some (.cells cs T (0,0)) /\cs.size=L.size/\
  match B with
  | .row l sz fr=>sz=L.sz/\l.length=L.len/\l.length*sz<=L.size/\RowAt M cs l sz/\Frz M L.blk cs (l.length*sz) fr
  | .box c fr=>L.sz=c.length/\L.size=c.length/\BoxAt M ι cs c/\Frz M L.blk cs c.length fr
structure HRel (own:Nat->Prop) (M:Mem) (ι:Inj) (hp:Nat->Option Blk) (w:World):Prop where
 dom:∀ b,hp b=none↔ι b=none
 virt:∀ b,ι b=some none->∃ sz fr,hp b=some (.row [] sz fr)
 at_:∀ (b:Nat) (B:Blk) (L:Loc),hp b=some B->ι b=some (some L)->own L.blk/\BlkAt M ι w B L
 inj:∀ (b b':Nat) (L L':Loc),ι b=some (some L)->ι b'=some (some L')->L.blk=L'.blk->b=b'
structure FrameOwn (own:Nat->Prop) (w0 w:World):Prop where
 os:w.os=w0.os
 tape:w.tape=w0.tape
 output:w.output=w0.output
 size:w0.heap.size<=w.heap.size
 block:∀ c,¬own c->w.heap[c]?=w0.heap[c]?
def NewDom (own:Nat->Prop) (M M':Mem):Prop:=∀ (b o:Nat) (v:Value),M' b o=some v->M b o=some v\/own b
def FnOk (P:Program) (f:FuncId):Prop:=∃ fn,P.funcs[f]?=some fn/\fn.body.isSome=true/\ (fn.name== "runtime.NumGoroutine")=false
def ACall (P:Program) (f:FuncId) (ds:List D) (d:D):Prop:=
 FnOk P f/\ ∀ (w:World) (M:Mem) (vs:Array Value),Agree M w->DenDs M ds vs->Calls P f vs w fun e w'=>
  ∃ (v:Value) (M':Mem),e=.returned v/\Below w.heap.size w w'/\Sub M M'/\Agree M' w'/\Fresh w M M'/\DenD M' d v
def OCall (P:Program) (f:FuncId) (ds:List D) (l:List (List D)) (sz:Nat):Prop:=
 FnOk P f/\ ∀ (w:World) (M:Mem) (vs:Array Value),Agree M w->DenDs M ds vs->Calls P f vs w fun e w'=>
  ∃ (v:Value) (M':Mem),e=.returned v/\Below w.heap.size w w'/\Sub M M'/\Agree M' w'/\Fresh w M M'/\
   ((l=[] /\ ∃ a,v=.slice a 0 0) \/ ∃ (c cap:Nat) (cs:Array Value) (T:TypeId),w.heap.size<=c/\v=.slice (some ⟨c,0,none⟩) l.length cap/\l.length<=cap/\
    cap*sz<=cs.size/\w'.heap[c]?=some (.cells cs T (0,0)) /\RowAt M' cs l sz/\ ∀ o,M' c o=none)
inductive SC where
 |d (x:D)
 |row (l:List (List D)) (sz:Nat)
def RowOk (w w':World) (M':Mem) (l:List (List D)) (sz:Nat) (L:Option Loc) (v:Value):Prop:=
 match L with
 |none=>l=[] /\ ∃ a,v=.slice a 0 0
 |some L=>w.heap.size<=L.blk/\ ∃ (cap:Nat) (cs:Array Value) (T:TypeId),v=.slice (some ⟨L.blk,0,none⟩) l.length cap/\L.len=l.length/\L.sz=sz/\L.size=cs.size/\l.length<=cap/\
  cap*sz<=cs.size/\w'.heap[L.blk]?=some (.cells cs T (0,0)) /\RowAt M' cs l sz/\ ∀ o,M' L.blk o=none
def SCall (P:Program) (f:FuncId) (ds:List D) (cs:List SC):Prop:=
 FnOk P f/\ ∀ (w:World) (M:Mem) (vs:Array Value),Agree M w->DenDs M ds vs->Calls P f vs w fun e w'=>
  ∃ (us:Array Value) (M':Mem) (bl:Nat->Option Loc),e=.returned (.agg us) /\Below w.heap.size w w'/\Sub M M'/\Agree M' w'/\Fresh w M M'/\us.size=cs.length/\
   (∀ (i:Nat) (c:SC),cs[i]?=some c->∃ u,us[i]?=some u/\match c with
    | .d x=>DenD M' x u
    | .row l sz=>RowOk w w' M' l sz (bl i) u) /\
   ∀ (i j:Nat) (L L':Loc),bl i=some L->bl j=some L'->L.blk=L'.blk->i=j
def PCall (P:Program) (f:FuncId) (ds:List D) (cs:List SC) (rs:List D):Prop:=
 FnOk P f/\ ∀ (w:World) (M:Mem) (vs:Array Value),Agree M w->DenDs M ds vs->Calls P f vs w fun e w'=>
  ∃ (c:Nat) (us rv:Array Value) (Ty:TypeId) (M':Mem) (bl:Nat->Option Loc),e=.returned (.tuple (#[.pointer (some ⟨c,0,none⟩)]++rv)) /\w.heap.size<=c/\w'.heap[c]?=some (.cells us Ty (0,0)) /\ (∀ o,M' c o=none) /\
   Below w.heap.size w w'/\Sub M M'/\Agree M' w'/\Fresh w M M'/\us.size=cs.length/\DenDs M' rs rv/\
   (∀ (i:Nat) (c:SC),cs[i]?=some c->∃ u,us[i]?=some u/\match c with
    | .d x=>DenD M' x u
    | .row l sz=>RowOk w w' M' l sz (bl i) u) /\
   (∀ (i j:Nat) (L L':Loc),bl i=some L->bl j=some L'->L.blk=L'.blk->i=j) /\ ∀ (i:Nat) (L:Loc),bl i=some L->L.blk≠c
def sAv (k:Nat):List SC->List AV
 | []=>[]
 | .d x::r=>.d x::sAv k r
 | .row _ _::r=>.own k::sAv (k+1) r
def sWr (k:Nat):List SC->List (Nat×Blk)
 | []=>[]
 | .d _::r=>sWr k r
 | .row l sz::r=>(k,.row l sz false)::sWr (k+1) r
def killT (k:Option Nat) (tm:Nat->AV):Nat->AV:=
 match k with
 |none=>tm
 |some b=>fun t=>killV b (tm t)
def killB (b:Nat):Blk->Blk
 | .row l sz fr=>.row l sz fr
 | .box c fr=>.box (cells b c) fr
 where
 cells (b:Nat):List AV->List AV
  | []=>[]
  |x::r=>killV b x::cells b r
def killH (k:Option Nat) (hp:Nat->Option Blk):Nat->Option Blk:=
 match k with
 |none=>hp
 |some b=>fun t=>match hp t with
  |some B=>some (killB b B)
  |none=>none
def writes (hp:Nat->Option Blk):List (Nat×Blk)->Nat->Option Blk
 | []=>hp
 |(b,B)::r=>writes (upd hp b (some B)) r
def Eff.hp (e:Eff) (hp:Nat->Option Blk):Nat->Option Blk:=writes (killH e.kl hp) e.wr
def Kp (kl:Option Nat) (b:Nat):Prop:=
 match kl with
 |none=>True
 |some k=>Fm k b=false
theorem Kp_ne {k b:Nat} (h:Kp (some k) b):b≠k:=Fm_ne h
def ECall (P:Program) (f:FuncId) (xs:List AV) (hp:Nat->Option Blk) (e:Eff):Prop:=
 FnOk P f/\ ∀ (own:Nat->Prop) (M:Mem) (ι:Inj) (w:World) (vs:Array Value),(∀ c,w.heap.size<=c->own c)->Agree M w->HRel own M ι hp w->DenAs M ι xs vs->
  Calls P f vs w fun en w'=>∃ (v:Value) (M':Mem) (ι':Inj),en=.returned v/\FrameOwn own w w'/\Sub M M'/\Agree M' w'/\NewDom own M M'/\
   HRel own M' ι' (e.hp hp) w'/\ (∀ b,Kp e.kl b->ι' b=ι b) /\DenA M' ι' e.av v
structure callX (P:Program) (f:FuncId) (st:Bool) (xs:List AV) (hp:Nat->Option Blk) (dst:Option Tmp) (ds:List D) (ns:List Nat) (K:Eff->Prop):Prop where
 out:(∃ d,ACall P f ds d/\bif scalar d then K ⟨ofD d,[],none⟩ else K ⟨ofD d,frz hp ns,none⟩) \/
 (∃ l sz t,OCall P f ds l sz/\dst=some t/\K ⟨.own t,frz hp ns++[(t,.row l sz false)],some t⟩) \/
 (st=true/\ ∃ e,ECall P f xs hp e/\K e) \/
 (∃ cs t,SCall P f ds cs/\dst=some t/\ (sWr 0 cs).length<=8/\K ⟨.agg (sAv (2000000+8*t) cs),frz hp ns++sWr (2000000+8*t) cs,some (2000000+8*t)⟩) \/
 (∃ cs rs t,PCall P f ds cs rs/\dst=some t/\ (sWr 0 cs).length<=7/\K ⟨.tup (.ptr (2000000+8*t) 0 0::rs.map ofD.one),frz hp ns++(sWr (2000000+8*t+1) cs++[(2000000+8*t,.box (sAv (2000000+8*t+1) cs) false)]),some (2000000+8*t)⟩)
theorem callX_pure {P:Program} {f:FuncId} {st:Bool} {xs:List AV} {hp:Nat->Option Blk} {dst:Option Tmp} {ds:List D} {ns:List Nat} {K:Eff->Prop} {d:D}
  (h:ACall P f ds d) (k:bif scalar d then K ⟨ofD d,[],none⟩ else K ⟨ofD d,frz hp ns,none⟩):callX P f st xs hp dst ds ns K:=⟨.inl ⟨d,h,k⟩⟩
theorem callX_own {P:Program} {f:FuncId} {st:Bool} {xs:List AV} {hp:Nat->Option Blk} {t:Tmp} {ds:List D} {ns:List Nat} {K:Eff->Prop} {l:List (List D)} {sz:Nat}
  (h:OCall P f ds l sz) (k:K ⟨.own t,frz hp ns++[(t,.row l sz false)],some t⟩):callX P f st xs hp (some t) ds ns K:=⟨.inr (.inl ⟨l,sz,t,h,rfl,k⟩)⟩
theorem callX_heap {P:Program} {f:FuncId} {xs:List AV} {hp:Nat->Option Blk} {dst:Option Tmp} {ds:List D} {ns:List Nat} {K:Eff->Prop} {e:Eff}
  (h:ECall P f xs hp e) (k:K e):callX P f true xs hp dst ds ns K:=⟨.inr (.inr (.inl ⟨rfl,e,h,k⟩))⟩
theorem callX_str {P:Program} {f:FuncId} {st:Bool} {xs:List AV} {hp:Nat->Option Blk} {t:Tmp} {ds:List D} {ns:List Nat} {K:Eff->Prop} {cs:List SC}
  (h:SCall P f ds cs) (hn:(sWr 0 cs).length<=8) (k:K ⟨.agg (sAv (2000000+8*t) cs),frz hp ns++sWr (2000000+8*t) cs,some (2000000+8*t)⟩):callX P f st xs hp (some t) ds ns K:=⟨.inr (.inr (.inr (.inl ⟨cs,t,h,rfl,hn,k⟩)))⟩
theorem callX_ptr {P:Program} {f:FuncId} {st:Bool} {xs:List AV} {hp:Nat->Option Blk} {t:Tmp} {ds:List D} {ns:List Nat} {K:Eff->Prop} {cs:List SC} {rs:List D}
  (h:PCall P f ds cs rs) (hn:(sWr 0 cs).length<=7) (k:K ⟨.tup (.ptr (2000000+8*t) 0 0::rs.map ofD.one),frz hp ns++(sWr (2000000+8*t+1) cs++[(2000000+8*t,.box (sAv (2000000+8*t+1) cs) false)]),some (2000000+8*t)⟩):
  callX P f st xs hp (some t) ds ns K:=⟨.inr (.inr (.inr (.inr ⟨cs,rs,t,h,rfl,hn,k⟩)))⟩
def XCall (P:Program) (f:FuncId) (xs:List AV) (hp:Nat->Option Blk) (b:Bool):Prop:=
 (∃ fn,P.funcs[f]?=some fn/\fn.body.isSome=false) /\ ∀ (own:Nat->Prop) (M:Mem) (ι:Inj) (w:World) (vs:Array Value),Agree M w->HRel own M ι hp w->DenAs M ι xs vs->(callFunc f vs).run P w=.ok (.value (.bool b)) w
structure callH (P:Program) (f:FuncId) (xs:List AV) (hp:Nat->Option Blk) (K:Eff->Prop):Prop where
 out:(∃ e,ECall P f xs hp e/\K e) \/ ∃ b,XCall P f xs hp b/\K ⟨.d (.bool b),[],none⟩
theorem callH_of {P:Program} {f:FuncId} {xs:List AV} {hp:Nat->Option Blk} {K:Eff->Prop} {e:Eff} (h:ECall P f xs hp e) (k:K e):callH P f xs hp K:=⟨.inl ⟨e,h,k⟩⟩
theorem callH_ext {P:Program} {f:FuncId} {xs:List AV} {hp:Nat->Option Blk} {K:Eff->Prop} {b:Bool} (h:XCall P f xs hp b) (k:K ⟨.d (.bool b),[],none⟩):callH P f xs hp K:=⟨.inr ⟨b,h,k⟩⟩
def capList:AV->Option (FuncId×List D)
 | .d (.fn f c)=>some (f,c)
 |_=>none
def isPtr:AV->Bool
 | .ptr _ _ _=>true
 | .win _ _ _ _=>true
 |_=>false
def evs (ρ:Operand->AV):List Operand->List AV
 | []=>[]
 |x::r=>ρ x::evs ρ r
def anyPtr:List AV->Bool
 | []=>false
 |x::r=>bif isPtr x then true else anyPtr r
def val (K:Eff->Prop) (v:AV):Prop:=K ⟨v,[],none⟩
def callG (T : Tab) (P : Program) (o : Oper) (c : Call) (ρ : Operand → AV) (hp : Nat → Option Blk) (K : Eff → Prop) : Prop :=
  match c.callee with
  | .builtin b => match b with
    | .len => match c.args.toList with
      | [x] => match c.argTypes.toList with
        | [t] => lenA T t (ρ x) hp (val K)
        | _ => False
      | _ => False
    | .min => match c.args.toList with
      | [x, y] => match ρ x with
        | .d (.int k a) => match ρ y with
          | .d (.int k' b) => bif Nat.beq (kcode k) (kcode k') then K ⟨.d (.int k (min a b)), [], none⟩ else False
          | _ => False
        | _ => False
      | _ => False
    | .max => match c.args.toList with
      | [x, y] => match ρ x with
        | .d (.int k a) => match ρ y with
          | .d (.int k' b) => bif Nat.beq (kcode k) (kcode k') then K ⟨.d (.int k (max a b)), [], none⟩ else False
          | _ => False
        | _ => False
      | _ => False
    | .append => match c.args.toList with
      | [x, y] => match c.argTypes.toList with
        | [t, t2] => match (T t2).k with
         | .slice _ => match (T t).k with
          | .slice e => srcRow (T e).size (ρ y) hp fun src => match ρ x with
            | .nil => match o.dst with
              | some d => roomK src.length (T e).bytes (K ⟨.own d, [(d, .row src (T e).size false)], some d⟩)
              | none => False
            | .own b => match hp b with
              | some (.row l sz false) => bif Nat.beq sz (T e).size then roomK (l.length + src.length) (T e).bytes (K ⟨.own b, [(b, .row (l ++ src) sz false)], some b⟩) else False
              | _ => False
            | .win b lo n (some c) => appendW T e b lo n c src hp o.dst K
            | _ => False
          | _ => False
         | .int _ => match (T t).k with
          | .slice e => match ρ x with
            | .win b lo n (some c) => match ρ y with
              | .d (.int _ k) => appendZ T e b lo n c k hp o.dst K
              | _ => False
            | .nil => match ρ y with
              | .d (.int _ k) => appendN T e k o.dst K
              | _ => False
            | _ => False
          | _ => False
         | _ => False
        | _ => False
      | _ => False
    | .cap => match c.args.toList with
      | [x] => match c.argTypes.toList with
        | [t] => match (T t).k with
          | .slice _ => match ρ x with
            | .win b _ _ (some c) => match hp b with
              | some _ => K ⟨.d (.int .i64 c), [], none⟩
              | none => False
            | .nil => K ⟨.d (.int .i64 0), [], none⟩
            | _ => False
          | _ => False
        | _ => False
      | _ => False
    | .copy => match c.args.toList with
      | [x, y] => match c.argTypes.toList with
        | [t, t2] => match (T t).k with
          | .slice e => copyW T e (ρ x) (ρ y) hp K
          | _ => False
        | _ => False
      | _ => False
    | .clear => match c.args.toList with
      | [x] => match c.argTypes.toList with
        | [t] => match (T t).k with
          | .slice e => clearW T e (ρ x) hp K
          | _ => False
        | _ => False
      | _ => False
    | _ => False
  | .value f => match f with
    | .func f => bif anyPtr (evs ρ c.args.toList) then callH P f (evs ρ c.args.toList) hp K else convsK hp ρ c.args.toList fun ds ns => callX P f true (evs ρ c.args.toList) hp o.dst ds ns K
    | .tmp t => match capList (ρ (.tmp t)) with
      | some (f, cs) => convsK hp ρ c.args.toList fun ds ns => callX P f false [] hp o.dst (ds ++ cs) ns K
      | none => False
    | _ => False
  | _ => False
def storeK (c:List AV) (j:Nat) (v:AV) (K:List AV->Prop):Prop:=
 match v with
 | .agg l=>bif Nat.beq l.length c.length then forceL l K else K (spliceF c j l)
 |v=>K (splice c j [v])
def bytesL:List (List D)->Option (List Int)
 | []=>some []
 |e::r=>match e with
  | [.int k n]=>bif Nat.beq (kcode k) 4 then (match bytesL r with
   |some ns=>some (n::ns)
   |none=>none) else none
  |_=>none
def bstr (ns:List Int):ByteArray:=ns.foldl (fun r n=>r.push (UInt8.ofNat n.toNat)) ByteArray.empty
def nilOp (bo:BinOp) (K:Eff->Prop) (r:Bool):Prop:=
 match bo with
 | .eql=>K ⟨.d (.bool r),[],none⟩
 | .neq=>K ⟨.d (.bool (!r)),[],none⟩
 |_=>False
def ptrNil (bo:BinOp) (x y:AV) (hp:Nat->Option Blk) (K:Eff->Prop):Prop:=
 match y with
 | .d .nilp=>match x with
  | .ptr b _ _=>match hp b with
   |some _=>nilOp bo K false
   |none=>False
  | .d .nilp=>nilOp bo K true
  |_=>False
 |_=>False
def opG (T:Tab) (P:Program) (o:Oper) (ρ:Operand->AV) (hp:Nat->Option Blk) (K:Eff->Prop):Prop:=
 match o.op with
 | .move x=>force (ρ x) (val K)
 | .assign x=>force (ρ x) (val K)
 | .pick c a b=>match ρ c with
  | .tt=>force (ρ a) (val K)
  | .ff=>force (ρ b) (val K)
  | .d (.bool c)=>bcase c (force (ρ a) (val K)) (force (ρ b) (val K))
  |_=>False
 | .load t a=>loadA T t (ρ a) hp (val K)
 | .nilCheck x=>match ρ x with
  | .ptr b i j=>match hp b with
   |some _=>K ⟨.ptr b i j,[],none⟩
   |none=>False
  | .d (.dp c j)=>K ⟨.d (.dp c j),[],none⟩
  |_=>False
 | .binOp op t x y _=>match (T t).k with
  | .ptr _=>ptrNil op (ρ x) (ρ y) hp K
  |_=>binA T t op (ρ x) (ρ y) (val K)
 | .unOp op _ x=>match op with
  | .not=>match ρ x with
   | .d (.bool b)=>K ⟨.d (.bool (!b)),[],none⟩
   | .tt=>K ⟨.ff,[],none⟩
   | .ff=>K ⟨.tt,[],none⟩
   |_=>False
  | .xor=>match ρ x with
   | .d (.int k n)=>K ⟨.d (.int k (bitsV .xor k (if k.signed then-1 else k.max) n)),[],none⟩
   |_=>False
  |_=>False
 | .convert src dst x=>match (T dst).k with
  | .int k=>match (T src).k with
   | .int _=>match ρ x with
    | .d (.int _ n)=>wrapK k n fun n=>K ⟨.d (.int k n),[],none⟩
    |_=>False
   |_=>False
  | .str=>match (T src).k with
   | .slice e=>match (T e).k with
    | .int ik=>bif Nat.beq (kcode ik) 4 then srcRow 1 (ρ x) hp fun l=>(match bytesL l with
     |some ns=>K ⟨.d (.str (bstr ns)),[],none⟩
     |none=>False) else False
    |_=>False
   |_=>False
  |_=>False
 | .slice t x lo hi mx=>sliceBd ρ lo fun lo=>sliceBd ρ hi fun hi=>sliceBd ρ mx fun mx=>sliceA T t (ρ x) hp lo hi mx K
 | .fieldAddr s x f=>match ρ x with
  | .ptr b i j=>match hp b with
   |some _=>fieldOff T s f fun o _=>K ⟨.ptr b i (j+o),[],none⟩
   |none=>False
  | .d (.dp c j)=>fieldOff T s f fun o _=>K ⟨.d (.dp c (j+o)),[],none⟩
  |_=>False
 | .field s x f=>match ρ x with
  | .agg c=>fieldOff T s f fun o t=>partA (T t).k.agg (T t).size c o (val K)
  |_=>False
 | .indexAddr t x i=>indexAddrA T t (ρ x) (ρ i) hp (val K)
 | .index t x i=>indexA T t (ρ x) (ρ i) (val K)
 | .extract x i=>match ρ x with
  | .tup c=>getC c i (val K)
  |_=>False
 | .build t ps=>match (T t).k with
  | .struct fs=>partsA hp ρ (offIn T fs) ((T t).zero.map zA) ps.toList fun c=>forceL c fun c=>K ⟨.agg c,[],none⟩
  | .arr _ e=>partsA hp ρ (fun i=>some (i*(T e).size,(T e).size)) ((T t).zero.map zA) ps.toList fun c=>K ⟨.agg c,[],none⟩
  |_=>False
 | .alloc t=>match o.dst with
  |some d=>bif (T t).k.known then forceL ((T t).zero.map zA) fun c=>K ⟨.ptr d 0 0,[(d,.box c false)],some d⟩ else False
  |none=>False
 | .box _ x=>match o.dst with
  |some d=>force (ρ x) fun v=>bif cells1 hp (cellsOf v) then forceL (killB.cells d (cellsOf v)) fun c=>K ⟨.ptr d 0 0,[(d,.box c false)],some d⟩ else False
  |none=>False
 | .store t a x=>match ρ a with
  | .ptr b i j=>match hp b with
   |some (.box c false)=>force (ρ x) fun v=>condK (i=0) (bif (T t).k.known&&Nat.beq (cellsOf v).length (T t).size then (bif cells1 hp (cellsOf v) then (bif Nat.ble (j+(T t).size) c.length then storeK c j v fun c=>K ⟨.dead,[(b,.box c false)],none⟩ else False) else False) else False)
   |some (.row l sz false)=>force (ρ x) fun v=>match conv.cells hp (cellsOf v) with
    |some xs=>bif (T t).k.known&&Nat.beq (cellsOf v).length (T t).size&&!memN b (openNames.cells hp (cellsOf v)) then (bif cells1 hp (cellsOf v) then getRow l i fun e=>bif Nat.ble (j+(T t).size) e.length then K ⟨.dead,frz hp (openNames.cells hp (cellsOf v))++[(b,.row (l.set i (splice e j xs)) sz false)],none⟩ else False else False) else False
    |none=>False
   |_=>False
  |_=>False
 | .makeSlice t n c=>match o.dst with
  |some d=>match (T t).k with
   | .slice e=>match ρ n with
    | .d (.int _ n)=>match ρ c with
     | .d (.int _ c)=>condK (0<=n/\n<=c) (roomK c.toNat (T e).bytes (K ⟨.own d,[(d,.row (List.replicate n.toNat (T e).zero) (T e).size false)],some d⟩))
     |_=>False
    |_=>False
   |_=>False
  |none=>False
 | .buildSlice t n ps=>match o.dst with
  |some d=>match (T t).k with
   | .slice e=>partsA hp ρ (fun i=>some (i*(T e).size,(T e).size)) (zeros T e n) ps.toList fun c=>condK (n*(T e).size<=16777216) (match conv.cells hp c with
    |some xs=>K ⟨.own d,frz hp (openNames.cells hp c)++[(d,.row (chunk (T e).size n xs) (T e).size false)],some d⟩
    |none=>False)
   |_=>False
  |none=>False
 | .makeFunc fn first cap=>match fn with
  | .func f=>bif Nat.beq first.size 0 then (match capsF hp (evs ρ cap.toList) with
   |some (cs,ws)=>K ⟨.d (.fn f cs),ws,none⟩
   |none=>False) else False
  |_=>False
 | .call c=>callG T P o c ρ hp K
 |_=>False
 where
 chunk (sz:Nat):Nat->List D->List (List D)
  |0,_=>[]
  |n+1,xs=>xs.take sz::chunk sz n (xs.drop sz)
 capsF (hp:Nat->Option Blk):List AV->Option (List D×List (Nat×Blk))
  | []=>some ([],[])
  | .ptr b i j::r=>match hp b with
   |some (.box c _)=>bif Nat.beq i 0 then (match conv.pures c with
    |some ds=>(match capsF hp r with
     |some (cs,ws)=>some (.dp ds j::cs,(b,.box c true)::ws)
     |none=>none)
    |none=>none) else none
   |_=>none
  |x::r=>match conv.pure1 x with
   |some d=>(match capsF hp r with
    |some (cs,ws)=>some (d::cs,ws)
    |none=>none)
   |none=>none
structure nilK (l:List (List D)) (K:Bool->Prop):Prop where
 out:∀ r:Bool,(r=true->l=[])->K r
theorem nilK_of {l:List (List D)} {K:Bool->Prop} (h:∀ r:Bool,(r=true->l=[])->K r):nilK l K:=⟨h⟩
def isNilC:Operand->Bool
 | .const (.slice none 0 0)=>true
 |_=>false
def nilCmp (x:AV) (hp:Nat->Option Blk) (K:Bool->Prop):Prop:=
 match x with
 | .d (.lst l)=>nilK l K
 | .nil=>nilK [] K
 | .own b=>match hp b with
  |some (.row l _ _)=>nilK l K
  |_=>False
 |_=>False
def opN (T:Tab) (P:Program) (o:Oper) (ρ:Operand->AV) (hp:Nat->Option Blk) (K:Eff->Prop):Prop:=
 match o.op with
 | .binOp bo t x y z=>match (T t).k with
  | .slice _=>bif isNilC y then nilCmp (ρ x) hp (nilOp bo K) else False
  |_=>opG T P o ρ hp K
 |_=>opG T P o ρ hp K
def step (tm:Nat->AV) (hp:Nat->Option Blk) (dst:Option Tmp) (e:Eff) (K:AState->Prop):Prop:=
 match e with
 |⟨av,wr,kl⟩=>match kl with
  |none=>match wr with
   | []=>match dst with
    |none=>K ⟨tm,hp⟩
    |some t=>K ⟨upd tm t av,hp⟩
   |(b,B)::r=>match dst with
    |none=>K ⟨tm,writes (upd hp b (some B)) r⟩
    |some t=>K ⟨upd tm t av,writes (upd hp b (some B)) r⟩
  |some k=>bif Nat.ble 1000000 k&&Nat.ble k 1000003 then False else match dst with
   |none=>K ⟨killT (some k) tm,writes (killH (some k) hp) wr⟩
   |some t=>K ⟨upd (killT (some k) tm) t av,writes (killH (some k) hp) wr⟩
def putT (tm:Nat->AV) (dst:Option Tmp) (av:AV):Nat->AV:=
 match dst with
 |none=>tm
 |some t=>upd tm t av
theorem step_out {tm:Nat->AV} {hp:Nat->Option Blk} {dst:Option Tmp} {e:Eff} {K:AState->Prop} (h:step tm hp dst e K):
  (∀ k,e.kl=some k->¬(1000000<=k/\k<1000004)) /\K ⟨putT (killT e.kl tm) dst e.av,e.hp hp⟩:=by
 obtain ⟨av,wr,kl⟩:=e
 cases kl with
 |none=>
  refine ⟨fun k h=>(by cases h),?_⟩
  cases dst<;>cases wr<;>exact h
 |some k=>
  cases hk:(Nat.ble 1000000 k&&Nat.ble k 1000003) with
  |true=>simp [step,hk] at h
  |false=>
   simp only [step,hk,cond_false] at h;refine ⟨fun k' e=>?_,?_⟩
   ·have:k=k':=by simpa using e
    subst this;rintro ⟨h1,h2⟩;rw [Nat.ble_eq_true_of_le h1,Nat.ble_eq_true_of_le (show k<=1000003 by omega)] at hk
    cases hk
   ·cases dst<;>exact h
def stepA (T:Tab) (P:Program) (all:Array Oper) (o:Oper) (ih:AState->(AState->Prop)->Prop) (st:AState) (K:AState->Prop):Prop:=
 match st with
  |⟨tm,hp⟩=>match o.guard with
   |none=>opN T P o (evT tm) hp fun e=>step tm hp o.dst e fun st=>ih st K
   |some (g,want)=>match (all[g]?).bind (·.dst) with
    |none=>False
    |some t=>match tm t with
     | .tt=>bif want then opN T P o (evT tm) hp fun e=>step tm hp o.dst e fun st=>ih st K else step tm hp o.dst ⟨.tup [],[],none⟩ fun st=>ih st K
     | .ff=>bif want then step tm hp o.dst ⟨.tup [],[],none⟩ fun st=>ih st K else opN T P o (evT tm) hp fun e=>step tm hp o.dst e fun st=>ih st K
     | .d (.bool b)=>bcase b
      (bif want then opN T P o (evT (upd tm t .tt)) hp fun e=>step (upd tm t .tt) hp o.dst e fun st=>ih st K else step (upd tm t .tt) hp o.dst ⟨.tup [],[],none⟩ fun st=>ih st K)
      (bif want then step (upd tm t .ff) hp o.dst ⟨.tup [],[],none⟩ fun st=>ih st K else opN T P o (evT (upd tm t .ff)) hp fun e=>step (upd tm t .ff) hp o.dst e fun st=>ih st K)
     | .tup []=>step tm hp o.dst ⟨.tup [],[],none⟩ fun st=>ih st K
     |_=>False
noncomputable def AOps (T:Tab) (P:Program) (all:Array Oper) (l:List Oper):AState->(AState->Prop)->Prop:=
 List.rec (motive:=fun _=>AState->(AState->Prop)->Prop) (fun st K=>K st) (fun o _ ih=>stepA T P all o ih) l
theorem AOps_nil {T:Tab} {P:Program} {all:Array Oper} {st:AState} {K:AState->Prop}:AOps T P all [] st K=K st:=rfl
theorem AOps_cons {T:Tab} {P:Program} {all:Array Oper} {o:Oper} {r:List Oper} {st:AState} {K:AState->Prop}:AOps T P all (o::r) st K=stepA T P all o (AOps T P all r) st K:=rfl
def readsL (op:Op):List Operand:=
 match op with
 | .move x=>[x]
 | .assign x=>[x]
 | .pick c a b=>[c,a,b]
 | .load _ a=>[a]
 | .nilCheck x=>[x]
 | .binOp _ _ x y _=>[x,y]
 | .unOp _ _ x=>[x]
 | .convert _ _ x=>[x]
 | .slice _ x lo hi mx=>x::(opt lo++(opt hi++opt mx))
 | .fieldAddr _ x _=>[x]
 | .field _ x _=>[x]
 | .indexAddr _ x i=>[x,i]
 | .index _ x i=>[x,i]
 | .extract x _=>[x]
 | .build _ ps=>snd ps.toList
 | .box _ x=>[x]
 | .store _ a x=>[a,x]
 | .makeSlice _ n c=>[n,c]
 | .buildSlice _ _ ps=>snd ps.toList
 | .makeFunc _ _ cap=>cap.toList
 | .call c=>match c.callee with
  | .value f=>f::c.args.toList
  |_=>c.args.toList
 |_=>[]
 where
 opt:Option Operand->List Operand
  |none=>[]
  |some x=>[x]
 snd:List (Nat×Operand)->List Operand
  | []=>[]
  |(_,x)::r=>x::snd r
def tmpsL:List Operand->List Nat
 | []=>[]
 | .tmp t::r=>t::tmpsL r
 |_::r=>tmpsL r
def restrT (rd:List Nat) (tm:Nat->AV) (t:Nat):AV:=bif memN t rd then tm t else .dead
def restrH (F:List Nat) (hp:Nat->Option Blk) (b:Nat):Option Blk:=bif memN b F then hp b else none
def namesO:AV->Option (List Nat)
 | .agg c=>cells c
 | .tup c=>parts c
 | .fn _ c=>cells c
 |x=>one x
 where
 one:AV->Option (List Nat)
  | .d _=>some []
  | .tt=>some []
  | .ff=>some []
  | .nil=>some []
  | .own b=>some [b]
  | .ptr b _ _=>some [b]
  | .win b _ _ _=>some [b]
  |_=>none
 cells:List AV->Option (List Nat)
  | []=>some []
  |x::r=>match one x with
   |some a=>match cells r with
    |some b=>some (a++b)
    |none=>none
   |none=>none
 part:AV->Option (List Nat)
  | .agg c=>cells c
  |x=>one x
 parts:List AV->Option (List Nat)
  | []=>some []
  |x::r=>match part x with
   |some a=>match parts r with
    |some b=>some (a++b)
    |none=>none
   |none=>none
def namesB:Blk->Option (List Nat)
 | .row _ _ _=>some []
 | .box c _=>namesO.cells c
def subN:List Nat->List Nat->Bool
 | [],_=>true
 |x::r,F=>bif memN x F then subN r F else false
def disN:List Nat->List Nat->Bool
 | [],_=>true
 |x::r,F=>bif memN x F then false else disN r F
def inO (o:Option (List Nat)) (F:List Nat):Bool:=
 match o with
 |some ns=>subN ns F
 |none=>false
def namesT (tm:Nat->AV):List Nat->Option (List Nat)
 | []=>some []
 |t::r=>match namesO (tm t) with
  |some a=>match namesT tm r with
   |some b=>some (a++b)
   |none=>none
  |none=>none
def closeN (hp:Nat->Option Blk):Nat->List Nat->List Nat->List Nat
 |0,_,seen=>seen
 |n+1,todo,seen=>match todo with
  | []=>seen
  |b::r=>bif memN b seen then closeN hp n r seen else match hp b with
   |some B=>match namesB B with
    |some ns=>closeN hp n (ns++r) (b::seen)
    |none=>[]
   |none=>closeN hp n r (b::seen)
def forceN (l:List Nat) (K:List Nat->Prop):Prop:=
 match l with
 | []=>K []
 |x::r=>forceN r fun r=>K (x::r)
def footT (tm:Nat->AV) (rd F:List Nat):Bool:=
 match rd with
 | []=>true
 |t::r=>bif inO (namesO (tm t)) F then footT tm r F else false
def footH (hp:Nat->Option Blk) (F G:List Nat):Bool:=
 match G with
 | []=>true
 |b::r=>match hp b with
  |some B=>bif inO (namesB B) F then footH hp F r else false
  |none=>footH hp F r
def wrNames:List (Nat×Blk)->List Nat
 | []=>[]
 |(b,_)::r=>b::wrNames r
def effW (e:Eff):List Nat:=
 match e.kl with
 |some k=>k::wrNames e.wr
 |none=>wrNames e.wr
def wrOk (F:List Nat):List (Nat×Blk)->Bool
 | []=>true
 |(b,B)::r=>bif memN b F&&inO (namesB B) F then wrOk F r else false
def avOk (F:List Nat) (dst:Option Tmp) (av:AV):Bool:=
 match dst with
 |none=>true
 |some _=>match av with
  | .dead=>true
  |v=>inO (namesO v) F
def effOk (F:List Nat) (dst:Option Tmp) (e:Eff):Bool:=
 match e.kl with
 |none=>wrOk F e.wr&&avOk F dst e.av
 |some k=>(Nat.ble k 1999999||!Nat.beq (k%8) 0)&&memN k (wrNames e.wr)&&wrOk (k::F) e.wr&&avOk (k::F) dst e.av
structure Summ where
 dst:Option Tmp
 rd:List Nat
 F:List Nat
 W:List Nat
 bl:Bool
 k:List Nat
 wd:Bool
def blindOp:Op->Bool
 | .move _=>true
 | .assign _=>true
 | .pick _ _ _=>true
 |_=>false
def klOf (e:Eff):List Nat:=
 match e.kl with
 |some k=>[k]
 |none=>[]
def isG (all:Array Oper) (dst:Option Tmp):List Oper->Bool
 | []=>false
 |o::r=>match o.guard with
  |some (g,_)=>match (all[g]?).bind (·.dst) with
   |some t=>match dst with
    |some d=>bif Nat.beq t d then true else isG all dst r
    |none=>false
   |none=>isG all dst r
  |none=>isG all dst r
def splitB (g:Bool) (e:Eff) (K:Eff->Prop):Prop:=
 match g with
 |false=>K e
 |true=>match e with
  |⟨av,wr,kl⟩=>match av with
   | .d (.bool b)=>bcase b (K ⟨.tt,wr,kl⟩) (K ⟨.ff,wr,kl⟩)
   |av=>K ⟨av,wr,kl⟩
def readsP (op:Op) (tm:Nat->AV):List Operand:=
 match op with
 | .pick c a b=>match evT tm c with
  | .tt=>[c,a]
  | .ff=>[c,b]
  |_=>[c,a,b]
 |op=>readsL op
def footW (bl:Bool) (tm:Nat->AV) (hp:Nat->Option Blk) (rd:List Nat) (K:List Nat->Prop) (K2:Prop):Prop:=
 match namesT tm rd with
 |some ns=>forceN (bif bl then ns else closeN hp 200 ns []) fun F=>bif footT tm rd F&&(bif bl then true else footH hp F F) then K F else K2
 |none=>K2
def opD (T:Tab) (P:Program) (o:Oper) (g:Bool) (gs:List Nat) (tm:Nat->AV) (hp:Nat->Option Blk) (K:Eff->Summ->Prop):Prop:=
 forceN (tmpsL (readsP o.op tm)) fun rd=>footW (blindOp o.op) tm hp rd (fun F=>opG T P o (evT (restrT rd tm)) (restrH F hp) fun e=>
  bif effOk F o.dst e then forceN (effW e) fun W=>forceN (gs++rd) fun rg=>splitB g e fun e=>K e ⟨o.dst,rg,F,W,blindOp o.op,klOf e,false⟩ else False)
  (opG T P o (evT (restrT rd tm)) hp fun e=>forceN (effW e) fun W=>forceN (gs++rd) fun rg=>splitB g e fun e=>K e ⟨o.dst,rg,[],W,false,klOf e,true⟩)
def notIn (d:Option Tmp) (l:List Nat):Bool:=
 match d with
 |some d=>!memN d l
 |none=>true
def notEq (d e:Option Tmp):Bool:=
 match d with
 |some d=>match e with
  |some e=>!Nat.beq d e
  |none=>true
 |none=>true
def indep (x y:Summ):Bool:=!x.wd&&!y.wd&&(notIn x.dst y.rd&&notEq x.dst y.dst&&notIn y.dst x.rd&&disN x.W y.W&&disN (bif y.bl then x.k else x.W) y.F&&disN (bif x.bl then y.k else y.W) x.F)
def bindsA (e:Edge):Bool:=
 match e.ground with
 | .textOnly _=>false
 | .gcOnly _=>false
 |_=>true
def predsOf (pm:List Nat):List Edge->Nat
 | []=>0
 |e::r=>bif bindsA e then Nat.lor (Nat.lor (2^e.on) (pm.getD e.on 0)) (predsOf pm r) else predsOf pm r
def backOk (i:Nat):List Edge->Bool
 | []=>true
 |e::r=>bif bindsA e then (bif Nat.blt e.on i then backOk i r else false) else backOk i r
def pairsOk (s:Summ) (p:Nat):Nat->List Summ->Bool
 |_,[]=>true
 |m,x::r=>bif Nat.testBit p m||indep x s then pairsOk s p (m+1) r else false
def drawOk:List Oper->List Summ->Nat->List Summ->List Nat->Bool
 | [],[],_,_,_=>true
 |o::r,s::q,i,done,pm=>backOk i o.after.toList&&pairsOk s (predsOf pm o.after.toList) 0 done&&drawOk r q (i+1) (done++[s]) (pm++[predsOf pm o.after.toList])
 |_,_,_,_,_=>false
def stD (ih:(Nat->AV)->(Nat->Option Blk)->List Summ->(AState->Prop)->Prop) (st:AState) (acc:List Summ) (K:AState->Prop):Prop:=
 match st with
 |⟨tm,hp⟩=>ih tm hp acc K
def stepD (T:Tab) (P:Program) (all:Array Oper) (o:Oper) (ih:(Nat->AV)->(Nat->Option Blk)->List Summ->(AState->Prop)->Prop) (tm:Nat->AV) (hp:Nat->Option Blk) (acc:List Summ) (K:AState->Prop):Prop:=
 match o.guard with
  |none=>opD T P o (isG all o.dst all.toList) [] tm hp fun e s=>step tm hp o.dst e fun st=>stD ih st (acc++[s]) K
  |some (g,want)=>match (all[g]?).bind (·.dst) with
   |none=>False
   |some t=>match tm t with
    | .tt=>bif want then opD T P o (isG all o.dst all.toList) [t] tm hp fun e s=>step tm hp o.dst e fun st=>stD ih st (acc++[s]) K else step tm hp o.dst ⟨.tup [],[],none⟩ fun st=>stD ih st (acc++[⟨o.dst,[t],[],[],false,[],false⟩]) K
    | .ff=>bif want then step tm hp o.dst ⟨.tup [],[],none⟩ fun st=>stD ih st (acc++[⟨o.dst,[t],[],[],false,[],false⟩]) K else opD T P o (isG all o.dst all.toList) [t] tm hp fun e s=>step tm hp o.dst e fun st=>stD ih st (acc++[s]) K
    | .d (.bool b)=>bcase b
     (bif want then opD T P o (isG all o.dst all.toList) [t] tm hp fun e s=>step tm hp o.dst e fun st=>stD ih st (acc++[s]) K else step tm hp o.dst ⟨.tup [],[],none⟩ fun st=>stD ih st (acc++[⟨o.dst,[t],[],[],false,[],false⟩]) K)
     (bif want then step tm hp o.dst ⟨.tup [],[],none⟩ fun st=>stD ih st (acc++[⟨o.dst,[t],[],[],false,[],false⟩]) K else opD T P o (isG all o.dst all.toList) [t] tm hp fun e s=>step tm hp o.dst e fun st=>stD ih st (acc++[s]) K)
    | .tup []=>step tm hp o.dst ⟨.tup [],[],none⟩ fun st=>stD ih st (acc++[⟨o.dst,[t],[],[],false,[],false⟩]) K
    |_=>False
noncomputable def AOpsD (T:Tab) (P:Program) (all:Array Oper) (l:List Oper):(Nat->AV)->(Nat->Option Blk)->List Summ->(AState->Prop)->Prop:=
 List.rec (motive:=fun _=>(Nat->AV)->(Nat->Option Blk)->List Summ->(AState->Prop)->Prop) (fun tm hp acc K=>condK (drawOk all.toList acc 0 [] []=true) (K ⟨tm,hp⟩))
  (fun o _ ih=>stepD T P all o ih) l
theorem AOpsD_cons {T:Tab} {P:Program} {all:Array Oper} {o:Oper} {r:List Oper} {tm:Nat->AV} {hp:Nat->Option Blk} {acc:List Summ} {K:AState->Prop}:AOpsD T P all (o::r) tm hp acc K=stepD T P all o (AOpsD T P all r) tm hp acc K:=rfl
theorem stD_eq {ih:(Nat->AV)->(Nat->Option Blk)->List Summ->(AState->Prop)->Prop} {st:AState} {acc:List Summ} {K:AState->Prop}:stD ih st acc K=ih st.tm st.hp acc K:=rfl
inductive AExit where
 |normal|exit (id:Nat)|ret
def K4 (s st:Nat->Option Blk):Prop:=s 1000000=st 1000000/\s 1000001=st 1000001/\s 1000002=st 1000002/\s 1000003=st 1000003
def Le (s st:AState):Prop:=(∀ t,s.tm t=.dead\/s.tm t=st.tm t) /\ (∀ b,s.hp b=none\/s.hp b=st.hp b) /\K4 s.hp st.hp
def stL (l:List (Nat×AV)) (h:List (Nat×Blk)):AState:=⟨tmL l,hpL h⟩
 where
 tmL (l:List (Nat×AV)) (s:Nat):AV:=
  match l with
  | []=>.dead
  |(t,v)::r=>bif Nat.beq s t then v else tmL r s
 hpL (l:List (Nat×Blk)) (s:Nat):Option Blk:=
  match l with
  | []=>none
  |(t,v)::r=>bif Nat.beq s t then some v else hpL r s
def covT (tm:Nat->AV):List (Nat×AV)->Prop
 | []=>True
 |(t,v)::r=>tm t=v/\covT tm r
def covH (hp:Nat->Option Blk):List (Nat×Blk)->Prop
 | []=>True
 |(t,v)::r=>hp t=some v/\covH hp r
theorem le_tm {tm:Nat->AV} {l:List (Nat×AV)} (hT:covT tm l) (t:Nat):stL.tmL l t=.dead\/stL.tmL l t=tm t:=by
 induction l with
 |nil=>exact .inl rfl
 |cons p r ih=>
  obtain ⟨s,v⟩:=p;simp only [stL.tmL]
  cases hb:Nat.beq t s with
  |true=>
   have:t=s:=Nat.eq_of_beq_eq_true hb;subst this;exact .inr hT.1.symm
  |false=>exact ih hT.2
theorem le_hp {hp:Nat->Option Blk} {h:List (Nat×Blk)} (hH:covH hp h) (b:Nat):stL.hpL h b=none\/stL.hpL h b=hp b:=by
 induction h with
 |nil=>exact .inl rfl
 |cons p r ih=>
  obtain ⟨s,v⟩:=p;simp only [stL.hpL]
  cases hb:Nat.beq b s with
  |true=>
   have:b=s:=Nat.eq_of_beq_eq_true hb;subst this;exact .inr hH.1.symm
  |false=>exact ih hH.2
theorem le_of_cov {l:List (Nat×AV)} {h:List (Nat×Blk)} {st:AState} (hT:covT st.tm l) (hH:covH st.hp h) (hK:K4 (stL.hpL h) st.hp):Le (stL l h) st:=by
 refine ⟨fun t=>?_,fun b=>?_,hK⟩
 case refine_1=>clear hK;exact le_tm hT t
 case refine_2=>clear hK hT;exact le_hp hH b
inductive NilK where
 |row (t b sz:Nat)
 |lst (t:Nat)
 |cell (bx j b sz:Nat)
 |wk (t:Nat) (y:AV)
 |wkc (bx j:Nat) (y:AV)
 |frz (b:Nat) (l:List (List D)) (sz:Nat)
 |sd (t b:Nat) (l:List (List D)) (sz:Nat)
 |cd (bx j b:Nat) (l:List (List D)) (sz:Nat)
structure WkA (x y:AV):Prop where
 out:∀ (M:Mem) (ι:Inj) (v:Value),DenA M ι x v->DenA M ι y v
theorem wk_refl (x:AV):WkA x x:=⟨fun _ _ _ h=>h⟩
theorem wk_tt:WkA .tt (.d (.bool true)):=⟨fun _ _ _ h=>by cases h;exact .d _ _ (.bool true)⟩
theorem wk_ff:WkA .ff (.d (.bool false)):=⟨fun _ _ _ h=>by cases h;exact .d _ _ (.bool false)⟩
theorem wk_nil:WkA .nil (.d (.lst [])):=⟨fun _ _ _ h=>by cases h;exact .d _ _ (.emp _ _)⟩
def nil1 (k:NilK) (st:AState):AState:=
 match k with
 | .row t b sz=>⟨upd (killT (some b) st.tm) t (.own b),upd (killH (some b) st.hp) b (some (.row [] sz false))⟩
 | .lst t=>⟨upd st.tm t (.d (.lst [])),st.hp⟩
 | .cell bx j b sz=>match st.hp bx with
  |some (.box c _)=>⟨killT (some b) st.tm,upd (upd (killH (some b) st.hp) b (some (.row [] sz false))) bx (some (.box ((killB.cells b c).set j (.own b)) false))⟩
  |_=>st
 | .wk t y=>⟨upd st.tm t y,st.hp⟩
 | .wkc bx j y=>match st.hp bx with
  |some (.box c _)=>⟨st.tm,upd st.hp bx (some (.box (c.set j y) false))⟩
  |_=>st
 | .frz b l sz=>⟨st.tm,upd st.hp b (some (.row l sz true))⟩
 | .sd t _ l _=>⟨upd st.tm t (.d (.lst l)),st.hp⟩
 | .cd bx j _ l _=>match st.hp bx with
  |some (.box c _)=>⟨st.tm,upd st.hp bx (some (.box (c.set j (.d (.lst l))) false))⟩
  |_=>st
def nilOk1 (k:NilK) (st:AState):Prop:=
 match k with
 | .row t b _=>st.tm t=.nil/\ (Nat.ble 1000000 b&&Nat.ble b 1000003)=false
 | .lst t=>st.tm t=.nil
 | .cell bx j b _=>(match st.hp bx with
  |some (.box c fr)=>c[j]?=some .nil/\fr=false
  |_=>False) /\Nat.beq bx b=false/\ (Nat.ble 1000000 b&&Nat.ble b 1000003)=false
 | .wk t y=>WkA (st.tm t) y
 | .wkc bx j y=>match st.hp bx with
  |some (.box c fr)=>(∃ x,c[j]?=some x/\WkA x y) /\fr=false
  |_=>False
 | .frz b l sz=>∃ fr,st.hp b=some (.row l sz fr)
 | .sd t b l sz=>st.tm t=.own b/\st.hp b=some (.row l sz true)
 | .cd bx j b l sz=>st.hp b=some (.row l sz true) /\match st.hp bx with
  |some (.box c fr)=>c[j]?=some (.own b) /\fr=false
  |_=>False
def nils:List NilK->AState->AState
 | [],st=>st
 |k::r,st=>nils r (nil1 k st)
def nilsOk:List NilK->AState->Prop
 | [],_=>True
 |k::r,st=>nilOk1 k st/\nilsOk r (nil1 k st)
structure LeN (s st:AState):Prop where
 out:∃ ns,nilsOk ns st/\Le s (nils ns st)
theorem le0 {s st:AState} (h:Le s st):LeN s st:=⟨⟨[],trivial,h⟩⟩
theorem le1 {s st:AState} (k:NilK) (hk:nilOk1 k st) (h:Le s (nil1 k st)):LeN s st:=⟨⟨[k],⟨hk,trivial⟩,h⟩⟩
theorem len {s st:AState} (ns:List NilK) (hk:nilsOk ns st) (h:Le s (nils ns st)):LeN s st:=⟨⟨ns,hk,h⟩⟩
structure ALoop (body:AState->(AExit->AState->Prop)->Prop) (st:AState) (Q:AExit->AState->Prop):Prop where
 out:∃ (ι:Type) (S:ι->AState) (R:ι->Prop) (μ:ι->Nat),(∃ i,R i/\LeN (S i) st) /\
  ∀ i,R i->body (S i) fun e st'=>match e with
   | .normal=>∃ j,R j/\μ j<μ i/\LeN (S j) st'
   |e=>Q e st'
theorem aloop {body:AState->(AExit->AState->Prop)->Prop} {st:AState} {Q:AExit->AState->Prop} {ι:Type} (l:ι->List (Nat×AV)) (h:ι->List (Nat×Blk)) (R:ι->Prop) (μ:ι->Nat) (i:ι)
  (hi:R i) (h0:LeN (stL (l i) (h i)) st)
  (hr:∀ i,R i->body (stL (l i) (h i)) fun e st'=>match e with
   | .normal=>∃ j,R j/\μ j<μ i/\LeN (stL (l j) (h j)) st'
   |e=>Q e st'):ALoop body st Q:=⟨⟨ι,fun i=>stL (l i) (h i),R,μ,⟨i,hi,h0⟩,hr⟩⟩
def seqQ (B:AState->(AExit->AState->Prop)->Prop) (Q:AExit->AState->Prop) (e:AExit) (st:AState):Prop:=
 match e with
 | .normal=>B st Q
 | .exit i=>Q (.exit i) st
 | .ret=>Q .ret st
def blockQ (id:Nat) (Q:AExit->AState->Prop) (e:AExit) (st:AState):Prop:=
 match e with
 | .exit i=>bif Nat.beq i id then Q .normal st else Q (.exit i) st
 | .normal=>Q .normal st
 | .ret=>Q .ret st
def condA (c:Operand) (A B:AState->(AExit->AState->Prop)->Prop) (st:AState) (Q:AExit->AState->Prop):Prop:=
 match st with
 |⟨tm,hp⟩=>match evT tm c with
  | .tt=>A ⟨tm,hp⟩ Q
  | .ff=>B ⟨tm,hp⟩ Q
  | .d (.bool x)=>bcase x (A ⟨tm,hp⟩ Q) (B ⟨tm,hp⟩ Q)
  |_=>False
noncomputable def regionA (T:Tab) (P:Program) (ops:Array Oper) (draw:Bool) (st:AState) (Q:AExit->AState->Prop):Prop:=
 bif draw then (match st with
  |⟨tm,hp⟩=>AOpsD T P ops ops.toList tm hp [] (Q .normal)) else AOps T P ops ops.toList st (Q .normal)
noncomputable def AW (T:Tab) (P:Program) (c:Code):AState->(AExit->AState->Prop)->Prop:=
 Code.rec (motive:=fun _=>AState->(AExit->AState->Prop)->Prop)
  (skip:=fun st Q=>Q .normal st)
  (region:=fun _ ops draw st Q=>regionA T P ops draw st Q)
  (seq:=fun _ _ A B st Q=>A st (seqQ B Q))
  (cond:=fun c _ _ A B st Q=>condA c A B st Q)
  (block:=fun id _ A st Q=>A st (blockQ id Q))
  (loop:=fun _ A st Q=>ALoop A st Q)
  (rangeFunc:=fun _ _ _ _ _ _ _ _=>False)
  (exit:=fun id st Q=>Q (.exit id) st)
  (scope:=fun _ A st Q=>A st Q)
  (label:=fun _ st Q=>Q .normal st)
  (goto:=fun _ _ _=>False)
  (ret:=fun st Q=>Q .ret st)
  (refuse:=fun _ _ _=>False) c
theorem AW_region {T:Tab} {P:Program} {id:Nat} {ops:Array Oper} {draw:Bool} {st:AState} {Q:AExit->AState->Prop}:AW T P (.region id ops draw) st Q=regionA T P ops draw st Q:=rfl
theorem AW_seq {T:Tab} {P:Program} {a b:Code} {st:AState} {Q:AExit->AState->Prop}:AW T P (.seq a b) st Q=AW T P a st (seqQ (AW T P b) Q):=rfl
theorem AW_cond {T:Tab} {P:Program} {c:Operand} {a b:Code} {st:AState} {Q:AExit->AState->Prop}:AW T P (.cond c a b) st Q=condA c (AW T P a) (AW T P b) st Q:=rfl
theorem AW_block {T:Tab} {P:Program} {id:Nat} {a:Code} {st:AState} {Q:AExit->AState->Prop}:AW T P (.block id a) st Q=AW T P a st (blockQ id Q):=rfl
theorem AW_scope {T:Tab} {P:Program} {a:Code} {st:AState} {Q:AExit->AState->Prop}:AW T P (.scope a) st Q=AW T P a st Q:=rfl
theorem AW_loop {T:Tab} {P:Program} {a:Code} {st:AState} {Q:AExit->AState->Prop}:AW T P (.loop a) st Q=ALoop (AW T P a) st Q:=rfl
def initTm (args:List D):Nat->AV:=go 0 args
 where
 go (n:Nat):List D->Nat->AV
  | []=>fun _=>.dead
  |d::r=>upd (go (n+1) r) n (ofD d)
def resV (T:Tab) (tm:Nat->AV) (hp:Nat->Option Blk):ResultVar->AV
 | .tmp t=>tm t
 | .cell a t=>match tm a with
  | .ptr b i j=>match hp b with
   |some (.box c _)=>bif (T t).k.known&&Nat.beq i 0 then (bif (T t).k.agg then (bif Nat.ble (j+(T t).size) c.length then .agg ((c.drop j).take (T t).size) else .dead) else (match c[j]? with|some x=>x|none=>.dead)) else .dead
   |_=>.dead
  |_=>.dead
def resD (T:Tab) (tm:Nat->AV) (hp:Nat->Option Blk):List ResultVar->Option (List D)
 | []=>some []
 |r::q=>match conv hp (resV T tm hp r) with
  |some d=>match resD T tm hp q with
   |some ds=>some (d::ds)
   |none=>none
  |none=>none
def oneD:List D->D
 | [d]=>d
 |ds=>.tup ds
def AFn (T:Tab) (P:Program) (fn:Func) (args:List D) (d:D):Prop:=
 match fn.body with
 |some c=>AW T P c ⟨initTm args,fun _=>none⟩ fun e st=>match e with
  | .exit _=>False
  |_=>(resD T st.tm st.hp fn.results.toList).map oneD=some d
 |none=>False
def AFnO (T:Tab) (P:Program) (fn:Func) (args:List D) (l:List (List D)) (sz:Nat):Prop:=
 match fn.body with
 |some c=>AW T P c ⟨initTm args,fun _=>none⟩ fun e st=>match e with
  | .exit _=>False
  |_=>∃ t,fn.results.toList=[.tmp t] /\ ((∃ b,st.tm t=.own b/\st.hp b=some (.row l sz false)) \/ (st.tm t=.nil/\l=[]))
 |none=>False
def matchS (hp:Nat->Option Blk) (seen:List Nat):List AV->List SC->Prop
 | [],[]=>True
 |x::c,.d d::s=>conv.pure1 x=some d/\matchS hp seen c s
 |x::c,.row l sz::s=>(∃ b,x=.own b/\hp b=some (.row l sz false) /\memN b seen=false/\matchS hp (b::seen) c s) \/ (x=.nil/\l=[] /\matchS hp seen c s)
 |_,_=>False
def AFnS (T:Tab) (P:Program) (fn:Func) (args:List D) (cs:List SC):Prop:=
 match fn.body with
 |some c=>AW T P c ⟨initTm args,fun _=>none⟩ fun e st=>match e with
  | .exit _=>False
  |_=>∃ r c,fn.results.toList=[r] /\resV T st.tm st.hp r=.agg c/\matchS st.hp [] c cs
 |none=>False
def ownsN:List AV->List Nat
 | []=>[]
 | .own b::r=>b::ownsN r
 |_::r=>ownsN r
def openR0 (T:Tab) (tm:Nat->AV) (hp:Nat->Option Blk):List ResultVar->List Nat
 | []=>[]
 |r::q=>openNames hp (resV T tm hp r)++openR0 T tm hp q
def AFnP (T:Tab) (P:Program) (fn:Func) (args:List D) (cs:List SC) (rs:List D):Prop:=
 match fn.body with
 |some c=>AW T P c ⟨initTm args,fun _=>none⟩ fun e st=>match e with
  | .exit _=>False
  |_=>∃ t r q b c,fn.results.toList=.tmp t::r::q/\st.tm t=.ptr b 0 0/\st.hp b=some (.box c false) /\matchS st.hp [] c cs/\resD T st.tm st.hp (r::q)=some rs/\disN (ownsN c) (openR0 T st.tm st.hp (r::q))=true
 |none=>False
def kindChk:TypeDesc->TK->Bool
 | .int k,.int k'=>Nat.beq (kcode k) (kcode k')
 | .bool,.bool=>true
 | .string,.str=>true
 | .slice e,.slice e'=>Nat.beq e e'
 | .array n e,.arr n' e'=>Nat.beq n n'&&Nat.beq e e'
 | .struct F,.struct fs=>F.toList.map (fun f=>(f.offset,f.type))==fs&&F.toList.all (fun f=>f.name != "_")
 | .pointer e,.ptr e'=>Nat.beq e e'
 |_,_=>false
def vD:Value->Option D
 | .int k n=>some (.int k n)
 | .bool b=>some (.bool b)
 | .string s=>bif Nat.beq s.size 0 then some (.str .empty) else none
 | .slice none 0 0=>some (.lst [])
 | .pointer none=>some .nilp
 |_=>none
def dEq:D->D->Bool
 | .int k n,.int k' n'=>Nat.beq (kcode k) (kcode k')&&n==n'
 | .bool b,.bool b'=>b==b'
 | .str _,.str s=>Nat.beq s.size 0
 | .lst [],.lst []=>true
 | .nilp,.nilp=>true
 |_,_=>false
def zeroChk:List Value->List D->Bool
 | [],[]=>true
 |v::vs,d::ds=>(match vD v with|some d'=>dEq d' d|none=>false)&&zeroChk vs ds
 |_,_=>false
def elemsKnown (T:Tab):TK->Bool
 | .slice e=>(T e).k.known
 | .arr _ e=>(T e).k.known
 | .struct fs=>fs.all fun p=>(T p.2).k.known
 |_=>true
def tyChk (P:Program) (T:Tab) (t:TypeId) (I:TyI):Bool:=
 match P.underlying t,P.info? t with
 |some d,some i=>kindChk d I.k&&Nat.beq i.size I.size&&Nat.beq i.bytes I.bytes&&(match i.zero with|some z=>zeroChk z.cells.toList I.zero|none=>false)&&elemsKnown T I.k&&Nat.ble I.bytes 1048576&&Nat.beq I.zero.length I.size&&!(P.stoodInHeld t)&&!(P.eqGuardType P.depth t)&&(I.k.agg||Nat.beq I.size 1)&&Nat.blt 0 I.size
 |_,_=>false
inductive TT where
 |leaf
 |node (t:TypeId) (I:TyI) (l r:TT)
def TT.get (t:TypeId):TT->TyI
 | .leaf=>⟨.other,0,0,[]⟩
 | .node t' I l r=>bif Nat.beq t t' then I else bif Nat.blt t t' then l.get t else r.get t
def TT.all (p:TypeId->TyI->Bool):TT->Bool
 | .leaf=>true
 | .node t I l r=>p t I&&(l.all p&&r.all p)
theorem TT.get_all {p:TypeId->TyI->Bool} {t:TypeId}:∀ {x:TT},x.all p=true->(TT.get t x).k.known=true->p t (TT.get t x)=true
 | .leaf,_,h=>by simp [TT.get,TK.known] at h
 | .node t' I l r,h,hk=>by
  simp only [TT.all,Bool.and_eq_true] at h;simp only [TT.get] at hk⊢
  cases hb:Nat.beq t t' with
  |true=>
   have:t=t':=Nat.eq_of_beq_eq_true hb;subst this
   simpa [hb] using h.1
  |false=>
   simp only [hb,cond_false] at hk⊢
   cases hl:Nat.blt t t' with
   |true=>simp only [hl,cond_true] at hk⊢;exact TT.get_all h.2.1 hk
   |false=>simp only [hl,cond_false] at hk⊢;exact TT.get_all h.2.2 hk
def TabOk (P:Program) (T:Tab):Prop:=∀ t,(T t).k.known=true->tyChk P T t (T t)=true
theorem tabOk_of {P:Program} {x:TT} (h:(x.all (tyChk P fun t=>x.get t))=true):TabOk P fun t=>x.get t:=
 fun _ hk=>TT.get_all h hk
theorem kcode_inj {k k':IntKind} (h:Nat.beq (kcode k) (kcode k')=true):k=k':=by
 have:=Nat.eq_of_beq_eq_true h
 cases k<;>cases k'<;>first|rfl|simp [kcode] at this
structure TyFact (P:Program) (T:Tab) (t:TypeId):Prop where
 desc:∃ d i,P.underlying t=some d/\P.info? t=some i/\kindChk d (T t).k=true/\i.size=(T t).size/\i.bytes=(T t).bytes/\
  (∃ z,i.zero=some z/\zeroChk z.cells.toList (T t).zero=true) /\elemsKnown T (T t).k=true/\ (T t).bytes<=1048576/\ (T t).zero.length=(T t).size/\P.stoodInHeld t=false/\P.eqGuardType P.depth t=false/\ ((T t).k.agg=false->(T t).size=1) /\0<(T t).size
theorem tyFact {P:Program} {T:Tab} (hT:TabOk P T) {t:TypeId} (hk:(T t).k.known=true):TyFact P T t:=by
 have h:=hT t hk;unfold tyChk at h
 cases hu:P.underlying t with
 |none=>simp [hu] at h
 |some d=>
  cases hi:P.info? t with
  |none=>simp [hu,hi] at h
  |some i=>
   simp only [hu,hi,Bool.and_eq_true] at h;obtain ⟨⟨⟨⟨⟨⟨⟨⟨⟨⟨h1,h2⟩,h3⟩,h4⟩,h5⟩,h6⟩,h7⟩,h8⟩,h9⟩,h10⟩,h11⟩:=h;refine ⟨d,i,by first|rfl|assumption,by first|rfl|assumption,h1,Nat.eq_of_beq_eq_true h2,Nat.eq_of_beq_eq_true h3,?_,h5,Nat.le_of_ble_eq_true h6,Nat.eq_of_beq_eq_true h7,by simpa using h8,by simpa using h9,fun hg=>by simpa [hg] using h10,by have h12:=h11;simp [Nat.blt] at h12;exact h12⟩
   cases hz:i.zero with
   |none=>simp [hz] at h4
   |some z=>exact ⟨z,rfl,by simpa [hz] using h4⟩
section
variable {P:Program} {T:Tab} (hT:TabOk P T) {t:TypeId} (w:World)
include hT
theorem und_slice {e:TypeId} (h:(T t).k=.slice e):P.underlying t=some (.slice e) /\ (T e).k.known=true:=by
 obtain ⟨d,i,hu,_,hk,_,_,_,he,_⟩:=(tyFact hT (t:=t) (by rw [h];rfl)).desc;rw [h] at hk he
 cases d<;>simp [kindChk] at hk
 subst hk;exact ⟨hu,by simpa [elemsKnown] using he⟩
theorem und_arr {n:Nat} {e:TypeId} (h:(T t).k=.arr n e):P.underlying t=some (.array n e) /\ (T e).k.known=true:=by
 obtain ⟨d,i,hu,_,hk,_,_,_,he,_⟩:=(tyFact hT (t:=t) (by rw [h];rfl)).desc;rw [h] at hk he
 cases d<;>simp [kindChk] at hk
 obtain ⟨rfl,rfl⟩:=hk;exact ⟨hu,by simpa [elemsKnown] using he⟩
theorem und_struct {fs:List (Nat×TypeId)} (h:(T t).k=.struct fs):
  ∃ F,P.underlying t=some (.struct F) /\F.toList.map (fun f=>(f.offset,f.type))=fs/\ (∀ p∈fs,(T p.2).k.known=true) /\ ∀ f∈F.toList,f.name≠ "_":=by
 obtain ⟨d,i,hu,_,hk,_,_,_,he,_⟩:=(tyFact hT (t:=t) (by rw [h];rfl)).desc;rw [h] at hk he
 cases d<;>simp [kindChk] at hk
 rename_i F;refine ⟨F,hu,hk.1,?_,?_⟩
 ·simp only [elemsKnown,List.all_eq_true] at he;exact he
 ·intro f hf;obtain ⟨i,hi,rfl⟩:=List.getElem_of_mem hf
  simpa using hk.2 i (by simpa using hi)
theorem und_int {k:IntKind} (h:(T t).k=.int k):P.underlying t=some (.int k):=by
 obtain ⟨d,i,hu,_,hk,_⟩:=(tyFact hT (t:=t) (by rw [h];rfl)).desc;rw [h] at hk
 cases d<;>simp [kindChk] at hk
 rename_i k';rw [hu,kcode_inj (k:=k') (k':=k) (by simpa using hk)]
theorem und_bool (h:(T t).k=.bool):P.underlying t=some .bool:=by
 obtain ⟨d,i,hu,_,hk,_⟩:=(tyFact hT (t:=t) (by rw [h];rfl)).desc;rw [h] at hk
 cases d<;>simp [kindChk] at hk
 exact hu
theorem size_one (h:(T t).k.known=true) (ha:(T t).k.agg=false):(T t).size=1:=by
 obtain ⟨d,i,_,_,_,_,_,_,_,_,_,_,_,h1,_⟩:=(tyFact hT h).desc;exact h1 ha
theorem size_pos (h:(T t).k.known=true):0<(T t).size:=by
 obtain ⟨d,i,_,_,_,_,_,_,_,_,_,_,_,_,h1⟩:=(tyFact hT h).desc;exact h1
theorem zero_len (h:(T t).k.known=true):(T t).zero.length=(T t).size:=by
 obtain ⟨d,i,_,_,_,_,_,_,_,_,h1,_⟩:=(tyFact hT h).desc;exact h1
theorem und_str (h:(T t).k=.str):P.underlying t=some .string:=by
 obtain ⟨d,i,hu,_,hk,_⟩:=(tyFact hT (t:=t) (by rw [h];rfl)).desc;rw [h] at hk
 cases d<;>simp [kindChk] at hk
 exact hu
theorem run_isAggT (h:(T t).k.known=true):(isAgg t).run P w=.ok (T t).k.agg w:=by
 obtain ⟨d,i,hu,_,hk,_⟩:=(tyFact hT h).desc;simp only [isAgg,Sem.run_bind,run_underlying hu,Result.andThen_ok];generalize (T t).k=k at hk
 cases d<;>cases k<;>simp_all [kindChk,TK.agg]
theorem run_sizeT (h:(T t).k.known=true):(sizeOf t).run P w=.ok (T t).size w:=by
 obtain ⟨d,i,_,hi,_,hs,_⟩:=(tyFact hT h).desc;simp [sizeOf,typeInfo,hi,hs]
theorem run_zeroT (h:(T t).k.known=true):∃ z,(zeroValue t).run P w=.ok z w/\zeroChk z.cells.toList (T t).zero=true:=by
 obtain ⟨d,i,_,hi,_,_,_,⟨z,hz,hc⟩,_⟩:=(tyFact hT h).desc;exact ⟨z,by simp [zeroValue,typeInfo,hi,hz],hc⟩
end
end Go.Lk

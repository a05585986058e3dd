/-
  What is proved here: what functions of the program compute, and what follows; no condition beyond each theorem's own.
-/
import Derived.WalkKit
import Derived.Calls
import Derived.Below
import Derived.Laws.StructEq
set_option linter.unusedSimpArgs false
set_option linter.unusedVariables false
set_option linter.unnecessarySimpa false
set_option linter.unusedSectionVars false
namespace Go.Lk
open Go

inductive D where
  | int (k : IntKind) (n : Int)
  | bool (b : Bool)
  | str (s : ByteArray)
  | lst (l : List (List D))
  | dp (c : List D) (j : Nat)
  | fn (f : FuncId) (cap : List D)
  | nilp
  | agg (c : List D)
  | tup (c : List D)
  | unk

theorem orR {a b c : Prop} (h : a ∨ b) (f : b → c) : a ∨ c := h.elim .inl fun q => .inr (f q)
abbrev Mem := Nat → Nat → Option Value

inductive DenD (M : Mem) : D → Value → Prop
  | int (k : IntKind) (n : Int) : DenD M (.int k n) (.int k n)
  | bool (b : Bool) : DenD M (.bool b) (.bool b)
  | str (s : ByteArray) : DenD M (.str s) (.string s)
  | emp (a : Option Addr) (cap : Nat) : DenD M (.lst []) (.slice a 0 cap)
  | lst (l : List (List D)) (b off cap sz : Nat) (val : Nat → Nat → Value) (hl : l.length ≤ cap)
      (hs : ∀ (i : Nat) (e : List D), l[i]? = some e → e.length = sz)
      (hm : ∀ (i j : Nat) (e : List D) (d : D), l[i]? = some e → e[j]? = some d → M b (off + i * sz + j) = some (val i j))
      (hd : ∀ (i j : Nat) (e : List D) (d : D), l[i]? = some e → e[j]? = some d → DenD M d (val i j)) :
      DenD M (.lst l) (.slice (some ⟨b, off, none⟩) l.length cap)
  | dp (c : List D) (j b off : Nat) (val : Nat → Value)
      (hm : ∀ (i : Nat) (d : D), c[i]? = some d → M b (off + i) = some (val i))
      (hd : ∀ (i : Nat) (d : D), c[i]? = some d → DenD M d (val i)) : DenD M (.dp c j) (.pointer (some ⟨b, off + j, none⟩))
  | fn (f : FuncId) (cap : List D) (vs : Array Value) (hl : vs.size = cap.length)
      (hd : ∀ (i : Nat) (d : D) (v : Value), cap[i]? = some d → vs[i]? = some v → DenD M d v) : DenD M (.fn f cap) (.func (.func f) #[] vs)
  | nilp : DenD M .nilp (.pointer none)
  | agg (c : List D) (vs : Array Value) (hl : vs.size = c.length)
      (hd : ∀ (i : Nat) (d : D) (v : Value), c[i]? = some d → vs[i]? = some v → DenD M d v) : DenD M (.agg c) (.agg vs)
  | tup (c : List D) (vs : Array Value) (hl : vs.size = c.length)
      (hd : ∀ (i : Nat) (d : D) (v : Value), c[i]? = some d → vs[i]? = some v → DenD M d v) : DenD M (.tup c) (.tuple vs)
  | unk (v : Value) : DenD M .unk v

def Sub (M M' : Mem) : Prop := ∀ (b o : Nat) (v : Value), M b o = some v → M' b o = some v

theorem DenD.mono {M M' : Mem} (h : Sub M M') {d : D} {v : Value} (hd : DenD M d v) : DenD M' d v := by
  induction hd with
  | int k n => exact .int k n
  | bool b => exact .bool b
  | str s => exact .str s
  | emp a c => exact .emp a c
  | lst l b off cap sz val hl hs hm _ ih => exact .lst l b off cap sz val hl hs (fun i j e d h1 h2 => h _ _ _ (hm i j e d h1 h2)) ih
  | dp c j b off val hm _ ih => exact .dp c j b off val (fun i d h1 => h _ _ _ (hm i d h1)) ih
  | fn f cap vs hl _ ih => exact .fn f cap vs hl ih
  | nilp => exact .nilp
  | agg c vs hl _ ih => exact .agg c vs hl ih
  | tup c vs hl _ ih => exact .tup c vs hl ih
  | unk v => exact .unk v

end Go.Lk

namespace Go.Lk
open Go

inductive AV where
  | d (x : D)
  | tt
  | ff
  | agg (c : List AV)
  | tup (c : List AV)
  | own (b : Nat)
  | ptr (b i j : Nat)
  | win (b lo n : Nat) (c : Option Nat)
  | nil
  | fn (f : FuncId) (cap : List AV)
  | dead

/-- where a block of the call's own lies: its number, an element's cells, all its cells, how many elements are known -/
structure Loc where
  blk : Nat
  sz : Nat
  size : Nat
  len : Nat

abbrev Inj := Nat → Option (Option Loc)

/-- blocks: a row of pure elements, or a box of cells -/
inductive Blk where
  | row (l : List (List D)) (sz : Nat) (fr : Bool)
  | box (c : List AV) (fr : Bool)

/-- the names that go with a name: from 2000000 on they stand in families of eight, and go with the first one of them -/
def Fm (k b : Nat) : Bool := bif Nat.ble 2000000 k && Nat.beq (k % 8) 0 then Nat.beq (b / 8) (k / 8) else Nat.beq b k
theorem Fm_self (k : Nat) : Fm k k = true := by
  unfold Fm
  cases Nat.ble 2000000 k && Nat.beq (k % 8) 0 <;> simp
theorem Fm_lt {k : Nat} (h : k < 2000000) (b : Nat) : Fm k b = Nat.beq b k := by
  unfold Fm
  cases hb : Nat.ble 2000000 k with
  | true => have := Nat.le_of_ble_eq_true hb; omega
  | false => rfl
theorem Fm_ne {k b : Nat} (h : Fm k b = false) : b ≠ k := by
  rintro rfl
  rw [Fm_self] at h; cases h

inductive DenA (M : Mem) (ι : Inj) : AV → Value → Prop
  | d (x : D) (v : Value) (h : DenD M x v) : DenA M ι (.d x) v
  | tt : DenA M ι .tt (.bool true)
  | ff : DenA M ι .ff (.bool false)
  | agg (c : List AV) (vs : Array Value) (hl : vs.size = c.length)
      (hd : ∀ (i : Nat) (x : AV) (v : Value), c[i]? = some x → vs[i]? = some v → DenA M ι x v) : DenA M ι (.agg c) (.agg vs)
  | tup (c : List AV) (vs : Array Value) (hl : vs.size = c.length)
      (hd : ∀ (i : Nat) (x : AV) (v : Value), c[i]? = some x → vs[i]? = some v → DenA M ι x v) : DenA M ι (.tup c) (.tuple vs)
  | own (b : Nat) (L : Loc) (cap : Nat) (h : ι b = some (some L)) (hn : L.len ≤ cap) (hc : cap * L.sz ≤ L.size) :
      DenA M ι (.own b) (.slice (some ⟨L.blk, 0, none⟩) L.len cap)
  | ownE (b : Nat) (a : Option Addr) (h : ι b = some none) : DenA M ι (.own b) (.slice a 0 0)
  | ownL (b : Nat) (v : Value) (h : ι b = none) : DenA M ι (.own b) v
  | ptr (b i j : Nat) (L : Loc) (h : ι b = some (some L)) : DenA M ι (.ptr b i j) (.pointer (some ⟨L.blk, i * L.sz + j, none⟩))
  | ptrL (b i j : Nat) (v : Value) (h : ι b = none) : DenA M ι (.ptr b i j) v
  | win (b lo n : Nat) (c : Option Nat) (L : Loc) (k base : Nat) (h : ι b = some (some L)) (hn : n ≤ k) (hc : ∀ m, c = some m → k = m) (hk : (lo + k) * L.sz ≤ L.size)
      (hb : base = lo * L.sz ∨ (k = 0 ∧ 0 < lo)) : DenA M ι (.win b lo n c) (.slice (some ⟨L.blk, base, none⟩) n k)
  | winL (b lo n : Nat) (c : Option Nat) (v : Value) (h : ι b = none) : DenA M ι (.win b lo n c) v
  | nil (a : Option Addr) : DenA M ι .nil (.slice a 0 0)
  | fn (f : FuncId) (cap : List AV) (vs : Array Value) (hl : vs.size = cap.length)
      (hd : ∀ (i : Nat) (x : AV) (v : Value), cap[i]? = some x → vs[i]? = some v → DenA M ι x v) : DenA M ι (.fn f cap) (.func (.func f) #[] vs)
  | dead (v : Value) : DenA M ι .dead v

/-- no part of the value names block b -/
inductive Free (b : Nat) : AV → Prop
  | d (x : D) : Free b (.d x)
  | tt : Free b .tt
  | ff : Free b .ff
  | agg (c : List AV) (h : ∀ x ∈ c, Free b x) : Free b (.agg c)
  | tup (c : List AV) (h : ∀ x ∈ c, Free b x) : Free b (.tup c)
  | own (b' : Nat) (h : b' ≠ b) : Free b (.own b')
  | ptr (b' i j : Nat) (h : b' ≠ b) : Free b (.ptr b' i j)
  | win (b' lo n : Nat) (c : Option Nat) (h : b' ≠ b) : Free b (.win b' lo n c)
  | nil : Free b .nil
  | fn (f : FuncId) (c : List AV) (h : ∀ x ∈ c, Free b x) : Free b (.fn f c)
  | dead : Free b .dead

theorem DenA.mono {M M' : Mem} {ι : Inj} (h : Sub M M') {x : AV} {v : Value} (hd : DenA M ι x v) : DenA M' ι x v := by
  induction hd with
  | d x v hx => exact .d x v (hx.mono h)
  | tt => exact .tt
  | ff => exact .ff
  | agg c vs hl _ ih => exact .agg c vs hl ih
  | tup c vs hl _ ih => exact .tup c vs hl ih
  | own b L cap h hn hc => exact .own b L cap h hn hc
  | ownE b a h => exact .ownE b a h
  | ownL b v h => exact .ownL b v h
  | ptr b i j L h => exact .ptr b i j L h
  | ptrL b i j v h => exact .ptrL b i j v h
  | win b lo n c L k base h hn hc hk hb => exact .win b lo n c L k base h hn hc hk hb
  | winL b lo n c v h => exact .winL b lo n c v h
  | nil a => exact .nil a
  | fn f cap vs hl _ ih => exact .fn f cap vs hl ih
  | dead v => exact .dead v

theorem DenA.turnS {M : Mem} {ι ι' : Inj} {S : Nat → Prop} (hι : ∀ b, S b → ι' b = ι b) {x : AV} {v : Value} (hd : DenA M ι x v) (hf : ∀ b, ¬ S b → Free b x) : DenA M ι' x v := by
  have hS : ∀ {b : Nat} {x : AV}, (∀ b, ¬ S b → Free b x) → (¬ Free b x) → ι' b = ι b := fun {b x} h h1 => Classical.byContradiction fun hn => h1 (h b fun hs => hn (hι b hs))
  induction hd with
  | d x v hx => exact .d x v hx
  | tt => exact .tt
  | ff => exact .ff
  | agg c vs hl _ ih => exact .agg c vs hl fun i x v h1 h2 => ih i x v h1 h2 fun b hb => by cases hf b hb with | agg _ hf => exact hf x (List.mem_of_getElem? h1)
  | tup c vs hl _ ih => exact .tup c vs hl fun i x v h1 h2 => ih i x v h1 h2 fun b hb => by cases hf b hb with | tup _ hf => exact hf x (List.mem_of_getElem? h1)
  | own b' L cap h hn hc => exact .own b' L cap (by rw [hS hf fun hb => by cases hb with | own _ hb => exact hb rfl]; exact h) hn hc
  | ownE b' a h => exact .ownE b' a (by rw [hS hf fun hb => by cases hb with | own _ hb => exact hb rfl]; exact h)
  | ownL b' v h => exact .ownL b' v (by rw [hS hf fun hb => by cases hb with | own _ hb => exact hb rfl]; exact h)
  | ptr b' i j L h => exact .ptr b' i j L (by rw [hS hf fun hb => by cases hb with | ptr _ _ _ hb => exact hb rfl]; exact h)
  | ptrL b' i j v h => exact .ptrL b' i j v (by rw [hS hf fun hb => by cases hb with | ptr _ _ _ hb => exact hb rfl]; exact h)
  | win b' lo n c L k base h hn hc hk hb2 => exact .win b' lo n c L k base (by rw [hS hf fun hb => by cases hb with | win _ _ _ _ hb => exact hb rfl]; exact h) hn hc hk hb2
  | winL b' lo n c v h => exact .winL b' lo n c v (by rw [hS hf fun hb => by cases hb with | win _ _ _ _ hb => exact hb rfl]; exact h)
  | nil a => exact .nil a
  | fn f cap vs hl _ ih => exact .fn f cap vs hl fun i x v h1 h2 => ih i x v h1 h2 fun b hb => by cases hf b hb with | fn _ _ hf => exact hf x (List.mem_of_getElem? h1)
  | dead v => exact .dead v

/-- no part of the value names one that goes with b -/
def FreeF (b : Nat) (x : AV) : Prop := ∀ b', Fm b b' = true → Free b' x

/-- where only the places that go with b have turned, a value that doesn't name them denotes what it did -/
theorem DenA.turn {M : Mem} {ι ι' : Inj} {b : Nat} (hι : ∀ b', Fm b b' = false → ι' b' = ι b') {x : AV} {v : Value} (hd : DenA M ι x v) (hf : FreeF b x) : DenA M ι' x v :=
  hd.turnS (S := fun b' => Fm b b' = false) hι fun b' hb => hf b' (by simpa using hb)

/-- a block's name is taken anew: whatever names it is dead -/
def killV (b : Nat) : AV → AV
  | .own b' => bif Fm b b' then .dead else .own b'
  | .ptr b' i j => bif Fm b b' then .dead else .ptr b' i j
  | .win b' lo n c => bif Fm b b' then .dead else .win b' lo n c
  | .d x => .d x
  | .tt => .tt
  | .ff => .ff
  | .nil => .nil
  | .agg c => bif names b c then .dead else .agg c
  | .tup c => bif parts b c then .dead else .tup c
  | .fn f c => bif names b c then .dead else .fn f c
  | .dead => .dead
  where
  /-- might one of these name b? (cells of structs in structs: said yes) -/
  names (b : Nat) : List AV → Bool
    | [] => false
    | x :: r => bif one b x then true else names b r
  one (b : Nat) : AV → Bool
    | .own b' => Fm b b'
    | .ptr b' _ _ => Fm b b'
    | .win b' _ _ _ => Fm b b'
    | .d _ => false
    | .tt => false
    | .ff => false
    | .nil => false
    | .dead => false
    | .agg _ => true
    | .tup _ => true
    | .fn _ _ => true
  part (b : Nat) : AV → Bool
    | .agg c => names b c
    | x => one b x
  parts (b : Nat) : List AV → Bool
    | [] => false
    | x :: r => bif part b x then true else parts b r

theorem free_of_one {b : Nat} {x : AV} (h : killV.one b x = false) : FreeF b x := by
  intro b0 h0
  cases x with
  | own b' => exact .own b' (by rintro rfl; simp [killV.one, h0] at h)
  | ptr b' i j => exact .ptr b' i j (by rintro rfl; simp [killV.one, h0] at h)
  | win b' lo n c => exact .win b' lo n c (by rintro rfl; simp [killV.one, h0] at h)
  | d x => exact .d x
  | tt => exact .tt
  | ff => exact .ff
  | nil => exact .nil
  | dead => exact .dead
  | agg c => simp [killV.one] at h
  | tup c => simp [killV.one] at h
  | fn f c => simp [killV.one] at h

theorem free_of_names {b : Nat} : ∀ {c : List AV}, killV.names b c = false → ∀ x ∈ c, FreeF b x
  | [], _, _, h => by cases h
  | y :: r, h, x, hx => by
    simp only [killV.names] at h
    cases h1 : killV.one b y with
    | true => simp [h1] at h
    | false =>
      simp only [h1, cond_false] at h
      cases hx with
      | head => exact free_of_one h1
      | tail _ hx => exact free_of_names h x hx

theorem free_of_parts {b : Nat} : ∀ {c : List AV}, killV.parts b c = false → ∀ x ∈ c, FreeF b x
  | [], _, _, h => by cases h
  | y :: r, h, x, hx => by
    simp only [killV.parts] at h
    cases h1 : killV.part b y with
    | true => simp [h1] at h
    | false =>
      simp only [h1, cond_false] at h
      cases hx with
      | head =>
        cases y with
        | agg c => exact fun b' hb => .agg c fun x hx => free_of_names h1 x hx b' hb
        | _ => exact free_of_one h1
      | tail _ hx => exact free_of_parts h x hx

theorem killV_free (b : Nat) (x : AV) : FreeF b (killV b x) := by
  intro b0 h0
  cases x with
  | own b' =>
    simp only [killV]
    cases h : Fm b b' with
    | true => exact .dead
    | false => exact .own b' (by rintro rfl; simp [h0] at h)
  | ptr b' i j =>
    simp only [killV]
    cases h : Fm b b' with
    | true => exact .dead
    | false => exact .ptr b' i j (by rintro rfl; simp [h0] at h)
  | win b' lo n c =>
    simp only [killV]
    cases h : Fm b b' with
    | true => exact .dead
    | false => exact .win b' lo n c (by rintro rfl; simp [h0] at h)
  | d x => exact .d x
  | tt => exact .tt
  | ff => exact .ff
  | nil => exact .nil
  | dead => exact .dead
  | agg c =>
    simp only [killV]
    cases h : killV.names b c with
    | true => exact .dead
    | false => exact .agg c fun x hx => free_of_names h x hx b0 h0
  | tup c =>
    simp only [killV]
    cases h : killV.parts b c with
    | true => exact .dead
    | false => exact .tup c fun x hx => free_of_parts h x hx b0 h0
  | fn f c =>
    simp only [killV]
    cases h : killV.names b c with
    | true => exact .dead
    | false => exact .fn f c fun x hx => free_of_names h x hx b0 h0

theorem DenA.killV {M : Mem} {ι : Inj} {x : AV} {v : Value} (b : Nat) (h : DenA M ι x v) : DenA M ι (killV b x) v := by
  cases x with
  | own b' =>
    simp only [Lk.killV]
    cases Fm b b' with
    | true => exact .dead v
    | false => exact h
  | ptr b' i j =>
    simp only [Lk.killV]
    cases Fm b b' with
    | true => exact .dead v
    | false => exact h
  | win b' lo n c =>
    simp only [Lk.killV]
    cases Fm b b' with
    | true => exact .dead v
    | false => exact h
  | d x => exact h
  | tt => exact h
  | ff => exact h
  | nil => exact h
  | dead => exact h
  | agg c =>
    simp only [Lk.killV]
    cases killV.names b c with
    | true => exact .dead v
    | false => exact h
  | tup c =>
    simp only [Lk.killV]
    cases killV.parts b c with
    | true => exact .dead v
    | false => exact h
  | fn f c =>
    simp only [Lk.killV]
    cases killV.names b c with
    | true => exact .dead v
    | false => exact h

end Go.Lk

namespace Go.Lk
open Go

inductive TK where
  | int (k : IntKind) | bool | str | slice (e : TypeId) | arr (n : Nat) (e : TypeId) | struct (fs : List (Nat × TypeId)) | ptr (e : TypeId) | other

structure TyI where
  k : TK
  size : Nat
  bytes : Nat
  zero : List D

abbrev Tab := TypeId → TyI

def TK.known : TK → Bool
  | .other => false
  | _ => true
def TK.agg : TK → Bool
  | .arr _ _ => true
  | .struct _ => true
  | _ => false

structure AState where
  tm : Nat → AV
  hp : Nat → Option Blk

def upd {α : Type} (f : Nat → α) (t : Nat) (v : α) : Nat → α := fun s => bif Nat.beq s t then v else f s

/-- what an operation does: the value it yields, blocks that it writes, a name whose elder uses die -/
structure Eff where
  av : AV
  wr : List (Nat × Blk)
  kl : Option Nat

def force (v : AV) (K : AV → Prop) : Prop :=
  match v with
  | .d x => K (.d x)
  | .tt => K .tt
  | .ff => K .ff
  | .agg c => K (.agg c)
  | .tup c => K (.tup c)
  | .own b => K (.own b)
  | .ptr b i j => K (.ptr b i j)
  | .win b lo n c => K (.win b lo n c)
  | .nil => K .nil
  | .fn f c => K (.fn f c)
  | .dead => False

def forceL (c : List AV) (K : List AV → Prop) : Prop :=
  match c with
  | [] => K []
  | x :: r => force x fun x => forceL r fun r => K (x :: r)

def ofConst : Value → AV
  | .int k n => .d (.int k n)
  | .bool true => .tt
  | .bool false => .ff
  | .string s => .d (.str s)
  | .slice none 0 0 => .nil
  | .pointer none => .d .nilp
  | .agg cs => .agg (cells cs.toList)
  | _ => .dead
  where
  one : Value → AV
    | .int k n => .d (.int k n)
    | .bool true => .tt
    | .bool false => .ff
    | .string s => .d (.str s)
    | .slice none 0 0 => .nil
    | .pointer none => .d .nilp
    | _ => .dead
  cells : List Value → List AV
    | [] => []
    | v :: r => one v :: cells r

def evT (tm : Nat → AV) : Operand → AV
  | .tmp t => tm t
  | .const v => ofConst v
  | .global _ => .dead
  | .func f => .d (.fn f [])

/-! ### heads that stand till a lemma takes them -/
structure bcase (b : Bool) (A B : Prop) : Prop where
  out : match b with | true => A | false => B
theorem bcase_intro {b : Bool} {A B : Prop} (h1 : b = true → A) (h2 : b = false → B) : bcase b A B := by
  cases b with
  | true => exact ⟨h1 rfl⟩
  | false => exact ⟨h2 rfl⟩
theorem bcase_t {b : Bool} {A B : Prop} (h : b = true) (h1 : A) : bcase b A B := by subst h; exact ⟨h1⟩
theorem bcase_f {b : Bool} {A B : Prop} (h : b = false) (h1 : B) : bcase b A B := by subst h; exact ⟨h1⟩
theorem bcase_p {p : Prop} [Decidable p] {A B : Prop} (h1 : p → A) (h2 : ¬p → B) : bcase (decide p) A B := bcase_intro (fun h => h1 (of_decide_eq_true h)) (fun h => h2 (of_decide_eq_false h))
theorem bcase_n {p : Prop} [Decidable p] {A B : Prop} (h1 : ¬p → A) (h2 : p → B) : bcase (!decide p) A B :=
  bcase_intro (fun h => h1 (by simpa using h)) (fun h => h2 (by simpa using h))
structure getRow (l : List (List D)) (i : Nat) (K : List D → Prop) : Prop where
  out : ∃ e, l[i]? = some e ∧ K e
theorem getRow_of {l : List (List D)} {i : Nat} {K : List D → Prop} {x : List D} (h : l[i]? = some x) (k : K x) : getRow l i K := ⟨⟨x, h, k⟩⟩
structure wrapK (k : IntKind) (n : Int) (K : Int → Prop) : Prop where
  out : K (k.wrap n)
theorem wrapK_in {k : IntKind} {n : Int} {K : Int → Prop} (h : k.wrap n = n) (hk : K n) : wrapK k n K := ⟨by rw [h]; exact hk⟩
theorem wrapK_raw {k : IntKind} {n : Int} {K : Int → Prop} (hk : K (k.wrap n)) : wrapK k n K := ⟨hk⟩
structure idxK (i : Int) (n : Nat) (K : Nat → Prop) : Prop where
  out : 0 ≤ i ∧ i < n ∧ K i.toNat
theorem idxK_nat {i n : Nat} {K : Nat → Prop} (h : i < n) (hk : K i) : idxK (i : Int) n K := ⟨⟨by omega, by omega, by simpa using hk⟩⟩
theorem idxK_int {i : Int} {n : Nat} {K : Nat → Prop} (h0 : 0 ≤ i) (h : i < n) (hk : K i.toNat) : idxK i n K := ⟨⟨h0, h, hk⟩⟩
/-- slice bounds: lo ≤ hi ≤ n -/
structure sliceK (lo hi : Option Int) (n : Nat) (K : Nat → Nat → Prop) : Prop where
  out : 0 ≤ lo.getD 0 ∧ lo.getD 0 ≤ hi.getD n ∧ hi.getD n ≤ n ∧ K (lo.getD 0).toNat (hi.getD n).toNat
theorem sliceK_hi {h n : Nat} {K : Nat → Nat → Prop} (hh : h ≤ n) (k : K 0 h) : sliceK none (some (h : Int)) n K := ⟨⟨by simp, by simp, by simpa using hh, by simpa using k⟩⟩
theorem sliceK_lo {l n : Nat} {K : Nat → Nat → Prop} (hh : l ≤ n) (k : K l n) : sliceK (some (l : Int)) none n K := ⟨⟨by simp, by simpa using hh, by simp, by simpa using k⟩⟩
theorem sliceK_lohi {l h n : Nat} {K : Nat → Nat → Prop} (hl : l ≤ h) (hh : h ≤ n) (k : K l h) : sliceK (some (l : Int)) (some (h : Int)) n K := ⟨⟨by simp, by simpa using hl, by simpa using hh, by simpa using k⟩⟩
structure divK (q : Bool) (k : IntKind) (a b : Int) (K : Int → Prop) : Prop where
  out : b ≠ 0 ∧ K (if q then k.wrap (a.tdiv b) else a.tmod b)
theorem divK_rem {k : IntKind} {a b : Int} {K : Int → Prop} (hb : b ≠ 0) (ha : 0 ≤ a) (h : K (a % b)) : divK false k a b K := ⟨⟨hb, by simpa [Int.tmod_eq_emod_of_nonneg ha] using h⟩⟩
theorem divK_raw {k : IntKind} {q : Bool} {a b : Int} {K : Int → Prop} (hb : b ≠ 0) (h : K (if q then k.wrap (a.tdiv b) else a.tmod b)) : divK q k a b K := ⟨⟨hb, h⟩⟩
/-- room for an append or a make -/
structure roomK (n bytes : Nat) (K : Prop) : Prop where
  out : n * bytes ≤ 35184372088832 ∧ n ≤ 35184372088832 ∧ K
theorem roomK_of {n bytes : Nat} {K : Prop} (h : n * bytes ≤ 35184372088832) (h1 : n ≤ 35184372088832) (k : K) : roomK n bytes K := ⟨⟨h, h1, k⟩⟩
structure condK (c : Prop) (K : Prop) : Prop where
  out : c ∧ K
theorem condK_of {c K : Prop} (h : c) (k : K) : condK c K := ⟨⟨h, k⟩⟩

/-- bounds of a window: lo ≤ hi ≤ c -/
structure winK (lo hi : Option Int) (n c : Nat) (K : Nat → Nat → Prop) : Prop where
  out : 0 ≤ lo.getD 0 ∧ lo.getD 0 ≤ hi.getD n ∧ hi.getD n ≤ c ∧ K (lo.getD 0).toNat (hi.getD n).toNat
theorem winK_hi {h n c : Nat} {K : Nat → Nat → Prop} (hh : h ≤ c) (k : K 0 h) : winK none (some (h : Int)) n c K := ⟨⟨by simp, by simp, by simpa using hh, by simpa using k⟩⟩
theorem winK_lo {l n c : Nat} {K : Nat → Nat → Prop} (hh : l ≤ n) (hc : n ≤ c) (k : K l n) : winK (some (l : Int)) none n c K := ⟨⟨by simp, by simpa using hh, by simpa using hc, by simpa using k⟩⟩
theorem winK_lohi {l h n c : Nat} {K : Nat → Nat → Prop} (hl : l ≤ h) (hh : h ≤ c) (k : K l h) : winK (some (l : Int)) (some (h : Int)) n c K := ⟨⟨by simp, by simpa using hl, by simpa using hh, by simpa using k⟩⟩
def subO (c : Option Nat) (l : Nat) : Option Nat :=
  match c with
  | some c => some (c - l)
  | none => none
/-- an append that finds room, or doesn't -/
structure appW (p A B : Prop) : Prop where
  yes : p → A
  no : ¬ p → B
def kcode : IntKind → Nat
  | .i8 => 0 | .i16 => 1 | .i32 => 2 | .i64 => 3 | .u8 => 4 | .u16 => 5 | .u32 => 6 | .u64 => 7

def bitsV (op : BinOp) (k : IntKind) (a b : Int) : Int :=
  k.wrap ((match op with
    | .and => BitVec.ofInt k.bits a &&& BitVec.ofInt k.bits b
    | .or => BitVec.ofInt k.bits a ||| BitVec.ofInt k.bits b
    | .xor => BitVec.ofInt k.bits a ^^^ BitVec.ofInt k.bits b
    | _ => BitVec.ofInt k.bits a &&& ~~~ BitVec.ofInt k.bits b).toNat : Int)

def intA (op : BinOp) (k : IntKind) (a b : Int) (K : AV → Prop) : Prop :=
  match op with
  | .add => wrapK k (a + b) fun n => K (.d (.int k n))
  | .sub => wrapK k (a - b) fun n => K (.d (.int k n))
  | .mul => wrapK k (a * b) fun n => K (.d (.int k n))
  | .quo => divK true k a b fun n => K (.d (.int k n))
  | .rem => divK false k a b fun n => K (.d (.int k n))
  | .and => K (.d (.int k (bitsV .and k a b)))
  | .or => K (.d (.int k (bitsV .or k a b)))
  | .xor => K (.d (.int k (bitsV .xor k a b)))
  | .andNot => K (.d (.int k (bitsV .andNot k a b)))
  | .eql => K (.d (.bool (decide (a = b))))
  | .neq => K (.d (.bool (!decide (a = b))))
  | .lss => K (.d (.bool (decide (a < b))))
  | .leq => K (.d (.bool (decide (a ≤ b))))
  | .gtr => K (.d (.bool (decide (b < a))))
  | .geq => K (.d (.bool (decide (b ≤ a))))
  | _ => False

def shiftA (op : BinOp) (k : IntKind) (a b : Int) (K : AV → Prop) : Prop :=
  match op with
  | .shl => condK (0 ≤ b) (wrapK k (a * 2 ^ (min b.toNat k.bits)) fun n => K (.d (.int k n)))
  | .shr => condK (0 ≤ b) (K (.d (.int k (a.fdiv (2 ^ (min b.toNat k.bits))))))
  | _ => False

def boolA (op : BinOp) (a b : Bool) (K : AV → Prop) : Prop :=
  match op with
  | .eql => K (.d (.bool (a == b)))
  | .neq => K (.d (.bool (!(a == b))))
  | _ => False

def strA (op : BinOp) (a b : ByteArray) (K : AV → Prop) : Prop :=
  match op with
  | .add => condK (a.size + b.size ≤ 9223372036854775807) (K (.d (.str (a ++ b))))
  | .eql => K (.d (.bool (decide (a = b))))
  | .neq => K (.d (.bool (!decide (a = b))))
  | _ => False

def boolOf (v : AV) (K : Bool → Prop) : Prop :=
  match v with
  | .d (.bool b) => K b
  | .tt => K true
  | .ff => K false
  | _ => False

/-- '==' of two values of one type: structs field by field -/
def eqA (T : Tab) (n : Nat) (t : TypeId) (x y : List AV) (K : Bool → Prop) : Prop :=
  match n with
  | 0 => False
  | n + 1 => match (T t).k with
    | .int _ => match x with
      | [.d (.int k a)] => match y with
        | [.d (.int k' b)] => bif Nat.beq (kcode k) (kcode k') then K (decide (a = b)) else False
        | _ => False
      | _ => False
    | .str => match x with
      | [.d (.str a)] => match y with
        | [.d (.str b)] => K (decide (a = b))
        | _ => False
      | _ => False
    | .bool => match x with
      | [u] => match y with
        | [v] => boolOf u fun a => boolOf v fun b => K (a == b)
        | _ => False
      | _ => False
    | .struct fs => fields (fun t x y K => eqA T n t x y K) fs x y K
    | _ => False
  where
  fields (rec : TypeId → List AV → List AV → (Bool → Prop) → Prop) (fs : List (Nat × TypeId)) (x y : List AV) (K : Bool → Prop) : Prop :=
    match fs with
    | [] => K true
    | (o, t) :: r => bif Nat.ble (o + (T t).size) x.length && Nat.ble (o + (T t).size) y.length then
        rec t ((x.drop o).take (T t).size) ((y.drop o).take (T t).size) fun b => fields rec r x y fun c => K (b && c) else False

def isShift : BinOp → Bool
  | .shl => true
  | .shr => true
  | _ => false

def binA (T : Tab) (t : TypeId) (op : BinOp) (x y : AV) (K : AV → Prop) : Prop :=
  match x with
  | .d (.int k a) => match y with
    | .d (.int k' b) => bif isShift op then shiftA op k a b K else bif Nat.beq (kcode k) (kcode k') then intA op k a b K else False
    | _ => False
  | .d (.str a) => match y with
    | .d (.str b) => strA op a b K
    | _ => False
  | .d (.bool a) => match (T t).k with
    | .bool => boolOf y fun b => boolA op a b K
    | _ => False
  | .tt => match (T t).k with
    | .bool => boolOf y fun b => boolA op true b K
    | _ => False
  | .ff => match (T t).k with
    | .bool => boolOf y fun b => boolA op false b K
    | _ => False
  | .agg c => match y with
    | .agg c' => match op with
      | .eql => bif (T t).k.agg then eqA T 9999 t c c' fun b => K (.d (.bool b)) else False
      | .neq => bif (T t).k.agg then eqA T 9999 t c c' fun b => K (.d (.bool (!b))) else False
      | _ => False
    | _ => False
  | _ => False

def getC (c : List AV) (j : Nat) (K : AV → Prop) : Prop := match c[j]? with | some x => force x K | none => False
def getD (c : List D) (j : Nat) (K : D → Prop) : Prop := match c[j]? with | some x => K x | none => False

def partA (agg : Bool) (size : Nat) (c : List AV) (j : Nat) (K : AV → Prop) : Prop :=
  bif agg then (bif Nat.ble (j + size) c.length then forceL ((c.drop j).take size) fun c => K (.agg c) else False) else getC c j K
def partD (agg : Bool) (size : Nat) (c : List D) (j : Nat) (K : AV → Prop) : Prop :=
  bif agg then (bif Nat.ble (j + size) c.length then forceL (((c.drop j).take size).map .d) fun c => K (.agg c) else False) else getD c j fun x => K (.d x)

def loadB (T : Tab) (t : TypeId) (v : AV) (hp : Nat → Option Blk) (K : AV → Prop) : Prop :=
  match v with
  | .ptr b i j => match hp b with
    | some (.box c _) => condK (i = 0) (partA (T t).k.agg (T t).size c j K)
    | some (.row l _ _) => getRow l i fun e => partD (T t).k.agg (T t).size e j K
    | none => False
  | .d (.dp e j) => partD (T t).k.agg (T t).size e j K
  | _ => False

def loadA (T : Tab) (t : TypeId) (v : AV) (hp : Nat → Option Blk) (K : AV → Prop) : Prop :=
  bif (T t).k.known then loadB T t v hp K else False

def fieldOff (T : Tab) (s : TypeId) (f : Nat) (K : Nat → TypeId → Prop) : Prop :=
  match (T s).k with
  | .struct fs => match fs[f]? with
    | some (o, t) => K o t
    | none => False
  | _ => False

def indexAddrA (T : Tab) (t : TypeId) (x i : AV) (hp : Nat → Option Blk) (K : AV → Prop) : Prop :=
  match i with
  | .d (.int _ i) => match (T t).k with
    | .slice el => match x with
      | .d (.lst l) => idxK i l.length fun n => getRow l n fun e => bif Nat.beq e.length (T el).size then K (.d (.dp e 0)) else False
      | .own b => match hp b with
        | some (.row l sz _) => bif Nat.beq sz (T el).size then idxK i l.length fun n => K (.ptr b n 0) else False
        | _ => False
      | .win b lo n _ => match hp b with
        | some (.row _ sz _) => bif Nat.beq sz (T el).size then idxK i n fun m => K (.ptr b (lo + m) 0) else False
        | _ => False
      | _ => False
    | .arr n e => match x with
      | .ptr b i0 j => match hp b with
        | some _ => idxK i n fun n => K (.ptr b i0 (j + n * (T e).size))
        | none => False
      | .d (.dp c j) => idxK i n fun n => K (.d (.dp c (j + n * (T e).size)))
      | _ => False
    | _ => False
  | _ => False

def indexA (T : Tab) (t : TypeId) (x i : AV) (K : AV → Prop) : Prop :=
  match i with
  | .d (.int _ i) => match x with
    | .d (.str s) => match (T t).k with
      | .str => idxK i s.size fun n => K (.d (.int .u8 (s.data.getD n 0).toNat))
      | _ => False
    | .agg c => match (T t).k with
      | .arr n e => idxK i n fun n => partA (T e).k.agg (T e).size c (n * (T e).size) K
      | _ => False
    | _ => False
  | _ => False

/-- a value as pure data -/
def conv (hp : Nat → Option Blk) : AV → Option D
  | .d x => some x
  | .tt => some (.bool true)
  | .ff => some (.bool false)
  | .nil => some (.lst [])
  | .own b => match hp b with
    | some (.row l _ _) => some (.lst l)
    | _ => none
  | .agg c => (cells hp c).map .agg
  | .fn f c => (caps hp c).map (.fn f)
  | _ => none
  where
  one (hp : Nat → Option Blk) : AV → Option D
    | .d x => some x
    | .tt => some (.bool true)
    | .ff => some (.bool false)
    | .nil => some (.lst [])
    | .own b => match hp b with
      | some (.row l _ _) => some (.lst l)
      | _ => none
    | _ => none
  cells (hp : Nat → Option Blk) : List AV → Option (List D)
    | [] => some []
    | x :: r => (one hp x).bind fun d => (cells hp r).map fun ds => d :: ds
  pure1 : AV → Option D
    | .d x => some x
    | .tt => some (.bool true)
    | .ff => some (.bool false)
    | .nil => some (.lst [])
    | _ => none
  pures : List AV → Option (List D)
    | [] => some []
    | x :: r => (pure1 x).bind fun d => (pures r).map fun ds => d :: ds
  cap1 (hp : Nat → Option Blk) : AV → Option D
    | .d x => some x
    | .tt => some (.bool true)
    | .ff => some (.bool false)
    | .ptr b i j => match hp b with
      | some (.box c true) => bif Nat.beq i 0 then (pures c).map fun c => .dp c j else none
      | _ => none
    | _ => none
  caps (hp : Nat → Option Blk) : List AV → Option (List D)
    | [] => some []
    | x :: r => (cap1 hp x).bind fun d => (caps hp r).map fun ds => d :: ds

/-- blocks not yet frozen that a value hands on -/
def openNames (hp : Nat → Option Blk) : AV → List Nat
  | .own b => one hp (.own b)
  | .agg c => cells hp c
  | _ => []
  where
  one (hp : Nat → Option Blk) : AV → List Nat
    | .own b => match hp b with
      | some (.row _ _ false) => [b]
      | _ => []
    | _ => []
  cells (hp : Nat → Option Blk) : List AV → List Nat
    | [] => []
    | x :: r => one hp x ++ cells hp r

def frz (hp : Nat → Option Blk) : List Nat → List (Nat × Blk)
  | [] => []
  | b :: r => match hp b with
    | some (.row l sz _) => (b, .row l sz true) :: frz hp r
    | _ => frz hp r

def convsK (hp : Nat → Option Blk) (ρ : Operand → AV) (a : List Operand) (K : List D → List Nat → Prop) : Prop :=
  match a with
  | [] => K [] []
  | x :: r => match conv hp (ρ x) with
    | some d => convsK hp ρ r fun ds ns => K (d :: ds) (openNames hp (ρ x) ++ ns)
    | none => False

def ofD : D → AV
  | .agg c => .agg (c.map .d)
  | .tup c => .tup (c.map one)
  | .lst l => .d (.lst l)
  | .int k n => .d (.int k n)
  | .bool b => .d (.bool b)
  | .str s => .d (.str s)
  | .dp c j => .d (.dp c j)
  | .fn f c => .d (.fn f c)
  | .nilp => .d .nilp
  | .unk => .d .unk
  where
  one : D → AV
    | .agg c => .agg (c.map .d)
    | x => .d x

/-- no address in it -/
def scalar : D → Bool
  | .int _ _ => true
  | .bool _ => true
  | .str _ => true
  | .tup c => all c
  | .agg c => all c
  | _ => false
  where
  one : D → Bool
    | .int _ _ => true
    | .bool _ => true
    | .str _ => true
    | _ => false
  all : List D → Bool
    | [] => true
    | x :: r => bif one x then all r else false

def lenA (T : Tab) (t : TypeId) (v : AV) (hp : Nat → Option Blk) (K : AV → Prop) : Prop :=
  match (T t).k with
  | .str => match v with
    | .d (.str s) => K (.d (.int .i64 s.size))
    | _ => False
  | .slice _ => match v with
    | .d (.lst l) => K (.d (.int .i64 l.length))
    | .nil => K (.d (.int .i64 0))
    | .win b _ n _ => match hp b with
      | some _ => K (.d (.int .i64 n))
      | none => False
    | .own b => match hp b with
      | some (.row l _ _) => K (.d (.int .i64 l.length))
      | _ => False
    | _ => False
  | _ => False

def sliceBd (ρ : Operand → AV) (o : Option Operand) (K : Option Int → Prop) : Prop :=
  match o with
  | none => K none
  | some x => match ρ x with
    | .d (.int _ n) => K (some n)
    | _ => False

def sliceA (T : Tab) (t : TypeId) (v : AV) (hp : Nat → Option Blk) (lo hi mx : Option Int) (K : Eff → Prop) : Prop :=
  match mx with
  | none => match v with
    | .d (.str s) => match (T t).k with
      | .str => sliceK lo hi s.size fun l h => K ⟨.d (.str (s.extract l h)), [], none⟩
      | _ => False
    | .d (.lst r) => match (T t).k with
      | .slice el => condK (∀ e ∈ r, e.length = (T el).size) (sliceK lo hi r.length fun l h => K ⟨.d (.lst ((r.take h).drop l)), [], none⟩)
      | _ => False
    | .own b => match hp b with
      | some (.row r sz _) => match (T t).k with
        | .slice el => bif Nat.beq sz (T el).size then sliceK lo hi r.length fun l h => K ⟨.d (.lst ((r.take h).drop l)), [(b, .row r sz true)], none⟩ else False
        | _ => False
      | _ => False
    | .nil => match (T t).k with
      | .slice _ => sliceK lo hi 0 fun _ _ => K ⟨.nil, [], none⟩
      | _ => False
    | .win b lo0 n c => match hp b with
      | some (.row _ sz false) => match (T t).k with
        | .slice el => bif Nat.beq sz (T el).size then winK lo hi n (c.getD n) fun l h => K ⟨.win b (lo0 + l) (h - l) (subO c l), [], none⟩ else False
        | _ => False
      | _ => False
    | _ => False
  | some m => match v with
   | .win b lo0 n c => match hp b with
      | some (.row _ sz false) => match (T t).k with
        | .slice el => bif Nat.beq sz (T el).size then condK (hi ≠ none ∧ 0 ≤ m ∧ m ≤ (c.getD n : Int)) (winK lo hi n m.toNat fun l h => K ⟨.win b (lo0 + l) (h - l) (some (m.toNat - l)), [], none⟩) else False
        | _ => False
      | _ => False
   | v => match (T t).k with
    | .slice _ => condK (m = 0 ∧ hi = some 0 ∧ lo = none) (match v with
      | .d (.lst _) => K ⟨.nil, [], none⟩
      | .nil => K ⟨.nil, [], none⟩
      | _ => False)
    | _ => False

def splice {α : Type} (c : List α) (j : Nat) : List α → List α
  | [] => c
  | x :: r => splice (c.set j x) (j + 1) r

/-- likewise, in one step -/
def spliceF {α : Type} (c : List α) (j : Nat) (l : List α) : List α := c.take j ++ (l ++ c.drop (j + l.length))
def cellsOf : AV → List AV
  | .agg c => c
  | v => [v]

def memN (b : Nat) : List Nat → Bool
  | [] => false
  | x :: r => bif Nat.beq b x then true else memN b r

def zA : D → AV
  | .lst [] => .nil
  | x => .d x

/-- may stand in one cell -/
def cell1 (hp : Nat → Option Blk) : AV → Bool
  | .d x => one x
  | .tt => true
  | .ff => true
  | .own b => match hp b with
    | some _ => true
    | none => false
  | .ptr b _ _ => match hp b with
    | some _ => true
    | none => false
  | .nil => true
  | .fn _ _ => true
  | _ => false
  where
  one : D → Bool
    | .int _ _ => true
    | .bool _ => true
    | .str _ => true
    | .lst _ => true
    | .dp _ _ => true
    | .fn _ _ => true
    | .nilp => true
    | .agg _ => false
    | .tup _ => false
    | .unk => false
def cells1 (hp : Nat → Option Blk) : List AV → Bool
  | [] => true
  | x :: r => bif cell1 hp x then cells1 hp r else false

/-- rows that may be stored: each of so many cells -/
def okRow (sz : Nat) (e : List D) : Bool := Nat.beq e.length sz && e.all cell1.one
def okRows (sz : Nat) (l : List (List D)) : Bool := l.all (okRow sz)
theorem okRows_map {α : Type} {f : α → List D} {sz : Nat} (h : ∀ x, okRow sz (f x) = true) (l : List α) : okRows sz (l.map f) = true := by
  simp [okRows, h]

/-- the elements that an append's second operand holds -/
def srcRow (sz : Nat) (v : AV) (hp : Nat → Option Blk) (K : List (List D) → Prop) : Prop :=
  match v with
  | .d (.lst l) => condK (okRows sz l = true) (K l)
  | .nil => K []
  | .own b => match hp b with
    | some (.row l sz' _) => bif Nat.beq sz' sz then condK (okRows sz l = true) (K l) else False
    | _ => False
  | .win b lo n _ => match hp b with
    | some (.row l sz' _) => bif Nat.beq sz' sz then condK (lo + n ≤ l.length ∧ okRows sz ((l.drop lo).take n) = true) (K ((l.drop lo).take n)) else False
    | _ => False
  | _ => False

/-- a row's elements, whatever they are -/
def srcAny (sz : Nat) (v : AV) (hp : Nat → Option Blk) (K : List (List D) → Prop) : Prop :=
  match v with
  | .d (.lst l) => K l
  | .nil => K []
  | .own b => match hp b with
    | some (.row l sz' _) => bif Nat.beq sz' sz then K l else False
    | _ => False
  | .win b lo n _ => match hp b with
    | some (.row l sz' _) => bif Nat.beq sz' sz then condK (lo + n ≤ l.length) (K ((l.drop lo).take n)) else False
    | _ => False
  | _ => False
/-- 'copy' into a window -/
def copyW (T : Tab) (e : TypeId) (x y : AV) (hp : Nat → Option Blk) (K : Eff → Prop) : Prop :=
  match x with
  | .win b lo n _ => match hp b with
    | some (.row r sz false) => bif Nat.beq sz (T e).size then srcAny (T e).size y hp fun src => condK (lo + n ≤ r.length ∧ okRows (T e).size (src.take (Nat.min src.length n)) = true)
        (K ⟨.d (.int .i64 (Nat.min src.length n)), [(b, .row (r.take lo ++ (src.take (Nat.min src.length n) ++ r.drop (lo + Nat.min src.length n))) sz false)], none⟩) else False
    | _ => False
  | _ => False
/-- 'clear' of a window -/
def clearW (T : Tab) (e : TypeId) (x : AV) (hp : Nat → Option Blk) (K : Eff → Prop) : Prop :=
  match x with
  | .win b lo n _ => match hp b with
    | some (.row r sz false) => bif Nat.beq sz (T e).size then condK (lo + n ≤ r.length ∧ okRow (T e).size (T e).zero = true)
        (K ⟨.tup [], [(b, .row (r.take lo ++ (List.replicate n (T e).zero ++ r.drop (lo + n))) sz false)], none⟩) else False
    | _ => False
  | _ => False
/-- 'append' to a window -/
def appendW (T : Tab) (e : TypeId) (b lo n c : Nat) (src : List (List D)) (hp : Nat → Option Blk) (dst : Option Tmp) (K : Eff → Prop) : Prop :=
  match hp b with
  | some (.row r sz false) => bif Nat.beq sz (T e).size then appW (n + src.length ≤ c)
      (condK (lo + n + src.length ≤ r.length) (K ⟨.win b lo (n + src.length) (some c), [(b, .row (r.take (lo + n) ++ (src ++ r.drop (lo + n + src.length))) sz false)], none⟩))
      (match dst with
        | some d => condK (lo + n ≤ r.length) (roomK (n + src.length) (T e).bytes (K ⟨.win d 0 (n + src.length) none, [(d, .row ((r.drop lo).take n ++ src) sz false)], some d⟩))
        | none => False) else False
  | _ => False
/-- 'append(s[:i], make(..)..)' that finds no room -/
def appendZ (T : Tab) (e : TypeId) (b lo n c : Nat) (k : Int) (hp : Nat → Option Blk) (dst : Option Tmp) (K : Eff → Prop) : Prop :=
  match hp b with
  | some (.row r sz false) => bif Nat.beq sz (T e).size then condK (0 ≤ k ∧ c < n + k.toNat ∧ lo + n ≤ r.length)
      (match dst with
        | some d => roomK (n + k.toNat) (T e).bytes (K ⟨.win d 0 (n + k.toNat) none, [(d, .row ((r.drop lo).take n ++ List.replicate k.toNat (T e).zero) sz false)], some d⟩)
        | none => False) else False
  | _ => False

def partsA (hp : Nat → Option Blk) (ρ : Operand → AV) (off : Nat → Option (Nat × Nat)) (c : List AV) (ps : List (Nat × Operand)) (K : List AV → Prop) : Prop :=
  match ps with
  | [] => K c
  | (i, x) :: r => match off i with
    | some (o, s) => force (ρ x) fun v => bif Nat.beq (cellsOf v).length s && Nat.ble (o + s) c.length then (bif cells1 hp (cellsOf v) then partsA hp ρ off (spliceF c o (cellsOf v)) r K else False) else False
    | none => False

def zeros (T : Tab) (e : TypeId) (n : Nat) : List AV := (List.range (n * (T e).size)).map fun k => zA ((T e).zero.getD (k % (T e).size) .nilp)

def offIn (T : Tab) (fs : List (Nat × TypeId)) (i : Nat) : Option (Nat × Nat) := match fs[i]? with | some (o, t) => some (o, (T t).size) | none => none

end Go.Lk

namespace Go.Lk
open Go Go.RowKit

/-! ### memory -/
def Agree (M : Mem) (w : World) : Prop := ∀ (b o : Nat) (v : Value), M b o = some v → w.cell? ⟨b, o, none⟩ = some v
def Fresh (w : World) (M M' : Mem) : Prop := ∀ (b o : Nat) (v : Value), M' b o = some v → M b o = some v ∨ w.heap.size ≤ b
def DenDs (M : Mem) (ds : List D) (vs : Array Value) : Prop := vs.size = ds.length ∧ ∀ (i : Nat) (d : D) (v : Value), ds[i]? = some d → vs[i]? = some v → DenD M d v
def DenAs (M : Mem) (ι : Inj) (xs : List AV) (vs : Array Value) : Prop := vs.size = xs.length ∧ ∀ (i : Nat) (d : AV) (v : Value), xs[i]? = some d → vs[i]? = some v → DenA M ι d v

structure RowAt (M : Mem) (cs : Array Value) (l : List (List D)) (sz : Nat) : Prop where
  len : ∀ (i : Nat) (e : List D), l[i]? = some e → e.length = sz
  den : ∀ (i j : Nat) (e : List D) (d : D), l[i]? = some e → e[j]? = some d → ∃ v, cs[i * sz + j]? = some v ∧ DenD M d v

structure BoxAt (M : Mem) (ι : Inj) (cs : Array Value) (c : List AV) : Prop where
  size : cs.size = c.length
  den : ∀ (j : Nat) (x : AV), c[j]? = some x → ∃ v, cs[j]? = some v ∧ DenA M ι x v

/-- a frozen block is part of the immutable memory; another one has no part in it -/
def Frz (M : Mem) (blk : Nat) (cs : Array Value) (n : Nat) (fr : Bool) : Prop :=
  (fr = true → ∀ (o : Nat) (v : Value), o < n → cs[o]? = some v → M blk o = some v) ∧ (fr = false → ∀ o : Nat, M blk o = none)

def BlkAt (M : Mem) (ι : Inj) (w : World) (B : Blk) (L : Loc) : Prop :=
  ∃ (cs : Array Value) (T : TypeId), w.heap[L.blk]? = some (.cells cs T (0, 0)) ∧ cs.size = L.size ∧
    match B with
    | .row l sz fr => sz = L.sz ∧ l.length = L.len ∧ l.length * sz ≤ L.size ∧ RowAt M cs l sz ∧ Frz M L.blk cs (l.length * sz) fr
    | .box c fr => L.sz = c.length ∧ L.size = c.length ∧ BoxAt M ι cs c ∧ Frz M L.blk cs c.length fr

structure HRel (own : Nat → Prop) (M : Mem) (ι : Inj) (hp : Nat → Option Blk) (w : World) : Prop where
  dom : ∀ b, hp b = none ↔ ι b = none
  virt : ∀ b, ι b = some none → ∃ sz fr, hp b = some (.row [] sz fr)
  at_ : ∀ (b : Nat) (B : Blk) (L : Loc), hp b = some B → ι b = some (some L) → own L.blk ∧ BlkAt M ι w B L
  inj : ∀ (b b' : Nat) (L L' : Loc), ι b = some (some L) → ι b' = some (some L') → L.blk = L'.blk → b = b'

structure FrameOwn (own : Nat → Prop) (w0 w : World) : Prop where
  os : w.os = w0.os
  tape : w.tape = w0.tape
  output : w.output = w0.output
  size : w0.heap.size ≤ w.heap.size
  block : ∀ c, ¬ own c → w.heap[c]? = w0.heap[c]?

def NewDom (own : Nat → Prop) (M M' : Mem) : Prop := ∀ (b o : Nat) (v : Value), M' b o = some v → M b o = some v ∨ own b

/-! ### contracts -/
/-- a function of Go text -/
def FnOk (P : Program) (f : FuncId) : Prop := ∃ fn, P.funcs[f]? = some fn ∧ fn.body.isSome = true ∧ (fn.name == "runtime.NumGoroutine") = false

/-- pure data in, pure data out -/
def ACall (P : Program) (f : FuncId) (ds : List D) (d : D) : Prop :=
  FnOk P f ∧ ∀ (w : World) (M : Mem) (vs : Array Value), Agree M w → DenDs M ds vs → Calls P f vs w fun e w' =>
    ∃ (v : Value) (M' : Mem), e = .returned v ∧ Below w.heap.size w w' ∧ Sub M M' ∧ Agree M' w' ∧ Fresh w M M' ∧ DenD M' d v

/-- pure data in; out comes a row that is the caller's own -/
def OCall (P : Program) (f : FuncId) (ds : List D) (l : List (List D)) (sz : Nat) : Prop :=
  FnOk P f ∧ ∀ (w : World) (M : Mem) (vs : Array Value), Agree M w → DenDs M ds vs → Calls P f vs w fun e w' =>
    ∃ (v : Value) (M' : Mem), e = .returned v ∧ Below w.heap.size w w' ∧ Sub M M' ∧ Agree M' w' ∧ Fresh w M M' ∧
      ((l = [] ∧ ∃ a, v = .slice a 0 0) ∨ ∃ (c cap : Nat) (cs : Array Value) (T : TypeId), w.heap.size ≤ c ∧ v = .slice (some ⟨c, 0, none⟩) l.length cap ∧ l.length ≤ cap ∧
        cap * sz ≤ cs.size ∧ w'.heap[c]? = some (.cells cs T (0, 0)) ∧ RowAt M' cs l sz ∧ ∀ o, M' c o = none)

/-- a cell of a result: data, or a row that is the caller's own -/
inductive SC where
  | d (x : D)
  | row (l : List (List D)) (sz : Nat)

def RowOk (w w' : World) (M' : Mem) (l : List (List D)) (sz : Nat) (L : Option Loc) (v : Value) : Prop :=
  match L with
  | none => l = [] ∧ ∃ a, v = .slice a 0 0
  | some L => w.heap.size ≤ L.blk ∧ ∃ (cap : Nat) (cs : Array Value) (T : TypeId), v = .slice (some ⟨L.blk, 0, none⟩) l.length cap ∧ L.len = l.length ∧ L.sz = sz ∧ L.size = cs.size ∧ l.length ≤ cap ∧
    cap * sz ≤ cs.size ∧ w'.heap[L.blk]? = some (.cells cs T (0, 0)) ∧ RowAt M' cs l sz ∧ ∀ o, M' L.blk o = none

/-- pure data in; out comes a struct, of data and of rows that are the caller's own -/
def SCall (P : Program) (f : FuncId) (ds : List D) (cs : List SC) : Prop :=
  FnOk P f ∧ ∀ (w : World) (M : Mem) (vs : Array Value), Agree M w → DenDs M ds vs → Calls P f vs w fun e w' =>
    ∃ (us : Array Value) (M' : Mem) (bl : Nat → Option Loc), e = .returned (.agg us) ∧ Below w.heap.size w w' ∧ Sub M M' ∧ Agree M' w' ∧ Fresh w M M' ∧ us.size = cs.length ∧
      (∀ (i : Nat) (c : SC), cs[i]? = some c → ∃ u, us[i]? = some u ∧ match c with
        | .d x => DenD M' x u
        | .row l sz => RowOk w w' M' l sz (bl i) u) ∧
      ∀ (i j : Nat) (L L' : Loc), bl i = some L → bl j = some L' → L.blk = L'.blk → i = j

/-- the names of a result's rows: i, i + 1, .. -/
def sAv (k : Nat) : List SC → List AV
  | [] => []
  | .d x :: r => .d x :: sAv k r
  | .row _ _ :: r => .own k :: sAv (k + 1) r
def sWr (k : Nat) : List SC → List (Nat × Blk)
  | [] => []
  | .d _ :: r => sWr k r
  | .row l sz :: r => (k, .row l sz false) :: sWr (k + 1) r

def killT (k : Option Nat) (tm : Nat → AV) : Nat → AV :=
  match k with
  | none => tm
  | some b => fun t => killV b (tm t)
def killB (b : Nat) : Blk → Blk
  | .row l sz fr => .row l sz fr
  | .box c fr => .box (cells b c) fr
  where
  cells (b : Nat) : List AV → List AV
    | [] => []
    | x :: r => killV b x :: cells b r
def killH (k : Option Nat) (hp : Nat → Option Blk) : Nat → Option Blk :=
  match k with
  | none => hp
  | some b => fun t => match hp t with
    | some B => some (killB b B)
    | none => none
def writes (hp : Nat → Option Blk) : List (Nat × Blk) → Nat → Option Blk
  | [] => hp
  | (b, B) :: r => writes (upd hp b (some B)) r
def Eff.hp (e : Eff) (hp : Nat → Option Blk) : Nat → Option Blk := writes (killH e.kl hp) e.wr

/-- a name that an effect leaves alone -/
def Kp (kl : Option Nat) (b : Nat) : Prop :=
  match kl with
  | none => True
  | some k => Fm k b = false
theorem Kp_ne {k b : Nat} (h : Kp (some k) b) : b ≠ k := Fm_ne h

/-- what a function does to blocks of the caller's -/
def ECall (P : Program) (f : FuncId) (xs : List AV) (hp : Nat → Option Blk) (e : Eff) : Prop :=
  FnOk P f ∧ ∀ (own : Nat → Prop) (M : Mem) (ι : Inj) (w : World) (vs : Array Value), (∀ c, w.heap.size ≤ c → own c) → Agree M w → HRel own M ι hp w → DenAs M ι xs vs →
    Calls P f vs w fun en w' => ∃ (v : Value) (M' : Mem) (ι' : Inj), en = .returned v ∧ FrameOwn own w w' ∧ Sub M M' ∧ Agree M' w' ∧ NewDom own M M' ∧
      HRel own M' ι' (e.hp hp) w' ∧ (∀ b, Kp e.kl b → ι' b = ι b) ∧ DenA M' ι' e.av v

structure callX (P : Program) (f : FuncId) (st : Bool) (xs : List AV) (hp : Nat → Option Blk) (dst : Option Tmp) (ds : List D) (ns : List Nat) (K : Eff → Prop) : Prop where
  out : (∃ d, ACall P f ds d ∧ bif scalar d then K ⟨ofD d, [], none⟩ else K ⟨ofD d, frz hp ns, none⟩) ∨
  (∃ l sz t, OCall P f ds l sz ∧ dst = some t ∧ K ⟨.own t, frz hp ns ++ [(t, .row l sz false)], some t⟩) ∨
  (st = true ∧ ∃ e, ECall P f xs hp e ∧ K e) ∨
  (∃ cs t, SCall P f ds cs ∧ dst = some t ∧ (sWr 0 cs).length ≤ 8 ∧ K ⟨.agg (sAv (2000000 + 8 * t) cs), frz hp ns ++ sWr (2000000 + 8 * t) cs, some (2000000 + 8 * t)⟩)
theorem callX_pure {P : Program} {f : FuncId} {st : Bool} {xs : List AV} {hp : Nat → Option Blk} {dst : Option Tmp} {ds : List D} {ns : List Nat} {K : Eff → Prop} {d : D}
    (h : ACall P f ds d) (k : bif scalar d then K ⟨ofD d, [], none⟩ else K ⟨ofD d, frz hp ns, none⟩) : callX P f st xs hp dst ds ns K := ⟨.inl ⟨d, h, k⟩⟩
theorem callX_own {P : Program} {f : FuncId} {st : Bool} {xs : List AV} {hp : Nat → Option Blk} {t : Tmp} {ds : List D} {ns : List Nat} {K : Eff → Prop} {l : List (List D)} {sz : Nat}
    (h : OCall P f ds l sz) (k : K ⟨.own t, frz hp ns ++ [(t, .row l sz false)], some t⟩) : callX P f st xs hp (some t) ds ns K := ⟨.inr (.inl ⟨l, sz, t, h, rfl, k⟩)⟩
theorem callX_heap {P : Program} {f : FuncId} {xs : List AV} {hp : Nat → Option Blk} {dst : Option Tmp} {ds : List D} {ns : List Nat} {K : Eff → Prop} {e : Eff}
    (h : ECall P f xs hp e) (k : K e) : callX P f true xs hp dst ds ns K := ⟨.inr (.inr (.inl ⟨rfl, e, h, k⟩))⟩
theorem callX_str {P : Program} {f : FuncId} {st : Bool} {xs : List AV} {hp : Nat → Option Blk} {t : Tmp} {ds : List D} {ns : List Nat} {K : Eff → Prop} {cs : List SC}
    (h : SCall P f ds cs) (hn : (sWr 0 cs).length ≤ 8) (k : K ⟨.agg (sAv (2000000 + 8 * t) cs), frz hp ns ++ sWr (2000000 + 8 * t) cs, some (2000000 + 8 * t)⟩) : callX P f st xs hp (some t) ds ns K := ⟨.inr (.inr (.inr ⟨cs, t, h, rfl, hn, k⟩))⟩

/-- a function of the machine's own, that tells a bool of blocks -/
def XCall (P : Program) (f : FuncId) (xs : List AV) (hp : Nat → Option Blk) (b : Bool) : Prop :=
  (∃ fn, P.funcs[f]? = some fn ∧ fn.body.isSome = false) ∧ ∀ (own : Nat → Prop) (M : Mem) (ι : Inj) (w : World) (vs : Array Value), Agree M w → HRel own M ι hp w → DenAs M ι xs vs → (callFunc f vs).run P w = .ok (.value (.bool b)) w

/-- a call whose arguments aren't all data -/
structure callH (P : Program) (f : FuncId) (xs : List AV) (hp : Nat → Option Blk) (K : Eff → Prop) : Prop where
  out : (∃ e, ECall P f xs hp e ∧ K e) ∨ ∃ b, XCall P f xs hp b ∧ K ⟨.d (.bool b), [], none⟩
theorem callH_of {P : Program} {f : FuncId} {xs : List AV} {hp : Nat → Option Blk} {K : Eff → Prop} {e : Eff} (h : ECall P f xs hp e) (k : K e) : callH P f xs hp K := ⟨.inl ⟨e, h, k⟩⟩
theorem callH_ext {P : Program} {f : FuncId} {xs : List AV} {hp : Nat → Option Blk} {K : Eff → Prop} {b : Bool} (h : XCall P f xs hp b) (k : K ⟨.d (.bool b), [], none⟩) : callH P f xs hp K := ⟨.inr ⟨b, h, k⟩⟩


def capList : AV → Option (FuncId × List D)
  | .d (.fn f c) => some (f, c)
  | _ => none

def isPtr : AV → Bool
  | .ptr _ _ _ => true
  | .win _ _ _ _ => true
  | _ => false

def evs (ρ : Operand → AV) : List Operand → List AV
  | [] => []
  | x :: r => ρ x :: evs ρ r

def anyPtr : List AV → Bool
  | [] => false
  | x :: r => bif isPtr x then true else anyPtr r

def val (K : Eff → Prop) (v : AV) : Prop := K ⟨v, [], none⟩

def callG (T : Tab) (P : Program) (o : Oper) (c : Call) (ρ : Operand → AV) (hp : Nat → Option Blk) (K : Eff → Prop) : Prop :=
  match c.callee with
  | .builtin b => match b with
    | .len => match c.args.toList with
      | [x] => match c.argTypes.toList with
        | [t] => lenA T t (ρ x) hp (val K)
        | _ => False
      | _ => False
    | .min => match c.args.toList with
      | [x, y] => match ρ x with
        | .d (.int k a) => match ρ y with
          | .d (.int k' b) => bif Nat.beq (kcode k) (kcode k') then K ⟨.d (.int k (min a b)), [], none⟩ else False
          | _ => False
        | _ => False
      | _ => False
    | .max => match c.args.toList with
      | [x, y] => match ρ x with
        | .d (.int k a) => match ρ y with
          | .d (.int k' b) => bif Nat.beq (kcode k) (kcode k') then K ⟨.d (.int k (max a b)), [], none⟩ else False
          | _ => False
        | _ => False
      | _ => False
    | .append => match c.args.toList with
      | [x, y] => match c.argTypes.toList with
        | [t, t2] => match (T t2).k with
         | .slice _ => match (T t).k with
          | .slice e => srcRow (T e).size (ρ y) hp fun src => match ρ x with
            | .nil => match o.dst with
              | some d => roomK src.length (T e).bytes (K ⟨.own d, [(d, .row src (T e).size false)], some d⟩)
              | none => False
            | .own b => match hp b with
              | some (.row l sz false) => bif Nat.beq sz (T e).size then roomK (l.length + src.length) (T e).bytes (K ⟨.own b, [(b, .row (l ++ src) sz false)], some b⟩) else False
              | _ => False
            | .win b lo n (some c) => appendW T e b lo n c src hp o.dst K
            | _ => False
          | _ => False
         | .int _ => match (T t).k with
          | .slice e => match ρ x with
            | .win b lo n (some c) => match ρ y with
              | .d (.int _ k) => appendZ T e b lo n c k hp o.dst K
              | _ => False
            | _ => False
          | _ => False
         | _ => False
        | _ => False
      | _ => False
    | .cap => match c.args.toList with
      | [x] => match c.argTypes.toList with
        | [t] => match (T t).k with
          | .slice _ => match ρ x with
            | .win b _ _ (some c) => match hp b with
              | some _ => K ⟨.d (.int .i64 c), [], none⟩
              | none => False
            | _ => False
          | _ => False
        | _ => False
      | _ => False
    | .copy => match c.args.toList with
      | [x, y] => match c.argTypes.toList with
        | [t, t2] => match (T t).k with
          | .slice e => copyW T e (ρ x) (ρ y) hp K
          | _ => False
        | _ => False
      | _ => False
    | .clear => match c.args.toList with
      | [x] => match c.argTypes.toList with
        | [t] => match (T t).k with
          | .slice e => clearW T e (ρ x) hp K
          | _ => False
        | _ => False
      | _ => False
    | _ => False
  | .value f => match f with
    | .func f => bif anyPtr (evs ρ c.args.toList) then callH P f (evs ρ c.args.toList) hp K else convsK hp ρ c.args.toList fun ds ns => callX P f true (evs ρ c.args.toList) hp o.dst ds ns K
    | .tmp t => match capList (ρ (.tmp t)) with
      | some (f, cs) => convsK hp ρ c.args.toList fun ds ns => callX P f false [] hp o.dst (ds ++ cs) ns K
      | none => False
    | _ => False
  | _ => False

/-- a box with a value stored: one that covers all of it takes its place -/
def storeK (c : List AV) (j : Nat) (v : AV) (K : List AV → Prop) : Prop :=
  match v with
  | .agg l => bif Nat.beq l.length c.length then forceL l K else K (spliceF c j l)
  | v => K (splice c j [v])

/-- a row of bytes, and the text that they are -/
def bytesL : List (List D) → Option (List Int)
  | [] => some []
  | e :: r => match e with
    | [.int k n] => bif Nat.beq (kcode k) 4 then (match bytesL r with
      | some ns => some (n :: ns)
      | none => none) else none
    | _ => none
def bstr (ns : List Int) : ByteArray := ns.foldl (fun r n => r.push (UInt8.ofNat n.toNat)) ByteArray.empty
def opG (T : Tab) (P : Program) (o : Oper) (ρ : Operand → AV) (hp : Nat → Option Blk) (K : Eff → Prop) : Prop :=
  match o.op with
  | .move x => force (ρ x) (val K)
  | .assign x => force (ρ x) (val K)
  | .pick c a b => match ρ c with
    | .tt => force (ρ a) (val K)
    | .ff => force (ρ b) (val K)
    | .d (.bool c) => bcase c (force (ρ a) (val K)) (force (ρ b) (val K))
    | _ => False
  | .load t a => loadA T t (ρ a) hp (val K)
  | .nilCheck x => match ρ x with
    | .ptr b i j => match hp b with
      | some _ => K ⟨.ptr b i j, [], none⟩
      | none => False
    | .d (.dp c j) => K ⟨.d (.dp c j), [], none⟩
    | _ => False
  | .binOp op t x y _ => binA T t op (ρ x) (ρ y) (val K)
  | .unOp op _ x => match op with
    | .not => match ρ x with
      | .d (.bool b) => K ⟨.d (.bool (!b)), [], none⟩
      | .tt => K ⟨.ff, [], none⟩
      | .ff => K ⟨.tt, [], none⟩
      | _ => False
    | .xor => match ρ x with
      | .d (.int k n) => K ⟨.d (.int k (bitsV .xor k (if k.signed then -1 else k.max) n)), [], none⟩
      | _ => False
    | _ => False
  | .convert src dst x => match (T dst).k with
    | .int k => match (T src).k with
      | .int _ => match ρ x with
        | .d (.int _ n) => wrapK k n fun n => K ⟨.d (.int k n), [], none⟩
        | _ => False
      | _ => False
    | .str => match (T src).k with
      | .slice e => match (T e).k with
        | .int ik => bif Nat.beq (kcode ik) 4 then srcRow 1 (ρ x) hp fun l => (match bytesL l with
          | some ns => K ⟨.d (.str (bstr ns)), [], none⟩
          | none => False) else False
        | _ => False
      | _ => False
    | _ => False
  | .slice t x lo hi mx => sliceBd ρ lo fun lo => sliceBd ρ hi fun hi => sliceBd ρ mx fun mx => sliceA T t (ρ x) hp lo hi mx K
  | .fieldAddr s x f => match ρ x with
    | .ptr b i j => match hp b with
      | some _ => fieldOff T s f fun o _ => K ⟨.ptr b i (j + o), [], none⟩
      | none => False
    | .d (.dp c j) => fieldOff T s f fun o _ => K ⟨.d (.dp c (j + o)), [], none⟩
    | _ => False
  | .field s x f => match ρ x with
    | .agg c => fieldOff T s f fun o t => partA (T t).k.agg (T t).size c o (val K)
    | _ => False
  | .indexAddr t x i => indexAddrA T t (ρ x) (ρ i) hp (val K)
  | .index t x i => indexA T t (ρ x) (ρ i) (val K)
  | .extract x i => match ρ x with
    | .tup c => getC c i (val K)
    | _ => False
  | .build t ps => match (T t).k with
    | .struct fs => partsA hp ρ (offIn T fs) ((T t).zero.map zA) ps.toList fun c => forceL c fun c => K ⟨.agg c, [], none⟩
    | .arr _ e => partsA hp ρ (fun i => some (i * (T e).size, (T e).size)) ((T t).zero.map zA) ps.toList fun c => K ⟨.agg c, [], none⟩
    | _ => False
  | .alloc t => match o.dst with
    | some d => bif (T t).k.known then forceL ((T t).zero.map zA) fun c => K ⟨.ptr d 0 0, [(d, .box c false)], some d⟩ else False
    | none => False
  | .box _ x => match o.dst with
    | some d => force (ρ x) fun v => bif cells1 hp (cellsOf v) then forceL (killB.cells d (cellsOf v)) fun c => K ⟨.ptr d 0 0, [(d, .box c false)], some d⟩ else False
    | none => False
  | .store t a x => match ρ a with
    | .ptr b i j => match hp b with
      | some (.box c false) => force (ρ x) fun v => condK (i = 0) (bif (T t).k.known && Nat.beq (cellsOf v).length (T t).size then (bif cells1 hp (cellsOf v) then (bif Nat.ble (j + (T t).size) c.length then storeK c j v fun c => K ⟨.dead, [(b, .box c false)], none⟩ else False) else False) else False)
      | some (.row l sz false) => force (ρ x) fun v => match conv.cells hp (cellsOf v) with
        | some xs => bif (T t).k.known && Nat.beq (cellsOf v).length (T t).size && !memN b (openNames.cells hp (cellsOf v)) then (bif cells1 hp (cellsOf v) then getRow l i fun e => bif Nat.ble (j + (T t).size) e.length then K ⟨.dead, frz hp (openNames.cells hp (cellsOf v)) ++ [(b, .row (l.set i (splice e j xs)) sz false)], none⟩ else False else False) else False
        | none => False
      | _ => False
    | _ => False
  | .makeSlice t n c => match o.dst with
    | some d => match (T t).k with
      | .slice e => match ρ n with
        | .d (.int _ n) => match ρ c with
          | .d (.int _ c) => condK (0 ≤ n ∧ n ≤ c) (roomK c.toNat (T e).bytes (K ⟨.own d, [(d, .row (List.replicate n.toNat (T e).zero) (T e).size false)], some d⟩))
          | _ => False
        | _ => False
      | _ => False
    | none => False
  | .buildSlice t n ps => match o.dst with
    | some d => match (T t).k with
      | .slice e => partsA hp ρ (fun i => some (i * (T e).size, (T e).size)) (zeros T e n) ps.toList fun c => condK (n * (T e).size ≤ 16777216) (match conv.cells hp c with
        | some xs => K ⟨.own d, frz hp (openNames.cells hp c) ++ [(d, .row (chunk (T e).size n xs) (T e).size false)], some d⟩
        | none => False)
      | _ => False
    | none => False
  | .makeFunc fn first cap => match fn with
    | .func f => bif Nat.beq first.size 0 then (match capsF hp (evs ρ cap.toList) with
      | some (cs, ws) => K ⟨.d (.fn f cs), ws, none⟩
      | none => False) else False
    | _ => False
  | .call c => callG T P o c ρ hp K
  | _ => False
  where
  chunk (sz : Nat) : Nat → List D → List (List D)
    | 0, _ => []
    | n + 1, xs => xs.take sz :: chunk sz n (xs.drop sz)
  /-- what a closure captures: boxes of data, frozen from here on -/
  capsF (hp : Nat → Option Blk) : List AV → Option (List D × List (Nat × Blk))
    | [] => some ([], [])
    | .ptr b i j :: r => match hp b with
      | some (.box c _) => bif Nat.beq i 0 then (match conv.pures c with
        | some ds => (match capsF hp r with
          | some (cs, ws) => some (.dp ds j :: cs, (b, .box c true) :: ws)
          | none => none)
        | none => none) else none
      | _ => none
    | x :: r => match conv.pure1 x with
      | some d => (match capsF hp r with
        | some (cs, ws) => some (d :: cs, ws)
        | none => none)
      | none => none

/-- a slice against nil: which of the two it is, nothing here tells; only that nil has no elements -/
structure nilK (l : List (List D)) (K : Bool → Prop) : Prop where
  out : ∀ r : Bool, (r = true → l = []) → K r
theorem nilK_of {l : List (List D)} {K : Bool → Prop} (h : ∀ r : Bool, (r = true → l = []) → K r) : nilK l K := ⟨h⟩
def isNilC : Operand → Bool
  | .const (.slice none 0 0) => true
  | _ => false
def nilCmp (x : AV) (hp : Nat → Option Blk) (K : Bool → Prop) : Prop :=
  match x with
  | .d (.lst l) => nilK l K
  | .nil => nilK [] K
  | .own b => match hp b with
    | some (.row l _ _) => nilK l K
    | _ => False
  | _ => False
def nilOp (bo : BinOp) (K : Eff → Prop) (r : Bool) : Prop :=
  match bo with
  | .eql => K ⟨.d (.bool r), [], none⟩
  | .neq => K ⟨.d (.bool (!r)), [], none⟩
  | _ => False
/-- an operation, in a region whose order isn't drawn -/
def opN (T : Tab) (P : Program) (o : Oper) (ρ : Operand → AV) (hp : Nat → Option Blk) (K : Eff → Prop) : Prop :=
  match o.op with
  | .binOp bo t x y z => match (T t).k with
    | .slice _ => bif isNilC y then nilCmp (ρ x) hp (nilOp bo K) else False
    | _ => opG T P o ρ hp K
  | _ => opG T P o ρ hp K

/-- the state behind an operation -/
def step (tm : Nat → AV) (hp : Nat → Option Blk) (dst : Option Tmp) (e : Eff) (K : AState → Prop) : Prop :=
  match e with
  | ⟨av, wr, kl⟩ => match kl with
    | none => match wr with
      | [] => match dst with
        | none => K ⟨tm, hp⟩
        | some t => K ⟨upd tm t av, hp⟩
      | (b, B) :: r => match dst with
        | none => K ⟨tm, writes (upd hp b (some B)) r⟩
        | some t => K ⟨upd tm t av, writes (upd hp b (some B)) r⟩
    | some k => bif Nat.ble 1000000 k && Nat.ble k 1000003 then False else match dst with
      | none => K ⟨killT (some k) tm, writes (killH (some k) hp) wr⟩
      | some t => K ⟨upd (killT (some k) tm) t av, writes (killH (some k) hp) wr⟩

def putT (tm : Nat → AV) (dst : Option Tmp) (av : AV) : Nat → AV :=
  match dst with
  | none => tm
  | some t => upd tm t av

theorem step_out {tm : Nat → AV} {hp : Nat → Option Blk} {dst : Option Tmp} {e : Eff} {K : AState → Prop} (h : step tm hp dst e K) :
    (∀ k, e.kl = some k → ¬ (1000000 ≤ k ∧ k < 1000004)) ∧ K ⟨putT (killT e.kl tm) dst e.av, e.hp hp⟩ := by
  obtain ⟨av, wr, kl⟩ := e
  cases kl with
  | none =>
    refine ⟨fun k h => (by cases h), ?_⟩
    cases dst <;> cases wr <;> exact h
  | some k =>
    cases hk : (Nat.ble 1000000 k && Nat.ble k 1000003) with
    | true => simp [step, hk] at h
    | false =>
      simp only [step, hk, cond_false] at h
      refine ⟨fun k' e => ?_, ?_⟩
      · have : k = k' := by simpa using e
        subst this
        rintro ⟨h1, h2⟩
        rw [Nat.ble_eq_true_of_le h1, Nat.ble_eq_true_of_le (show k ≤ 1000003 by omega)] at hk
        cases hk
      · cases dst <;> exact h

def stepA (T : Tab) (P : Program) (all : Array Oper) (o : Oper) (ih : AState → (AState → Prop) → Prop) (st : AState) (K : AState → Prop) : Prop :=
  match st with
    | ⟨tm, hp⟩ => match o.guard with
      | none => opN T P o (evT tm) hp fun e => step tm hp o.dst e fun st => ih st K
      | some (g, want) => match (all[g]?).bind (·.dst) with
        | none => False
        | some t => match tm t with
          | .tt => bif want then opN T P o (evT tm) hp fun e => step tm hp o.dst e fun st => ih st K else step tm hp o.dst ⟨.tup [], [], none⟩ fun st => ih st K
          | .ff => bif want then step tm hp o.dst ⟨.tup [], [], none⟩ fun st => ih st K else opN T P o (evT tm) hp fun e => step tm hp o.dst e fun st => ih st K
          | .d (.bool b) => bcase b
            (bif want then opN T P o (evT (upd tm t .tt)) hp fun e => step (upd tm t .tt) hp o.dst e fun st => ih st K else step (upd tm t .tt) hp o.dst ⟨.tup [], [], none⟩ fun st => ih st K)
            (bif want then step (upd tm t .ff) hp o.dst ⟨.tup [], [], none⟩ fun st => ih st K else opN T P o (evT (upd tm t .ff)) hp fun e => step (upd tm t .ff) hp o.dst e fun st => ih st K)
          | .tup [] => step tm hp o.dst ⟨.tup [], [], none⟩ fun st => ih st K
          | _ => False
/-- by the recursor: so the two evaluators see the same -/
noncomputable def AOps (T : Tab) (P : Program) (all : Array Oper) (l : List Oper) : AState → (AState → Prop) → Prop :=
  List.rec (motive := fun _ => AState → (AState → Prop) → Prop) (fun st K => K st) (fun o _ ih => stepA T P all o ih) l
theorem AOps_nil {T : Tab} {P : Program} {all : Array Oper} {st : AState} {K : AState → Prop} : AOps T P all [] st K = K st := rfl
theorem AOps_cons {T : Tab} {P : Program} {all : Array Oper} {o : Oper} {r : List Oper} {st : AState} {K : AState → Prop} : AOps T P all (o :: r) st K = stepA T P all o (AOps T P all r) st K := rfl

/-! ### regions whose order is drawn -/
def readsL (op : Op) : List Operand :=
  match op with
  | .move x => [x]
  | .assign x => [x]
  | .pick c a b => [c, a, b]
  | .load _ a => [a]
  | .nilCheck x => [x]
  | .binOp _ _ x y _ => [x, y]
  | .unOp _ _ x => [x]
  | .convert _ _ x => [x]
  | .slice _ x lo hi mx => x :: (opt lo ++ (opt hi ++ opt mx))
  | .fieldAddr _ x _ => [x]
  | .field _ x _ => [x]
  | .indexAddr _ x i => [x, i]
  | .index _ x i => [x, i]
  | .extract x _ => [x]
  | .build _ ps => snd ps.toList
  | .box _ x => [x]
  | .store _ a x => [a, x]
  | .makeSlice _ n c => [n, c]
  | .buildSlice _ _ ps => snd ps.toList
  | .makeFunc _ _ cap => cap.toList
  | .call c => match c.callee with
    | .value f => f :: c.args.toList
    | _ => c.args.toList
  | _ => []
  where
  opt : Option Operand → List Operand
    | none => []
    | some x => [x]
  snd : List (Nat × Operand) → List Operand
    | [] => []
    | (_, x) :: r => x :: snd r

def tmpsL : List Operand → List Nat
  | [] => []
  | .tmp t :: r => t :: tmpsL r
  | _ :: r => tmpsL r

def restrT (rd : List Nat) (tm : Nat → AV) (t : Nat) : AV := bif memN t rd then tm t else .dead
def restrH (F : List Nat) (hp : Nat → Option Blk) (b : Nat) : Option Blk := bif memN b F then hp b else none

/-- the blocks that a value names; none: the value isn't whole -/
def namesO : AV → Option (List Nat)
  | .agg c => cells c
  | .tup c => parts c
  | .fn _ c => cells c
  | x => one x
  where
  one : AV → Option (List Nat)
    | .d _ => some []
    | .tt => some []
    | .ff => some []
    | .nil => some []
    | .own b => some [b]
    | .ptr b _ _ => some [b]
    | .win b _ _ _ => some [b]
    | _ => none
  cells : List AV → Option (List Nat)
    | [] => some []
    | x :: r => match one x with
      | some a => match cells r with
        | some b => some (a ++ b)
        | none => none
      | none => none
  part : AV → Option (List Nat)
    | .agg c => cells c
    | x => one x
  parts : List AV → Option (List Nat)
    | [] => some []
    | x :: r => match part x with
      | some a => match parts r with
        | some b => some (a ++ b)
        | none => none
      | none => none

def namesB : Blk → Option (List Nat)
  | .row _ _ _ => some []
  | .box c _ => namesO.cells c

def subN : List Nat → List Nat → Bool
  | [], _ => true
  | x :: r, F => bif memN x F then subN r F else false

def disN : List Nat → List Nat → Bool
  | [], _ => true
  | x :: r, F => bif memN x F then false else disN r F

def inO (o : Option (List Nat)) (F : List Nat) : Bool :=
  match o with
  | some ns => subN ns F
  | none => false

def namesT (tm : Nat → AV) : List Nat → Option (List Nat)
  | [] => some []
  | t :: r => match namesO (tm t) with
    | some a => match namesT tm r with
      | some b => some (a ++ b)
      | none => none
    | none => none

/-- the names that can be reached -/
def closeN (hp : Nat → Option Blk) : Nat → List Nat → List Nat → List Nat
  | 0, _, seen => seen
  | n + 1, todo, seen => match todo with
    | [] => seen
    | b :: r => bif memN b seen then closeN hp n r seen else match hp b with
      | some B => match namesB B with
        | some ns => closeN hp n (ns ++ r) (b :: seen)
        | none => []
      | none => closeN hp n r (b :: seen)

def forceN (l : List Nat) (K : List Nat → Prop) : Prop :=
  match l with
  | [] => K []
  | x :: r => forceN r fun r => K (x :: r)

def footT (tm : Nat → AV) (rd F : List Nat) : Bool :=
  match rd with
  | [] => true
  | t :: r => bif inO (namesO (tm t)) F then footT tm r F else false
def footH (hp : Nat → Option Blk) (F G : List Nat) : Bool :=
  match G with
  | [] => true
  | b :: r => match hp b with
    | some B => bif inO (namesB B) F then footH hp F r else false
    | none => footH hp F r

def footK (tm : Nat → AV) (hp : Nat → Option Blk) (rd : List Nat) (K : List Nat → Prop) : Prop :=
  match namesT tm rd with
  | some ns => forceN (closeN hp 200 ns []) fun F => bif footT tm rd F && footH hp F F then K F else False
  | none => False

def wrNames : List (Nat × Blk) → List Nat
  | [] => []
  | (b, _) :: r => b :: wrNames r
def effW (e : Eff) : List Nat :=
  match e.kl with
  | some k => k :: wrNames e.wr
  | none => wrNames e.wr
def wrOk (F : List Nat) : List (Nat × Blk) → Bool
  | [] => true
  | (b, B) :: r => bif memN b F && inO (namesB B) F then wrOk F r else false
def avOk (F : List Nat) (dst : Option Tmp) (av : AV) : Bool :=
  match dst with
  | none => true
  | some _ => match av with
    | .dead => true
    | v => inO (namesO v) F
/-- an effect that keeps to the blocks F and to the one that it makes -/
def effOk (F : List Nat) (dst : Option Tmp) (e : Eff) : Bool :=
  match e.kl with
  | none => wrOk F e.wr && avOk F dst e.av
  | some k => Nat.ble k 1999999 && memN k (wrNames e.wr) && wrOk (k :: F) e.wr && avOk (k :: F) dst e.av

structure Summ where
  dst : Option Tmp
  rd : List Nat
  F : List Nat
  W : List Nat
  bl : Bool
  k : List Nat
  wd : Bool

/-- these hand a value on, whatever the blocks hold -/
def blindOp : Op → Bool
  | .move _ => true
  | .assign _ => true
  | .pick _ _ _ => true
  | _ => false
def klOf (e : Eff) : List Nat :=
  match e.kl with
  | some k => [k]
  | none => []

/-- does one of these wait for the answer in that slot? -/
def isG (all : Array Oper) (dst : Option Tmp) : List Oper → Bool
  | [] => false
  | o :: r => match o.guard with
    | some (g, _) => match (all[g]?).bind (·.dst) with
      | some t => match dst with
        | some d => bif Nat.beq t d then true else isG all dst r
        | none => false
      | none => isG all dst r
    | none => isG all dst r
/-- an answer that others wait for is looked at here -/
def splitB (g : Bool) (e : Eff) (K : Eff → Prop) : Prop :=
  match g with
  | false => K e
  | true => match e with
    | ⟨av, wr, kl⟩ => match av with
      | .d (.bool b) => bcase b (K ⟨.tt, wr, kl⟩) (K ⟨.ff, wr, kl⟩)
      | av => K ⟨av, wr, kl⟩

/-- what this operation reads, as things stand -/
def readsP (op : Op) (tm : Nat → AV) : List Operand :=
  match op with
  | .pick c a b => match evT tm c with
    | .tt => [c, a]
    | .ff => [c, b]
    | _ => [c, a, b]
  | op => readsL op
/-- where the blocks that it reaches are not all known: an operation that waits for all the elder ones, and for which all the later ones wait -/
def footW (tm : Nat → AV) (hp : Nat → Option Blk) (rd : List Nat) (K : List Nat → Prop) (K2 : Prop) : Prop :=
  match namesT tm rd with
  | some ns => forceN (closeN hp 200 ns []) fun F => bif footT tm rd F && footH hp F F then K F else K2
  | none => K2
def opD (T : Tab) (P : Program) (o : Oper) (g : Bool) (gs : List Nat) (tm : Nat → AV) (hp : Nat → Option Blk) (K : Eff → Summ → Prop) : Prop :=
  forceN (tmpsL (readsP o.op tm)) fun rd => footW tm hp rd (fun F => opG T P o (evT (restrT rd tm)) (restrH F hp) fun e =>
    bif effOk F o.dst e then forceN (effW e) fun W => forceN (gs ++ rd) fun rg => splitB g e fun e => K e ⟨o.dst, rg, F, W, blindOp o.op, klOf e, false⟩ else False)
    (opG T P o (evT (restrT rd tm)) hp fun e => forceN (effW e) fun W => forceN (gs ++ rd) fun rg => splitB g e fun e => K e ⟨o.dst, rg, [], W, false, klOf e, true⟩)

def notIn (d : Option Tmp) (l : List Nat) : Bool :=
  match d with
  | some d => !memN d l
  | none => true
def notEq (d e : Option Tmp) : Bool :=
  match d with
  | some d => match e with
    | some e => !Nat.beq d e
    | none => true
  | none => true
/-- two operations that don't meddle with each other -/
def indep (x y : Summ) : Bool := !x.wd && !y.wd && (notIn x.dst y.rd && notEq x.dst y.dst && notIn y.dst x.rd && disN x.W y.W && disN (bif y.bl then x.k else x.W) y.F && disN (bif x.bl then y.k else y.W) x.F)

def bindsA (e : Edge) : Bool :=
  match e.ground with
  | .textOnly _ => false
  | .gcOnly _ => false
  | _ => true

/-- the operations that must be behind this one's: bits -/
def predsOf (pm : List Nat) : List Edge → Nat
  | [] => 0
  | e :: r => bif bindsA e then Nat.lor (Nat.lor (2 ^ e.on) (pm.getD e.on 0)) (predsOf pm r) else predsOf pm r
def backOk (i : Nat) : List Edge → Bool
  | [] => true
  | e :: r => bif bindsA e then (bif Nat.blt e.on i then backOk i r else false) else backOk i r

/-- every elder of this one is among its forerunners, or independent of it -/
def pairsOk (s : Summ) (p : Nat) : Nat → List Summ → Bool
  | _, [] => true
  | m, x :: r => bif Nat.testBit p m || indep x s then pairsOk s p (m + 1) r else false

/-- ops: still to come; done, pm: the elder ones, in order -/
def drawOk : List Oper → List Summ → Nat → List Summ → List Nat → Bool
  | [], [], _, _, _ => true
  | o :: r, s :: q, i, done, pm => backOk i o.after.toList && pairsOk s (predsOf pm o.after.toList) 0 done && drawOk r q (i + 1) (done ++ [s]) (pm ++ [predsOf pm o.after.toList])
  | _, _, _, _, _ => false

def stD (ih : (Nat → AV) → (Nat → Option Blk) → List Summ → (AState → Prop) → Prop) (st : AState) (acc : List Summ) (K : AState → Prop) : Prop :=
  match st with
  | ⟨tm, hp⟩ => ih tm hp acc K
def stepD (T : Tab) (P : Program) (all : Array Oper) (o : Oper) (ih : (Nat → AV) → (Nat → Option Blk) → List Summ → (AState → Prop) → Prop) (tm : Nat → AV) (hp : Nat → Option Blk) (acc : List Summ) (K : AState → Prop) : Prop :=
  match o.guard with
    | none => opD T P o (isG all o.dst all.toList) [] tm hp fun e s => step tm hp o.dst e fun st => stD ih st (acc ++ [s]) K
    | some (g, want) => match (all[g]?).bind (·.dst) with
      | none => False
      | some t => match tm t with
        | .tt => bif want then opD T P o (isG all o.dst all.toList) [t] tm hp fun e s => step tm hp o.dst e fun st => stD ih st (acc ++ [s]) K else step tm hp o.dst ⟨.tup [], [], none⟩ fun st => stD ih st (acc ++ [⟨o.dst, [t], [], [], false, [], false⟩]) K
        | .ff => bif want then step tm hp o.dst ⟨.tup [], [], none⟩ fun st => stD ih st (acc ++ [⟨o.dst, [t], [], [], false, [], false⟩]) K else opD T P o (isG all o.dst all.toList) [t] tm hp fun e s => step tm hp o.dst e fun st => stD ih st (acc ++ [s]) K
        | .d (.bool b) => bcase b
          (bif want then opD T P o (isG all o.dst all.toList) [t] tm hp fun e s => step tm hp o.dst e fun st => stD ih st (acc ++ [s]) K else step tm hp o.dst ⟨.tup [], [], none⟩ fun st => stD ih st (acc ++ [⟨o.dst, [t], [], [], false, [], false⟩]) K)
          (bif want then step tm hp o.dst ⟨.tup [], [], none⟩ fun st => stD ih st (acc ++ [⟨o.dst, [t], [], [], false, [], false⟩]) K else opD T P o (isG all o.dst all.toList) [t] tm hp fun e s => step tm hp o.dst e fun st => stD ih st (acc ++ [s]) K)
        | .tup [] => step tm hp o.dst ⟨.tup [], [], none⟩ fun st => stD ih st (acc ++ [⟨o.dst, [t], [], [], false, [], false⟩]) K
        | _ => False
noncomputable def AOpsD (T : Tab) (P : Program) (all : Array Oper) (l : List Oper) : (Nat → AV) → (Nat → Option Blk) → List Summ → (AState → Prop) → Prop :=
  List.rec (motive := fun _ => (Nat → AV) → (Nat → Option Blk) → List Summ → (AState → Prop) → Prop) (fun tm hp acc K => condK (drawOk all.toList acc 0 [] [] = true) (K ⟨tm, hp⟩))
    (fun o _ ih => stepD T P all o ih) l
theorem AOpsD_nil {T : Tab} {P : Program} {all : Array Oper} {tm : Nat → AV} {hp : Nat → Option Blk} {acc : List Summ} {K : AState → Prop} : AOpsD T P all [] tm hp acc K = condK (drawOk all.toList acc 0 [] [] = true) (K ⟨tm, hp⟩) := rfl
theorem AOpsD_cons {T : Tab} {P : Program} {all : Array Oper} {o : Oper} {r : List Oper} {tm : Nat → AV} {hp : Nat → Option Blk} {acc : List Summ} {K : AState → Prop} : AOpsD T P all (o :: r) tm hp acc K = stepD T P all o (AOpsD T P all r) tm hp acc K := rfl
theorem stD_eq {ih : (Nat → AV) → (Nat → Option Blk) → List Summ → (AState → Prop) → Prop} {st : AState} {acc : List Summ} {K : AState → Prop} : stD ih st acc K = ih st.tm st.hp acc K := rfl

inductive AExit where
  | normal | exit (id : Nat) | ret

/-- the caller's boxes aren't lost sight of -/
def K4 (s st : Nat → Option Blk) : Prop := s 1000000 = st 1000000 ∧ s 1000001 = st 1000001 ∧ s 1000002 = st 1000002 ∧ s 1000003 = st 1000003
def Le (s st : AState) : Prop := (∀ t, s.tm t = .dead ∨ s.tm t = st.tm t) ∧ (∀ b, s.hp b = none ∨ s.hp b = st.hp b) ∧ K4 s.hp st.hp

def stL (l : List (Nat × AV)) (h : List (Nat × Blk)) : AState := ⟨tmL l, hpL h⟩
  where
  tmL (l : List (Nat × AV)) (s : Nat) : AV :=
    match l with
    | [] => .dead
    | (t, v) :: r => bif Nat.beq s t then v else tmL r s
  hpL (l : List (Nat × Blk)) (s : Nat) : Option Blk :=
    match l with
    | [] => none
    | (t, v) :: r => bif Nat.beq s t then some v else hpL r s

def covT (tm : Nat → AV) : List (Nat × AV) → Prop
  | [] => True
  | (t, v) :: r => tm t = v ∧ covT tm r
def covH (hp : Nat → Option Blk) : List (Nat × Blk) → Prop
  | [] => True
  | (t, v) :: r => hp t = some v ∧ covH hp r

theorem le_tm {tm : Nat → AV} {l : List (Nat × AV)} (hT : covT tm l) (t : Nat) : stL.tmL l t = .dead ∨ stL.tmL l t = tm t := by
  induction l with
  | nil => exact .inl rfl
  | cons p r ih =>
    obtain ⟨s, v⟩ := p
    simp only [stL.tmL]
    cases hb : Nat.beq t s with
    | true =>
      have : t = s := Nat.eq_of_beq_eq_true hb
      subst this
      exact .inr hT.1.symm
    | false => exact ih hT.2
theorem le_hp {hp : Nat → Option Blk} {h : List (Nat × Blk)} (hH : covH hp h) (b : Nat) : stL.hpL h b = none ∨ stL.hpL h b = hp b := by
  induction h with
  | nil => exact .inl rfl
  | cons p r ih =>
    obtain ⟨s, v⟩ := p
    simp only [stL.hpL]
    cases hb : Nat.beq b s with
    | true =>
      have : b = s := Nat.eq_of_beq_eq_true hb
      subst this
      exact .inr hH.1.symm
    | false => exact ih hH.2

theorem le_of_cov {l : List (Nat × AV)} {h : List (Nat × Blk)} {st : AState} (hT : covT st.tm l) (hH : covH st.hp h) (hK : K4 (stL.hpL h) st.hp) : Le (stL l h) st := by
  refine ⟨fun t => ?_, fun b => ?_, hK⟩
  case refine_1 => clear hK; exact le_tm hT t
  case refine_2 => clear hK hT; exact le_hp hH b

/-- an empty slice, seen as a row of the call's own, or as data -/
inductive NilK where
  | row (t b sz : Nat)
  | lst (t : Nat)
  | cell (bx j b sz : Nat)
  | wk (t : Nat) (y : AV)
  | wkc (bx j : Nat) (y : AV)
  | frz (b : Nat) (l : List (List D)) (sz : Nat)
  | sd (t b : Nat) (l : List (List D)) (sz : Nat)
  | cd (bx j b : Nat) (l : List (List D)) (sz : Nat)
/-- whatever the one stands for, the other does too -/
structure WkA (x y : AV) : Prop where
  out : ∀ (M : Mem) (ι : Inj) (v : Value), DenA M ι x v → DenA M ι y v
theorem wk_refl (x : AV) : WkA x x := ⟨fun _ _ _ h => h⟩
theorem wk_tt : WkA .tt (.d (.bool true)) := ⟨fun _ _ _ h => by cases h; exact .d _ _ (.bool true)⟩
theorem wk_ff : WkA .ff (.d (.bool false)) := ⟨fun _ _ _ h => by cases h; exact .d _ _ (.bool false)⟩
theorem wk_nil : WkA .nil (.d (.lst [])) := ⟨fun _ _ _ h => by cases h; exact .d _ _ (.emp _ _)⟩
def nil1 (k : NilK) (st : AState) : AState :=
  match k with
  | .row t b sz => ⟨upd (killT (some b) st.tm) t (.own b), upd (killH (some b) st.hp) b (some (.row [] sz false))⟩
  | .lst t => ⟨upd st.tm t (.d (.lst [])), st.hp⟩
  | .cell bx j b sz => match st.hp bx with
    | some (.box c _) => ⟨killT (some b) st.tm, upd (upd (killH (some b) st.hp) b (some (.row [] sz false))) bx (some (.box ((killB.cells b c).set j (.own b)) false))⟩
    | _ => st
  | .wk t y => ⟨upd st.tm t y, st.hp⟩
  | .wkc bx j y => match st.hp bx with
    | some (.box c _) => ⟨st.tm, upd st.hp bx (some (.box (c.set j y) false))⟩
    | _ => st
  | .frz b l sz => ⟨st.tm, upd st.hp b (some (.row l sz true))⟩
  | .sd t _ l _ => ⟨upd st.tm t (.d (.lst l)), st.hp⟩
  | .cd bx j _ l _ => match st.hp bx with
    | some (.box c _) => ⟨st.tm, upd st.hp bx (some (.box (c.set j (.d (.lst l))) false))⟩
    | _ => st
def nilOk1 (k : NilK) (st : AState) : Prop :=
  match k with
  | .row t b _ => st.tm t = .nil ∧ (Nat.ble 1000000 b && Nat.ble b 1000003) = false
  | .lst t => st.tm t = .nil
  | .cell bx j b _ => (match st.hp bx with
    | some (.box c fr) => c[j]? = some .nil ∧ fr = false
    | _ => False) ∧ Nat.beq bx b = false ∧ (Nat.ble 1000000 b && Nat.ble b 1000003) = false
  | .wk t y => WkA (st.tm t) y
  | .wkc bx j y => match st.hp bx with
    | some (.box c fr) => (∃ x, c[j]? = some x ∧ WkA x y) ∧ fr = false
    | _ => False
  | .frz b l sz => ∃ fr, st.hp b = some (.row l sz fr)
  | .sd t b l sz => st.tm t = .own b ∧ st.hp b = some (.row l sz true)
  | .cd bx j b l sz => st.hp b = some (.row l sz true) ∧ match st.hp bx with
    | some (.box c fr) => c[j]? = some (.own b) ∧ fr = false
    | _ => False
def nils : List NilK → AState → AState
  | [], st => st
  | k :: r, st => nils r (nil1 k st)
def nilsOk : List NilK → AState → Prop
  | [], _ => True
  | k :: r, st => nilOk1 k st ∧ nilsOk r (nil1 k st)
structure LeN (s st : AState) : Prop where
  out : ∃ ns, nilsOk ns st ∧ Le s (nils ns st)
theorem le0 {s st : AState} (h : Le s st) : LeN s st := ⟨⟨[], trivial, h⟩⟩
theorem le1 {s st : AState} (k : NilK) (hk : nilOk1 k st) (h : Le s (nil1 k st)) : LeN s st := ⟨⟨[k], ⟨hk, trivial⟩, h⟩⟩
theorem len {s st : AState} (ns : List NilK) (hk : nilsOk ns st) (h : Le s (nils ns st)) : LeN s st := ⟨⟨ns, hk, h⟩⟩

structure ALoop (body : AState → (AExit → AState → Prop) → Prop) (st : AState) (Q : AExit → AState → Prop) : Prop where
  out : ∃ (ι : Type) (S : ι → AState) (R : ι → Prop) (μ : ι → Nat), (∃ i, R i ∧ LeN (S i) st) ∧
    ∀ i, R i → body (S i) fun e st' => match e with
      | .normal => ∃ j, R j ∧ μ j < μ i ∧ LeN (S j) st'
      | e => Q e st'
theorem aloop {body : AState → (AExit → AState → Prop) → Prop} {st : AState} {Q : AExit → AState → Prop} {ι : Type} (l : ι → List (Nat × AV)) (h : ι → List (Nat × Blk)) (R : ι → Prop) (μ : ι → Nat) (i : ι)
    (hi : R i) (h0 : LeN (stL (l i) (h i)) st)
    (hr : ∀ i, R i → body (stL (l i) (h i)) fun e st' => match e with
      | .normal => ∃ j, R j ∧ μ j < μ i ∧ LeN (stL (l j) (h j)) st'
      | e => Q e st') : ALoop body st Q := ⟨⟨ι, fun i => stL (l i) (h i), R, μ, ⟨i, hi, h0⟩, hr⟩⟩

def seqQ (B : AState → (AExit → AState → Prop) → Prop) (Q : AExit → AState → Prop) (e : AExit) (st : AState) : Prop :=
  match e with
  | .normal => B st Q
  | .exit i => Q (.exit i) st
  | .ret => Q .ret st
def blockQ (id : Nat) (Q : AExit → AState → Prop) (e : AExit) (st : AState) : Prop :=
  match e with
  | .exit i => bif Nat.beq i id then Q .normal st else Q (.exit i) st
  | .normal => Q .normal st
  | .ret => Q .ret st
def condA (c : Operand) (A B : AState → (AExit → AState → Prop) → Prop) (st : AState) (Q : AExit → AState → Prop) : Prop :=
  match st with
  | ⟨tm, hp⟩ => match evT tm c with
    | .tt => A ⟨tm, hp⟩ Q
    | .ff => B ⟨tm, hp⟩ Q
    | .d (.bool x) => bcase x (A ⟨tm, hp⟩ Q) (B ⟨tm, hp⟩ Q)
    | _ => False
noncomputable def regionA (T : Tab) (P : Program) (ops : Array Oper) (draw : Bool) (st : AState) (Q : AExit → AState → Prop) : Prop :=
  bif draw then (match st with
    | ⟨tm, hp⟩ => AOpsD T P ops ops.toList tm hp [] (Q .normal)) else AOps T P ops ops.toList st (Q .normal)
noncomputable def AW (T : Tab) (P : Program) (c : Code) : AState → (AExit → AState → Prop) → Prop :=
  Code.rec (motive := fun _ => AState → (AExit → AState → Prop) → Prop)
    (skip := fun st Q => Q .normal st)
    (region := fun _ ops draw st Q => regionA T P ops draw st Q)
    (seq := fun _ _ A B st Q => A st (seqQ B Q))
    (cond := fun c _ _ A B st Q => condA c A B st Q)
    (block := fun id _ A st Q => A st (blockQ id Q))
    (loop := fun _ A st Q => ALoop A st Q)
    (rangeFunc := fun _ _ _ _ _ _ _ _ => False)
    (exit := fun id st Q => Q (.exit id) st)
    (scope := fun _ _ _ _ => False)
    (label := fun _ st Q => Q .normal st)
    (goto := fun _ _ _ => False)
    (ret := fun st Q => Q .ret st)
    (refuse := fun _ _ _ => False) c
theorem AW_region {T : Tab} {P : Program} {id : Nat} {ops : Array Oper} {draw : Bool} {st : AState} {Q : AExit → AState → Prop} : AW T P (.region id ops draw) st Q = regionA T P ops draw st Q := rfl
theorem AW_seq {T : Tab} {P : Program} {a b : Code} {st : AState} {Q : AExit → AState → Prop} : AW T P (.seq a b) st Q = AW T P a st (seqQ (AW T P b) Q) := rfl
theorem AW_cond {T : Tab} {P : Program} {c : Operand} {a b : Code} {st : AState} {Q : AExit → AState → Prop} : AW T P (.cond c a b) st Q = condA c (AW T P a) (AW T P b) st Q := rfl
theorem AW_block {T : Tab} {P : Program} {id : Nat} {a : Code} {st : AState} {Q : AExit → AState → Prop} : AW T P (.block id a) st Q = AW T P a st (blockQ id Q) := rfl
theorem AW_loop {T : Tab} {P : Program} {a : Code} {st : AState} {Q : AExit → AState → Prop} : AW T P (.loop a) st Q = ALoop (AW T P a) st Q := rfl

def initTm (args : List D) : Nat → AV := go 0 args
  where
  go (n : Nat) : List D → Nat → AV
    | [] => fun _ => .dead
    | d :: r => upd (go (n + 1) r) n (ofD d)

/-- a result's value -/
def resV (T : Tab) (tm : Nat → AV) (hp : Nat → Option Blk) : ResultVar → AV
  | .tmp t => tm t
  | .cell a t => match tm a with
    | .ptr b i j => match hp b with
      | some (.box c _) => bif (T t).k.known && Nat.beq i 0 then (bif (T t).k.agg then (bif Nat.ble (j + (T t).size) c.length then .agg ((c.drop j).take (T t).size) else .dead) else (match c[j]? with | some x => x | none => .dead)) else .dead
      | _ => .dead
    | _ => .dead
/-- the results, as data -/
def resD (T : Tab) (tm : Nat → AV) (hp : Nat → Option Blk) : List ResultVar → Option (List D)
  | [] => some []
  | r :: q => match conv hp (resV T tm hp r) with
    | some d => match resD T tm hp q with
      | some ds => some (d :: ds)
      | none => none
    | none => none
def oneD : List D → D
  | [d] => d
  | ds => .tup ds

def AFn (T : Tab) (P : Program) (fn : Func) (args : List D) (d : D) : Prop :=
  match fn.body with
  | some c => AW T P c ⟨initTm args, fun _ => none⟩ fun e st => match e with
    | .exit _ => False
    | _ => (resD T st.tm st.hp fn.results.toList).map oneD = some d
  | none => False

/-- the one result is a row of the call's own -/
def AFnO (T : Tab) (P : Program) (fn : Func) (args : List D) (l : List (List D)) (sz : Nat) : Prop :=
  match fn.body with
  | some c => AW T P c ⟨initTm args, fun _ => none⟩ fun e st => match e with
    | .exit _ => False
    | _ => ∃ t, fn.results.toList = [.tmp t] ∧ ((∃ b, st.tm t = .own b ∧ st.hp b = some (.row l sz false)) ∨ (st.tm t = .nil ∧ l = []))
  | none => False

/-- a struct's cells, as data and rows of its own -/
def matchS (hp : Nat → Option Blk) (seen : List Nat) : List AV → List SC → Prop
  | [], [] => True
  | x :: c, .d d :: s => conv.pure1 x = some d ∧ matchS hp seen c s
  | x :: c, .row l sz :: s => (∃ b, x = .own b ∧ hp b = some (.row l sz false) ∧ memN b seen = false ∧ matchS hp (b :: seen) c s) ∨ (x = .nil ∧ l = [] ∧ matchS hp seen c s)
  | _, _ => False

/-- the one result is a struct, of data and of rows of the call's own -/
def AFnS (T : Tab) (P : Program) (fn : Func) (args : List D) (cs : List SC) : Prop :=
  match fn.body with
  | some c => AW T P c ⟨initTm args, fun _ => none⟩ fun e st => match e with
    | .exit _ => False
    | _ => ∃ r c, fn.results.toList = [r] ∧ resV T st.tm st.hp r = .agg c ∧ matchS st.hp [] c cs
  | none => False

end Go.Lk

namespace Go.Lk
open Go Go.RowKit

/-! ### the table of types -/
def kindChk : TypeDesc → TK → Bool
  | .int k, .int k' => Nat.beq (kcode k) (kcode k')
  | .bool, .bool => true
  | .string, .str => true
  | .slice e, .slice e' => Nat.beq e e'
  | .array n e, .arr n' e' => Nat.beq n n' && Nat.beq e e'
  | .struct F, .struct fs => F.toList.map (fun f => (f.offset, f.type)) == fs && F.toList.all (fun f => f.name != "_")
  | .pointer e, .ptr e' => Nat.beq e e'
  | _, _ => false
def vD : Value → Option D
  | .int k n => some (.int k n)
  | .bool b => some (.bool b)
  | .string s => bif Nat.beq s.size 0 then some (.str .empty) else none
  | .slice none 0 0 => some (.lst [])
  | .pointer none => some .nilp
  | _ => none
def dEq : D → D → Bool
  | .int k n, .int k' n' => Nat.beq (kcode k) (kcode k') && n == n'
  | .bool b, .bool b' => b == b'
  | .str _, .str s => Nat.beq s.size 0
  | .lst [], .lst [] => true
  | .nilp, .nilp => true
  | _, _ => false
def zeroChk : List Value → List D → Bool
  | [], [] => true
  | v :: vs, d :: ds => (match vD v with | some d' => dEq d' d | none => false) && zeroChk vs ds
  | _, _ => false
def elemsKnown (T : Tab) : TK → Bool
  | .slice e => (T e).k.known
  | .arr _ e => (T e).k.known
  | .struct fs => fs.all fun p => (T p.2).k.known
  | _ => true
def tyChk (P : Program) (T : Tab) (t : TypeId) (I : TyI) : Bool :=
  match P.underlying t, P.info? t with
  | some d, some i => kindChk d I.k && Nat.beq i.size I.size && Nat.beq i.bytes I.bytes && (match i.zero with | some z => zeroChk z.cells.toList I.zero | none => false) && elemsKnown T I.k && Nat.ble I.bytes 1048576 && Nat.beq I.zero.length I.size && !(P.stoodInHeld t) && !(P.eqGuardType P.depth t) && (I.k.agg || Nat.beq I.size 1) && Nat.blt 0 I.size
  | _, _ => false

inductive TT where
  | leaf
  | node (t : TypeId) (I : TyI) (l r : TT)
def TT.get (t : TypeId) : TT → TyI
  | .leaf => ⟨.other, 0, 0, []⟩
  | .node t' I l r => bif Nat.beq t t' then I else bif Nat.blt t t' then l.get t else r.get t
def TT.all (p : TypeId → TyI → Bool) : TT → Bool
  | .leaf => true
  | .node t I l r => p t I && (l.all p && r.all p)

theorem TT.get_all {p : TypeId → TyI → Bool} {t : TypeId} : ∀ {x : TT}, x.all p = true → (TT.get t x).k.known = true → p t (TT.get t x) = true
  | .leaf, _, h => by simp [TT.get, TK.known] at h
  | .node t' I l r, h, hk => by
    simp only [TT.all, Bool.and_eq_true] at h
    simp only [TT.get] at hk ⊢
    cases hb : Nat.beq t t' with
    | true =>
      have : t = t' := Nat.eq_of_beq_eq_true hb
      subst this
      simpa [hb] using h.1
    | false =>
      simp only [hb, cond_false] at hk ⊢
      cases hl : Nat.blt t t' with
      | true => simp only [hl, cond_true] at hk ⊢; exact TT.get_all h.2.1 hk
      | false => simp only [hl, cond_false] at hk ⊢; exact TT.get_all h.2.2 hk

def TabOk (P : Program) (T : Tab) : Prop := ∀ t, (T t).k.known = true → tyChk P T t (T t) = true

theorem tabOk_of {P : Program} {x : TT} (h : (x.all (tyChk P fun t => x.get t)) = true) : TabOk P fun t => x.get t :=
  fun _ hk => TT.get_all h hk

theorem kcode_inj {k k' : IntKind} (h : Nat.beq (kcode k) (kcode k') = true) : k = k' := by
  have := Nat.eq_of_beq_eq_true h
  cases k <;> cases k' <;> first | rfl | simp [kcode] at this

structure TyFact (P : Program) (T : Tab) (t : TypeId) : Prop where
  desc : ∃ d i, P.underlying t = some d ∧ P.info? t = some i ∧ kindChk d (T t).k = true ∧ i.size = (T t).size ∧ i.bytes = (T t).bytes ∧
    (∃ z, i.zero = some z ∧ zeroChk z.cells.toList (T t).zero = true) ∧ elemsKnown T (T t).k = true ∧ (T t).bytes ≤ 1048576 ∧ (T t).zero.length = (T t).size ∧ P.stoodInHeld t = false ∧ P.eqGuardType P.depth t = false ∧ ((T t).k.agg = false → (T t).size = 1) ∧ 0 < (T t).size

theorem tyFact {P : Program} {T : Tab} (hT : TabOk P T) {t : TypeId} (hk : (T t).k.known = true) : TyFact P T t := by
  have h := hT t hk
  unfold tyChk at h
  cases hu : P.underlying t with
  | none => simp [hu] at h
  | some d =>
    cases hi : P.info? t with
    | none => simp [hu, hi] at h
    | some i =>
      simp only [hu, hi, Bool.and_eq_true] at h
      obtain ⟨⟨⟨⟨⟨⟨⟨⟨⟨⟨h1, h2⟩, h3⟩, h4⟩, h5⟩, h6⟩, h7⟩, h8⟩, h9⟩, h10⟩, h11⟩ := h
      refine ⟨d, i, by first | rfl | assumption, by first | rfl | assumption, h1, Nat.eq_of_beq_eq_true h2, Nat.eq_of_beq_eq_true h3, ?_, h5, Nat.le_of_ble_eq_true h6, Nat.eq_of_beq_eq_true h7, by simpa using h8, by simpa using h9, fun hg => by simpa [hg] using h10, by have h12 := h11; simp [Nat.blt] at h12; exact h12⟩
      cases hz : i.zero with
      | none => simp [hz] at h4
      | some z => exact ⟨z, rfl, by simpa [hz] using h4⟩

section
variable {P : Program} {T : Tab} (hT : TabOk P T) {t : TypeId} (w : World)
include hT

theorem und_slice {e : TypeId} (h : (T t).k = .slice e) : P.underlying t = some (.slice e) ∧ (T e).k.known = true := by
  obtain ⟨d, i, hu, _, hk, _, _, _, he, _⟩ := (tyFact hT (t := t) (by rw [h]; rfl)).desc
  rw [h] at hk he
  cases d <;> simp [kindChk] at hk
  subst hk
  exact ⟨hu, by simpa [elemsKnown] using he⟩
theorem und_arr {n : Nat} {e : TypeId} (h : (T t).k = .arr n e) : P.underlying t = some (.array n e) ∧ (T e).k.known = true := by
  obtain ⟨d, i, hu, _, hk, _, _, _, he, _⟩ := (tyFact hT (t := t) (by rw [h]; rfl)).desc
  rw [h] at hk he
  cases d <;> simp [kindChk] at hk
  obtain ⟨rfl, rfl⟩ := hk
  exact ⟨hu, by simpa [elemsKnown] using he⟩
theorem und_struct {fs : List (Nat × TypeId)} (h : (T t).k = .struct fs) :
    ∃ F, P.underlying t = some (.struct F) ∧ F.toList.map (fun f => (f.offset, f.type)) = fs ∧ (∀ p ∈ fs, (T p.2).k.known = true) ∧ ∀ f ∈ F.toList, f.name ≠ "_" := by
  obtain ⟨d, i, hu, _, hk, _, _, _, he, _⟩ := (tyFact hT (t := t) (by rw [h]; rfl)).desc
  rw [h] at hk he
  cases d <;> simp [kindChk] at hk
  rename_i F
  refine ⟨F, hu, hk.1, ?_, ?_⟩
  · simp only [elemsKnown, List.all_eq_true] at he
    exact he
  · intro f hf
    obtain ⟨i, hi, rfl⟩ := List.getElem_of_mem hf
    simpa using hk.2 i (by simpa using hi)
theorem und_int {k : IntKind} (h : (T t).k = .int k) : P.underlying t = some (.int k) := by
  obtain ⟨d, i, hu, _, hk, _⟩ := (tyFact hT (t := t) (by rw [h]; rfl)).desc
  rw [h] at hk
  cases d <;> simp [kindChk] at hk
  rename_i k'
  rw [hu, kcode_inj (k := k') (k' := k) (by simpa using hk)]
theorem und_bool (h : (T t).k = .bool) : P.underlying t = some .bool := by
  obtain ⟨d, i, hu, _, hk, _⟩ := (tyFact hT (t := t) (by rw [h]; rfl)).desc
  rw [h] at hk
  cases d <;> simp [kindChk] at hk
  exact hu
theorem size_one (h : (T t).k.known = true) (ha : (T t).k.agg = false) : (T t).size = 1 := by
  obtain ⟨d, i, _, _, _, _, _, _, _, _, _, _, _, h1, _⟩ := (tyFact hT h).desc
  exact h1 ha
theorem size_pos (h : (T t).k.known = true) : 0 < (T t).size := by
  obtain ⟨d, i, _, _, _, _, _, _, _, _, _, _, _, _, h1⟩ := (tyFact hT h).desc
  exact h1
theorem zero_len (h : (T t).k.known = true) : (T t).zero.length = (T t).size := by
  obtain ⟨d, i, _, _, _, _, _, _, _, _, h1, _⟩ := (tyFact hT h).desc
  exact h1
theorem und_str (h : (T t).k = .str) : P.underlying t = some .string := by
  obtain ⟨d, i, hu, _, hk, _⟩ := (tyFact hT (t := t) (by rw [h]; rfl)).desc
  rw [h] at hk
  cases d <;> simp [kindChk] at hk
  exact hu
theorem run_isAggT (h : (T t).k.known = true) : (isAgg t).run P w = .ok (T t).k.agg w := by
  obtain ⟨d, i, hu, _, hk, _⟩ := (tyFact hT h).desc
  simp only [isAgg, Sem.run_bind, run_underlying hu, Result.andThen_ok]
  generalize (T t).k = k at hk
  cases d <;> cases k <;> simp_all [kindChk, TK.agg]
theorem run_sizeT (h : (T t).k.known = true) : (sizeOf t).run P w = .ok (T t).size w := by
  obtain ⟨d, i, _, hi, _, hs, _⟩ := (tyFact hT h).desc
  simp [sizeOf, typeInfo, hi, hs]
theorem run_zeroT (h : (T t).k.known = true) : ∃ z, (zeroValue t).run P w = .ok z w ∧ zeroChk z.cells.toList (T t).zero = true := by
  obtain ⟨d, i, _, hi, _, _, _, ⟨z, hz, hc⟩, _⟩ := (tyFact hT h).desc
  exact ⟨z, by simp [zeroValue, typeInfo, hi, hz], hc⟩
end
end Go.Lk

namespace Go.Lk
open Go Go.RowKit

/-! ### what an operation's effect means -/
def Post (own : Nat → Prop) (M : Mem) (ι : Inj) (hp : Nat → Option Blk) (w : World) (e : Eff) (v : Value) (w' : World) : Prop :=
  ∃ (M' : Mem) (ι' : Inj), FrameOwn own w w' ∧ Sub M M' ∧ Agree M' w' ∧ NewDom own M M' ∧ HRel own M' ι' (e.hp hp) w' ∧ (∀ b, Kp e.kl b → ι' b = ι b) ∧ DenA M' ι' e.av v

def OpSem (P : Program) (o : Oper) (ρ : Operand → AV) (hp : Nat → Option Blk) (e : Eff) : Prop :=
  ∀ (own : Nat → Prop) (M : Mem) (ι : Inj) (a : Act) (w : World), (∀ c, w.heap.size ≤ c → own c) → Agree M w → HRel own M ι hp w → (∀ x, DenA M ι (ρ x) (a.eval x)) →
    o.wp P a w (fun a' w' => ∃ v, a' = a.put o.dst v ∧ Post own M ι hp w e v w') (fun _ _ _ => False)

theorem Sub.refl (M : Mem) : Sub M M := fun _ _ _ h => h
theorem Sub.trans {M M' M'' : Mem} (h : Sub M M') (h' : Sub M' M'') : Sub M M'' := fun _ _ _ k => h' _ _ _ (h _ _ _ k)
theorem NewDom.refl (own : Nat → Prop) (M : Mem) : NewDom own M M := fun _ _ _ h => .inl h
theorem NewDom.trans {own : Nat → Prop} {M M' M'' : Mem} (h : NewDom own M M') (h' : NewDom own M' M'') : NewDom own M M'' := fun b o v k => (h' b o v k).elim (h b o v) .inr
theorem FrameOwn.refl (own : Nat → Prop) (w : World) : FrameOwn own w w := ⟨rfl, rfl, rfl, Nat.le_refl _, fun _ _ => rfl⟩
theorem FrameOwn.trans {own : Nat → Prop} {a b c : World} (h : FrameOwn own a b) (h' : FrameOwn own b c) : FrameOwn own a c :=
  ⟨h'.os.trans h.os, h'.tape.trans h.tape, h'.output.trans h.output, Nat.le_trans h.size h'.size, fun x hx => (h'.block x hx).trans (h.block x hx)⟩

theorem post_val {own : Nat → Prop} {M : Mem} {ι : Inj} {hp : Nat → Option Blk} {w : World} {av : AV} {v : Value} (ha : Agree M w) (hh : HRel own M ι hp w) (hd : DenA M ι av v) : Post own M ι hp w ⟨av, [], none⟩ v w :=
  ⟨M, ι, .refl _ _, .refl _, ha, .refl _ _, hh, fun _ _ => rfl, hd⟩

theorem opSem_val {P : Program} {o : Oper} {ρ : Operand → AV} {hp : Nat → Option Blk} {av : AV}
    (h : ∀ (own : Nat → Prop) (M : Mem) (ι : Inj) (a : Act) (w : World), Agree M w → HRel own M ι hp w → (∀ x, DenA M ι (ρ x) (a.eval x)) → ∃ v, (execOp a.eval o).run P w = .ok (.value v) w ∧ DenA M ι av v) :
    OpSem P o ρ hp ⟨av, [], none⟩ := by
  intro own M ι a w _ ha hh hρ
  obtain ⟨v, hr, hd⟩ := h own M ι a w ha hh hρ
  unfold Oper.wp
  rw [hr, Oper.upon_value]
  exact ⟨v, rfl, post_val ha hh hd⟩

/-! ### the small words of continuation -/
theorem force_out {v : AV} {K : AV → Prop} (h : force v K) : K v ∧ v ≠ .dead := by
  cases v <;> simp_all [force]
theorem bcase_out {b : Bool} {A B : Prop} (h : bcase b A B) : (b = true ∧ A) ∨ (b = false ∧ B) := by
  replace h := h.out
  cases b <;> simp_all
theorem wrapK_out {k : IntKind} {n : Int} {K : Int → Prop} (h : wrapK k n K) : K (k.wrap n) := h.out
theorem condK_out {c K : Prop} (h : condK c K) : c ∧ K := h.out
theorem getRow_out {l : List (List D)} {i : Nat} {K : List D → Prop} (h : getRow l i K) : ∃ e, l[i]? = some e ∧ K e := h.out
theorem idxK_out {i : Int} {n : Nat} {K : Nat → Prop} (h : idxK i n K) : 0 ≤ i ∧ i < n ∧ K i.toNat := h.out
theorem roomK_out {n b : Nat} {K : Prop} (h : roomK n b K) : n * b ≤ 35184372088832 ∧ n ≤ 35184372088832 ∧ K := h.out
theorem winK_out {lo hi : Option Int} {n c : Nat} {K : Nat → Nat → Prop} (h : winK lo hi n c K) : 0 ≤ lo.getD 0 ∧ lo.getD 0 ≤ hi.getD n ∧ hi.getD n ≤ c ∧ K (lo.getD 0).toNat (hi.getD n).toNat := h.out
theorem sliceK_out {lo hi : Option Int} {n : Nat} {K : Nat → Nat → Prop} (h : sliceK lo hi n K) :
    0 ≤ lo.getD 0 ∧ lo.getD 0 ≤ hi.getD n ∧ hi.getD n ≤ n ∧ K (lo.getD 0).toNat (hi.getD n).toNat := h.out
theorem divK_out {q : Bool} {k : IntKind} {a b : Int} {K : Int → Prop} (h : divK q k a b K) : b ≠ 0 ∧ K (if q then k.wrap (a.tdiv b) else a.tmod b) := h.out
theorem boolOf_out {v : AV} {K : Bool → Prop} (h : boolOf v K) : ∃ b, K b ∧ ∀ (M : Mem) (ι : Inj) (u : Value), DenA M ι v u → u = .bool b := by
  unfold boolOf at h
  split at h
  · rename_i b
    refine ⟨b, h, fun M ι u hd => ?_⟩
    cases hd with
    | d _ _ hd => cases hd; rfl
  · exact ⟨true, h, fun M ι u hd => by cases hd; rfl⟩
  · exact ⟨false, h, fun M ι u hd => by cases hd; rfl⟩
  · exact h.elim

theorem den_int {M : Mem} {ι : Inj} {k : IntKind} {n : Int} {v : Value} (h : DenA M ι (.d (.int k n)) v) : v = .int k n := by
  cases h with
  | d _ _ h => cases h; rfl
theorem den_str {M : Mem} {ι : Inj} {s : ByteArray} {v : Value} (h : DenA M ι (.d (.str s)) v) : v = .string s := by
  cases h with
  | d _ _ h => cases h; rfl
theorem den_bool {M : Mem} {ι : Inj} {s : Bool} {v : Value} (h : DenA M ι (.d (.bool s)) v) : v = .bool s := by
  cases h with
  | d _ _ h => cases h; rfl

/-! ### binary operations -/
section
variable {P : Program}

theorem intA_out {op : BinOp} {k : IntKind} {a b : Int} {K : AV → Prop} (h : intA op k a b K) (t : TypeId) :
    ∃ d : D, K (.d d) ∧ (∀ (x y : Operand) (w : World), (do eqGuard op t x y (.int k a) (.int k b); binOp op t (.int k a) (.int k b) : Sem Value).run P w = .ok (match d with | .int k n => .int k n | .bool b => .bool b | _ => undef) w) ∧ ((∃ n, d = .int k n) ∨ ∃ b, d = .bool b) := by
  unfold intA at h
  cases op <;> simp only at h
  case add => exact ⟨_, wrapK_out h, by simp [eqGuard, binOp, Op.intArith], .inl ⟨_, rfl⟩⟩
  case sub => exact ⟨_, wrapK_out h, by simp [eqGuard, binOp, Op.intArith], .inl ⟨_, rfl⟩⟩
  case mul => exact ⟨_, wrapK_out h, by simp [eqGuard, binOp, Op.intArith], .inl ⟨_, rfl⟩⟩
  case quo =>
    obtain ⟨h1, h2⟩ := divK_out h
    exact ⟨_, h2, by simp [eqGuard, binOp, Op.intDiv, h1], .inl ⟨_, rfl⟩⟩
  case rem =>
    obtain ⟨h1, h2⟩ := divK_out h
    exact ⟨_, h2, by simp [eqGuard, binOp, Op.intDiv, h1], .inl ⟨_, rfl⟩⟩
  case and => exact ⟨_, h, by simp [eqGuard, binOp, Op.intBits, bitsV], .inl ⟨_, rfl⟩⟩
  case or => exact ⟨_, h, by simp [eqGuard, binOp, Op.intBits, bitsV], .inl ⟨_, rfl⟩⟩
  case xor => exact ⟨_, h, by simp [eqGuard, binOp, Op.intBits, bitsV], .inl ⟨_, rfl⟩⟩
  case andNot => exact ⟨_, h, by simp [eqGuard, binOp, Op.intBits, bitsV], .inl ⟨_, rfl⟩⟩
  case eql => exact ⟨_, h, by intro x y w; simp [eqGuard, binOp, Op.intCmp]; rw [Bool.eq_iff_iff]; simp, .inr ⟨_, rfl⟩⟩
  case neq => exact ⟨_, h, by intro x y w; simp [eqGuard, binOp, Op.intCmp]; rw [Bool.eq_iff_iff]; simp, .inr ⟨_, rfl⟩⟩
  case lss => exact ⟨_, h, by intro x y w; simp [eqGuard, binOp, Op.intCmp], .inr ⟨_, rfl⟩⟩
  case leq => exact ⟨_, h, by intro x y w; simp [eqGuard, binOp, Op.intCmp], .inr ⟨_, rfl⟩⟩
  case gtr => exact ⟨_, h, by intro x y w; simp [eqGuard, binOp, Op.intCmp], .inr ⟨_, rfl⟩⟩
  case geq => exact ⟨_, h, by intro x y w; simp [eqGuard, binOp, Op.intCmp], .inr ⟨_, rfl⟩⟩

theorem shiftA_out {op : BinOp} {k k' : IntKind} {a b : Int} {K : AV → Prop} (h : shiftA op k a b K) (t : TypeId) :
    ∃ n : Int, K (.d (.int k n)) ∧ ∀ (x y : Operand) (w : World), (do eqGuard op t x y (.int k a) (.int k' b); binOp op t (.int k a) (.int k' b) : Sem Value).run P w = .ok (.int k n) w := by
  unfold shiftA at h
  cases op <;> simp only at h
  case shl =>
    obtain ⟨h1, h2⟩ := condK_out h
    exact ⟨_, wrapK_out h2, by intro x y w; simp [eqGuard, binOp, Op.shift, show ¬ b < 0 by omega]⟩
  case shr =>
    obtain ⟨h1, h2⟩ := condK_out h
    exact ⟨_, h2, by intro x y w; simp [eqGuard, binOp, Op.shift, show ¬ b < 0 by omega]⟩

theorem strA_out {op : BinOp} {a b : ByteArray} {K : AV → Prop} (h : strA op a b K) (t : TypeId) :
    ∃ d : D, K (.d d) ∧ (∀ (x y : Operand) (w : World), (do eqGuard op t x y (.string a) (.string b); binOp op t (.string a) (.string b) : Sem Value).run P w = .ok (match d with | .str s => .string s | .bool b => .bool b | _ => undef) w) ∧ ((∃ n, d = .str n) ∨ ∃ b, d = .bool b) := by
  have hdec : (a.toList == b.toList) = decide (a = b) := by
    rw [ByteArray.toList_eq, ByteArray.toList_eq, Bool.eq_iff_iff]
    obtain ⟨⟨x⟩⟩ := a
    obtain ⟨⟨y⟩⟩ := b
    simp
  unfold strA at h
  cases op <;> simp only at h
  case add =>
    obtain ⟨h1, h2⟩ := condK_out h
    exact ⟨_, h2, by intro x y w; simp [eqGuard, binOp, Op.stringOp]; omega, .inl ⟨_, rfl⟩⟩
  case eql => exact ⟨_, h, by intro x y w; simp [eqGuard, binOp, Op.stringOp, hdec], .inr ⟨_, rfl⟩⟩
  case neq => exact ⟨_, h, by intro x y w; simp [eqGuard, binOp, Op.stringOp, hdec], .inr ⟨_, rfl⟩⟩

theorem boolA_out {op : BinOp} {a b : Bool} {K : AV → Prop} (h : boolA op a b K) :
    ∃ r : Bool, K (.d (.bool r)) ∧ (op = .eql ∧ r = (a == b) ∨ op = .neq ∧ r = !(a == b)) := by
  unfold boolA at h
  cases op <;> simp only at h
  case eql => exact ⟨_, h, .inl ⟨rfl, rfl⟩⟩
  case neq => exact ⟨_, h, .inr ⟨rfl, rfl⟩⟩

/-! ### '==' of structs -/
variable {T : Tab} (hT : TabOk P T)

theorem den_cells_take {M : Mem} {ι : Inj} {x : List AV} {vs : Array Value} (hl : vs.size = x.length) (hd : ∀ (i : Nat) (a : AV) (v : Value), x[i]? = some a → vs[i]? = some v → DenA M ι a v) (o n : Nat) (h : o + n ≤ x.length) :
    (vs.extract o (o + n)).size = ((x.drop o).take n).length ∧ ∀ (i : Nat) (a : AV) (v : Value), ((x.drop o).take n)[i]? = some a → (vs.extract o (o + n))[i]? = some v → DenA M ι a v := by
  refine ⟨by simp; omega, fun i a v h1 h2 => ?_⟩
  rw [List.getElem?_take] at h1
  split at h1
  · rename_i hi
    rw [List.getElem?_drop] at h1
    rw [Array.getElem?_extract] at h2
    split at h2
    · exact hd _ _ _ h1 h2
    · cases h2
  · cases h1

include hT in
theorem eqA_out : ∀ (n : Nat) (t : TypeId) (x y : List AV) (K : Bool → Prop), eqA T n t x y K →
    (T t).k.known = true ∧ ∃ b, K b ∧ ∀ (M : Mem) (ι : Inj) (vs us : Array Value), vs.size = x.length → us.size = y.length → (∀ (i : Nat) (a : AV) (v : Value), x[i]? = some a → vs[i]? = some v → DenA M ι a v) →
      (∀ (i : Nat) (a : AV) (v : Value), y[i]? = some a → us[i]? = some v → DenA M ι a v) → ∀ (d : Nat) (w : World), n ≤ d →
      (Op.equalIn (d + 1) t (if (T t).k.agg then .agg vs else vs.getD 0 undef) (if (T t).k.agg then .agg us else us.getD 0 undef)).run P w = .ok b w
  | 0, t, x, y, K, h => by simp [eqA] at h
  | n + 1, t, x, y, K, h => by
    simp only [eqA] at h
    split at h
    · rename_i k hk
      refine ⟨by rw [hk]; rfl, ?_⟩
      have hu := und_int hT hk
      split at h
      · rename_i k1 a
        split at h
        · rename_i k2 b
          cases hb : Nat.beq (kcode k1) (kcode k2) with
          | false => simp [hb] at h
          | true =>
            simp only [hb, cond_true] at h
            have := kcode_inj hb
            subst this
            refine ⟨_, h, fun M ι vs us hl hl' hd hd' d w _ => ?_⟩
            have e1 := den_int (hd 0 _ (vs.getD 0 undef) rfl (by simp [Array.getD, hl]))
            have e2 := den_int (hd' 0 _ (us.getD 0 undef) rfl (by simp [Array.getD, hl']))
            simp only [hk, TK.agg, Bool.false_eq_true, if_false]
            rw [e1, e2, run_equalIn_int w d t k1 k a b hu]
            rfl
        · exact h.elim
      · exact h.elim
    · rename_i hk
      refine ⟨by rw [hk]; rfl, ?_⟩
      have hu := und_str hT hk
      split at h
      · rename_i a
        split at h
        · rename_i b
          refine ⟨_, h, fun M ι vs us hl hl' hd hd' d w _ => ?_⟩
          have e1 := den_str (hd 0 _ (vs.getD 0 undef) rfl (by simp [Array.getD, hl]))
          have e2 := den_str (hd' 0 _ (us.getD 0 undef) rfl (by simp [Array.getD, hl']))
          simp only [hk, TK.agg, Bool.false_eq_true, if_false]
          rw [e1, e2, run_equalIn_string w d t a b hu]
          congr 1
          rw [ByteArray.toList_eq, ByteArray.toList_eq, Bool.eq_iff_iff]
          obtain ⟨⟨x⟩⟩ := a
          obtain ⟨⟨y⟩⟩ := b
          simp
        · exact h.elim
      · exact h.elim
    · rename_i hk
      refine ⟨by rw [hk]; rfl, ?_⟩
      have hu := und_bool hT hk
      split at h
      · rename_i a
        split at h
        · rename_i b
          obtain ⟨p, h, hp⟩ := boolOf_out h
          obtain ⟨q, h, hq⟩ := boolOf_out h
          refine ⟨_, h, fun M ι vs us hl hl' hd hd' d w _ => ?_⟩
          have e1 := hp M ι _ (hd 0 _ (vs.getD 0 undef) rfl (by simp [Array.getD, hl]))
          have e2 := hq M ι _ (hd' 0 _ (us.getD 0 undef) rfl (by simp [Array.getD, hl']))
          simp only [hk, TK.agg, Bool.false_eq_true, if_false]
          rw [e1, e2, run_equalIn_bool w d t p q hu]
        · exact h.elim
      · exact h.elim
    · rename_i fs hk
      refine ⟨by rw [hk]; rfl, ?_⟩
      obtain ⟨F, hu, hF, hkn, hnm⟩ := und_struct hT hk
      have hst : P.stoodInHeld t = false := by
        obtain ⟨_, _, _, _, _, _, _, _, _, _, _, h, _⟩ := (tyFact hT (t := t) (by rw [hk]; rfl)).desc
        exact h
      have hFo : P.fieldsOf t = F := by simp [Program.fieldsOf, hu]
      have key : ∀ (G : List Field) (K : Bool → Prop), eqA.fields T (fun t x y K => eqA T n t x y K) (G.map fun f => (f.offset, f.type)) x y K → (∀ f ∈ G, f.name ≠ "_") →
          ∃ b, K b ∧ ∀ (M : Mem) (ι : Inj) (vs us : Array Value), vs.size = x.length → us.size = y.length → (∀ (i : Nat) (a : AV) (v : Value), x[i]? = some a → vs[i]? = some v → DenA M ι a v) →
            (∀ (i : Nat) (a : AV) (v : Value), y[i]? = some a → us[i]? = some v → DenA M ι a v) → ∀ (d : Nat) (w : World), n ≤ d → (Op.eqFields (d + 1) vs us G).run P w = .ok b w := by
        intro G
        induction G with
        | nil =>
          intro K h _
          exact ⟨true, h, fun M ι vs us _ _ _ _ d w _ => by simp [Op.eqFields]⟩
        | cons f G ih =>
          intro K h hn
          simp only [List.map_cons, eqA.fields] at h
          cases hb : (Nat.ble (f.offset + (T f.type).size) x.length && Nat.ble (f.offset + (T f.type).size) y.length) with
          | false => simp [hb] at h
          | true =>
            simp only [hb, cond_true] at h
            simp only [Bool.and_eq_true, Nat.ble_eq] at hb
            obtain ⟨hk1, b, h, hb1⟩ := eqA_out n _ _ _ _ h
            obtain ⟨c, h, hc1⟩ := ih _ h (fun g hg => hn g (List.mem_cons_of_mem _ hg))
            refine ⟨_, h, fun M ι vs us hl hl' hd hd' d w hnd => ?_⟩
            obtain ⟨s1, d1⟩ := den_cells_take hl hd f.offset (T f.type).size hb.1
            obtain ⟨s2, d2⟩ := den_cells_take hl' hd' f.offset (T f.type).size hb.2
            have r := hb1 M ι _ _ s1 s2 d1 d2 d w hnd
            have r2 := hc1 M ι vs us hl hl' hd hd' d w hnd
            have part_eq : ∀ (zs : Array Value) (m : Nat), zs.size = m → f.offset + (T f.type).size ≤ m → ((T f.type).k.agg = false → (T f.type).size = 1) →
                (part f.type zs f.offset).run P w = .ok (if (T f.type).k.agg then .agg (zs.extract f.offset (f.offset + (T f.type).size)) else (zs.extract f.offset (f.offset + (T f.type).size)).getD 0 undef) w := by
              intro zs m hz hle h1
              simp only [part, Sem.run_bind, run_isAggT hT w hk1, Result.andThen_ok]
              cases hag : (T f.type).k.agg with
              | true => simp [run_sizeT hT w hk1]
              | false =>
                have := h1 hag
                simp only [Bool.false_eq_true, if_false]
                have hlt : f.offset < zs.size := by omega
                simp [Array.getElem?_eq_getElem hlt, this, Array.getD, show min (f.offset + 1) zs.size - f.offset = 1 by omega]
            have one : (T f.type).k.agg = false → (T f.type).size = 1 := size_one hT hk1
            simp only [Op.eqFields, ne_eq, hn f (List.mem_cons_self ..), not_false_eq_true, if_true, Sem.run_bind, part_eq vs _ hl hb.1 one, part_eq us _ hl' hb.2 one, Result.andThen_ok, r]
            cases b with
            | false => simp
            | true => simp [r2]
      obtain ⟨b, h, hb⟩ := key F.toList K (by rw [hF]; exact h) hnm
      refine ⟨b, h, fun M ι vs us hl hl' hd hd' d w hnd => ?_⟩
      obtain ⟨d, rfl⟩ : ∃ e, d = e + 1 := ⟨d - 1, by omega⟩
      have := hb M ι vs us hl hl' hd hd' d w (by omega)
      simp only [hk, TK.agg, if_true]
      rw [run_equalIn_struct w (d + 1) t vs us (by rw [hFo]; exact hu) hst, hFo]
      exact this
    · exact h.elim
end
end Go.Lk

namespace Go.Lk
open Go Go.RowKit

theorem addr_add (b o i : Nat) : (⟨b, o, none⟩ : Addr).add i = ⟨b, o + i, none⟩ := by
  unfold Addr.add
  split
  · rename_i h; subst h; rfl
  · rfl

theorem cell_of_heap {w : World} {b : Nat} {cs : Array Value} {T : TypeId} {fr : Nat × Nat} (h : w.heap[b]? = some (.cells cs T fr)) (o : Nat) : w.cell? ⟨b, o, none⟩ = cs[o]? := by
  simp [World.cell?, h]

theorem den_agg_inv {M : Mem} {ι : Inj} {c : List AV} {v : Value} (h : DenA M ι (.agg c) v) : ∃ vs : Array Value, v = .agg vs ∧ vs.size = c.length ∧ ∀ (i : Nat) (x : AV) (u : Value), c[i]? = some x → vs[i]? = some u → DenA M ι x u := by
  cases h with
  | agg _ vs hl hd => exact ⟨vs, rfl, hl, hd⟩
theorem den_tup_inv {M : Mem} {ι : Inj} {c : List AV} {v : Value} (h : DenA M ι (.tup c) v) : ∃ vs : Array Value, v = .tuple vs ∧ vs.size = c.length ∧ ∀ (i : Nat) (x : AV) (u : Value), c[i]? = some x → vs[i]? = some u → DenA M ι x u := by
  cases h with
  | tup _ vs hl hd => exact ⟨vs, rfl, hl, hd⟩

theorem forceL_out {c : List AV} {K : List AV → Prop} : forceL c K → K c := by
  induction c generalizing K with
  | nil => exact id
  | cons x r ih => intro h; simp only [forceL] at h; have := (force_out h).1; exact ih this

/-- a row of values that denotes cells -/
def CellsDen (M : Mem) (ι : Inj) (c : List AV) (f : Nat → Option Value) : Prop := ∀ (i : Nat) (x : AV), c[i]? = some x → ∃ v, f i = some v ∧ DenA M ι x v

theorem partA_out {agg : Bool} {size : Nat} {c : List AV} {j : Nat} {K : AV → Prop} (h : partA agg size c j K) (h1 : agg = false → size = 1) :
    ∃ av, K av ∧ j + size ≤ c.length ∧ ∀ (M : Mem) (ι : Inj) (f : Nat → Option Value), CellsDen M ι c f →
      ∃ g : Nat → Value, (∀ i, i < size → f (j + i) = some (g i)) ∧ DenA M ι av (if agg then .agg ((List.range size).map g).toArray else g 0) := by
  unfold partA at h
  cases agg with
  | true =>
    simp only [cond_true] at h
    cases hb : Nat.ble (j + size) c.length with
    | false => simp [hb] at h
    | true =>
      simp only [hb, cond_true] at h
      have hle := Nat.le_of_ble_eq_true hb
      refine ⟨_, forceL_out h, hle, fun M ι f hf => ?_⟩
      have hg : ∀ i, i < size → ∃ v, f (j + i) = some v ∧ DenA M ι (c[j + i]?.getD .dead) v := fun i hi => by
        have hlt : j + i < c.length := by omega
        obtain ⟨v, h1, h2⟩ := hf (j + i) c[j + i] (List.getElem?_eq_getElem hlt)
        exact ⟨v, h1, by simpa [List.getElem?_eq_getElem hlt] using h2⟩
      refine ⟨fun i => (f (j + i)).getD undef, fun i hi => ?_, ?_⟩
      · obtain ⟨v, h1, _⟩ := hg i hi
        simp [h1]
      · refine .agg _ _ (by simp; omega) fun i x v hx hv => ?_
        rw [List.getElem?_take] at hx
        split at hx
        · rename_i hi
          rw [List.getElem?_drop] at hx
          obtain ⟨u, h1, h2⟩ := hg i hi
          simp only [List.getElem?_toArray, List.getElem?_map, List.getElem?_range hi, Option.map_some, Option.some.injEq] at hv
          subst hv
          simpa [h1, hx] using h2
        · cases hx
  | false =>
    simp only [cond_false] at h
    unfold getC at h
    split at h
    · rename_i x hx
      refine ⟨x, (force_out h).1, ?_, fun M ι f hf => ?_⟩
      · have := (List.getElem?_eq_some_iff.1 hx).1
        rw [h1 rfl]; omega
      · obtain ⟨v, e1, e2⟩ := hf j x hx
        refine ⟨fun _ => v, fun i hi => ?_, by simpa using e2⟩
        rw [h1 rfl] at hi
        obtain rfl : i = 0 := by omega
        simpa using e1
    · exact h.elim

theorem partD_out {agg : Bool} {size : Nat} {c : List D} {j : Nat} {K : AV → Prop} (h : partD agg size c j K) (h1 : agg = false → size = 1) :
    ∃ av, K av ∧ j + size ≤ c.length ∧ ∀ (M : Mem) (ι : Inj) (f : Nat → Option Value), (∀ (i : Nat) (x : D), c[i]? = some x → ∃ v, f i = some v ∧ DenD M x v) →
      ∃ g : Nat → Value, (∀ i, i < size → f (j + i) = some (g i)) ∧ DenA M ι av (if agg then .agg ((List.range size).map g).toArray else g 0) := by
  have h' : partA agg size (c.map .d) j K := by
    unfold partD at h
    unfold partA
    cases agg with
    | true => simpa [List.map_drop, List.map_take] using h
    | false =>
      simp only [cond_false] at h ⊢
      unfold getD at h
      unfold getC
      simp only [List.getElem?_map]
      split at h
      · rename_i x hx
        simpa [hx, force] using h
      · exact h.elim
  obtain ⟨av, k, hl, hd⟩ := partA_out h' h1
  refine ⟨av, k, by simpa using hl, fun M ι f hf => hd M ι f fun i x hx => ?_⟩
  rw [List.getElem?_map] at hx
  cases hc : c[i]? with
  | none => simp [hc] at hx
  | some d =>
    simp only [hc, Option.map_some, Option.some.injEq] at hx
    subst hx
    obtain ⟨v, e1, e2⟩ := hf i d hc
    exact ⟨v, e1, .d _ _ e2⟩

section
variable {P : Program} {T : Tab} (hT : TabOk P T)
include hT

theorem run_loadVarT {t : TypeId} (hk : (T t).k.known = true) (w : World) (b o : Nat) (g : Nat → Value) (h : ∀ i, i < (T t).size → w.cell? ⟨b, o + i, none⟩ = some (g i)) :
    (loadVar t ⟨b, o, none⟩).run P w = .ok (if (T t).k.agg then .agg ((List.range (T t).size).map g).toArray else g 0) w := by
  simp only [loadVar, Sem.run_bind, run_isAggT hT w hk, Result.andThen_ok]
  cases ha : (T t).k.agg with
  | true =>
    simp only [if_true, Sem.run_bind, run_sizeT hT w hk, Result.andThen_ok]
    rw [run_loadCells w ⟨b, o, none⟩ (T t).size g (fun j hj => by rw [addr_add]; exact h j hj)]
    rfl
  | false =>
    have h1 := size_one hT hk ha
    simp only [Bool.false_eq_true, if_false]
    have := h 0 (by omega)
    simp only [Nat.add_zero] at this
    simp [run_load, this]

theorem loadA_out {t : TypeId} {x : AV} {hp : Nat → Option Blk} {K : AV → Prop} (h : loadA T t x hp K) :
    ∃ av, K av ∧ ∀ (own : Nat → Prop) (M : Mem) (ι : Inj) (w : World) (v : Value), Agree M w → HRel own M ι hp w → DenA M ι x v → ∃ r, (Instr.loadAt t v).run P w = .ok r w ∧ DenA M ι av r := by
  unfold loadA at h
  have hk : (T t).k.known = true := by
    cases hg : (T t).k.known with
    | true => rfl
    | false => simp [hg] at h
  simp only [hk, cond_true] at h
  have h1 := size_one hT hk
  unfold loadB at h
  split at h
  · rename_i b i j
    split at h
    · rename_i c fr hb
      obtain ⟨hi0, h2⟩ := condK_out h
      subst hi0
      obtain ⟨av, k, hl, hd⟩ := partA_out h2 h1
      refine ⟨av, k, fun own M ι w v ha hh hv => ?_⟩
      cases hv with
      | ptr _ _ _ L hL =>
        obtain ⟨_, cs, Ty, hheap, hsz, hL1, hL2, hbox, _⟩ := hh.at_ b _ L hb hL
        obtain ⟨g, hg, hden⟩ := hd M ι (fun i => cs[i]?) (fun i x hx => hbox.den i x hx)
        refine ⟨_, ?_, hden⟩
        simp only [Instr.loadAt, Instr.sureAddr, Sem.run_bind, Sem.run_pure, Result.andThen_ok]
        exact run_loadVarT hT hk w _ _ g fun i hi => by rw [cell_of_heap hheap]; simpa using hg i hi
      | ptrL _ _ _ _ hL => rw [(hh.dom b).2 hL] at hb; cases hb
    · rename_i l sz fr hb
      obtain ⟨e, he, h⟩ := getRow_out h
      obtain ⟨av, k, hl, hd⟩ := partD_out h h1
      refine ⟨av, k, fun own M ι w v ha hh hv => ?_⟩
      cases hv with
      | ptr _ _ _ L hL =>
        obtain ⟨_, cs, Ty, hheap, hsz, hL1, hL2, hle, hrow, _⟩ := hh.at_ b _ L hb hL
        obtain ⟨g, hg, hden⟩ := hd M ι (fun j => cs[i * sz + j]?) (fun j x hx => hrow.den i j e x he hx)
        refine ⟨_, ?_, hden⟩
        simp only [Instr.loadAt, Instr.sureAddr, Sem.run_bind, Sem.run_pure, Result.andThen_ok]
        subst hL1
        exact run_loadVarT hT hk w _ _ g fun i hi => by rw [cell_of_heap hheap]; simpa [Nat.add_assoc] using hg i hi
      | ptrL _ _ _ _ hL => rw [(hh.dom b).2 hL] at hb; cases hb
    · exact h.elim
  · rename_i e j
    obtain ⟨av, k, hl, hd⟩ := partD_out h h1
    refine ⟨av, k, fun own M ι w v ha hh hv => ?_⟩
    cases hv with
    | d _ _ hv =>
      cases hv with
      | dp _ _ b off val hm hdd =>
        obtain ⟨g, hg, hden⟩ := hd M ι (fun i => w.cell? ⟨b, off + i, none⟩) (fun i x hx => ⟨val i, ha _ _ _ (hm i x hx), hdd i x hx⟩)
        refine ⟨_, ?_, hden⟩
        simp only [Instr.loadAt, Instr.sureAddr, Sem.run_bind, Sem.run_pure, Result.andThen_ok]
        exact run_loadVarT hT hk w _ _ g fun i hi => by simpa [Nat.add_assoc] using hg i hi
  · exact h.elim

theorem binA_out {t : TypeId} {op : BinOp} {x y : AV} {K : AV → Prop} (h : binA T t op x y K) :
    ∃ av, K av ∧ ∀ (M : Mem) (ι : Inj) (v u : Value), DenA M ι x v → DenA M ι y u → ∀ (X Y : Operand) (w : World), ∃ r, (do eqGuard op t X Y v u; binOp op t v u : Sem Value).run P w = .ok r w ∧ DenA M ι av r := by
  have boolCase : ∀ (a b : Bool) (r : Bool), (T t).k = .bool → (op = .eql ∧ r = (a == b) ∨ op = .neq ∧ r = !(a == b)) → ∀ (X Y : Operand) (w : World), (do eqGuard op t X Y (.bool a) (.bool b); binOp op t (.bool a) (.bool b) : Sem Value).run P w = .ok (.bool r) w := by
    intro a b r hk hr X Y w
    have hu := und_bool hT hk
    rcases hr with ⟨rfl, rfl⟩ | ⟨rfl, rfl⟩
    · simp [eqGuard, binOp, Op.equal, Op.maxDepth, run_equalIn_bool w 9999 t a b hu]
    · simp [eqGuard, binOp, Op.equal, Op.maxDepth, run_equalIn_bool w 9999 t a b hu]
  unfold binA at h
  split at h
  · rename_i k a
    split at h
    · rename_i k' b
      cases hs : isShift op with
      | true =>
        simp only [hs, cond_true] at h
        obtain ⟨n, hK, hr⟩ := shiftA_out (P := P) (k' := k') h t
        refine ⟨_, hK, fun M ι v u hv hu X Y w => ?_⟩
        rw [den_int hv, den_int hu]
        exact ⟨_, hr X Y w, .d _ _ (.int _ _)⟩
      | false =>
        simp only [hs, cond_false] at h
        cases hkk : Nat.beq (kcode k) (kcode k') with
        | false => simp [hkk] at h
        | true =>
          simp only [hkk, cond_true] at h
          have := kcode_inj hkk
          subst this
          obtain ⟨d, hK, hr, hd⟩ := intA_out (P := P) h t
          refine ⟨_, hK, fun M ι v u hv hu X Y w => ?_⟩
          rw [den_int hv, den_int hu]
          refine ⟨_, hr X Y w, ?_⟩
          rcases hd with ⟨n, rfl⟩ | ⟨b, rfl⟩
          · exact .d _ _ (.int _ _)
          · exact .d _ _ (.bool _)
    · exact h.elim
  · rename_i a
    split at h
    · rename_i b
      obtain ⟨d, hK, hr, hd⟩ := strA_out (P := P) h t
      refine ⟨_, hK, fun M ι v u hv hu X Y w => ?_⟩
      rw [den_str hv, den_str hu]
      refine ⟨_, hr X Y w, ?_⟩
      rcases hd with ⟨n, rfl⟩ | ⟨b, rfl⟩
      · exact .d _ _ (.str _)
      · exact .d _ _ (.bool _)
    · exact h.elim
  · rename_i a
    split at h
    · rename_i hkb
      obtain ⟨b, h, hbo⟩ := boolOf_out h
      obtain ⟨r, hK, hr⟩ := boolA_out h
      refine ⟨_, hK, fun M ι v u hv hu X Y w => ?_⟩
      rw [den_bool hv, hbo M ι u hu]
      exact ⟨_, boolCase a b r hkb hr X Y w, .d _ _ (.bool _)⟩
    · exact h.elim
  · split at h
    · rename_i hkb
      obtain ⟨b, h, hbo⟩ := boolOf_out h
      obtain ⟨r, hK, hr⟩ := boolA_out h
      refine ⟨_, hK, fun M ι v u hv hu X Y w => ?_⟩
      cases hv with
      | tt =>
        rw [hbo M ι u hu]
        exact ⟨_, boolCase true b r hkb hr X Y w, .d _ _ (.bool _)⟩
    · exact h.elim
  · split at h
    · rename_i hkb
      obtain ⟨b, h, hbo⟩ := boolOf_out h
      obtain ⟨r, hK, hr⟩ := boolA_out h
      refine ⟨_, hK, fun M ι v u hv hu X Y w => ?_⟩
      cases hv with
      | ff =>
        rw [hbo M ι u hu]
        exact ⟨_, boolCase false b r hkb hr X Y w, .d _ _ (.bool _)⟩
    · exact h.elim
  · rename_i c
    split at h
    · rename_i c'
      have fin : ∀ (K' : Bool → Prop), (bif (T t).k.agg then eqA T 9999 t c c' K' else False) → ∃ b, K' b ∧ ∀ (M : Mem) (ι : Inj) (v u : Value), DenA M ι (.agg c) v → DenA M ι (.agg c') u → ∀ (X Y : Operand) (w : World),
          ((eqGuard op t X Y v u).run P w = .ok () w ∧ ∃ vs us, v = .agg vs ∧ u = .agg us ∧ (Op.equalIn 10000 t (.agg vs) (.agg us)).run P w = .ok b w) := by
        intro K' h
        have hagg : (T t).k.agg = true := by
          cases hg : (T t).k.agg with
          | true => rfl
          | false => simp [hg] at h
        simp only [hagg, cond_true] at h
        obtain ⟨hk, b, hK, hd⟩ := eqA_out hT _ _ _ _ _ h
        refine ⟨b, hK, fun M ι v u hv hu X Y w => ?_⟩
        obtain ⟨vs, rfl, s1, d1⟩ := den_agg_inv hv
        obtain ⟨us, rfl, s2, d2⟩ := den_agg_inv hu
        have := hd M ι vs us s1 s2 d1 d2 9999 w (Nat.le_refl _)
        simp only [hagg, if_true] at this
        obtain ⟨_, _, _, _, _, _, _, _, _, _, _, _, hg, _⟩ := (tyFact hT hk).desc
        exact ⟨run_eqGuard_agg w op t X Y vs us hg, vs, us, rfl, rfl, this⟩
      split at h
      · obtain ⟨b, hK, hd⟩ := fin _ h
        refine ⟨_, hK, fun M ι v u hv hu X Y w => ?_⟩
        obtain ⟨hg, vs, us, rfl, rfl, he⟩ := hd M ι v u hv hu X Y w
        exact ⟨_, by rw [Sem.run_bind, hg, Result.andThen_ok, run_eql_struct, he]; rfl, .d _ _ (.bool _)⟩
      · obtain ⟨b, hK, hd⟩ := fin _ h
        refine ⟨_, hK, fun M ι v u hv hu X Y w => ?_⟩
        obtain ⟨hg, vs, us, rfl, rfl, he⟩ := hd M ι v u hv hu X Y w
        exact ⟨_, by rw [Sem.run_bind, hg, Result.andThen_ok, run_neq_struct, he]; rfl, .d _ _ (.bool _)⟩
      · exact h.elim
    · exact h.elim
  · exact h.elim
end
end Go.Lk

namespace Go.Lk
open Go Go.RowKit

section
variable {P : Program} {T : Tab} (hT : TabOk P T)
include hT

theorem fieldOff_out {s : TypeId} {f : Nat} {K : Nat → TypeId → Prop} (h : fieldOff T s f K) :
    ∃ (F : Array Field) (fl : Field), P.underlying s = some (.struct F) ∧ F[f]? = some fl ∧ (T fl.type).k.known = true ∧ K fl.offset fl.type := by
  unfold fieldOff at h
  split at h
  · rename_i fs hk
    obtain ⟨F, hu, hF, hkn, _⟩ := und_struct hT hk
    split at h
    · rename_i o t ht
      rw [← hF, List.getElem?_map] at ht
      cases hf : F.toList[f]? with
      | none => simp [hf] at ht
      | some fl =>
        simp only [hf, Option.map_some, Option.some.injEq, Prod.mk.injEq] at ht
        obtain ⟨rfl, rfl⟩ := ht
        refine ⟨F, fl, hu, by simpa using hf, hkn (fl.offset, fl.type) ?_, h⟩
        rw [← hF]
        exact List.mem_map.2 ⟨fl, List.mem_of_getElem? hf, rfl⟩
    · exact h.elim
  · exact h.elim

theorem run_fieldPlaceT {b o : Nat} {f : Field} (hz : (T f.type).k.known = true) (w : World) : (fieldPlace ⟨b, o, none⟩ f).run P w = .ok ⟨b, o + f.offset, none⟩ w := by
  have := size_pos hT hz
  simp only [fieldPlace, Sem.run_bind, run_sizeT hT w hz, Result.andThen_ok]
  rw [if_neg (by omega), Sem.run_pure, addr_add]

theorem fieldAt_out {s : TypeId} {f : Nat} {F : Array Field} {fl : Field} (hu : P.underlying s = some (.struct F)) (hf : F[f]? = some fl) (hz : (T fl.type).k.known = true) (b o : Nat) (w : World) :
    (Instr.fieldAt s (.pointer (some ⟨b, o, none⟩)) f).run P w = .ok (.pointer (some ⟨b, o + fl.offset, none⟩)) w := by
  simp [Instr.fieldAt, run_underlying hu, hf, Instr.sureAddr, run_fieldPlaceT hT hz]

theorem indexAddrA_out {t : TypeId} {x i : AV} {hp : Nat → Option Blk} {K : AV → Prop} (h : indexAddrA T t x i hp K) :
    ∃ av, K av ∧ ∀ (own : Nat → Prop) (M : Mem) (ι : Inj) (w : World) (v u : Value), HRel own M ι hp w → DenA M ι x v → DenA M ι i u → ∃ r, (Instr.indexAt t v u).run P w = .ok r w ∧ DenA M ι av r := by
  unfold indexAddrA at h
  split at h
  · rename_i ik n
    split at h
    · rename_i el hk
      obtain ⟨hu, hke⟩ := und_slice hT hk
      split at h
      · rename_i l
        obtain ⟨h0, h1, h⟩ := idxK_out h
        obtain ⟨e, he, h⟩ := getRow_out h
        cases hs : Nat.beq e.length (T el).size with
        | false => simp [hs] at h
        | true =>
          simp only [hs, cond_true] at h
          have hsz := Nat.eq_of_beq_eq_true hs
          refine ⟨_, h, fun own M ι w v u hh hv hi => ?_⟩
          rw [den_int hi]
          cases hv with
          | d _ _ hv =>
            cases hv with
            | emp a c => simp at h1; omega
            | lst _ b off cap sz val hl hs hm hd =>
              have e1 := hs _ _ he
              refine ⟨.pointer (some ⟨b, off + n.toNat * sz + 0, none⟩), ?_, .d _ _ (.dp _ _ _ _ (val n.toNat) (fun j d hj => ?_) fun j d hj => ?_)⟩
              · simp [Instr.indexAt, asIntOf, run_underlying hu, h0, h1, run_sizeT hT w hke, addr_add, ← hsz, e1]
              · exact hm _ j e d he hj
              · exact hd _ j e d he hj
      · rename_i b
        split at h
        · rename_i l sz fr hb
          cases hs : Nat.beq sz (T el).size with
          | false => simp [hs] at h
          | true =>
            simp only [hs, cond_true] at h
            have hsz := Nat.eq_of_beq_eq_true hs
            obtain ⟨h0, h1, h⟩ := idxK_out h
            refine ⟨_, h, fun own M ι w v u hh hv hi => ?_⟩
            rw [den_int hi]
            cases hv with
            | own _ L cap hL hn hc =>
              obtain ⟨_, cs, Ty, hheap, hsz2, hL1, hL2, hle, hrow, _⟩ := hh.at_ b _ L hb hL
              refine ⟨.pointer (some ⟨L.blk, n.toNat * L.sz + 0, none⟩), ?_, .ptr b n.toNat 0 L hL⟩
              simp [Instr.indexAt, asIntOf, run_underlying hu, h0, ← hL2, h1, run_sizeT hT w hke, addr_add, ← hL1, ← hsz]
            | ownE _ a hL =>
              obtain ⟨sz', fr', hb'⟩ := hh.virt b hL
              rw [hb] at hb'
              cases hb'
              simp at h1; omega
            | ownL _ _ hL => rw [(hh.dom b).2 hL] at hb; cases hb
        · exact h.elim
      · rename_i b lo m c0
        split at h
        · rename_i l sz fr hb
          cases hs : Nat.beq sz (T el).size with
          | false => simp [hs] at h
          | true =>
            simp only [hs, cond_true] at h
            have hsz := Nat.eq_of_beq_eq_true hs
            obtain ⟨h0, h1, h⟩ := idxK_out h
            refine ⟨_, h, fun own M ι w v u hh hv hi => ?_⟩
            rw [den_int hi]
            cases hv with
            | win _ _ _ _ L k base hL hn hc hk hbase =>
              obtain ⟨_, cs, Ty, hheap, hsz2, hL1, hL2, hle, hrow, _⟩ := hh.at_ b _ L hb hL
              have hbs : base = lo * L.sz := hbase.resolve_right fun h => by omega
              subst hbs
              refine ⟨.pointer (some ⟨L.blk, (lo + n.toNat) * L.sz + 0, none⟩), ?_, .ptr b (lo + n.toNat) 0 L hL⟩
              simp [Instr.indexAt, asIntOf, run_underlying hu, h0, h1, run_sizeT hT w hke, addr_add, ← hL1, ← hsz, Nat.add_mul]
            | winL _ _ _ _ _ hL => rw [(hh.dom b).2 hL] at hb; cases hb
        · exact h.elim
      · exact h.elim
    · rename_i m e hk
      obtain ⟨hu, hke⟩ := und_arr hT hk
      split at h
      · rename_i b i0 j
        split at h
        · rename_i B hb
          obtain ⟨h0, h1, h⟩ := idxK_out h
          refine ⟨_, h, fun own M ι w v u hh hv hi => ?_⟩
          rw [den_int hi]
          cases hv with
          | ptr _ _ _ L hL =>
            refine ⟨.pointer (some ⟨L.blk, i0 * L.sz + (j + n.toNat * (T e).size), none⟩), ?_, .ptr b i0 _ L hL⟩
            simp [Instr.indexAt, asIntOf, run_underlying hu, h0, h1, run_sizeT hT w hke, addr_add, Instr.sureAddr, Nat.add_assoc]
          | ptrL _ _ _ _ hL => rw [(hh.dom b).2 hL] at hb; cases hb
        · exact h.elim
      · rename_i c j
        obtain ⟨h0, h1, h⟩ := idxK_out h
        refine ⟨_, h, fun own M ι w v u hh hv hi => ?_⟩
        rw [den_int hi]
        cases hv with
        | d _ _ hv =>
          cases hv with
          | dp _ _ b off val hm hd =>
            refine ⟨.pointer (some ⟨b, off + (j + n.toNat * (T e).size), none⟩), ?_, .d _ _ (.dp _ _ _ _ val hm hd)⟩
            simp [Instr.indexAt, asIntOf, run_underlying hu, h0, h1, run_sizeT hT w hke, addr_add, Instr.sureAddr, Nat.add_assoc]
      · exact h.elim
    · exact h.elim
  · exact h.elim

theorem indexA_out {t : TypeId} {x i : AV} {K : AV → Prop} (h : indexA T t x i K) :
    ∃ av, K av ∧ ∀ (M : Mem) (ι : Inj) (w : World) (v u : Value), DenA M ι x v → DenA M ι i u → ∃ r, (Instr.index t v u).run P w = .ok r w ∧ DenA M ι av r := by
  unfold indexA at h
  split at h
  · rename_i ik n
    split at h
    · rename_i s
      split at h
      · rename_i hk
        have hu := und_str hT hk
        obtain ⟨h0, h1, h⟩ := idxK_out h
        refine ⟨_, h, fun M ι w v u hv hi => ?_⟩
        rw [den_int hi, den_str hv]
        have hlt : n.toNat < s.size := by omega
        refine ⟨.int .u8 ((s.data.getD n.toNat 0).toNat), ?_, .d _ _ (.int _ _)⟩
        have e : s[n.toNat]? = some (s.data.getD n.toNat 0) := by
          rw [getElem?_pos s n.toNat hlt]
          simp only [Array.getD, show n.toNat < s.data.size from hlt, dif_pos]
          rfl
        simp [Instr.index, asIntOf, run_underlying hu, h0, e]
      · exact h.elim
    · rename_i c
      split at h
      · rename_i m e hk
        obtain ⟨hua, hke⟩ := und_arr hT hk
        obtain ⟨h0, h1, h⟩ := idxK_out h
        obtain ⟨av, k, hl, hd⟩ := partA_out h (size_one hT hke)
        refine ⟨av, k, fun M ι w v u hv hi => ?_⟩
        rw [den_int hi]
        obtain ⟨vs, rfl, hs, hdv⟩ := den_agg_inv hv
        obtain ⟨g, hg, hden⟩ := hd M ι (fun i => vs[i]?) (fun i x hx => by
          have hlt : i < vs.size := by rw [hs]; exact (List.getElem?_eq_some_iff.1 hx).1
          exact ⟨vs[i], by simp [hlt], hdv i x _ hx (by simp [hlt])⟩)
        refine ⟨_, ?_, hden⟩
        simp only [Instr.index, asIntOf, Sem.run_bind, Sem.run_pure, Result.andThen_ok, run_underlying hua, h0, h1, and_self, if_true, run_sizeT hT w hke, part, run_isAggT hT w hke]
        cases ha : (T e).k.agg with
        | true =>
          simp only [if_true, Sem.run_bind, run_sizeT hT w hke, Result.andThen_ok, Sem.run_pure]
          congr 2
          apply Array.ext_getElem?
          intro i
          rw [Array.getElem?_extract]
          simp only [List.getElem?_toArray, List.getElem?_map]
          split
          · rename_i hi
            rw [hg i (by omega), List.getElem?_range (by omega)]; rfl
          · rename_i hi
            rw [List.getElem?_eq_none (by simp; omega)]; rfl
        | false =>
          have := hg 0 (by have := size_pos hT hke; omega)
          simp only [Nat.add_zero] at this
          simp [this]
      · exact h.elim
    · exact h.elim
  · exact h.elim

/-! ### slicing -/
omit hT in
theorem run_boundsOk {x : Int} {y : Nat} {code : BoundsCode} {k : IntKind} (w : World) (h0 : 0 ≤ x) (h1 : x ≤ y) : (Instr.sliceBound (.int k x) y code).run P w = .ok x.toNat w := by
  simp [Instr.sliceBound, asIntOf, h0, h1]

omit hT in
theorem run_sliceBoundsT {isS : Bool} {len cap : Nat} {lo hi : Option Int} {k1 k2 : IntKind} (w : World) (h0 : 0 ≤ lo.getD 0) (h1 : lo.getD 0 ≤ hi.getD len) (h2 : hi.getD len ≤ len) (hc : len ≤ cap) :
    (Instr.sliceBounds isS len cap (lo.map (.int k1)) (hi.map (.int k2)) none).run P w = .ok ((lo.getD 0).toNat, (hi.getD len).toNat, cap) w := by
  cases lo with
  | none =>
    cases hi with
    | none => simp [Instr.sliceBounds]
    | some h =>
      simp only [Option.getD_some, Option.getD_none] at h0 h1 h2
      simp [Instr.sliceBounds, run_boundsOk (P := P) w (x := h) (y := cap) (k := k2) h1 (by omega)]
  | some l =>
    cases hi with
    | none =>
      simp only [Option.getD_some, Option.getD_none] at h0 h1 h2
      simp [Instr.sliceBounds, run_boundsOk (P := P) w (x := l) (y := len) (k := k1) h0 (by omega)]
    | some h =>
      simp only [Option.getD_some] at h0 h1 h2
      simp [Instr.sliceBounds, run_boundsOk (P := P) w (x := h) (y := cap) (k := k2) (by omega) (by omega), run_boundsOk (P := P) w (x := l) (y := h.toNat) (k := k1) h0 (by omega)]
end
end Go.Lk


/-
  What is proved here: what an abstract value stands for, operation by operation, first part; no condition beyond each theorem's own.
-/
import Derived.Test.YtmkjebpdcclfdaaFa
import Derived.Laws.StructEq
set_option linter.unusedSectionVars false
set_option linter.unusedSimpArgs false
set_option linter.unusedVariables false
set_option linter.unnecessarySimpa false
namespace Go.Lk
open Go Go.RowKit

/-! ### the table of types -/
def kindChk : TypeDesc → TK → Bool
  | .int k, .int k' => Nat.beq (kcode k) (kcode k')
  | .bool, .bool => true
  | .string, .str => true
  | .slice e, .slice e' => Nat.beq e e'
  | .array n e, .arr n' e' => Nat.beq n n' && Nat.beq e e'
  | .struct F, .struct fs => F.toList.map (fun f => (f.offset, f.type)) == fs && F.toList.all (fun f => f.name != "_")
  | .pointer e, .ptr e' => Nat.beq e e'
  | _, _ => false
def vD : Value → Option D
  | .int k n => some (.int k n)
  | .bool b => some (.bool b)
  | .string s => bif Nat.beq s.size 0 then some (.str .empty) else none
  | .slice none 0 0 => some (.lst [])
  | .pointer none => some .nilp
  | _ => none
def dEq : D → D → Bool
  | .int k n, .int k' n' => Nat.beq (kcode k) (kcode k') && n == n'
  | .bool b, .bool b' => b == b'
  | .str _, .str s => Nat.beq s.size 0
  | .lst [], .lst [] => true
  | .nilp, .nilp => true
  | _, _ => false
def zeroChk : List Value → List D → Bool
  | [], [] => true
  | v :: vs, d :: ds => (match vD v with | some d' => dEq d' d | none => false) && zeroChk vs ds
  | _, _ => false
def elemsKnown (T : Tab) : TK → Bool
  | .slice e => (T e).k.known
  | .arr _ e => (T e).k.known
  | .struct fs => fs.all fun p => (T p.2).k.known
  | _ => true
def tyChk (P : Program) (T : Tab) (t : TypeId) (I : TyI) : Bool :=
  match P.underlying t, P.info? t with
  | some d, some i => kindChk d I.k && Nat.beq i.size I.size && Nat.beq i.bytes I.bytes && (match i.zero with | some z => zeroChk z.cells.toList I.zero | none => false) && elemsKnown T I.k && Nat.ble I.bytes 1048576 && Nat.beq I.zero.length I.size && !(P.stoodInHeld t) && !(P.eqGuardType P.depth t) && (I.k.agg || Nat.beq I.size 1) && Nat.blt 0 I.size
  | _, _ => false

inductive TT where
  | leaf
  | node (t : TypeId) (I : TyI) (l r : TT)
def TT.get (t : TypeId) : TT → TyI
  | .leaf => ⟨.other, 0, 0, []⟩
  | .node t' I l r => bif Nat.beq t t' then I else bif Nat.blt t t' then l.get t else r.get t
def TT.all (p : TypeId → TyI → Bool) : TT → Bool
  | .leaf => true
  | .node t I l r => p t I && (l.all p && r.all p)

theorem TT.get_all {p : TypeId → TyI → Bool} {t : TypeId} : ∀ {x : TT}, x.all p = true → (TT.get t x).k.known = true → p t (TT.get t x) = true
  | .leaf, _, h => by simp [TT.get, TK.known] at h
  | .node t' I l r, h, hk => by
    simp only [TT.all, Bool.and_eq_true] at h
    simp only [TT.get] at hk ⊢
    cases hb : Nat.beq t t' with
    | true =>
      have : t = t' := Nat.eq_of_beq_eq_true hb
      subst this
      simpa [hb] using h.1
    | false =>
      simp only [hb, cond_false] at hk ⊢
      cases hl : Nat.blt t t' with
      | true => simp only [hl, cond_true] at hk ⊢; exact TT.get_all h.2.1 hk
      | false => simp only [hl, cond_false] at hk ⊢; exact TT.get_all h.2.2 hk

def TabOk (P : Program) (T : Tab) : Prop := ∀ t, (T t).k.known = true → tyChk P T t (T t) = true

theorem tabOk_of {P : Program} {x : TT} (h : (x.all (tyChk P fun t => x.get t)) = true) : TabOk P fun t => x.get t :=
  fun _ hk => TT.get_all h hk

theorem kcode_inj {k k' : IntKind} (h : Nat.beq (kcode k) (kcode k') = true) : k = k' := by
  have := Nat.eq_of_beq_eq_true h
  cases k <;> cases k' <;> first | rfl | simp [kcode] at this

structure TyFact (P : Program) (T : Tab) (t : TypeId) : Prop where
  desc : ∃ d i, P.underlying t = some d ∧ P.info? t = some i ∧ kindChk d (T t).k = true ∧ i.size = (T t).size ∧ i.bytes = (T t).bytes ∧
    (∃ z, i.zero = some z ∧ zeroChk z.cells.toList (T t).zero = true) ∧ elemsKnown T (T t).k = true ∧ (T t).bytes ≤ 1048576 ∧ (T t).zero.length = (T t).size ∧ P.stoodInHeld t = false ∧ P.eqGuardType P.depth t = false ∧ ((T t).k.agg = false → (T t).size = 1) ∧ 0 < (T t).size

theorem tyFact {P : Program} {T : Tab} (hT : TabOk P T) {t : TypeId} (hk : (T t).k.known = true) : TyFact P T t := by
  have h := hT t hk
  unfold tyChk at h
  cases hu : P.underlying t with
  | none => simp [hu] at h
  | some d =>
    cases hi : P.info? t with
    | none => simp [hu, hi] at h
    | some i =>
      simp only [hu, hi, Bool.and_eq_true] at h
      obtain ⟨⟨⟨⟨⟨⟨⟨⟨⟨⟨h1, h2⟩, h3⟩, h4⟩, h5⟩, h6⟩, h7⟩, h8⟩, h9⟩, h10⟩, h11⟩ := h
      refine ⟨d, i, by first | rfl | assumption, by first | rfl | assumption, h1, Nat.eq_of_beq_eq_true h2, Nat.eq_of_beq_eq_true h3, ?_, h5, Nat.le_of_ble_eq_true h6, Nat.eq_of_beq_eq_true h7, by simpa using h8, by simpa using h9, fun hg => by simpa [hg] using h10, by have h12 := h11; simp [Nat.blt] at h12; exact h12⟩
      cases hz : i.zero with
      | none => simp [hz] at h4
      | some z => exact ⟨z, rfl, by simpa [hz] using h4⟩

section
variable {P : Program} {T : Tab} (hT : TabOk P T) {t : TypeId} (w : World)
include hT

theorem und_slice {e : TypeId} (h : (T t).k = .slice e) : P.underlying t = some (.slice e) ∧ (T e).k.known = true := by
  obtain ⟨d, i, hu, _, hk, _, _, _, he, _⟩ := (tyFact hT (t := t) (by rw [h]; rfl)).desc
  rw [h] at hk he
  cases d <;> simp [kindChk] at hk
  subst hk
  exact ⟨hu, by simpa [elemsKnown] using he⟩
theorem und_arr {n : Nat} {e : TypeId} (h : (T t).k = .arr n e) : P.underlying t = some (.array n e) ∧ (T e).k.known = true := by
  obtain ⟨d, i, hu, _, hk, _, _, _, he, _⟩ := (tyFact hT (t := t) (by rw [h]; rfl)).desc
  rw [h] at hk he
  cases d <;> simp [kindChk] at hk
  obtain ⟨rfl, rfl⟩ := hk
  exact ⟨hu, by simpa [elemsKnown] using he⟩
theorem und_struct {fs : List (Nat × TypeId)} (h : (T t).k = .struct fs) :
    ∃ F, P.underlying t = some (.struct F) ∧ F.toList.map (fun f => (f.offset, f.type)) = fs ∧ (∀ p ∈ fs, (T p.2).k.known = true) ∧ ∀ f ∈ F.toList, f.name ≠ "_" := by
  obtain ⟨d, i, hu, _, hk, _, _, _, he, _⟩ := (tyFact hT (t := t) (by rw [h]; rfl)).desc
  rw [h] at hk he
  cases d <;> simp [kindChk] at hk
  rename_i F
  refine ⟨F, hu, hk.1, ?_, ?_⟩
  · simp only [elemsKnown, List.all_eq_true] at he
    exact he
  · intro f hf
    obtain ⟨i, hi, rfl⟩ := List.getElem_of_mem hf
    simpa using hk.2 i (by simpa using hi)
theorem und_int {k : IntKind} (h : (T t).k = .int k) : P.underlying t = some (.int k) := by
  obtain ⟨d, i, hu, _, hk, _⟩ := (tyFact hT (t := t) (by rw [h]; rfl)).desc
  rw [h] at hk
  cases d <;> simp [kindChk] at hk
  rename_i k'
  rw [hu, kcode_inj (k := k') (k' := k) (by simpa using hk)]
theorem und_bool (h : (T t).k = .bool) : P.underlying t = some .bool := by
  obtain ⟨d, i, hu, _, hk, _⟩ := (tyFact hT (t := t) (by rw [h]; rfl)).desc
  rw [h] at hk
  cases d <;> simp [kindChk] at hk
  exact hu
theorem size_one (h : (T t).k.known = true) (ha : (T t).k.agg = false) : (T t).size = 1 := by
  obtain ⟨d, i, _, _, _, _, _, _, _, _, _, _, _, h1, _⟩ := (tyFact hT h).desc
  exact h1 ha
theorem size_pos (h : (T t).k.known = true) : 0 < (T t).size := by
  obtain ⟨d, i, _, _, _, _, _, _, _, _, _, _, _, _, h1⟩ := (tyFact hT h).desc
  exact h1
theorem zero_len (h : (T t).k.known = true) : (T t).zero.length = (T t).size := by
  obtain ⟨d, i, _, _, _, _, _, _, _, _, h1, _⟩ := (tyFact hT h).desc
  exact h1
theorem und_str (h : (T t).k = .str) : P.underlying t = some .string := by
  obtain ⟨d, i, hu, _, hk, _⟩ := (tyFact hT (t := t) (by rw [h]; rfl)).desc
  rw [h] at hk
  cases d <;> simp [kindChk] at hk
  exact hu
theorem run_isAggT (h : (T t).k.known = true) : (isAgg t).run P w = .ok (T t).k.agg w := by
  obtain ⟨d, i, hu, _, hk, _⟩ := (tyFact hT h).desc
  simp only [isAgg, Sem.run_bind, run_underlying hu, Result.andThen_ok]
  generalize (T t).k = k at hk
  cases d <;> cases k <;> simp_all [kindChk, TK.agg]
theorem run_sizeT (h : (T t).k.known = true) : (sizeOf t).run P w = .ok (T t).size w := by
  obtain ⟨d, i, _, hi, _, hs, _⟩ := (tyFact hT h).desc
  simp [sizeOf, typeInfo, hi, hs]
theorem run_zeroT (h : (T t).k.known = true) : ∃ z, (zeroValue t).run P w = .ok z w ∧ zeroChk z.cells.toList (T t).zero = true := by
  obtain ⟨d, i, _, hi, _, _, _, ⟨z, hz, hc⟩, _⟩ := (tyFact hT h).desc
  exact ⟨z, by simp [zeroValue, typeInfo, hi, hz], hc⟩
end
end Go.Lk

set_option linter.unusedSimpArgs false
set_option linter.unusedVariables false
set_option linter.unnecessarySimpa false
namespace Go.Lk
open Go Go.RowKit

/-! ### what an operation's effect means -/
def Post (own : Nat → Prop) (M : Mem) (ι : Inj) (hp : Nat → Option Blk) (w : World) (e : Eff) (v : Value) (w' : World) : Prop :=
  ∃ (M' : Mem) (ι' : Inj), FrameOwn own w w' ∧ Sub M M' ∧ Agree M' w' ∧ NewDom own M M' ∧ HRel own M' ι' (e.hp hp) w' ∧ (∀ b, Kp e.kl b → ι' b = ι b) ∧ DenA M' ι' e.av v

def OpSem (P : Program) (o : Oper) (ρ : Operand → AV) (hp : Nat → Option Blk) (e : Eff) : Prop :=
  ∀ (own : Nat → Prop) (M : Mem) (ι : Inj) (a : Act) (w : World), (∀ c, w.heap.size ≤ c → own c) → Agree M w → HRel own M ι hp w → (∀ x, DenA M ι (ρ x) (a.eval x)) →
    o.wp P a w (fun a' w' => ∃ v, a' = a.put o.dst v ∧ Post own M ι hp w e v w') (fun _ _ _ => False)

theorem Sub.refl (M : Mem) : Sub M M := fun _ _ _ h => h
theorem Sub.trans {M M' M'' : Mem} (h : Sub M M') (h' : Sub M' M'') : Sub M M'' := fun _ _ _ k => h' _ _ _ (h _ _ _ k)
theorem NewDom.refl (own : Nat → Prop) (M : Mem) : NewDom own M M := fun _ _ _ h => .inl h
theorem NewDom.trans {own : Nat → Prop} {M M' M'' : Mem} (h : NewDom own M M') (h' : NewDom own M' M'') : NewDom own M M'' := fun b o v k => (h' b o v k).elim (h b o v) .inr
theorem FrameOwn.refl (own : Nat → Prop) (w : World) : FrameOwn own w w := ⟨rfl, rfl, rfl, Nat.le_refl _, fun _ _ => rfl⟩
theorem FrameOwn.trans {own : Nat → Prop} {a b c : World} (h : FrameOwn own a b) (h' : FrameOwn own b c) : FrameOwn own a c :=
  ⟨h'.os.trans h.os, h'.tape.trans h.tape, h'.output.trans h.output, Nat.le_trans h.size h'.size, fun x hx => (h'.block x hx).trans (h.block x hx)⟩

theorem post_val {own : Nat → Prop} {M : Mem} {ι : Inj} {hp : Nat → Option Blk} {w : World} {av : AV} {v : Value} (ha : Agree M w) (hh : HRel own M ι hp w) (hd : DenA M ι av v) : Post own M ι hp w ⟨av, [], none⟩ v w :=
  ⟨M, ι, .refl _ _, .refl _, ha, .refl _ _, hh, fun _ _ => rfl, hd⟩

theorem opSem_val {P : Program} {o : Oper} {ρ : Operand → AV} {hp : Nat → Option Blk} {av : AV}
    (h : ∀ (own : Nat → Prop) (M : Mem) (ι : Inj) (a : Act) (w : World), Agree M w → HRel own M ι hp w → (∀ x, DenA M ι (ρ x) (a.eval x)) → ∃ v, (execOp a.eval o).run P w = .ok (.value v) w ∧ DenA M ι av v) :
    OpSem P o ρ hp ⟨av, [], none⟩ := by
  intro own M ι a w _ ha hh hρ
  obtain ⟨v, hr, hd⟩ := h own M ι a w ha hh hρ
  unfold Oper.wp
  rw [hr, Oper.upon_value]
  exact ⟨v, rfl, post_val ha hh hd⟩

/-! ### the small words of continuation -/
theorem force_out {v : AV} {K : AV → Prop} (h : force v K) : K v ∧ v ≠ .dead := by
  cases v <;> simp_all [force]
theorem bcase_out {b : Bool} {A B : Prop} (h : bcase b A B) : (b = true ∧ A) ∨ (b = false ∧ B) := by
  replace h := h.out
  cases b <;> simp_all
theorem wrapK_out {k : IntKind} {n : Int} {K : Int → Prop} (h : wrapK k n K) : K (k.wrap n) := h.out
theorem condK_out {c K : Prop} (h : condK c K) : c ∧ K := h.out
theorem getRow_out {l : List (List D)} {i : Nat} {K : List D → Prop} (h : getRow l i K) : ∃ e, l[i]? = some e ∧ K e := h.out
theorem idxK_out {i : Int} {n : Nat} {K : Nat → Prop} (h : idxK i n K) : 0 ≤ i ∧ i < n ∧ K i.toNat := h.out
theorem roomK_out {n b : Nat} {K : Prop} (h : roomK n b K) : n * b ≤ 35184372088832 ∧ n ≤ 35184372088832 ∧ K := h.out
theorem winK_out {lo hi : Option Int} {n c : Nat} {K : Nat → Nat → Prop} (h : winK lo hi n c K) : 0 ≤ lo.getD 0 ∧ lo.getD 0 ≤ hi.getD n ∧ hi.getD n ≤ c ∧ K (lo.getD 0).toNat (hi.getD n).toNat := h.out
theorem sliceK_out {lo hi : Option Int} {n : Nat} {K : Nat → Nat → Prop} (h : sliceK lo hi n K) :
    0 ≤ lo.getD 0 ∧ lo.getD 0 ≤ hi.getD n ∧ hi.getD n ≤ n ∧ K (lo.getD 0).toNat (hi.getD n).toNat := h.out
theorem divK_out {q : Bool} {k : IntKind} {a b : Int} {K : Int → Prop} (h : divK q k a b K) : b ≠ 0 ∧ K (if q then k.wrap (a.tdiv b) else a.tmod b) := h.out
theorem boolOf_out {v : AV} {K : Bool → Prop} (h : boolOf v K) : ∃ b, K b ∧ ∀ (M : Mem) (ι : Inj) (u : Value), DenA M ι v u → u = .bool b := by
  unfold boolOf at h
  split at h
  · rename_i b
    refine ⟨b, h, fun M ι u hd => ?_⟩
    cases hd with
    | d _ _ hd => cases hd; rfl
  · exact ⟨true, h, fun M ι u hd => by cases hd; rfl⟩
  · exact ⟨false, h, fun M ι u hd => by cases hd; rfl⟩
  · exact h.elim

theorem den_int {M : Mem} {ι : Inj} {k : IntKind} {n : Int} {v : Value} (h : DenA M ι (.d (.int k n)) v) : v = .int k n := by
  cases h with
  | d _ _ h => cases h; rfl
theorem den_str {M : Mem} {ι : Inj} {s : ByteArray} {v : Value} (h : DenA M ι (.d (.str s)) v) : v = .string s := by
  cases h with
  | d _ _ h => cases h; rfl
theorem den_bool {M : Mem} {ι : Inj} {s : Bool} {v : Value} (h : DenA M ι (.d (.bool s)) v) : v = .bool s := by
  cases h with
  | d _ _ h => cases h; rfl

/-! ### binary operations -/
section
variable {P : Program}

theorem intA_out {op : BinOp} {k : IntKind} {a b : Int} {K : AV → Prop} (h : intA op k a b K) (t : TypeId) :
    ∃ d : D, K (.d d) ∧ (∀ (x y : Operand) (w : World), (do eqGuard op t x y (.int k a) (.int k b); binOp op t (.int k a) (.int k b) : Sem Value).run P w = .ok (match d with | .int k n => .int k n | .bool b => .bool b | _ => undef) w) ∧ ((∃ n, d = .int k n) ∨ ∃ b, d = .bool b) := by
  unfold intA at h
  cases op <;> simp only at h
  case add => exact ⟨_, wrapK_out h, by simp [eqGuard, binOp, Op.intArith], .inl ⟨_, rfl⟩⟩
  case sub => exact ⟨_, wrapK_out h, by simp [eqGuard, binOp, Op.intArith], .inl ⟨_, rfl⟩⟩
  case mul => exact ⟨_, wrapK_out h, by simp [eqGuard, binOp, Op.intArith], .inl ⟨_, rfl⟩⟩
  case quo =>
    obtain ⟨h1, h2⟩ := divK_out h
    exact ⟨_, h2, by simp [eqGuard, binOp, Op.intDiv, h1], .inl ⟨_, rfl⟩⟩
  case rem =>
    obtain ⟨h1, h2⟩ := divK_out h
    exact ⟨_, h2, by simp [eqGuard, binOp, Op.intDiv, h1], .inl ⟨_, rfl⟩⟩
  case and => exact ⟨_, h, by simp [eqGuard, binOp, Op.intBits, bitsV], .inl ⟨_, rfl⟩⟩
  case or => exact ⟨_, h, by simp [eqGuard, binOp, Op.intBits, bitsV], .inl ⟨_, rfl⟩⟩
  case xor => exact ⟨_, h, by simp [eqGuard, binOp, Op.intBits, bitsV], .inl ⟨_, rfl⟩⟩
  case andNot => exact ⟨_, h, by simp [eqGuard, binOp, Op.intBits, bitsV], .inl ⟨_, rfl⟩⟩
  case eql => exact ⟨_, h, by intro x y w; simp [eqGuard, binOp, Op.intCmp]; rw [Bool.eq_iff_iff]; simp, .inr ⟨_, rfl⟩⟩
  case neq => exact ⟨_, h, by intro x y w; simp [eqGuard, binOp, Op.intCmp]; rw [Bool.eq_iff_iff]; simp, .inr ⟨_, rfl⟩⟩
  case lss => exact ⟨_, h, by intro x y w; simp [eqGuard, binOp, Op.intCmp], .inr ⟨_, rfl⟩⟩
  case leq => exact ⟨_, h, by intro x y w; simp [eqGuard, binOp, Op.intCmp], .inr ⟨_, rfl⟩⟩
  case gtr => exact ⟨_, h, by intro x y w; simp [eqGuard, binOp, Op.intCmp], .inr ⟨_, rfl⟩⟩
  case geq => exact ⟨_, h, by intro x y w; simp [eqGuard, binOp, Op.intCmp], .inr ⟨_, rfl⟩⟩

theorem shiftA_out {op : BinOp} {k k' : IntKind} {a b : Int} {K : AV → Prop} (h : shiftA op k a b K) (t : TypeId) :
    ∃ n : Int, K (.d (.int k n)) ∧ ∀ (x y : Operand) (w : World), (do eqGuard op t x y (.int k a) (.int k' b); binOp op t (.int k a) (.int k' b) : Sem Value).run P w = .ok (.int k n) w := by
  unfold shiftA at h
  cases op <;> simp only at h
  case shl =>
    obtain ⟨h1, h2⟩ := condK_out h
    exact ⟨_, wrapK_out h2, by intro x y w; simp [eqGuard, binOp, Op.shift, show ¬ b < 0 by omega]⟩
  case shr =>
    obtain ⟨h1, h2⟩ := condK_out h
    exact ⟨_, h2, by intro x y w; simp [eqGuard, binOp, Op.shift, show ¬ b < 0 by omega]⟩

theorem strA_out {op : BinOp} {a b : ByteArray} {K : AV → Prop} (h : strA op a b K) (t : TypeId) :
    ∃ d : D, K (.d d) ∧ (∀ (x y : Operand) (w : World), (do eqGuard op t x y (.string a) (.string b); binOp op t (.string a) (.string b) : Sem Value).run P w = .ok (match d with | .str s => .string s | .bool b => .bool b | _ => undef) w) ∧ ((∃ n, d = .str n) ∨ ∃ b, d = .bool b) := by
  have hdec : (a.toList == b.toList) = decide (a = b) := by
    rw [ByteArray.toList_eq, ByteArray.toList_eq, Bool.eq_iff_iff]
    obtain ⟨⟨x⟩⟩ := a
    obtain ⟨⟨y⟩⟩ := b
    simp
  unfold strA at h
  cases op <;> simp only at h
  case add =>
    obtain ⟨h1, h2⟩ := condK_out h
    exact ⟨_, h2, by intro x y w; simp [eqGuard, binOp, Op.stringOp]; omega, .inl ⟨_, rfl⟩⟩
  case eql => exact ⟨_, h, by intro x y w; simp [eqGuard, binOp, Op.stringOp, hdec], .inr ⟨_, rfl⟩⟩
  case neq => exact ⟨_, h, by intro x y w; simp [eqGuard, binOp, Op.stringOp, hdec], .inr ⟨_, rfl⟩⟩

theorem boolA_out {op : BinOp} {a b : Bool} {K : AV → Prop} (h : boolA op a b K) :
    ∃ r : Bool, K (.d (.bool r)) ∧ (op = .eql ∧ r = (a == b) ∨ op = .neq ∧ r = !(a == b)) := by
  unfold boolA at h
  cases op <;> simp only at h
  case eql => exact ⟨_, h, .inl ⟨rfl, rfl⟩⟩
  case neq => exact ⟨_, h, .inr ⟨rfl, rfl⟩⟩

/-! ### '==' of structs -/
variable {T : Tab} (hT : TabOk P T)

theorem den_cells_take {M : Mem} {ι : Inj} {x : List AV} {vs : Array Value} (hl : vs.size = x.length) (hd : ∀ (i : Nat) (a : AV) (v : Value), x[i]? = some a → vs[i]? = some v → DenA M ι a v) (o n : Nat) (h : o + n ≤ x.length) :
    (vs.extract o (o + n)).size = ((x.drop o).take n).length ∧ ∀ (i : Nat) (a : AV) (v : Value), ((x.drop o).take n)[i]? = some a → (vs.extract o (o + n))[i]? = some v → DenA M ι a v := by
  refine ⟨by simp; omega, fun i a v h1 h2 => ?_⟩
  rw [List.getElem?_take] at h1
  split at h1
  · rename_i hi
    rw [List.getElem?_drop] at h1
    rw [Array.getElem?_extract] at h2
    split at h2
    · exact hd _ _ _ h1 h2
    · cases h2
  · cases h1

include hT in
theorem eqA_out : ∀ (n : Nat) (t : TypeId) (x y : List AV) (K : Bool → Prop), eqA T n t x y K →
    (T t).k.known = true ∧ ∃ b, K b ∧ ∀ (M : Mem) (ι : Inj) (vs us : Array Value), vs.size = x.length → us.size = y.length → (∀ (i : Nat) (a : AV) (v : Value), x[i]? = some a → vs[i]? = some v → DenA M ι a v) →
      (∀ (i : Nat) (a : AV) (v : Value), y[i]? = some a → us[i]? = some v → DenA M ι a v) → ∀ (d : Nat) (w : World), n ≤ d →
      (Op.equalIn (d + 1) t (if (T t).k.agg then .agg vs else vs.getD 0 undef) (if (T t).k.agg then .agg us else us.getD 0 undef)).run P w = .ok b w
  | 0, t, x, y, K, h => by simp [eqA] at h
  | n + 1, t, x, y, K, h => by
    simp only [eqA] at h
    split at h
    · rename_i k hk
      refine ⟨by rw [hk]; rfl, ?_⟩
      have hu := und_int hT hk
      split at h
      · rename_i k1 a
        split at h
        · rename_i k2 b
          cases hb : Nat.beq (kcode k1) (kcode k2) with
          | false => simp [hb] at h
          | true =>
            simp only [hb, cond_true] at h
            have := kcode_inj hb
            subst this
            refine ⟨_, h, fun M ι vs us hl hl' hd hd' d w _ => ?_⟩
            have e1 := den_int (hd 0 _ (vs.getD 0 undef) rfl (by simp [Array.getD, hl]))
            have e2 := den_int (hd' 0 _ (us.getD 0 undef) rfl (by simp [Array.getD, hl']))
            simp only [hk, TK.agg, Bool.false_eq_true, if_false]
            rw [e1, e2, run_equalIn_int w d t k1 k a b hu]
            rfl
        · exact h.elim
      · exact h.elim
    · rename_i hk
      refine ⟨by rw [hk]; rfl, ?_⟩
      have hu := und_str hT hk
      split at h
      · rename_i a
        split at h
        · rename_i b
          refine ⟨_, h, fun M ι vs us hl hl' hd hd' d w _ => ?_⟩
          have e1 := den_str (hd 0 _ (vs.getD 0 undef) rfl (by simp [Array.getD, hl]))
          have e2 := den_str (hd' 0 _ (us.getD 0 undef) rfl (by simp [Array.getD, hl']))
          simp only [hk, TK.agg, Bool.false_eq_true, if_false]
          rw [e1, e2, run_equalIn_string w d t a b hu]
          congr 1
          rw [ByteArray.toList_eq, ByteArray.toList_eq, Bool.eq_iff_iff]
          obtain ⟨⟨x⟩⟩ := a
          obtain ⟨⟨y⟩⟩ := b
          simp
        · exact h.elim
      · exact h.elim
    · rename_i hk
      refine ⟨by rw [hk]; rfl, ?_⟩
      have hu := und_bool hT hk
      split at h
      · rename_i a
        split at h
        · rename_i b
          obtain ⟨p, h, hp⟩ := boolOf_out h
          obtain ⟨q, h, hq⟩ := boolOf_out h
          refine ⟨_, h, fun M ι vs us hl hl' hd hd' d w _ => ?_⟩
          have e1 := hp M ι _ (hd 0 _ (vs.getD 0 undef) rfl (by simp [Array.getD, hl]))
          have e2 := hq M ι _ (hd' 0 _ (us.getD 0 undef) rfl (by simp [Array.getD, hl']))
          simp only [hk, TK.agg, Bool.false_eq_true, if_false]
          rw [e1, e2, run_equalIn_bool w d t p q hu]
        · exact h.elim
      · exact h.elim
    · rename_i fs hk
      refine ⟨by rw [hk]; rfl, ?_⟩
      obtain ⟨F, hu, hF, hkn, hnm⟩ := und_struct hT hk
      have hst : P.stoodInHeld t = false := by
        obtain ⟨_, _, _, _, _, _, _, _, _, _, _, h, _⟩ := (tyFact hT (t := t) (by rw [hk]; rfl)).desc
        exact h
      have hFo : P.fieldsOf t = F := by simp [Program.fieldsOf, hu]
      have key : ∀ (G : List Field) (K : Bool → Prop), eqA.fields T (fun t x y K => eqA T n t x y K) (G.map fun f => (f.offset, f.type)) x y K → (∀ f ∈ G, f.name ≠ "_") →
          ∃ b, K b ∧ ∀ (M : Mem) (ι : Inj) (vs us : Array Value), vs.size = x.length → us.size = y.length → (∀ (i : Nat) (a : AV) (v : Value), x[i]? = some a → vs[i]? = some v → DenA M ι a v) →
            (∀ (i : Nat) (a : AV) (v : Value), y[i]? = some a → us[i]? = some v → DenA M ι a v) → ∀ (d : Nat) (w : World), n ≤ d → (Op.eqFields (d + 1) vs us G).run P w = .ok b w := by
        intro G
        induction G with
        | nil =>
          intro K h _
          exact ⟨true, h, fun M ι vs us _ _ _ _ d w _ => by simp [Op.eqFields]⟩
        | cons f G ih =>
          intro K h hn
          simp only [List.map_cons, eqA.fields] at h
          cases hb : (Nat.ble (f.offset + (T f.type).size) x.length && Nat.ble (f.offset + (T f.type).size) y.length) with
          | false => simp [hb] at h
          | true =>
            simp only [hb, cond_true] at h
            simp only [Bool.and_eq_true, Nat.ble_eq] at hb
            obtain ⟨hk1, b, h, hb1⟩ := eqA_out n _ _ _ _ h
            obtain ⟨c, h, hc1⟩ := ih _ h (fun g hg => hn g (List.mem_cons_of_mem _ hg))
            refine ⟨_, h, fun M ι vs us hl hl' hd hd' d w hnd => ?_⟩
            obtain ⟨s1, d1⟩ := den_cells_take hl hd f.offset (T f.type).size hb.1
            obtain ⟨s2, d2⟩ := den_cells_take hl' hd' f.offset (T f.type).size hb.2
            have r := hb1 M ι _ _ s1 s2 d1 d2 d w hnd
            have r2 := hc1 M ι vs us hl hl' hd hd' d w hnd
            have part_eq : ∀ (zs : Array Value) (m : Nat), zs.size = m → f.offset + (T f.type).size ≤ m → ((T f.type).k.agg = false → (T f.type).size = 1) →
                (part f.type zs f.offset).run P w = .ok (if (T f.type).k.agg then .agg (zs.extract f.offset (f.offset + (T f.type).size)) else (zs.extract f.offset (f.offset + (T f.type).size)).getD 0 undef) w := by
              intro zs m hz hle h1
              simp only [part, Sem.run_bind, run_isAggT hT w hk1, Result.andThen_ok]
              cases hag : (T f.type).k.agg with
              | true => simp [run_sizeT hT w hk1]
              | false =>
                have := h1 hag
                simp only [Bool.false_eq_true, if_false]
                have hlt : f.offset < zs.size := by omega
                simp [Array.getElem?_eq_getElem hlt, this, Array.getD, show min (f.offset + 1) zs.size - f.offset = 1 by omega]
            have one : (T f.type).k.agg = false → (T f.type).size = 1 := size_one hT hk1
            simp only [Op.eqFields, ne_eq, hn f (List.mem_cons_self ..), not_false_eq_true, if_true, Sem.run_bind, part_eq vs _ hl hb.1 one, part_eq us _ hl' hb.2 one, Result.andThen_ok, r]
            cases b with
            | false => simp
            | true => simp [r2]
      obtain ⟨b, h, hb⟩ := key F.toList K (by rw [hF]; exact h) hnm
      refine ⟨b, h, fun M ι vs us hl hl' hd hd' d w hnd => ?_⟩
      obtain ⟨d, rfl⟩ : ∃ e, d = e + 1 := ⟨d - 1, by omega⟩
      have := hb M ι vs us hl hl' hd hd' d w (by omega)
      simp only [hk, TK.agg, if_true]
      rw [run_equalIn_struct w (d + 1) t vs us (by rw [hFo]; exact hu) hst, hFo]
      exact this
    · exact h.elim
end
end Go.Lk

set_option linter.unusedSimpArgs false
set_option linter.unusedVariables false
set_option linter.unnecessarySimpa false
namespace Go.Lk
open Go Go.RowKit

theorem addr_add (b o i : Nat) : (⟨b, o, none⟩ : Addr).add i = ⟨b, o + i, none⟩ := by
  unfold Addr.add
  split
  · rename_i h; subst h; rfl
  · rfl

theorem cell_of_heap {w : World} {b : Nat} {cs : Array Value} {T : TypeId} {fr : Nat × Nat} (h : w.heap[b]? = some (.cells cs T fr)) (o : Nat) : w.cell? ⟨b, o, none⟩ = cs[o]? := by
  simp [World.cell?, h]

theorem den_agg_inv {M : Mem} {ι : Inj} {c : List AV} {v : Value} (h : DenA M ι (.agg c) v) : ∃ vs : Array Value, v = .agg vs ∧ vs.size = c.length ∧ ∀ (i : Nat) (x : AV) (u : Value), c[i]? = some x → vs[i]? = some u → DenA M ι x u := by
  cases h with
  | agg _ vs hl hd => exact ⟨vs, rfl, hl, hd⟩
theorem den_tup_inv {M : Mem} {ι : Inj} {c : List AV} {v : Value} (h : DenA M ι (.tup c) v) : ∃ vs : Array Value, v = .tuple vs ∧ vs.size = c.length ∧ ∀ (i : Nat) (x : AV) (u : Value), c[i]? = some x → vs[i]? = some u → DenA M ι x u := by
  cases h with
  | tup _ vs hl hd => exact ⟨vs, rfl, hl, hd⟩

theorem forceL_out {c : List AV} {K : List AV → Prop} : forceL c K → K c := by
  induction c generalizing K with
  | nil => exact id
  | cons x r ih => intro h; simp only [forceL] at h; have := (force_out h).1; exact ih this

/-- a row of values that denotes cells -/
def CellsDen (M : Mem) (ι : Inj) (c : List AV) (f : Nat → Option Value) : Prop := ∀ (i : Nat) (x : AV), c[i]? = some x → ∃ v, f i = some v ∧ DenA M ι x v

theorem partA_out {agg : Bool} {size : Nat} {c : List AV} {j : Nat} {K : AV → Prop} (h : partA agg size c j K) (h1 : agg = false → size = 1) :
    ∃ av, K av ∧ j + size ≤ c.length ∧ ∀ (M : Mem) (ι : Inj) (f : Nat → Option Value), CellsDen M ι c f →
      ∃ g : Nat → Value, (∀ i, i < size → f (j + i) = some (g i)) ∧ DenA M ι av (if agg then .agg ((List.range size).map g).toArray else g 0) := by
  unfold partA at h
  cases agg with
  | true =>
    simp only [cond_true] at h
    cases hb : Nat.ble (j + size) c.length with
    | false => simp [hb] at h
    | true =>
      simp only [hb, cond_true] at h
      have hle := Nat.le_of_ble_eq_true hb
      refine ⟨_, forceL_out h, hle, fun M ι f hf => ?_⟩
      have hg : ∀ i, i < size → ∃ v, f (j + i) = some v ∧ DenA M ι (c[j + i]?.getD .dead) v := fun i hi => by
        have hlt : j + i < c.length := by omega
        obtain ⟨v, h1, h2⟩ := hf (j + i) c[j + i] (List.getElem?_eq_getElem hlt)
        exact ⟨v, h1, by simpa [List.getElem?_eq_getElem hlt] using h2⟩
      refine ⟨fun i => (f (j + i)).getD undef, fun i hi => ?_, ?_⟩
      · obtain ⟨v, h1, _⟩ := hg i hi
        simp [h1]
      · refine .agg _ _ (by simp; omega) fun i x v hx hv => ?_
        rw [List.getElem?_take] at hx
        split at hx
        · rename_i hi
          rw [List.getElem?_drop] at hx
          obtain ⟨u, h1, h2⟩ := hg i hi
          simp only [List.getElem?_toArray, List.getElem?_map, List.getElem?_range hi, Option.map_some, Option.some.injEq] at hv
          subst hv
          simpa [h1, hx] using h2
        · cases hx
  | false =>
    simp only [cond_false] at h
    unfold getC at h
    split at h
    · rename_i x hx
      refine ⟨x, (force_out h).1, ?_, fun M ι f hf => ?_⟩
      · have := (List.getElem?_eq_some_iff.1 hx).1
        rw [h1 rfl]; omega
      · obtain ⟨v, e1, e2⟩ := hf j x hx
        refine ⟨fun _ => v, fun i hi => ?_, by simpa using e2⟩
        rw [h1 rfl] at hi
        obtain rfl : i = 0 := by omega
        simpa using e1
    · exact h.elim

theorem partD_out {agg : Bool} {size : Nat} {c : List D} {j : Nat} {K : AV → Prop} (h : partD agg size c j K) (h1 : agg = false → size = 1) :
    ∃ av, K av ∧ j + size ≤ c.length ∧ ∀ (M : Mem) (ι : Inj) (f : Nat → Option Value), (∀ (i : Nat) (x : D), c[i]? = some x → ∃ v, f i = some v ∧ DenD M x v) →
      ∃ g : Nat → Value, (∀ i, i < size → f (j + i) = some (g i)) ∧ DenA M ι av (if agg then .agg ((List.range size).map g).toArray else g 0) := by
  have h' : partA agg size (c.map .d) j K := by
    unfold partD at h
    unfold partA
    cases agg with
    | true => simpa [List.map_drop, List.map_take] using h
    | false =>
      simp only [cond_false] at h ⊢
      unfold getD at h
      unfold getC
      simp only [List.getElem?_map]
      split at h
      · rename_i x hx
        simpa [hx, force] using h
      · exact h.elim
  obtain ⟨av, k, hl, hd⟩ := partA_out h' h1
  refine ⟨av, k, by simpa using hl, fun M ι f hf => hd M ι f fun i x hx => ?_⟩
  rw [List.getElem?_map] at hx
  cases hc : c[i]? with
  | none => simp [hc] at hx
  | some d =>
    simp only [hc, Option.map_some, Option.some.injEq] at hx
    subst hx
    obtain ⟨v, e1, e2⟩ := hf i d hc
    exact ⟨v, e1, .d _ _ e2⟩

section
variable {P : Program} {T : Tab} (hT : TabOk P T)
include hT

theorem run_loadVarT {t : TypeId} (hk : (T t).k.known = true) (w : World) (b o : Nat) (g : Nat → Value) (h : ∀ i, i < (T t).size → w.cell? ⟨b, o + i, none⟩ = some (g i)) :
    (loadVar t ⟨b, o, none⟩).run P w = .ok (if (T t).k.agg then .agg ((List.range (T t).size).map g).toArray else g 0) w := by
  simp only [loadVar, Sem.run_bind, run_isAggT hT w hk, Result.andThen_ok]
  cases ha : (T t).k.agg with
  | true =>
    simp only [if_true, Sem.run_bind, run_sizeT hT w hk, Result.andThen_ok]
    rw [run_loadCells w ⟨b, o, none⟩ (T t).size g (fun j hj => by rw [addr_add]; exact h j hj)]
    rfl
  | false =>
    have h1 := size_one hT hk ha
    simp only [Bool.false_eq_true, if_false]
    have := h 0 (by omega)
    simp only [Nat.add_zero] at this
    simp [run_load, this]

theorem loadA_out {t : TypeId} {x : AV} {hp : Nat → Option Blk} {K : AV → Prop} (h : loadA T t x hp K) :
    ∃ av, K av ∧ ∀ (own : Nat → Prop) (M : Mem) (ι : Inj) (w : World) (v : Value), Agree M w → HRel own M ι hp w → DenA M ι x v → ∃ r, (Instr.loadAt t v).run P w = .ok r w ∧ DenA M ι av r := by
  unfold loadA at h
  have hk : (T t).k.known = true := by
    cases hg : (T t).k.known with
    | true => rfl
    | false => simp [hg] at h
  simp only [hk, cond_true] at h
  have h1 := size_one hT hk
  unfold loadB at h
  split at h
  · rename_i b i j
    split at h
    · rename_i c fr hb
      obtain ⟨hi0, h2⟩ := condK_out h
      subst hi0
      obtain ⟨av, k, hl, hd⟩ := partA_out h2 h1
      refine ⟨av, k, fun own M ι w v ha hh hv => ?_⟩
      cases hv with
      | ptr _ _ _ L hL =>
        obtain ⟨_, cs, Ty, hheap, hsz, hL1, hL2, hbox, _⟩ := hh.at_ b _ L hb hL
        obtain ⟨g, hg, hden⟩ := hd M ι (fun i => cs[i]?) (fun i x hx => hbox.den i x hx)
        refine ⟨_, ?_, hden⟩
        simp only [Instr.loadAt, Instr.sureAddr, Sem.run_bind, Sem.run_pure, Result.andThen_ok]
        exact run_loadVarT hT hk w _ _ g fun i hi => by rw [cell_of_heap hheap]; simpa using hg i hi
      | ptrL _ _ _ _ hL => rw [(hh.dom b).2 hL] at hb; cases hb
    · rename_i l sz fr hb
      obtain ⟨e, he, h⟩ := getRow_out h
      obtain ⟨av, k, hl, hd⟩ := partD_out h h1
      refine ⟨av, k, fun own M ι w v ha hh hv => ?_⟩
      cases hv with
      | ptr _ _ _ L hL =>
        obtain ⟨_, cs, Ty, hheap, hsz, hL1, hL2, hle, hrow, _⟩ := hh.at_ b _ L hb hL
        obtain ⟨g, hg, hden⟩ := hd M ι (fun j => cs[i * sz + j]?) (fun j x hx => hrow.den i j e x he hx)
        refine ⟨_, ?_, hden⟩
        simp only [Instr.loadAt, Instr.sureAddr, Sem.run_bind, Sem.run_pure, Result.andThen_ok]
        subst hL1
        exact run_loadVarT hT hk w _ _ g fun i hi => by rw [cell_of_heap hheap]; simpa [Nat.add_assoc] using hg i hi
      | ptrL _ _ _ _ hL => rw [(hh.dom b).2 hL] at hb; cases hb
    · exact h.elim
  · rename_i e j
    obtain ⟨av, k, hl, hd⟩ := partD_out h h1
    refine ⟨av, k, fun own M ι w v ha hh hv => ?_⟩
    cases hv with
    | d _ _ hv =>
      cases hv with
      | dp _ _ b off val hm hdd =>
        obtain ⟨g, hg, hden⟩ := hd M ι (fun i => w.cell? ⟨b, off + i, none⟩) (fun i x hx => ⟨val i, ha _ _ _ (hm i x hx), hdd i x hx⟩)
        refine ⟨_, ?_, hden⟩
        simp only [Instr.loadAt, Instr.sureAddr, Sem.run_bind, Sem.run_pure, Result.andThen_ok]
        exact run_loadVarT hT hk w _ _ g fun i hi => by simpa [Nat.add_assoc] using hg i hi
  · exact h.elim

theorem binA_out {t : TypeId} {op : BinOp} {x y : AV} {K : AV → Prop} (h : binA T t op x y K) :
    ∃ av, K av ∧ ∀ (M : Mem) (ι : Inj) (v u : Value), DenA M ι x v → DenA M ι y u → ∀ (X Y : Operand) (w : World), ∃ r, (do eqGuard op t X Y v u; binOp op t v u : Sem Value).run P w = .ok r w ∧ DenA M ι av r := by
  have boolCase : ∀ (a b : Bool) (r : Bool), (T t).k = .bool → (op = .eql ∧ r = (a == b) ∨ op = .neq ∧ r = !(a == b)) → ∀ (X Y : Operand) (w : World), (do eqGuard op t X Y (.bool a) (.bool b); binOp op t (.bool a) (.bool b) : Sem Value).run P w = .ok (.bool r) w := by
    intro a b r hk hr X Y w
    have hu := und_bool hT hk
    rcases hr with ⟨rfl, rfl⟩ | ⟨rfl, rfl⟩
    · simp [eqGuard, binOp, Op.equal, Op.maxDepth, run_equalIn_bool w 9999 t a b hu]
    · simp [eqGuard, binOp, Op.equal, Op.maxDepth, run_equalIn_bool w 9999 t a b hu]
  unfold binA at h
  split at h
  · rename_i k a
    split at h
    · rename_i k' b
      cases hs : isShift op with
      | true =>
        simp only [hs, cond_true] at h
        obtain ⟨n, hK, hr⟩ := shiftA_out (P := P) (k' := k') h t
        refine ⟨_, hK, fun M ι v u hv hu X Y w => ?_⟩
        rw [den_int hv, den_int hu]
        exact ⟨_, hr X Y w, .d _ _ (.int _ _)⟩
      | false =>
        simp only [hs, cond_false] at h
        cases hkk : Nat.beq (kcode k) (kcode k') with
        | false => simp [hkk] at h
        | true =>
          simp only [hkk, cond_true] at h
          have := kcode_inj hkk
          subst this
          obtain ⟨d, hK, hr, hd⟩ := intA_out (P := P) h t
          refine ⟨_, hK, fun M ι v u hv hu X Y w => ?_⟩
          rw [den_int hv, den_int hu]
          refine ⟨_, hr X Y w, ?_⟩
          rcases hd with ⟨n, rfl⟩ | ⟨b, rfl⟩
          · exact .d _ _ (.int _ _)
          · exact .d _ _ (.bool _)
    · exact h.elim
  · rename_i a
    split at h
    · rename_i b
      obtain ⟨d, hK, hr, hd⟩ := strA_out (P := P) h t
      refine ⟨_, hK, fun M ι v u hv hu X Y w => ?_⟩
      rw [den_str hv, den_str hu]
      refine ⟨_, hr X Y w, ?_⟩
      rcases hd with ⟨n, rfl⟩ | ⟨b, rfl⟩
      · exact .d _ _ (.str _)
      · exact .d _ _ (.bool _)
    · exact h.elim
  · rename_i a
    split at h
    · rename_i hkb
      obtain ⟨b, h, hbo⟩ := boolOf_out h
      obtain ⟨r, hK, hr⟩ := boolA_out h
      refine ⟨_, hK, fun M ι v u hv hu X Y w => ?_⟩
      rw [den_bool hv, hbo M ι u hu]
      exact ⟨_, boolCase a b r hkb hr X Y w, .d _ _ (.bool _)⟩
    · exact h.elim
  · split at h
    · rename_i hkb
      obtain ⟨b, h, hbo⟩ := boolOf_out h
      obtain ⟨r, hK, hr⟩ := boolA_out h
      refine ⟨_, hK, fun M ι v u hv hu X Y w => ?_⟩
      cases hv with
      | tt =>
        rw [hbo M ι u hu]
        exact ⟨_, boolCase true b r hkb hr X Y w, .d _ _ (.bool _)⟩
    · exact h.elim
  · split at h
    · rename_i hkb
      obtain ⟨b, h, hbo⟩ := boolOf_out h
      obtain ⟨r, hK, hr⟩ := boolA_out h
      refine ⟨_, hK, fun M ι v u hv hu X Y w => ?_⟩
      cases hv with
      | ff =>
        rw [hbo M ι u hu]
        exact ⟨_, boolCase false b r hkb hr X Y w, .d _ _ (.bool _)⟩
    · exact h.elim
  · rename_i c
    split at h
    · rename_i c'
      have fin : ∀ (K' : Bool → Prop), (bif (T t).k.agg then eqA T 9999 t c c' K' else False) → ∃ b, K' b ∧ ∀ (M : Mem) (ι : Inj) (v u : Value), DenA M ι (.agg c) v → DenA M ι (.agg c') u → ∀ (X Y : Operand) (w : World),
          ((eqGuard op t X Y v u).run P w = .ok () w ∧ ∃ vs us, v = .agg vs ∧ u = .agg us ∧ (Op.equalIn 10000 t (.agg vs) (.agg us)).run P w = .ok b w) := by
        intro K' h
        have hagg : (T t).k.agg = true := by
          cases hg : (T t).k.agg with
          | true => rfl
          | false => simp [hg] at h
        simp only [hagg, cond_true] at h
        obtain ⟨hk, b, hK, hd⟩ := eqA_out hT _ _ _ _ _ h
        refine ⟨b, hK, fun M ι v u hv hu X Y w => ?_⟩
        obtain ⟨vs, rfl, s1, d1⟩ := den_agg_inv hv
        obtain ⟨us, rfl, s2, d2⟩ := den_agg_inv hu
        have := hd M ι vs us s1 s2 d1 d2 9999 w (Nat.le_refl _)
        simp only [hagg, if_true] at this
        obtain ⟨_, _, _, _, _, _, _, _, _, _, _, _, hg, _⟩ := (tyFact hT hk).desc
        exact ⟨run_eqGuard_agg w op t X Y vs us hg, vs, us, rfl, rfl, this⟩
      split at h
      · obtain ⟨b, hK, hd⟩ := fin _ h
        refine ⟨_, hK, fun M ι v u hv hu X Y w => ?_⟩
        obtain ⟨hg, vs, us, rfl, rfl, he⟩ := hd M ι v u hv hu X Y w
        exact ⟨_, by rw [Sem.run_bind, hg, Result.andThen_ok, run_eql_struct, he]; rfl, .d _ _ (.bool _)⟩
      · obtain ⟨b, hK, hd⟩ := fin _ h
        refine ⟨_, hK, fun M ι v u hv hu X Y w => ?_⟩
        obtain ⟨hg, vs, us, rfl, rfl, he⟩ := hd M ι v u hv hu X Y w
        exact ⟨_, by rw [Sem.run_bind, hg, Result.andThen_ok, run_neq_struct, he]; rfl, .d _ _ (.bool _)⟩
      · exact h.elim
    · exact h.elim
  · exact h.elim
end
end Go.Lk

set_option linter.unusedSimpArgs false
set_option linter.unusedVariables false
set_option linter.unnecessarySimpa false
namespace Go.Lk
open Go Go.RowKit

section
variable {P : Program} {T : Tab} (hT : TabOk P T)
include hT

theorem fieldOff_out {s : TypeId} {f : Nat} {K : Nat → TypeId → Prop} (h : fieldOff T s f K) :
    ∃ (F : Array Field) (fl : Field), P.underlying s = some (.struct F) ∧ F[f]? = some fl ∧ (T fl.type).k.known = true ∧ K fl.offset fl.type := by
  unfold fieldOff at h
  split at h
  · rename_i fs hk
    obtain ⟨F, hu, hF, hkn, _⟩ := und_struct hT hk
    split at h
    · rename_i o t ht
      rw [← hF, List.getElem?_map] at ht
      cases hf : F.toList[f]? with
      | none => simp [hf] at ht
      | some fl =>
        simp only [hf, Option.map_some, Option.some.injEq, Prod.mk.injEq] at ht
        obtain ⟨rfl, rfl⟩ := ht
        refine ⟨F, fl, hu, by simpa using hf, hkn (fl.offset, fl.type) ?_, h⟩
        rw [← hF]
        exact List.mem_map.2 ⟨fl, List.mem_of_getElem? hf, rfl⟩
    · exact h.elim
  · exact h.elim

theorem run_fieldPlaceT {b o : Nat} {f : Field} (hz : (T f.type).k.known = true) (w : World) : (fieldPlace ⟨b, o, none⟩ f).run P w = .ok ⟨b, o + f.offset, none⟩ w := by
  have := size_pos hT hz
  simp only [fieldPlace, Sem.run_bind, run_sizeT hT w hz, Result.andThen_ok]
  rw [if_neg (by omega), Sem.run_pure, addr_add]

theorem fieldAt_out {s : TypeId} {f : Nat} {F : Array Field} {fl : Field} (hu : P.underlying s = some (.struct F)) (hf : F[f]? = some fl) (hz : (T fl.type).k.known = true) (b o : Nat) (w : World) :
    (Instr.fieldAt s (.pointer (some ⟨b, o, none⟩)) f).run P w = .ok (.pointer (some ⟨b, o + fl.offset, none⟩)) w := by
  simp [Instr.fieldAt, run_underlying hu, hf, Instr.sureAddr, run_fieldPlaceT hT hz]

theorem indexAddrA_out {t : TypeId} {x i : AV} {hp : Nat → Option Blk} {K : AV → Prop} (h : indexAddrA T t x i hp K) :
    ∃ av, K av ∧ ∀ (own : Nat → Prop) (M : Mem) (ι : Inj) (w : World) (v u : Value), HRel own M ι hp w → DenA M ι x v → DenA M ι i u → ∃ r, (Instr.indexAt t v u).run P w = .ok r w ∧ DenA M ι av r := by
  unfold indexAddrA at h
  split at h
  · rename_i ik n
    split at h
    · rename_i el hk
      obtain ⟨hu, hke⟩ := und_slice hT hk
      split at h
      · rename_i l
        obtain ⟨h0, h1, h⟩ := idxK_out h
        obtain ⟨e, he, h⟩ := getRow_out h
        cases hs : Nat.beq e.length (T el).size with
        | false => simp [hs] at h
        | true =>
          simp only [hs, cond_true] at h
          have hsz := Nat.eq_of_beq_eq_true hs
          refine ⟨_, h, fun own M ι w v u hh hv hi => ?_⟩
          rw [den_int hi]
          cases hv with
          | d _ _ hv =>
            cases hv with
            | emp a c => simp at h1; omega
            | lst _ b off cap sz val hl hs hm hd =>
              have e1 := hs _ _ he
              refine ⟨.pointer (some ⟨b, off + n.toNat * sz + 0, none⟩), ?_, .d _ _ (.dp _ _ _ _ (val n.toNat) (fun j d hj => ?_) fun j d hj => ?_)⟩
              · simp [Instr.indexAt, asIntOf, run_underlying hu, h0, h1, run_sizeT hT w hke, addr_add, ← hsz, e1]
              · exact hm _ j e d he hj
              · exact hd _ j e d he hj
      · rename_i b
        split at h
        · rename_i l sz fr hb
          cases hs : Nat.beq sz (T el).size with
          | false => simp [hs] at h
          | true =>
            simp only [hs, cond_true] at h
            have hsz := Nat.eq_of_beq_eq_true hs
            obtain ⟨h0, h1, h⟩ := idxK_out h
            refine ⟨_, h, fun own M ι w v u hh hv hi => ?_⟩
            rw [den_int hi]
            cases hv with
            | own _ L cap hL hn hc =>
              obtain ⟨_, cs, Ty, hheap, hsz2, hL1, hL2, hle, hrow, _⟩ := hh.at_ b _ L hb hL
              refine ⟨.pointer (some ⟨L.blk, n.toNat * L.sz + 0, none⟩), ?_, .ptr b n.toNat 0 L hL⟩
              simp [Instr.indexAt, asIntOf, run_underlying hu, h0, ← hL2, h1, run_sizeT hT w hke, addr_add, ← hL1, ← hsz]
            | ownE _ a hL =>
              obtain ⟨sz', fr', hb'⟩ := hh.virt b hL
              rw [hb] at hb'
              cases hb'
              simp at h1; omega
            | ownL _ _ hL => rw [(hh.dom b).2 hL] at hb; cases hb
        · exact h.elim
      · rename_i b lo m c0
        split at h
        · rename_i l sz fr hb
          cases hs : Nat.beq sz (T el).size with
          | false => simp [hs] at h
          | true =>
            simp only [hs, cond_true] at h
            have hsz := Nat.eq_of_beq_eq_true hs
            obtain ⟨h0, h1, h⟩ := idxK_out h
            refine ⟨_, h, fun own M ι w v u hh hv hi => ?_⟩
            rw [den_int hi]
            cases hv with
            | win _ _ _ _ L k base hL hn hc hk hbase =>
              obtain ⟨_, cs, Ty, hheap, hsz2, hL1, hL2, hle, hrow, _⟩ := hh.at_ b _ L hb hL
              have hbs : base = lo * L.sz := hbase.resolve_right fun h => by omega
              subst hbs
              refine ⟨.pointer (some ⟨L.blk, (lo + n.toNat) * L.sz + 0, none⟩), ?_, .ptr b (lo + n.toNat) 0 L hL⟩
              simp [Instr.indexAt, asIntOf, run_underlying hu, h0, h1, run_sizeT hT w hke, addr_add, ← hL1, ← hsz, Nat.add_mul]
            | winL _ _ _ _ _ hL => rw [(hh.dom b).2 hL] at hb; cases hb
        · exact h.elim
      · exact h.elim
    · rename_i m e hk
      obtain ⟨hu, hke⟩ := und_arr hT hk
      split at h
      · rename_i b i0 j
        split at h
        · rename_i B hb
          obtain ⟨h0, h1, h⟩ := idxK_out h
          refine ⟨_, h, fun own M ι w v u hh hv hi => ?_⟩
          rw [den_int hi]
          cases hv with
          | ptr _ _ _ L hL =>
            refine ⟨.pointer (some ⟨L.blk, i0 * L.sz + (j + n.toNat * (T e).size), none⟩), ?_, .ptr b i0 _ L hL⟩
            simp [Instr.indexAt, asIntOf, run_underlying hu, h0, h1, run_sizeT hT w hke, addr_add, Instr.sureAddr, Nat.add_assoc]
          | ptrL _ _ _ _ hL => rw [(hh.dom b).2 hL] at hb; cases hb
        · exact h.elim
      · rename_i c j
        obtain ⟨h0, h1, h⟩ := idxK_out h
        refine ⟨_, h, fun own M ι w v u hh hv hi => ?_⟩
        rw [den_int hi]
        cases hv with
        | d _ _ hv =>
          cases hv with
          | dp _ _ b off val hm hd =>
            refine ⟨.pointer (some ⟨b, off + (j + n.toNat * (T e).size), none⟩), ?_, .d _ _ (.dp _ _ _ _ val hm hd)⟩
            simp [Instr.indexAt, asIntOf, run_underlying hu, h0, h1, run_sizeT hT w hke, addr_add, Instr.sureAddr, Nat.add_assoc]
      · exact h.elim
    · exact h.elim
  · exact h.elim

theorem indexA_out {t : TypeId} {x i : AV} {K : AV → Prop} (h : indexA T t x i K) :
    ∃ av, K av ∧ ∀ (M : Mem) (ι : Inj) (w : World) (v u : Value), DenA M ι x v → DenA M ι i u → ∃ r, (Instr.index t v u).run P w = .ok r w ∧ DenA M ι av r := by
  unfold indexA at h
  split at h
  · rename_i ik n
    split at h
    · rename_i s
      split at h
      · rename_i hk
        have hu := und_str hT hk
        obtain ⟨h0, h1, h⟩ := idxK_out h
        refine ⟨_, h, fun M ι w v u hv hi => ?_⟩
        rw [den_int hi, den_str hv]
        have hlt : n.toNat < s.size := by omega
        refine ⟨.int .u8 ((s.data.getD n.toNat 0).toNat), ?_, .d _ _ (.int _ _)⟩
        have e : s[n.toNat]? = some (s.data.getD n.toNat 0) := by
          rw [getElem?_pos s n.toNat hlt]
          simp only [Array.getD, show n.toNat < s.data.size from hlt, dif_pos]
          rfl
        simp [Instr.index, asIntOf, run_underlying hu, h0, e]
      · exact h.elim
    · rename_i c
      split at h
      · rename_i m e hk
        obtain ⟨hua, hke⟩ := und_arr hT hk
        obtain ⟨h0, h1, h⟩ := idxK_out h
        obtain ⟨av, k, hl, hd⟩ := partA_out h (size_one hT hke)
        refine ⟨av, k, fun M ι w v u hv hi => ?_⟩
        rw [den_int hi]
        obtain ⟨vs, rfl, hs, hdv⟩ := den_agg_inv hv
        obtain ⟨g, hg, hden⟩ := hd M ι (fun i => vs[i]?) (fun i x hx => by
          have hlt : i < vs.size := by rw [hs]; exact (List.getElem?_eq_some_iff.1 hx).1
          exact ⟨vs[i], by simp [hlt], hdv i x _ hx (by simp [hlt])⟩)
        refine ⟨_, ?_, hden⟩
        simp only [Instr.index, asIntOf, Sem.run_bind, Sem.run_pure, Result.andThen_ok, run_underlying hua, h0, h1, and_self, if_true, run_sizeT hT w hke, part, run_isAggT hT w hke]
        cases ha : (T e).k.agg with
        | true =>
          simp only [if_true, Sem.run_bind, run_sizeT hT w hke, Result.andThen_ok, Sem.run_pure]
          congr 2
          apply Array.ext_getElem?
          intro i
          rw [Array.getElem?_extract]
          simp only [List.getElem?_toArray, List.getElem?_map]
          split
          · rename_i hi
            rw [hg i (by omega), List.getElem?_range (by omega)]; rfl
          · rename_i hi
            rw [List.getElem?_eq_none (by simp; omega)]; rfl
        | false =>
          have := hg 0 (by have := size_pos hT hke; omega)
          simp only [Nat.add_zero] at this
          simp [this]
      · exact h.elim
    · exact h.elim
  · exact h.elim

/-! ### slicing -/
omit hT in
theorem run_boundsOk {x : Int} {y : Nat} {code : BoundsCode} {k : IntKind} (w : World) (h0 : 0 ≤ x) (h1 : x ≤ y) : (Instr.sliceBound (.int k x) y code).run P w = .ok x.toNat w := by
  simp [Instr.sliceBound, asIntOf, h0, h1]

omit hT in
theorem run_sliceBoundsT {isS : Bool} {len cap : Nat} {lo hi : Option Int} {k1 k2 : IntKind} (w : World) (h0 : 0 ≤ lo.getD 0) (h1 : lo.getD 0 ≤ hi.getD len) (h2 : hi.getD len ≤ len) (hc : len ≤ cap) :
    (Instr.sliceBounds isS len cap (lo.map (.int k1)) (hi.map (.int k2)) none).run P w = .ok ((lo.getD 0).toNat, (hi.getD len).toNat, cap) w := by
  cases lo with
  | none =>
    cases hi with
    | none => simp [Instr.sliceBounds]
    | some h =>
      simp only [Option.getD_some, Option.getD_none] at h0 h1 h2
      simp [Instr.sliceBounds, run_boundsOk (P := P) w (x := h) (y := cap) (k := k2) h1 (by omega)]
  | some l =>
    cases hi with
    | none =>
      simp only [Option.getD_some, Option.getD_none] at h0 h1 h2
      simp [Instr.sliceBounds, run_boundsOk (P := P) w (x := l) (y := len) (k := k1) h0 (by omega)]
    | some h =>
      simp only [Option.getD_some] at h0 h1 h2
      simp [Instr.sliceBounds, run_boundsOk (P := P) w (x := h) (y := cap) (k := k2) (by omega) (by omega), run_boundsOk (P := P) w (x := l) (y := h.toNat) (k := k1) h0 (by omega)]
end
end Go.Lk


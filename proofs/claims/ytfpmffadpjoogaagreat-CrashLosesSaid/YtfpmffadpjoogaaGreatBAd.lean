/-
  What is proved here: what functions of the program compute, and what follows; no condition beyond each theorem's own.
-/
import Derived.Test.YtfpmffadpjoogaaGreatBAc
import Derived.Orders
import Derived.ReadAgain
import Derived.OpenShut
import Derived.ChangeArms
import Derived.Below
import Derived.ChangeSame
import Derived.WideShapes
import Derived.RowKit
set_option linter.unusedSimpArgs false
set_option linter.unusedVariables false
set_option linter.unnecessarySimpa false
set_option linter.unusedSectionVars false
namespace Go.Lk
open Go Go.RowKit

/-- an operation of a drawn region, with what it does -/
structure DOp where
  o : Oper
  act : Bool
  e : Eff
  s : Summ

def DOp.app (x : DOp) (st : AState) : AState := ⟨putT (killT x.e.kl st.tm) x.o.dst x.e.av, x.e.hp st.hp⟩

/-- what a guard's slot says -/
def GSay (av : AV) (want act : Bool) : Prop := (∃ b, (av = .d (.bool b) ∨ (av = .tt ∧ b = true) ∨ (av = .ff ∧ b = false)) ∧ act = (b == want)) ∨ (av = .tup [] ∧ act = false)
/-- what holds of an operation at the state in which it may run -/
structure DFact (P : Program) (ops : Array Oper) (x : DOp) (st : AState) : Prop where
  dst : x.s.dst = x.o.dst
  W : x.s.W = effW x.e
  foot : x.s.wd = false → ∀ t ∈ x.s.rd, inO (namesO (st.tm t)) x.s.F = true
  footh : x.s.wd = false → x.s.bl = false → ∀ b ∈ x.s.F, ∀ B, st.hp b = some B → inO (namesB B) x.s.F = true
  ks : x.s.k = klOf x.e
  eff : x.s.wd = false → EffFact x.s.F x.o.dst x.e
  kl : ∀ k, x.e.kl = some k → ¬ (1000000 ≤ k ∧ k < 1000004)
  guard : match x.o.guard with
    | none => x.act = true
    | some (g, want) => ∃ t, (ops[g]?).bind (·.dst) = some t ∧ t ∈ x.s.rd ∧ GSay (st.tm t) want x.act
  sem : x.act = true → ∃ rd, (∀ t ∈ rd, t ∈ x.s.rd) ∧ (x.s.wd = false → x.s.bl = false → OpSem P x.o (evT (restrT rd st.tm)) (restrH x.s.F st.hp) x.e) ∧ (x.s.wd = false → x.s.bl = true → ∀ hp, OpSem P x.o (evT (restrT rd st.tm)) hp x.e) ∧ (x.s.wd = true → OpSem P x.o (evT (restrT rd st.tm)) st.hp x.e)
  off : x.act = false → x.e = ⟨.tup [], [], none⟩

/-- y leaves alone what x looks at -/
structure Off (y x : DOp) : Prop where
  nw : x.s.wd = false
  dst : ∀ d, y.o.dst = some d → d ∉ x.s.rd
  W : x.s.bl = false → ∀ b ∈ effW y.e, b ∉ x.s.F
  K : ∀ k, y.e.kl = some k → k ∉ x.s.F
  kl : ∀ k, y.e.kl = some k → k ∈ wrNames y.e.wr
  lt : ∀ k, y.e.kl = some k → k < 2000000

theorem app_tm (x : DOp) (st : AState) (t : Nat) : (x.app st).tm t = if x.o.dst = some t then x.e.av else killA x.e.kl (st.tm t) := by
  show putT (killT x.e.kl st.tm) x.o.dst x.e.av t = _
  cases hd : x.o.dst with
  | none => simp [putT, killT_eq]
  | some d =>
    simp only [putT, Option.some.injEq]
    by_cases e : t = d
    · subst e; rw [upd_same, if_pos rfl]
    · rw [upd_other _ _ e, if_neg fun h => e h.symm, killT_eq]
theorem app_hp (x : DOp) (st : AState) (b : Nat) : (x.app st).hp b = match wrGet x.e.wr b with | some B => some B | none => killO x.e.kl (st.hp b) := eff_hp_get x.e st.hp b

theorem killA_keep {k : Option Nat} {x : AV} {F : List Nat} (h : inO (namesO x) F = true) (hl : ∀ b, k = some b → b < 2000000) (hk : ∀ b, k = some b → b ∉ F) : killA k x = x := by
  cases k with
  | none => rfl
  | some k =>
    obtain ⟨ns, e, hn⟩ := inO_out h
    exact killV_keep (hl k rfl) e fun hm => hk k rfl (hn k hm)
theorem killO_keep {k : Option Nat} {o : Option Blk} {F : List Nat} (h : ∀ B, o = some B → inO (namesB B) F = true) (hl : ∀ b, k = some b → b < 2000000) (hk : ∀ b, k = some b → b ∉ F) : killO k o = o := by
  cases k with
  | none => rfl
  | some k =>
    cases o with
    | none => rfl
    | some B =>
      obtain ⟨ns, e, hn⟩ := inO_out (h B rfl)
      simp only [killO, Option.map_some, killB_keep (hl k rfl) e fun hm => hk k rfl (hn k hm)]

theorem agr_fwd {y x : DOp} {st : AState} (ho : Off y x) (hf : ∀ t ∈ x.s.rd, inO (namesO (st.tm t)) x.s.F = true) (hh : x.s.bl = false → ∀ b ∈ x.s.F, ∀ B, st.hp b = some B → inO (namesB B) x.s.F = true) :
    (∀ t ∈ x.s.rd, (y.app st).tm t = st.tm t) ∧ (x.s.bl = false → ∀ b ∈ x.s.F, (y.app st).hp b = st.hp b) := by
  refine ⟨fun t ht => ?_, fun hbl b hb => ?_⟩
  · rw [app_tm, if_neg fun h => ho.dst t h ht]
    exact killA_keep (hf t ht) ho.lt ho.K
  · rw [app_hp, wrGet_none.2 fun hm => ho.W hbl b (effW_mem.2 (.inr hm)) hb]
    exact killO_keep (hh hbl b hb) ho.lt ho.K

theorem agr_bwd {y x : DOp} {st : AState} (ho : Off y x) (hf : ∀ t ∈ x.s.rd, inO (namesO ((y.app st).tm t)) x.s.F = true) (hh : x.s.bl = false → ∀ b ∈ x.s.F, ∀ B, (y.app st).hp b = some B → inO (namesB B) x.s.F = true) :
    (∀ t ∈ x.s.rd, (y.app st).tm t = st.tm t) ∧ (x.s.bl = false → ∀ b ∈ x.s.F, (y.app st).hp b = st.hp b) := by
  refine ⟨fun t ht => ?_, fun hbl b hb => ?_⟩
  · have h1 := hf t ht
    rw [app_tm, if_neg fun h => ho.dst t h ht] at h1 ⊢
    obtain ⟨ns, e, _⟩ := inO_out h1
    cases hk : y.e.kl with
    | none => rfl
    | some k =>
      rw [hk] at e
      exact killV_clean (by show namesO (killA (some k) (st.tm t)) ≠ none; rw [e]; simp)
  · have h1 := hh hbl b hb
    rw [app_hp, wrGet_none.2 fun hm => ho.W hbl b (effW_mem.2 (.inr hm)) hb] at h1 ⊢
    simp only at h1 ⊢
    cases hk : y.e.kl with
    | none => rfl
    | some k =>
      cases hx : st.hp b with
      | none => rfl
      | some B =>
        rw [hk, hx] at h1
        obtain ⟨ns, e, _⟩ := inO_out (h1 _ rfl)
        simp only [killO, Option.map_some]
        rw [killB_clean (by rw [e]; simp)]

theorem DFact.turn {P : Program} {ops : Array Oper} {x : DOp} {st st' : AState} (h : DFact P ops x st) (hw : x.s.wd = false) (ht : ∀ t ∈ x.s.rd, st'.tm t = st.tm t) (hb : x.s.bl = false → ∀ b ∈ x.s.F, st'.hp b = st.hp b) : DFact P ops x st' := by
  refine ⟨h.dst, h.W, fun _ t m => by rw [ht t m]; exact h.foot hw t m, fun _ hbl b m B hB => h.footh hw hbl b m B (by rw [← hb hbl b m]; exact hB), h.ks, h.eff, h.kl, ?_, fun ha => ?_, h.off⟩
  · have hg := h.guard
    split at hg
    · exact hg
    · rename_i g want e
      obtain ⟨t, h1, h2, h3⟩ := hg
      exact ⟨t, h1, h2, by rw [ht t h2]; exact h3⟩
  · obtain ⟨rd, h1, h2, h3, _⟩ := h.sem ha
    have e1 : restrT rd st'.tm = restrT rd st.tm := by
      funext t
      unfold restrT
      cases hm : memN t rd with
      | true => simp only [cond_true]; exact ht t (h1 t (memN_iff.1 hm))
      | false => rfl
    refine ⟨rd, h1, fun _ hbl => ?_, fun _ hbl => by rw [e1]; exact h3 hw hbl, fun h' => by rw [hw] at h'; cases h'⟩
    have e2 : restrH x.s.F st'.hp = restrH x.s.F st.hp := by
      funext b
      unfold restrH
      cases hm : memN b x.s.F with
      | true => simp only [cond_true]; exact hb hbl b (memN_iff.1 hm)
      | false => rfl
    rw [e1, e2]; exact h2 hw hbl

theorem DFact.fwd {P : Program} {ops : Array Oper} {x y : DOp} {st : AState} (h : DFact P ops x st) (ho : Off y x) : DFact P ops x (y.app st) :=
  let ⟨a, b⟩ := agr_fwd ho (h.foot ho.nw) (h.footh ho.nw)
  h.turn ho.nw a b
theorem DFact.bwd {P : Program} {ops : Array Oper} {x y : DOp} {st : AState} (h : DFact P ops x (y.app st)) (ho : Off y x) : DFact P ops x st :=
  let ⟨a, b⟩ := agr_bwd ho (h.foot ho.nw) (h.footh ho.nw)
  h.turn ho.nw (fun t m => (a t m).symm) fun hbl c m => (b hbl c m).symm

/-! ### two that don't meddle -/
structure Ind (x y : DOp) : Prop where
  xy : Off x y
  yx : Off y x
  dst : ∀ d, x.o.dst = some d → y.o.dst ≠ some d
  W : ∀ b ∈ effW x.e, b ∉ effW y.e

/-- what of an operation doesn't hang on the state -/
structure Own (x : DOp) : Prop where
  dst : x.s.dst = x.o.dst
  W : x.s.W = effW x.e
  ks : x.s.k = klOf x.e
  eff : x.s.wd = false → EffFact x.s.F x.o.dst x.e

theorem klOf_mem {e : Eff} {k : Nat} : k ∈ klOf e ↔ e.kl = some k := by
  unfold klOf
  cases e.kl with
  | none => simp
  | some k => simp [eq_comm]
theorem ind_out {x y : DOp} (hx : Own x) (hy : Own y) (h : indep x.s y.s = true) : Ind x y := by
  simp only [indep, Bool.and_eq_true, Bool.not_eq_true'] at h
  obtain ⟨⟨wx, wy⟩, ⟨⟨⟨⟨h1, h2⟩, h3⟩, h4⟩, h5⟩, h6⟩ := h
  have hex := hx.eff wx
  have hey := hy.eff wy
  have nin : ∀ (d : Option Tmp) (l : List Nat), notIn d l = true → ∀ t, d = some t → t ∉ l := by
    intro d l h t ht hm
    subst ht
    simp only [notIn, Bool.not_eq_true'] at h
    rw [memN_iff.2 hm] at h; cases h
  have off : ∀ {x y : DOp}, Own x → disN (bif y.s.bl then x.s.k else x.s.W) y.s.F = true → (y.s.bl = false → ∀ b ∈ effW x.e, b ∉ y.s.F) ∧ ∀ k, x.e.kl = some k → k ∉ y.s.F := by
    intro x y hx h
    cases hb : y.s.bl with
    | true =>
      simp only [hb, cond_true] at h
      exact ⟨fun h' => (by cases h'), fun k hk => disN_out h k (by rw [hx.ks]; exact klOf_mem.2 hk)⟩
    | false =>
      simp only [hb, cond_false] at h
      exact ⟨fun _ b hb => disN_out h b (by rw [hx.W]; exact hb), fun k hk => disN_out h k (by rw [hx.W]; exact effW_mem.2 (.inl hk))⟩
  obtain ⟨a1, a2⟩ := off hx h5
  obtain ⟨b1, b2⟩ := off hy h6
  refine ⟨⟨wy, fun d hd => nin _ _ h1 d (by rw [hx.dst]; exact hd), a1, a2, hex.kl, hex.lt⟩,
    ⟨wx, fun d hd => nin _ _ h3 d (by rw [hy.dst]; exact hd), b1, b2, hey.kl, hey.lt⟩, fun d hd hd' => ?_, fun b hb hm => disN_out h4 b (by rw [hx.W]; exact hb) (by rw [hy.W]; exact hm)⟩
  rw [hx.dst, hy.dst, hd, hd'] at h2
  simp [notEq] at h2

theorem killA_comm (a b : Option Nat) (x : AV) : killA a (killA b x) = killA b (killA a x) := by
  cases a <;> cases b <;> first | rfl | exact killV_comm _ _ _
theorem killO_comm (a b : Option Nat) (x : Option Blk) : killO a (killO b x) = killO b (killO a x) := by
  cases a <;> cases b <;> first | rfl | (cases x <;> simp [killO, killB_comm])

theorem comm_app {x y : DOp} (hx : Own x) (hy : Own y) (h : Ind x y) (st : AState) : y.app (x.app st) = x.app (y.app st) := by
  have hex := hx.eff h.yx.nw
  have hey := hy.eff h.xy.nw
  have kx : ∀ b, x.e.kl = some b → b ∉ y.s.F ++ effW y.e := fun b hb hm => by
    have hb' := effW_mem.2 (.inl hb)
    rcases List.mem_append.1 hm with m | m
    · exact h.xy.K b hb m
    · exact h.W b hb' m
  have ky : ∀ b, y.e.kl = some b → b ∉ x.s.F ++ effW x.e := fun b hb hm => by
    have hb' := effW_mem.2 (.inl hb)
    rcases List.mem_append.1 hm with m | m
    · exact h.yx.K b hb m
    · exact h.W b m hb'
  have avx : ∀ d, x.o.dst = some d → killA y.e.kl x.e.av = x.e.av := fun d hd => by
    rcases hex.av d hd with e | e
    · rw [e]; cases y.e.kl <;> rfl
    · exact killA_keep e hey.lt ky
  have avy : ∀ d, y.o.dst = some d → killA x.e.kl y.e.av = y.e.av := fun d hd => by
    rcases hey.av d hd with e | e
    · rw [e]; cases x.e.kl <;> rfl
    · exact killA_keep e hex.lt kx
  have e1 : (y.app (x.app st)).tm = (x.app (y.app st)).tm := by
    funext t
    rw [app_tm, app_tm, app_tm, app_tm]
    by_cases dx : x.o.dst = some t
    · have dy : ¬ y.o.dst = some t := h.dst t dx
      rw [if_neg dy, if_pos dx, if_pos dx, avx t dx]
    · by_cases dy : y.o.dst = some t
      · rw [if_pos dy, if_neg dx, if_pos dy, avy t dy]
      · rw [if_neg dy, if_neg dx, if_neg dx, if_neg dy, killA_comm]
  have e2 : (y.app (x.app st)).hp = (x.app (y.app st)).hp := by
    funext b
    rw [app_hp, app_hp, app_hp, app_hp]
    cases wx : wrGet x.e.wr b with
    | some B =>
      have hbx : b ∈ wrNames x.e.wr := Classical.byContradiction fun hn => by rw [wrGet_none.2 hn] at wx; cases wx
      have wy : wrGet y.e.wr b = none := wrGet_none.2 fun hm => h.W b (effW_mem.2 (.inr hbx)) (effW_mem.2 (.inr hm))
      rw [wy]
      exact killO_keep (fun B' e => by cases e; exact hex.blk b B wx) hey.lt ky
    | none =>
      cases wy : wrGet y.e.wr b with
      | some B => exact (killO_keep (fun B' e => by cases e; exact hey.blk b B wy) hex.lt kx).symm
      | none => exact killO_comm _ _ _
  cases hl : y.app (x.app st) with
  | mk a1 b1 =>
    cases hr : x.app (y.app st) with
    | mk a2 b2 =>
      rw [hl, hr] at e1 e2
      simp only at e1 e2
      rw [e1, e2]

/-! ### lists of operations, with their places -/
def fold (l : List (DOp × Nat)) (st : AState) : AState := l.foldl (fun s p => p.1.app s) st
theorem fold_cons (p : DOp × Nat) (l : List (DOp × Nat)) (st : AState) : fold (p :: l) st = fold l (p.1.app st) := rfl
theorem fold_append (a b : List (DOp × Nat)) (st : AState) : fold (a ++ b) st = fold b (fold a st) := by simp [fold]

theorem fold_swap {x : DOp} : ∀ {l : List (DOp × Nat)}, (∀ p ∈ l, ∀ st, p.1.app (x.app st) = x.app (p.1.app st)) → ∀ st, fold l (x.app st) = x.app (fold l st)
  | [], _, st => rfl
  | p :: r, h, st => by
    rw [fold_cons, fold_cons, h p (List.mem_cons_self ..)]
    exact fold_swap (fun q hq => h q (List.mem_cons_of_mem _ hq)) _

theorem fold_swap2 : ∀ {a b : List (DOp × Nat)}, (∀ p ∈ a, ∀ q ∈ b, ∀ st, q.1.app (p.1.app st) = p.1.app (q.1.app st)) → ∀ st, fold b (fold a st) = fold a (fold b st)
  | [], b, _, st => rfl
  | p :: r, b, h, st => by
    rw [fold_cons, fold_cons, fold_swap2 (fun p' hp => h p' (List.mem_cons_of_mem _ hp)), fold_swap (x := p.1) fun q hq => h p (List.mem_cons_self ..) q hq]

theorem fold_split {D : Nat → Bool} : ∀ {l : List (DOp × Nat)}, l.Pairwise (fun p q => D p.2 = false → D q.2 = true → ∀ st, q.1.app (p.1.app st) = p.1.app (q.1.app st)) → ∀ st,
    fold l st = fold (l.filter fun p => !D p.2) (fold (l.filter fun p => D p.2) st)
  | [], _, st => rfl
  | p :: r, h, st => by
    rw [List.pairwise_cons] at h
    rw [fold_cons, fold_split h.2]
    cases hp : D p.2 with
    | true => simp [List.filter_cons, hp, fold_cons]
    | false =>
      simp only [List.filter_cons, hp, Bool.not_false, if_true, fold_cons, Bool.false_eq_true, if_false]
      rw [fold_swap (x := p.1) fun q hq => h.1 q (List.mem_filter.1 hq).1 hp (by simpa using (List.mem_filter.1 hq).2)]

theorem fact_fold {P : Program} {ops : Array Oper} {x : DOp} : ∀ {l : List (DOp × Nat)} {st : AState}, DFact P ops x st → (∀ p ∈ l, Off p.1 x) → DFact P ops x (fold l st)
  | [], st, h, _ => h
  | p :: r, st, h, ho => fact_fold (l := r) (h.fwd (ho p (List.mem_cons_self ..))) fun q hq => ho q (List.mem_cons_of_mem _ hq)
theorem fact_unfold {P : Program} {ops : Array Oper} {x : DOp} : ∀ {l : List (DOp × Nat)} {st : AState}, DFact P ops x (fold l st) → (∀ p ∈ l, Off p.1 x) → DFact P ops x st
  | [], st, h, _ => h
  | p :: r, st, h, ho => (fact_unfold (l := r) (st := p.1.app st) h fun q hq => ho q (List.mem_cons_of_mem _ hq)).bwd (ho p (List.mem_cons_self ..))

/-! ### the order of the edges -/
theorem pairsOk_out {s : Summ} {p : Nat} : ∀ {l : List Summ} {m : Nat}, pairsOk s p m l = true → ∀ (i : Nat) (x : Summ), l[i]? = some x → Nat.testBit p (m + i) = true ∨ indep x s = true
  | [], m, _, i, x, h => by simp at h
  | y :: r, m, h, i, x, hx => by
    simp only [pairsOk] at h
    cases hb : (Nat.testBit p m || indep y s) with
    | false => simp [hb] at h
    | true =>
      simp only [hb, cond_true] at h
      cases i with
      | zero =>
        simp only [List.getElem?_cons_zero, Option.some.injEq] at hx
        subst hx
        simpa using hb
      | succ i =>
        have := pairsOk_out h i x (by simpa using hx)
        rwa [show m + 1 + i = m + (i + 1) by omega] at this

theorem backOk_out {i : Nat} : ∀ {l : List Edge}, backOk i l = true → ∀ e ∈ l, bindsA e = true → e.on < i
  | [], _, e, he, _ => by cases he
  | y :: r, h, e, he, hb => by
    simp only [backOk] at h
    cases hy : bindsA y with
    | false =>
      simp only [hy, cond_false] at h
      cases he with
      | head => rw [hy] at hb; cases hb
      | tail _ he => exact backOk_out h e he hb
    | true =>
      simp only [hy, cond_true] at h
      cases hlt : Nat.blt y.on i with
      | false => simp [hlt] at h
      | true =>
        simp only [hlt, cond_true] at h
        cases he with
        | head => exact Nat.le_of_ble_eq_true hlt
        | tail _ he => exact backOk_out h e he hb

theorem predsOf_out {pm : List Nat} {m : Nat} : ∀ {l : List Edge}, Nat.testBit (predsOf pm l) m = true → ∃ e ∈ l, bindsA e = true ∧ (m = e.on ∨ Nat.testBit (pm.getD e.on 0) m = true)
  | [], h => by simp [predsOf] at h
  | y :: r, h => by
    simp only [predsOf] at h
    cases hy : bindsA y with
    | false =>
      simp only [hy, cond_false] at h
      obtain ⟨e, he, h1⟩ := predsOf_out h
      exact ⟨e, List.mem_cons_of_mem _ he, h1⟩
    | true =>
      simp only [hy, cond_true] at h
      have h : (2 ^ y.on ||| pm.getD y.on 0 ||| predsOf pm r).testBit m = true := h
      rw [Nat.testBit_or, Nat.testBit_or, Bool.or_eq_true, Bool.or_eq_true] at h
      rcases h with (h | h) | h
      · refine ⟨y, List.mem_cons_self .., hy, .inl ?_⟩
        rw [Nat.testBit_two_pow] at h
        exact (of_decide_eq_true h).symm
      · exact ⟨y, List.mem_cons_self .., hy, .inr h⟩
      · obtain ⟨e, he, h1⟩ := predsOf_out h
        exact ⟨e, List.mem_cons_of_mem _ he, h1⟩

theorem drawOk_out : ∀ {r : List Oper} {q : List Summ} {i : Nat} {done : List Summ} {pm : List Nat}, drawOk r q i done pm = true → done.length = i → pm.length = i →
    ∃ Ps : List Nat, Ps.take i = pm ∧ q.length = r.length ∧ ∀ (k : Nat) (o : Oper) (s : Summ), r[k]? = some o → q[k]? = some s →
      backOk (i + k) o.after.toList = true ∧ (∀ m, Nat.testBit (Ps.getD (i + k) 0) m = true → ∃ e ∈ o.after.toList, bindsA e = true ∧ (m = e.on ∨ Nat.testBit (Ps.getD e.on 0) m = true)) ∧
      ∀ (m : Nat) (x : Summ), (done ++ q)[m]? = some x → m < i + k → Nat.testBit (Ps.getD (i + k) 0) m = true ∨ indep x s = true
  | [], [], i, done, pm, _, _, hp => ⟨pm, by simp [← hp], rfl, fun k o s h => by simp at h⟩
  | [], _ :: _, _, _, _, h, _, _ => by simp [drawOk] at h
  | _ :: _, [], _, _, _, h, _, _ => by simp [drawOk] at h
  | o :: r, s :: q, i, done, pm, h, hd, hp => by
    simp only [drawOk, Bool.and_eq_true] at h
    obtain ⟨⟨h1, h2⟩, h3⟩ := h
    obtain ⟨Ps, e1, e2, e3⟩ := drawOk_out h3 (by simp [hd]) (by simp [hp])
    have hPi : Ps[i]? = some (predsOf pm o.after.toList) := by
      have := congrArg (·[i]?) e1
      simp only [List.getElem?_take, show i < i + 1 by omega, if_true] at this
      rw [this, List.getElem?_append_right (by omega)]
      simp [hp]
    have hPd : Ps.getD i 0 = predsOf pm o.after.toList := by simp [List.getD_eq_getElem?_getD, hPi]
    have hPm : ∀ j, j < i → Ps.getD j 0 = pm.getD j 0 := by
      intro j hj
      have := congrArg (·[j]?) e1
      simp only [List.getElem?_take, show j < i + 1 by omega, if_true] at this
      rw [List.getElem?_append_left (by omega)] at this
      simp [List.getD_eq_getElem?_getD, this]
    refine ⟨Ps, ?_, by simp [e2], fun k o' s' hk1 hk2 => ?_⟩
    · have := congrArg (List.take i) e1
      rw [List.take_take, Nat.min_eq_left (by omega)] at this
      rw [this, List.take_append_of_le_length (by omega)]
      exact List.take_of_length_le (by omega)
    · cases k with
      | zero =>
        simp only [List.getElem?_cons_zero, Option.some.injEq] at hk1 hk2
        subst hk1 hk2
        refine ⟨h1, fun m hm => ?_, fun m x hx hm => ?_⟩
        · rw [Nat.add_zero, hPd] at hm
          obtain ⟨e, he, hb, h⟩ := predsOf_out hm
          refine ⟨e, he, hb, orR h fun h => ?_⟩
          rw [hPm e.on (backOk_out h1 e he hb)]; exact h
        · rw [Nat.add_zero, hPd]
          rw [List.getElem?_append_left (by omega)] at hx
          simpa using pairsOk_out h2 m x hx
      | succ k =>
        obtain ⟨g1, g2, g3⟩ := e3 k o' s' (by simpa using hk1) (by simpa using hk2)
        have hik : i + 1 + k = i + (k + 1) := by omega
        rw [hik] at g1 g2 g3
        refine ⟨g1, g2, fun m x hx hm => g3 m x ?_ hm⟩
        rw [List.append_assoc]; exact hx

end Go.Lk

namespace Go.Lk
open Go Go.RowKit

theorem forceN_out : ∀ {l : List Nat} {K : List Nat → Prop}, forceN l K → K l
  | [], _, h => h
  | x :: r, K, h => forceN_out (l := r) (K := fun r => K (x :: r)) h

theorem footT_out {tm : Nat → AV} {F : List Nat} : ∀ {rd : List Nat}, footT tm rd F = true → ∀ t ∈ rd, inO (namesO (tm t)) F = true
  | [], _, t, ht => by cases ht
  | x :: r, h, t, ht => by
    simp only [footT] at h
    cases hx : inO (namesO (tm x)) F with
    | false => simp [hx] at h
    | true =>
      simp only [hx, cond_true] at h
      cases ht with
      | head => exact hx
      | tail _ ht => exact footT_out h t ht

theorem footH_out {hp : Nat → Option Blk} {F : List Nat} : ∀ {G : List Nat}, footH hp F G = true → ∀ b ∈ G, ∀ B, hp b = some B → inO (namesB B) F = true
  | [], _, b, hb, _, _ => by cases hb
  | x :: r, h, b, hb, B, hB => by
    simp only [footH] at h
    cases hx : hp x with
    | none =>
      simp only [hx] at h
      cases hb with
      | head => rw [hx] at hB; cases hB
      | tail _ hb => exact footH_out h b hb B hB
    | some B0 =>
      simp only [hx] at h
      cases hi : inO (namesB B0) F with
      | false => simp [hi] at h
      | true =>
        simp only [hi, cond_true] at h
        cases hb with
        | head => rw [hx] at hB; cases hB; exact hi
        | tail _ hb => exact footH_out h b hb B hB

theorem footK_out {tm : Nat → AV} {hp : Nat → Option Blk} {rd : List Nat} {K : List Nat → Prop} (h : footK tm hp rd K) :
    ∃ F, K F ∧ (∀ t ∈ rd, inO (namesO (tm t)) F = true) ∧ ∀ b ∈ F, ∀ B, hp b = some B → inO (namesB B) F = true := by
  unfold footK at h
  split at h
  · have h := forceN_out h
    obtain ⟨h1, h2, h3⟩ := bif_and h
    exact ⟨_, h3, footT_out h1, footH_out h2⟩
  · exact h.elim

section
variable {P : Program} {T : Tab} (hT : TabOk P T)
include hT

omit hT in
theorem splitB_out {g : Bool} {o : Oper} {ρ : Operand → AV} {F : List Nat} {e : Eff} {K : Eff → Prop} (h : splitB g e K) (hf : EffFact F o.dst e) :
    ∃ e', K e' ∧ (∀ hp, OpSem P o ρ hp e → OpSem P o ρ hp e') ∧ EffFact F o.dst e' ∧ effW e' = effW e ∧ klOf e' = klOf e := by
  have turn : ∀ (b : Bool) (av : AV), e.av = .d (.bool b) → namesO av = some [] → (∀ (M : Mem) (ι : Inj), DenA M ι av (.bool b)) → (∀ hp, OpSem P o ρ hp e → OpSem P o ρ hp ⟨av, e.wr, e.kl⟩) ∧ EffFact F o.dst ⟨av, e.wr, e.kl⟩ := by
    intro b av he hn hv
    refine ⟨fun hp hs own M ι a w ho ha hh hρ => Oper.wp_monoQ (fun a' w' hq => ?_) (fun _ _ _ h => h) (hs own M ι a w ho ha hh hρ), ⟨hf.kl, hf.lt, hf.wr, hf.blk, fun d hd => .inr ?_⟩⟩
    · obtain ⟨v, e1, M', ι', f1, s1, a1, n1, g1, k1, d1⟩ := hq
      rw [he] at d1
      have := den_bool d1
      subst this
      exact ⟨_, e1, M', ι', f1, s1, a1, n1, g1, k1, hv M' ι'⟩
    · show inO (namesO av) _ = true
      rw [hn]; rfl
  cases g with
  | false => exact ⟨e, h, fun _ hs => hs, hf, rfl, rfl⟩
  | true =>
    obtain ⟨av, wr, kl⟩ := e
    simp only [splitB] at h
    split at h
    · rename_i b
      rcases bcase_out h with ⟨rfl, h1⟩ | ⟨rfl, h1⟩
      · obtain ⟨q1, q2⟩ := turn true .tt rfl rfl fun _ _ => .tt
        exact ⟨_, h1, q1, q2, rfl, rfl⟩
      · obtain ⟨q1, q2⟩ := turn false .ff rfl rfl fun _ _ => .ff
        exact ⟨_, h1, q1, q2, rfl, rfl⟩
    · exact ⟨_, h, fun _ hs => hs, hf, rfl, rfl⟩

omit hT in
theorem force_of {v : AV} {K : AV → Prop} (h : v ≠ .dead) (k : K v) : force v K := by
  cases v <;> first | exact k | exact absurd rfl h
omit hT in
theorem splitB_out0 {g : Bool} {o : Oper} {ρ : Operand → AV} {e : Eff} {K : Eff → Prop} (h : splitB g e K) :
    ∃ e', K e' ∧ (∀ hp, OpSem P o ρ hp e → OpSem P o ρ hp e') ∧ effW e' = effW e ∧ klOf e' = klOf e := by
  have turn : ∀ (b : Bool) (av : AV), e.av = .d (.bool b) → (∀ (M : Mem) (ι : Inj), DenA M ι av (.bool b)) → (∀ hp, OpSem P o ρ hp e → OpSem P o ρ hp ⟨av, e.wr, e.kl⟩) := by
    intro b av he hv hp hs own M ι a w ho ha hh hρ
    refine Oper.wp_monoQ (fun a' w' hq => ?_) (fun _ _ _ h => h) (hs own M ι a w ho ha hh hρ)
    obtain ⟨v, e1, M', ι', f1, s1, a1, n1, g1, k1, d1⟩ := hq
    rw [he] at d1
    have := den_bool d1
    subst this
    exact ⟨_, e1, M', ι', f1, s1, a1, n1, g1, k1, hv M' ι'⟩
  cases g with
  | false => exact ⟨e, h, fun _ hs => hs, rfl, rfl⟩
  | true =>
    obtain ⟨av, wr, kl⟩ := e
    simp only [splitB] at h
    split at h
    · rename_i b
      rcases bcase_out h with ⟨rfl, h1⟩ | ⟨rfl, h1⟩
      · exact ⟨_, h1, turn true .tt rfl fun _ _ => .tt, rfl, rfl⟩
      · exact ⟨_, h1, turn false .ff rfl fun _ _ => .ff, rfl, rfl⟩
    · exact ⟨_, h, fun _ hs => hs, rfl, rfl⟩
omit hT in
theorem footW_out {tm : Nat → AV} {hp : Nat → Option Blk} {rd : List Nat} {K : List Nat → Prop} {K2 : Prop} (h : footW tm hp rd K K2) :
    K2 ∨ ∃ F, K F ∧ (∀ t ∈ rd, inO (namesO (tm t)) F = true) ∧ ∀ b ∈ F, ∀ B, hp b = some B → inO (namesB B) F = true := by
  unfold footW at h
  split at h
  · have h := forceN_out h
    cases hb : (footT tm rd _ && footH hp _ _) with
    | false => rw [hb] at h; exact .inl h
    | true =>
      rw [hb] at h
      rw [Bool.and_eq_true] at hb
      exact .inr ⟨_, h, footT_out hb.1, footH_out hb.2⟩
  · exact .inl h

omit hT in
/-- a value handed on: the blocks have no part in it -/
theorem blind_out {o : Oper} {ρ : Operand → AV} {hp : Nat → Option Blk} {K : Eff → Prop} (hb : blindOp o.op = true) (h : opG T P o ρ hp K) : ∃ e, K e ∧ ∀ hp', opG T P o ρ hp' (fun e' => e' = e) := by
  have one : ∀ x : Operand, force (ρ x) (val K) → ∃ e, K e ∧ force (ρ x) (val fun e' => e' = e) := fun x h =>
    let q := force_out h
    ⟨_, q.1, force_of q.2 rfl⟩
  cases ho : o.op with
  | move x =>
    simp only [opG, ho] at h ⊢
    obtain ⟨e, h1, h2⟩ := one _ h; exact ⟨e, h1, fun _ => h2⟩
  | assign x =>
    simp only [opG, ho] at h ⊢
    obtain ⟨e, h1, h2⟩ := one _ h; exact ⟨e, h1, fun _ => h2⟩
  | pick c a b =>
    simp only [opG, ho] at h ⊢
    split at h
    · obtain ⟨e, h1, h2⟩ := one _ h; exact ⟨e, h1, fun _ => h2⟩
    · obtain ⟨e, h1, h2⟩ := one _ h; exact ⟨e, h1, fun _ => h2⟩
    · rename_i c' _
      rcases bcase_out h with ⟨rfl, h'⟩ | ⟨rfl, h'⟩
      · obtain ⟨e, h1, h2⟩ := one _ h'; exact ⟨e, h1, fun _ => ⟨h2⟩⟩
      · obtain ⟨e, h1, h2⟩ := one _ h'; exact ⟨e, h1, fun _ => ⟨h2⟩⟩
    · exact h.elim
  | _ => rw [ho] at hb; cases hb

theorem opD_out {ops : Array Oper} {o : Oper} {gb : Bool} {gs : List Nat} {tm : Nat → AV} {hp : Nat → Option Blk} {K : Eff → Summ → Prop} (h : opD T P o gb gs tm hp K) (hgs : ∀ t ∈ gs, namesO (tm t) = some []) 
    (hg : match o.guard with
    | none => True
    | some (g, want) => ∃ t, (ops[g]?).bind (·.dst) = some t ∧ t ∈ gs ∧ GSay (tm t) want true) :
    ∃ e s, K e s ∧ ((∀ k, e.kl = some k → ¬ (1000000 ≤ k ∧ k < 1000004)) → DFact P ops ⟨o, true, e, s⟩ ⟨tm, hp⟩) := by
  unfold opD at h
  have h := forceN_out h
  rcases footW_out h with h | ⟨F, h, h1, h2⟩
  · obtain ⟨e, h, hs⟩ := opG_sound hT h
    have h := forceN_out (forceN_out h)
    obtain ⟨e, h, hturn, hW, hks⟩ := splitB_out0 (P := P) (o := o) (ρ := evT (restrT (tmpsL (readsP o.op tm)) tm)) h
    rw [← hW] at h
    refine ⟨e, _, h, fun hk => ⟨rfl, rfl, fun h => (by cases h), fun h => (by cases h), rfl, fun h => (by cases h), hk, ?_, fun _ => ⟨tmpsL (readsP o.op tm), fun t ht => List.mem_append_right _ ht, fun h => (by cases h), fun h => (by cases h), fun _ => hturn _ hs⟩, fun h => by cases h⟩⟩
    split at hg
    · rename_i e0
      show match o.guard with | none => _ | some (g, want) => _
      rw [e0]
    · rename_i g want e0
      obtain ⟨t, q1, q2, q3⟩ := hg
      show match o.guard with | none => _ | some (g, want) => _
      rw [e0]
      exact ⟨t, q1, List.mem_append_left _ q2, q3⟩
  have hsem : ∃ e, (bif effOk F o.dst e then forceN (effW e) fun W => forceN (gs ++ tmpsL (readsP o.op tm)) fun rg => splitB gb e fun e' => K e' ⟨o.dst, rg, F, W, blindOp o.op, klOf e', false⟩ else False) ∧
      (blindOp o.op = false → OpSem P o (evT (restrT (tmpsL (readsP o.op tm)) tm)) (restrH F hp) e) ∧ (blindOp o.op = true → ∀ hp', OpSem P o (evT (restrT (tmpsL (readsP o.op tm)) tm)) hp' e) := by
    cases hb : blindOp o.op with
    | false =>
      obtain ⟨e, h, hs⟩ := opG_sound hT h
      exact ⟨e, by rw [hb] at h; exact h, fun _ => hs, fun h => by cases h⟩
    | true =>
      obtain ⟨e, h, hs⟩ := blind_out hb h
      refine ⟨e, by rw [hb] at h; exact h, (fun h => by cases h), fun _ hp' => ?_⟩
      obtain ⟨e', he, hs⟩ := opG_sound hT (hs hp')
      rw [← he]; exact hs
  obtain ⟨e, h, hsem, hsemb⟩ := hsem
  obtain ⟨he, h⟩ := bif_one h
  have h := forceN_out (forceN_out h)
  obtain ⟨e, h, hturn, he, hW, hks⟩ := splitB_out h (effOk_out he)
  rw [← hW] at h
  refine ⟨e, _, h, fun hk => ⟨rfl, rfl, fun _ t ht => ?_, fun _ _ => h2, rfl, fun _ => he, hk, ?_, fun _ => ⟨tmpsL (readsP o.op tm), fun t ht => List.mem_append_right _ ht, fun _ hb => hturn _ (hsem hb), fun _ hb hp' => hturn _ (hsemb hb hp'), fun h => by cases h⟩, fun h => by cases h⟩⟩
  · rcases List.mem_append.1 ht with m | m
    · show inO (namesO (tm t)) F = true
      rw [hgs t m]; rfl
    · exact h1 t m
  · split at hg
    · rename_i e0
      show match o.guard with | none => _ | some (g, want) => _
      rw [e0]
    · rename_i g want e0
      obtain ⟨t, q1, q2, q3⟩ := hg
      show match o.guard with | none => _ | some (g, want) => _
      rw [e0]
      exact ⟨t, q1, List.mem_append_left _ q2, q3⟩

omit hT in
def DGoal (P : Program) (ops : Array Oper) (K : AState → Prop) (l : List Oper) (tm : Nat → AV) (hp : Nat → Option Blk) (acc : List Summ) : Prop :=
  ∃ xs : List DOp, xs.map (·.o) = l ∧ drawOk ops.toList (acc ++ xs.map (·.s)) 0 [] [] = true ∧ K (xs.foldl (fun s x => x.app s) ⟨tm, hp⟩) ∧
      ∀ (i : Nat) (x : DOp), xs[i]? = some x → DFact P ops x ((xs.take i).foldl (fun s x => x.app s) ⟨tm, hp⟩)

theorem AOpsD_out {ops : Array Oper} {K : AState → Prop} : ∀ {l : List Oper} {tm : Nat → AV} {hp : Nat → Option Blk} {acc : List Summ}, AOpsD T P ops l tm hp acc K → DGoal P ops K l tm hp acc
  | [], tm, hp, acc, h => by
    obtain ⟨h1, h2⟩ := condK_out h
    exact ⟨[], rfl, by simpa using h1, h2, fun i x h => by simp at h⟩
  | o :: rest, tm, hp, acc, h => by
    have next : ∀ (x : DOp), x.o = o → DFact P ops x ⟨tm, hp⟩ → AOpsD T P ops rest (x.app ⟨tm, hp⟩).tm (x.app ⟨tm, hp⟩).hp (acc ++ [x.s]) K →
        DGoal P ops K (o :: rest) tm hp acc := by
      intro x hx hf h
      obtain ⟨xs, e1, e2, e3, e4⟩ := AOpsD_out h
      refine ⟨x :: xs, by simp [hx, e1], by simpa using e2, e3, fun i y hy => ?_⟩
      cases i with
      | zero =>
        simp only [List.getElem?_cons_zero, Option.some.injEq] at hy
        subst hy
        exact hf
      | succ i => exact e4 i y (by simpa using hy)
    have take : ∀ gs, (∀ t ∈ gs, namesO (tm t) = some []) → (match o.guard with
    | none => True
    | some (g, want) => ∃ t, (ops[g]?).bind (·.dst) = some t ∧ t ∈ gs ∧ GSay (tm t) want true) →
        opD T P o (isG ops o.dst ops.toList) gs tm hp (fun e s => step tm hp o.dst e fun st => AOpsD T P ops rest st.tm st.hp (acc ++ [s]) K) → DGoal P ops K (o :: rest) tm hp acc := by
      intro gs h1 h2 h
      obtain ⟨e, s, h3, h4⟩ := opD_out hT h h1 h2
      obtain ⟨h5, h6⟩ := step_out h3
      exact next ⟨o, true, e, s⟩ rfl (h4 h5) h6
    have skip : ∀ t, namesO (tm t) = some [] → (match o.guard with
    | none => False
    | some (g, want) => (ops[g]?).bind (·.dst) = some t ∧ GSay (tm t) want false) →
        step tm hp o.dst ⟨.tup [], [], none⟩ (fun st => AOpsD T P ops rest st.tm st.hp (acc ++ [⟨o.dst, [t], [], [], false, [], false⟩]) K) → DGoal P ops K (o :: rest) tm hp acc := by
      intro t h1 h2 h
      obtain ⟨h5, h6⟩ := step_out h
      refine next ⟨o, false, ⟨.tup [], [], none⟩, ⟨o.dst, [t], [], [], false, [], false⟩⟩ rfl ⟨rfl, rfl, fun _ t' ht => ?_, fun _ _ b hb => (by cases hb), rfl, fun _ => ⟨fun k h => (by cases h), fun k h => (by cases h), fun b hb => (by cases hb), fun c B h => (by cases h), fun d _ => .inr rfl⟩, fun k h => (by cases h), ?_, fun h => (by cases h), fun _ => rfl⟩ h6
      · have : t' = t := by simpa using ht
        subst this
        show inO (namesO (tm t')) [] = true
        rw [h1]; rfl
      · split at h2
        · exact h2.elim
        · rename_i g want e0
          obtain ⟨q1, q3⟩ := h2
          show match o.guard with | none => _ | some (g, want) => _
          rw [e0]
          exact ⟨t, q1, by simp, q3⟩
    rw [AOpsD_cons] at h
    simp only [stepD, stD_eq] at h
    cases hg : o.guard with
    | none =>
      simp only [hg] at h
      exact take [] (fun t ht => by cases ht) (by rw [hg]; trivial) h
    | some gw =>
      obtain ⟨g, want⟩ := gw
      simp only [hg] at h take skip
      cases ht : (ops[g]?).bind (·.dst) with
      | none => simp [ht] at h
      | some t =>
        simp only [ht] at h
        have go : ∀ b, namesO (tm t) = some [] → (tm t = .d (.bool b) ∨ (tm t = .tt ∧ b = true) ∨ (tm t = .ff ∧ b = false)) →
            (if b = want then opD T P o (isG ops o.dst ops.toList) [t] tm hp (fun e s => step tm hp o.dst e fun st => AOpsD T P ops rest st.tm st.hp (acc ++ [s]) K) else step tm hp o.dst ⟨.tup [], [], none⟩ (fun st => AOpsD T P ops rest st.tm st.hp (acc ++ [⟨o.dst, [t], [], [], false, [], false⟩]) K)) → DGoal P ops K (o :: rest) tm hp acc := by
          intro b hn hb h
          by_cases e : b = want
          · rw [if_pos e] at h
            exact take [t] (fun t' ht' => by rw [List.mem_singleton.1 ht']; exact hn) ⟨t, ht, by simp, .inl ⟨b, hb, by simp [e]⟩⟩ h
          · rw [if_neg e] at h
            exact skip t hn ⟨ht, .inl ⟨b, hb, by simp [e]⟩⟩ h
        split at h
        · rename_i hx
          refine go true (by rw [hx]; rfl) (.inr (.inl ⟨hx, rfl⟩)) ?_
          cases want
          · simpa using h
          · simpa using h
        · rename_i hx
          refine go false (by rw [hx]; rfl) (.inr (.inr ⟨hx, rfl⟩)) ?_
          cases want
          · simpa using h
          · simpa using h
        · rename_i b hx
          rcases bcase_out h with ⟨rfl, h1⟩ | ⟨rfl, h1⟩
          · refine go true (by rw [hx]; rfl) (.inl hx) ?_
            cases want
            · simpa using h1
            · simpa using h1
          · refine go false (by rw [hx]; rfl) (.inl hx) ?_
            cases want
            · simpa using h1
            · simpa using h1
        · rename_i hx
          exact skip t (by rw [hx]; rfl) ⟨ht, .inr ⟨hx, rfl⟩⟩ h
        · exact h.elim
end

theorem bindsA_eq (e : Edge) : Region.binds .any e = bindsA e := by
  unfold Region.binds bindsA
  split <;> simp_all <;> rfl

theorem fold_eq (l : List (DOp × Nat)) (st : AState) : fold l st = (l.map (·.1)).foldl (fun s x => x.app s) st := by
  simp [fold, List.foldl_map]

section
variable {own : Nat → Prop} {w0 : World} {M0 : Mem} {ι0 : Inj} {N : Nat} {P : Program}

theorem ARel.drawn {st : AState} {a : Act} {w : World} (h : ARel own w0 M0 ι0 N st a w) (n : Nat) : ARel own w0 M0 ι0 N st a { w with drawn := n } := by
  obtain ⟨M, ι, h1, h2, h3, h4, h5, h6, h7, h8, h9⟩ := h
  exact ⟨M, ι, h1, h2, h3, ⟨h4.os, h4.tape, h4.output, h4.size, h4.block⟩, ⟨h5.dom, h5.virt, h5.at_, h5.inj⟩, h6, h7, h8, h9⟩

/-- running an operation where its facts hold -/
theorem run_fact {ops : Array Oper} {Q : Exit → Act → World → Prop} (hown : ∀ c, w0.heap.size ≤ c → own c) {x : DOp} {st : AState} {a : Act} {w : World} {j : Nat} {K : Act → World → Prop} (hj : ops[j]? = some x.o) (hf : DFact P ops x st) (hr : ARel own w0 M0 ι0 N st a w) (hd : DstOk N x.o)
    (hK : ∀ a' w', ARel own w0 M0 ι0 N (x.app st) a' w' → K a' w') : wpOp P ops Q j K a w := by
  obtain ⟨M, ι, h1, h2, h3, h4, h5, h6, h7, h8, h9⟩ := hr
  have hw : Region.wanted x.o (yielded ops a.tmps) = x.act := by
    have hg := hf.guard
    unfold Region.wanted
    split at hg
    · rename_i e; rw [e, hg]
    · rename_i g want e
      rw [e]
      obtain ⟨t, q1, q2, ⟨b, q3, q4⟩ | ⟨q3, q4⟩⟩ := hg
      · have hv : a.tmps.getD t undef = .bool b := by
          have hden := h7 t
          rcases q3 with q | ⟨q, rfl⟩ | ⟨q, rfl⟩
          · exact den_bool (q ▸ hden)
          · exact (den_guard hden).1 q
          · exact (den_guard hden).2 q
        simp [yields_bool q1 hv, q4]
      · simp [yields_undef q1 (den_undef (q3 ▸ h7 t)), q4]
  unfold wpOp
  rw [hj]
  simp only [hw]
  cases hact : x.act with
  | false =>
    simp only [Bool.false_eq_true, if_false]
    have he := hf.off hact
    refine hK _ _ ?_
    have : x.app st = ⟨putT st.tm x.o.dst (.tup []), st.hp⟩ := by simp only [DOp.app, he]; rfl
    rw [this]
    exact skip_rel ⟨M, ι, h1, h2, h3, h4, h5, h6, h7, h8, h9⟩ hd
  | true =>
    simp only [if_true]
    left
    obtain ⟨rd, hrd, hsem, hsemb, hsemw⟩ := hf.sem hact
    have hρ : ∀ y, evT (restrT rd st.tm) y = .dead ∨ evT (restrT rd st.tm) y = evT st.tm y := fun y => by
      cases y with
      | tmp t =>
        simp only [evT, restrT]
        cases memN t rd with
        | true => exact .inr rfl
        | false => exact .inl rfl
      | _ => exact .inr rfl
    have hrun : x.o.wp P a w (fun a' w' => ∃ v, a' = a.put x.o.dst v ∧ ∃ (M' : Mem) (ι' : Inj), FrameOwn own w w' ∧ Sub M M' ∧ Agree M' w' ∧ NewDom own M M' ∧ HRel own M' ι' (x.e.hp st.hp) w' ∧ (∀ b, Kp x.e.kl b → ι' b = ι b) ∧ (x.o.dst ≠ none → DenA M' ι' x.e.av v)) (fun _ _ _ => False) := by
      have ho : ∀ c, w.heap.size ≤ c → own c := fun c hc => hown c (Nat.le_trans h4.size hc)
      have plain : OpSem P x.o (evT (restrT rd st.tm)) st.hp x.e → x.o.wp P a w (fun a' w' => ∃ v, a' = a.put x.o.dst v ∧ ∃ (M' : Mem) (ι' : Inj), FrameOwn own w w' ∧ Sub M M' ∧ Agree M' w' ∧ NewDom own M M' ∧ HRel own M' ι' (x.e.hp st.hp) w' ∧ (∀ b, Kp x.e.kl b → ι' b = ι b) ∧ (x.o.dst ≠ none → DenA M' ι' x.e.av v)) (fun _ _ _ => False) := by
        intro hs
        refine Oper.wp_monoQ (fun a' w' hq => ?_) (fun _ _ _ h => h.elim) (hs own M ι a w ho h2 h5 fun y => ?_)
        · obtain ⟨v, e1, M', ι', f1, s1, a1, n1, g1, k1, d1⟩ := hq
          exact ⟨v, e1, M', ι', f1, s1, a1, n1, g1, k1, fun _ => d1⟩
        · rcases hρ y with e | e
          · rw [e]; exact .dead _
          · rw [e]; exact evT_den h7 y
      cases hwd : x.s.wd with
      | true => exact plain (hsemw hwd)
      | false =>
        cases hbl : x.s.bl with
        | false => exact opSem_frame (hsem hwd hbl) (hf.eff hwd) hρ (fun _ _ => rfl) (hf.footh hwd hbl) own M ι a w ho h2 h5 (evT_den h7)
        | true => exact plain (hsemb hwd hbl st.hp)
    refine Oper.wp_monoQ (fun a' w' hq => ?_) (fun _ _ _ h => h.elim) hrun
    obtain ⟨v, rfl, M', ι', f1, s1, a1, n1, g1, k1, d1⟩ := hq
    refine hK _ _ ⟨M', ι', h1.trans s1, a1, h3.trans n1, h4.trans f1, g1, fun b hb hb' => ?_, ?_, by rw [put_size, h8], by rw [put_def, h9]⟩
    · rw [k1 b (Kp_far hf.kl hb hb')]
      exact h6 b hb hb'
    · intro t
      show DenA M' ι' (putT (killT x.e.kl st.tm) x.o.dst x.e.av t) _
      cases hdst : x.o.dst with
      | none => exact killT_den s1 k1 (h7 t)
      | some d =>
        rw [← hdst]
        exact put_den (by rw [h8]; exact hd) (d1 (by rw [hdst]; simp)) (fun t => killT_den s1 k1 (h7 t)) t

theorem countP_lt {α : Type} {p q : α → Bool} : ∀ {l : List α} {x : α}, (∀ y, q y = true → p y = true) → x ∈ l → p x = true → q x = false → l.countP q < l.countP p
  | [], x, _, hx, _, _ => by cases hx
  | y :: r, x, h, hx, h1, h2 => by
    have hle : r.countP q ≤ r.countP p := List.countP_mono_left fun z _ => h z
    cases hx with
    | head =>
      rw [List.countP_cons_of_pos h1, List.countP_cons_of_neg (by simp [h2])]
      omega
    | tail _ hx =>
      have := countP_lt h hx h1 h2
      cases hq : q y with
      | true => rw [List.countP_cons_of_pos (h y hq), List.countP_cons_of_pos hq]; omega
      | false =>
        rw [List.countP_cons_of_neg (p := q) (by simp [hq])]
        cases hp : p y with
        | true => rw [List.countP_cons_of_pos hp]; omega
        | false => rw [List.countP_cons_of_neg (by simp [hp])]; exact this

def Dn (listed : Array Bool) (i : Nat) : Bool := listed.getD i false

theorem dn_true {listed : Array Bool} {i : Nat} (hi : i < listed.size) : listed.getD i true = Dn listed i := by simp [Dn, Array.getD, hi]
theorem dn_set {listed : Array Bool} {i j : Nat} (hi : i < listed.size) : Dn (listed.setIfInBounds i true) j = (decide (j = i) || Dn listed j) := by
  by_cases h : j = i
  · subst h; simp [Dn, Array.getD, hi]
  · have := getD_set_ne (listed := listed) (i := i) (j := j) false fun e => h e.symm
    simp [Dn, this, h]

theorem any_sound {ops : Array Oper} {Q : Exit → Act → World → Prop} (hown : ∀ c, w0.heap.size ≤ c → own c) (hdst : ∀ o ∈ ops, DstOk N o) {xs : List DOp} {s0 : AState} (hxs : xs.map (·.o) = ops.toList) (hdraw : drawOk ops.toList (xs.map (·.s)) 0 [] [] = true)
    (hfact : ∀ (i : Nat) (x : DOp), xs[i]? = some x → DFact P ops x ((xs.take i).foldl (fun s x => x.app s) s0)) (hQ : ∀ a w, ARel own w0 M0 ι0 N (xs.foldl (fun s x => x.app s) s0) a w → Q .normal a w) :
    ∀ (fuel : Nat) (listed : Array Bool) (a : Act) (w : World), listed.size = ops.size → (List.range ops.size).countP (fun i => !Dn listed i) ≤ fuel → (∀ (k : Nat) (o : Oper), ops[k]? = some o → Dn listed k = true → ∀ e ∈ o.after, Region.binds .any e = true → Dn listed e.on = true) →
      ARel own w0 M0 ι0 N (fold (xs.zipIdx.filter fun p => Dn listed p.2) s0) a w → wpAny P .any ops Q fuel listed a w := by
  obtain ⟨Ps, _, hlen, hpairs⟩ := drawOk_out hdraw rfl rfl
  simp only [Nat.zero_add, List.nil_append] at hpairs
  have hn : xs.length = ops.size := by have := congrArg List.length hxs; simpa using this
  have hop : ∀ (k : Nat) (x : DOp), xs[k]? = some x → ops[k]? = some x.o := fun k x hx => by
    have := congrArg (·[k]?) hxs
    simp only [List.getElem?_map, hx, Option.map_some, Array.getElem?_toList] at this
    exact this.symm
  have hsum : ∀ (k : Nat) (x : DOp), xs[k]? = some x → (xs.map (·.s))[k]? = some x.s := fun k x hx => by simp [hx]
  have hown' : ∀ (k : Nat) (x : DOp), xs[k]? = some x → Own x := fun k x hx => let h := hfact k x hx; ⟨h.dst, h.W, h.ks, h.eff⟩
  have hmem : ∀ p ∈ xs.zipIdx, xs[p.2]? = some p.1 := fun p hp => by
    obtain ⟨i, hi⟩ := List.getElem?_of_mem hp
    rw [List.getElem?_zipIdx] at hi
    cases hx : xs[i]? with
    | none => rw [hx] at hi; cases hi
    | some y =>
      rw [hx] at hi
      simp only [Option.map_some, Option.some.injEq, Nat.zero_add] at hi
      subst hi
      exact hx
  intro fuel
  -- what a state of the region says
  have main : ∀ (listed : Array Bool), listed.size = ops.size → (∀ (k : Nat) (o : Oper), ops[k]? = some o → Dn listed k = true → ∀ e ∈ o.after, Region.binds .any e = true → Dn listed e.on = true) →
      ∀ (j : Nat) (x : DOp), xs[j]? = some x → Dn listed j = false → (∀ e ∈ x.o.after, Region.binds .any e = true → Dn listed e.on = true) →
        DFact P ops x (fold (xs.zipIdx.filter fun p => Dn listed p.2) s0) ∧ fold (xs.zipIdx.filter fun p => Dn (listed.setIfInBounds j true) p.2) s0 = x.app (fold (xs.zipIdx.filter fun p => Dn listed p.2) s0) := by
    intro listed hsz hcl j x hx hjn hready
    have hj : j < xs.length := (List.getElem?_eq_some_iff.1 hx).1
    have reach : ∀ (m q : Nat) (o : Oper), ops[q]? = some o → (∀ e ∈ o.after, Region.binds .any e = true → Dn listed e.on = true) → Nat.testBit (Ps.getD q 0) m = true → Dn listed m = true := by
      intro m q
      induction q using Nat.strongRecOn with
      | _ q ih =>
        intro o ho hp hb
        have hq : q < ops.size := (Array.getElem?_eq_some_iff.1 ho).1
        obtain ⟨y, hy⟩ : ∃ y, xs[q]? = some y := ⟨xs[q]'(by omega), by simp⟩
        have hyo : y.o = o := by have := hop q y hy; rw [ho] at this; exact (Option.some.inj this).symm
        subst hyo
        obtain ⟨g1, g2, _⟩ := hpairs q y.o y.s (by simpa using ho) (hsum q y hy)
        obtain ⟨e, he, hbe, h⟩ := g2 m hb
        have hD := hp e (by simpa using he) (by rw [bindsA_eq]; exact hbe)
        rcases h with rfl | h
        · exact hD
        · have hlt := backOk_out g1 e he hbe
          have ho' : ops[e.on]? = some (ops[e.on]'(by omega)) := by simp
          exact ih e.on hlt _ ho' (hcl _ _ ho' hD) h
    have ind : ∀ (m k : Nat) (y z : DOp), xs[m]? = some y → xs[k]? = some z → m < k → Dn listed m = false → (∀ e ∈ z.o.after, Region.binds .any e = true → Dn listed e.on = true) → Ind y z := by
      intro m k y z hy hz hmk hm hp
      obtain ⟨_, _, g3⟩ := hpairs k z.o z.s (by have := hop k z hz; simpa using this) (hsum k z hz)
      rcases g3 m y.s (hsum m y hy) hmk with h | h
      · rw [reach m k z.o (hop k z hz) hp h] at hm; cases hm
      · exact ind_out (hown' m y hy) (hown' k z hz) h
    have closedOf : ∀ (k : Nat) (z : DOp), xs[k]? = some z → Dn listed k = true → ∀ e ∈ z.o.after, Region.binds .any e = true → Dn listed e.on = true := fun k z hz hk => hcl k z.o (hop k z hz) hk
    -- the list about j
    let L := xs.zipIdx
    let A := L.take j
    let B := L.drop (j + 1)
    have hLj : L[j]? = some (x, j) := by
      show (xs.zipIdx)[j]? = _
      rw [List.getElem?_zipIdx, hx]; simp
    have hL : L = A ++ (x, j) :: B := by
      have h1 : L = L.take j ++ L.drop j := (List.take_append_drop j L).symm
      have h2 : L.drop j = (x, j) :: L.drop (j + 1) := by
        have hjl := (List.getElem?_eq_some_iff.1 hLj).1
        rw [List.drop_eq_getElem_cons hjl]
        congr 1
        have := List.getElem?_eq_getElem hjl
        rw [this] at hLj
        exact Option.some.inj hLj
      rw [h2] at h1
      exact h1
    have hA : ∀ p ∈ A, p.2 < j ∧ xs[p.2]? = some p.1 := fun p hp => by
      obtain ⟨i, hi⟩ := List.getElem?_of_mem hp
      have : i < j := by
        have := (List.getElem?_eq_some_iff.1 hi).1
        have h2 : A.length ≤ j := by simp [A]; omega
        omega
      rw [List.getElem?_take_of_lt this, List.getElem?_zipIdx] at hi
      cases hy : xs[i]? with
      | none => rw [hy] at hi; cases hi
      | some y =>
        rw [hy] at hi
        simp only [Option.map_some, Option.some.injEq, Nat.zero_add] at hi
        subst hi
        exact ⟨this, hy⟩
    have hB : ∀ p ∈ B, j < p.2 ∧ xs[p.2]? = some p.1 := fun p hp => by
      obtain ⟨i, hi⟩ := List.getElem?_of_mem hp
      rw [List.getElem?_drop, List.getElem?_zipIdx] at hi
      cases hy : xs[j + 1 + i]? with
      | none => rw [hy] at hi; cases hi
      | some y =>
        rw [hy] at hi
        simp only [Option.map_some, Option.some.injEq, Nat.zero_add] at hi
        subst hi
        exact ⟨by simp; omega, hy⟩
    have hS : fold (L.filter fun p => Dn listed p.2) s0 = fold (B.filter fun p => Dn listed p.2) (fold (A.filter fun p => Dn listed p.2) s0) := by
      rw [hL, List.filter_append, List.filter_cons, if_neg (by simp [hjn]), fold_append]
    have hS' : fold (L.filter fun p => Dn (listed.setIfInBounds j true) p.2) s0 = fold (B.filter fun p => Dn listed p.2) (x.app (fold (A.filter fun p => Dn listed p.2) s0)) := by
      have eA : A.filter (fun p => Dn (listed.setIfInBounds j true) p.2) = A.filter fun p => Dn listed p.2 := List.filter_congr fun p hp => by
        rw [dn_set (by omega)]; simp [show p.2 ≠ j by have := (hA p hp).1; omega]
      have eB : B.filter (fun p => Dn (listed.setIfInBounds j true) p.2) = B.filter fun p => Dn listed p.2 := List.filter_congr fun p hp => by
        rw [dn_set (by omega)]; simp [show p.2 ≠ j by have := (hB p hp).1; omega]
      rw [hL, List.filter_append, List.filter_cons, if_pos (by rw [dn_set (by omega)]; simp), fold_append, eA, eB, fold_cons]
    have indB : ∀ p ∈ B.filter (fun p => Dn listed p.2), Ind x p.1 := fun p hp => by
      obtain ⟨m1, m2⟩ := List.mem_filter.1 hp
      obtain ⟨q1, q2⟩ := hB p m1
      exact ind j p.2 x p.1 hx q2 q1 hjn (closedOf p.2 p.1 q2 m2)
    refine ⟨?_, ?_⟩
    · show DFact P ops x (fold (L.filter fun p => Dn listed p.2) s0)
      rw [hS]
      have f0 : DFact P ops x (fold A s0) := by
        have := hfact j x hx
        rw [fold_eq]
        have e : A.map (·.1) = xs.take j := by
          show (xs.zipIdx.take j).map (·.1) = _
          rw [List.map_take, List.zipIdx_map_fst]
        rw [e]; exact this
      have f1 := fact_fold (l := B.filter fun p => Dn listed p.2) f0 fun p hp => (indB p hp).yx
      have pw : A.Pairwise fun p q => Dn listed p.2 = false → Dn listed q.2 = true → ∀ st, q.1.app (p.1.app st) = p.1.app (q.1.app st) := by
        have key : L.Pairwise fun p q => p.2 < q.2 := by
          rw [List.pairwise_iff_getElem]
          intro i k hi hk hik
          simp only [L, List.getElem_zipIdx]
          omega
        refine (key.sublist (List.take_sublist j L)).imp_of_mem fun {p q} hp hq hlt hp1 hq1 st => ?_
        have ip := ind p.2 q.2 p.1 q.1 (hA p hp).2 (hA q hq).2 hlt hp1 (closedOf q.2 q.1 (hA q hq).2 hq1)
        exact comm_app (hown' _ _ (hA p hp).2) (hown' _ _ (hA q hq).2) ip st
      rw [fold_split (D := Dn listed) pw, fold_swap2] at f1
      · exact fact_unfold f1 fun p hp => by
          obtain ⟨m1, m2⟩ := List.mem_filter.1 hp
          exact (ind p.2 j p.1 x (hA p m1).2 hx (hA p m1).1 (by simpa using m2) hready).xy
      · intro p hp q hq st
        obtain ⟨m1, m2⟩ := List.mem_filter.1 hp
        obtain ⟨m3, m4⟩ := List.mem_filter.1 hq
        have ip := ind p.2 q.2 p.1 q.1 (hA p m1).2 (hB q m3).2 (by have := (hA p m1).1; have := (hB q m3).1; omega) (by simpa using m2) (closedOf q.2 q.1 (hB q m3).2 m4)
        exact comm_app (hown' _ _ (hA p m1).2) (hown' _ _ (hB q m3).2) ip st
    · show fold (L.filter fun p => Dn (listed.setIfInBounds j true) p.2) s0 = x.app (fold (L.filter fun p => Dn listed p.2) s0)
      rw [hS, hS']
      refine fold_swap (fun p hp st => ?_) _
      exact comm_app (hown' j x hx) (hown' _ _ (hB p (List.mem_filter.1 hp).1).2) (indB p hp) st
  have stepOk : ∀ (listed : Array Bool) (a : Act) (w : World) (K : Act → World → Prop), listed.size = ops.size → (∀ (k : Nat) (o : Oper), ops[k]? = some o → Dn listed k = true → ∀ e ∈ o.after, Region.binds .any e = true → Dn listed e.on = true) →
      ARel own w0 M0 ι0 N (fold (xs.zipIdx.filter fun p => Dn listed p.2) s0) a w → ∀ j ∈ Region.ready .any ops listed,
      (∀ a' w', ARel own w0 M0 ι0 N (fold (xs.zipIdx.filter fun p => Dn (listed.setIfInBounds j true) p.2) s0) a' w' → K a' w') → wpOp P ops Q j K a w := by
    intro listed a w K hsz hcl hr j hj hK
    obtain ⟨h1, o, ho, h2⟩ := mem_ready.1 hj
    have hjl : j < ops.size := (Array.getElem?_eq_some_iff.1 ho).1
    rw [dn_true (by omega)] at h1
    obtain ⟨x, hx⟩ : ∃ x, xs[j]? = some x := ⟨xs[j]'(by omega), by simp⟩
    have hxo : x.o = o := by have := hop j x hx; rw [ho] at this; exact (Option.some.inj this).symm
    subst hxo
    obtain ⟨q1, q2⟩ := main listed hsz hcl j x hx h1 h2
    exact run_fact hown ho q1 hr (hdst x.o (Array.mem_of_getElem? ho)) fun a' w' hr' => hK a' w' (by rw [q2]; exact hr')
  have doneAll : ∀ (listed : Array Bool) (a : Act) (w : World), listed.size = ops.size → ARel own w0 M0 ι0 N (fold (xs.zipIdx.filter fun p => Dn listed p.2) s0) a w → Region.ready .any ops listed = [] → Q .normal a w := by
    intro listed a w hsz hr hnil
    have all : ∀ j, j < ops.size → Dn listed j = true := by
      intro j
      induction j using Nat.strongRecOn with
      | _ j ih =>
        intro hj
        cases hd : Dn listed j with
        | true => rfl
        | false =>
          exfalso
          have ho : ops[j]? = some (ops[j]) := by simp
          obtain ⟨x, hx⟩ : ∃ x, xs[j]? = some x := ⟨xs[j]'(by omega), by simp⟩
          have hxo := hop j x hx
          obtain ⟨g1, _, _⟩ := hpairs j x.o x.s (by simpa using hxo) (hsum j x hx)
          have : j ∈ Region.ready .any ops listed := mem_ready.2 ⟨by rw [dn_true (by omega)]; exact hd, x.o, hxo, fun e he hb => by
            have hlt := backOk_out g1 e (by simpa using he) (by rw [← bindsA_eq]; exact hb)
            exact ih e.on hlt (by omega)⟩
          rw [hnil] at this
          cases this
    refine hQ a w ?_
    have e : xs.zipIdx.filter (fun p => Dn listed p.2) = xs.zipIdx := List.filter_eq_self.2 fun p hp => all p.2 (by
      have := (List.getElem?_eq_some_iff.1 (hmem p hp)).1
      omega)
    rw [e, fold_eq, List.zipIdx_map_fst] at hr
    exact hr
  induction fuel with
  | zero =>
    intro listed a w hsz hc hcl hr
    have hnil : Region.ready .any ops listed = [] := by
      cases hr0 : Region.ready .any ops listed with
      | nil => rfl
      | cons j r =>
        exfalso
        have hj : j ∈ Region.ready .any ops listed := by rw [hr0]; exact List.mem_cons_self ..
        obtain ⟨h1, o, ho, _⟩ := mem_ready.1 hj
        have hjl : j < ops.size := (Array.getElem?_eq_some_iff.1 ho).1
        rw [dn_true (by omega)] at h1
        have : 0 < (List.range ops.size).countP (fun i => !Dn listed i) := List.countP_pos_iff.2 ⟨j, List.mem_range.2 hjl, by simp [h1]⟩
        omega
    exact ⟨hnil, doneAll listed a w hsz hr hnil⟩
  | succ fuel ih =>
    intro listed a w hsz hc hcl hr
    refine ⟨doneAll listed a w hsz hr, fun j hj => stepOk listed a w _ hsz hcl hr j hj fun a' w' hr' => ?_⟩
    obtain ⟨h1, o, ho, h2⟩ := mem_ready.1 hj
    have hjl : j < ops.size := (Array.getElem?_eq_some_iff.1 ho).1
    rw [dn_true (by omega)] at h1
    refine ih _ a' w' (by simp [hsz]) ?_ ?_ hr'
    · have := countP_lt (p := fun i => !Dn listed i) (q := fun i => !Dn (listed.setIfInBounds j true) i) (l := List.range ops.size) (x := j)
        (fun y hy => by simp only [dn_set (show j < listed.size by omega), Bool.not_or, Bool.and_eq_true] at hy; exact hy.2) (List.mem_range.2 hjl) (by simp [h1]) (by simp [dn_set (show j < listed.size by omega)])
      omega
    · intro k o' ho' hk e he hb
      rw [dn_set (by omega)] at hk ⊢
      simp only [Bool.or_eq_true, decide_eq_true_eq] at hk ⊢
      right
      rcases hk with rfl | hk
      · rw [ho] at ho'; cases ho'; exact h2 e he hb
      · exact hcl k o' ho' hk e he hb

theorem AOpsD_sound {T : Tab} (hT : TabOk P T) (hown : ∀ c, w0.heap.size ≤ c → own c) {ops : Array Oper} {Q : Exit → Act → World → Prop} {K : AState → Prop} (hQ : ∀ st a w, K st → ARel own w0 M0 ι0 N st a w → Q .normal a w) (hd : ∀ o ∈ ops, DstOk N o) (hm : P.follows .mixedOrders = true) (id : Nat)
    {tm : Nat → AV} {hp : Nat → Option Blk} {a : Act} {w : World} (h : AOpsD T P ops ops.toList tm hp [] K) (hr : ARel own w0 M0 ι0 N ⟨tm, hp⟩ a w) : (Code.region id ops true).wp P Q a w := by
  obtain ⟨xs, e1, e2, e3, e4⟩ := AOpsD_out hT h
  refine wp_region_any hm (any_sound (s0 := ⟨tm, hp⟩) hown hd e1 (by simpa using e2) e4 (fun a w hr => hQ _ a w e3 hr) ops.size _ a _ (by simp) ?_ ?_ ?_)
  · exact Nat.le_trans (List.countP_le_length) (by simp)
  · intro k o _ hk
    simp [Dn, Array.getD] at hk
  · have : xs.zipIdx.filter (fun p => Dn (Array.replicate ops.size false) p.2) = [] := List.filter_eq_nil_iff.2 fun p _ => by
      simp [Dn, Array.getD]
    rw [this]
    exact hr.drawn _
end
end Go.Lk

namespace Go.Lk
open Go Go.RowKit
section
variable {own : Nat → Prop} {w0 : World} {M0 : Mem} {ι0 : Inj} {N : Nat}
variable {P : Program} {T : Tab} (hT : TabOk P T)

/-! ### code -/
def CQ (own : Nat → Prop) (w0 : World) (M0 : Mem) (ι0 : Inj) (N : Nat) (Q : AExit → AState → Prop) : Exit → Act → World → Prop
  | .normal, a, w => ∃ st, Q .normal st ∧ ARel own w0 M0 ι0 N st a w
  | .exit i, a, w => ∃ st, Q (.exit i) st ∧ ARel own w0 M0 ι0 N st a w
  | .ret, a, w => ∃ st, Q .ret st ∧ ARel own w0 M0 ι0 N st a w
  | _, _, _ => False

def dstL (N : Nat) : List Oper → Bool
  | [] => true
  | o :: r => match o.dst with
    | some d => bif Nat.blt d N then dstL N r else false
    | none => dstL N r
/-- every operation of the code has its slot -/
def dstChk (N : Nat) : Code → Bool
  | .region _ ops _ => dstL N ops.toList
  | .seq a b => bif dstChk N a then dstChk N b else false
  | .cond _ a b => bif dstChk N a then dstChk N b else false
  | .block _ c => dstChk N c
  | .loop c => dstChk N c
  | .rangeFunc _ _ a b => bif dstChk N a then dstChk N b else false
  | .scope c => dstChk N c
  | _ => true

theorem dstL_ok {N : Nat} : ∀ {l : List Oper}, dstL N l = true → ∀ o ∈ l, DstOk N o
  | [], _, o, ho => by cases ho
  | x :: r, h, o, ho => by
    simp only [dstL] at h
    cases hx : x.dst with
    | none =>
      simp only [hx] at h
      cases ho with
      | head => intro d hd; rw [hx] at hd; cases hd
      | tail _ ho => exact dstL_ok h o ho
    | some d =>
      simp only [hx] at h
      cases hb : Nat.blt d N with
      | false => simp [hb] at h
      | true =>
        simp only [hb, cond_true] at h
        cases ho with
        | head => intro d' hd; rw [hx] at hd; cases hd; exact Nat.le_of_ble_eq_true hb
        | tail _ ho => exact dstL_ok h o ho

include hT in
theorem AW_sound (hown : ∀ c, w0.heap.size ≤ c → own c) (hm : P.follows .mixedOrders = true) : ∀ (c : Code) (Q : AExit → AState → Prop) (st : AState) (a : Act) (w : World), dstChk N c = true → AW T P c st Q → ARel own w0 M0 ι0 N st a w → c.wp P (CQ own w0 M0 ι0 N Q) a w := by
  intro c
  induction c with
  | skip => exact fun Q st a w _ h hr => wp_skip ⟨st, h, hr⟩
  | region id ops draw =>
    intro Q st a w hd h hr
    have hdo : ∀ o ∈ ops, DstOk N o := fun o ho => dstL_ok hd o (by simpa using ho)
    rw [AW_region] at h
    simp only [regionA] at h
    cases draw with
    | true =>
      obtain ⟨tm, hp⟩ := st
      exact AOpsD_sound hT hown (fun st a w k r => ⟨st, k, r⟩) hdo hm id h hr
    | false =>
      refine wp_region ?_
      have := AOps_sound hT hown (Q := CQ own w0 M0 ι0 N Q) (fun st a w k r => ⟨st, k, r⟩) hdo ops.toList 0 st a w rfl h hr
      rw [List.range_eq_range']
      simpa using this
  | seq x y ih1 ih2 =>
    intro Q st a w hd h hr
    simp only [dstChk] at hd
    cases h1 : dstChk N x with
    | false => simp [h1] at hd
    | true =>
      simp only [h1, cond_true] at hd
      rw [AW_seq] at h
      refine wp_seq (Code.wp_mono (fun e a' w' hq => ?_) (ih1 _ st a w h1 h hr))
      cases e with
      | normal => obtain ⟨st', k1, k2⟩ := hq; exact ih2 Q st' a' w' hd k1 k2
      | exit i => exact hq
      | ret => exact hq
      | goto l => exact hq.elim
      | panic ch => exact hq.elim
      | outgrown => exact hq.elim
  | cond o x y ih1 ih2 =>
    intro Q st a w hd h hr
    simp only [dstChk] at hd
    cases h1 : dstChk N x with
    | false => simp [h1] at hd
    | true =>
      simp only [h1, cond_true] at hd
      obtain ⟨tm, hp⟩ := st
      rw [AW_cond] at h
      simp only [condA] at h
      have hden : ∃ M ι, DenA M ι (evT tm o) (a.eval o) := by
        obtain ⟨M, ι, g1, g2, g3, g4, g5, g6, g7, g8, g9⟩ := hr
        exact ⟨M, ι, evT_den g7 o⟩
      obtain ⟨M, ι, hden⟩ := hden
      split at h
      · rename_i hx
        exact wp_cond_true ((den_guard hden).1 hx) (ih1 Q _ a w h1 h hr)
      · rename_i hx
        exact wp_cond_false ((den_guard hden).2 hx) (ih2 Q _ a w hd h hr)
      · rename_i b hx
        rcases bcase_out h with ⟨rfl, k⟩ | ⟨rfl, k⟩
        · exact wp_cond_true (den_bool (hx ▸ hden)) (ih1 Q _ a w h1 k hr)
        · exact wp_cond_false (den_bool (hx ▸ hden)) (ih2 Q _ a w hd k hr)
      · exact h.elim
  | block id x ih =>
    intro Q st a w hd h hr
    rw [AW_block] at h
    refine wp_block (Code.wp_mono (fun e a' w' hq => ?_) (ih _ st a w hd h hr))
    cases e with
    | normal => exact hq
    | exit i =>
      obtain ⟨st', k1, k2⟩ := hq
      replace k1 : bif Nat.beq i id then Q .normal st' else Q (.exit i) st' := k1
      simp only [Exit.inBlock]
      cases hb : Nat.beq i id with
      | true =>
        have := Nat.eq_of_beq_eq_true hb
        subst this
        rw [hb] at k1
        rw [if_pos rfl]
        exact ⟨st', k1, k2⟩
      | false =>
        rw [hb] at k1
        rw [if_neg (fun e => by subst e; simp at hb)]
        exact ⟨st', k1, k2⟩
    | ret => exact hq
    | goto l => exact hq.elim
    | panic ch => exact hq.elim
    | outgrown => exact hq.elim
  | loop x ih =>
    intro Q st a w hd h hr
    rw [AW_loop] at h
    replace h := h.out
    obtain ⟨J, S, R, μ, ⟨j, hj, hle⟩, hround⟩ := h
    have key : ∀ (n : Nat) (j : J) (a : Act) (w : World), R j → μ j < n → ARel own w0 M0 ι0 N (S j) a w → Code.rounds P x (CQ own w0 M0 ι0 N Q) n a w := by
      intro n
      induction n with
      | zero => intro j a w _ hn; omega
      | succ n ihn =>
        intro j a w hj hn hrel
        rw [rounds_succ]
        refine Code.wp_mono (fun e a' w' hq => ?_) (ih _ (S j) a w hd (hround j hj) hrel)
        cases e with
        | normal =>
          obtain ⟨st', ⟨j', g1, g2, g3⟩, k2⟩ := hq
          exact ihn j' a' w' g1 (by omega) (k2.leN g3)
        | exit i => exact hq
        | ret => exact hq
        | goto l => exact hq.elim
        | panic ch => exact hq.elim
        | outgrown => exact hq.elim
    exact wp_loop_rounds (μ j + 1) (key _ j a w hj (Nat.lt_succ_self _) (hr.leN hle))
  | rangeFunc f ps x y _ _ => exact fun Q st a w _ h => h.elim
  | exit id => exact fun Q st a w _ h hr => wp_exit ⟨st, h, hr⟩
  | scope x _ => exact fun Q st a w _ h => h.elim
  | label l => exact fun Q st a w _ h hr => wp_label ⟨st, h, hr⟩
  | goto l => exact fun Q st a w _ h => h.elim
  | ret => exact fun Q st a w _ h hr => wp_ret ⟨st, h, hr⟩
  | refuse y => exact fun Q st a w _ h => h.elim
end
end Go.Lk

namespace Go.Lk
open Go Go.RowKit

section
variable {P : Program} {T : Tab} (hT : TabOk P T)

def resRun (tmps : Array Value) : ResultVar → Sem Value
  | .tmp t => pure (tmps.getD t undef)
  | .cell a t => do loadVar t (← asAddr (tmps.getD a undef))

theorem results_eq (fn : Func) (tmps : Array Value) (w : World) {vs : List Value} (h : (fn.results.toList.mapM (resRun tmps)).run P w = .ok vs w) :
    (results fn tmps).run P w = .ok (if h : vs.toArray.size = 1 then vs.toArray[0] else .tuple vs.toArray) w := by
  have e : results fn tmps = (do let vs ← fn.results.mapM (resRun tmps); pure (if h : vs.size = 1 then vs[0] else .tuple vs)) := by
    unfold results
    congr 1
  rw [e]
  simp only [Array.mapM_eq_mapM_toList, Sem.run_bind, Sem.run_map, h, Result.andThen_ok, Sem.run_pure]

include hT in
theorem resV_out {own : Nat → Prop} {M : Mem} {ι : Inj} {hp : Nat → Option Blk} {w : World} {tm : Nat → AV} {tmps : Array Value} (ha : Agree M w) (hh : HRel own M ι hp w) (hρ : ∀ t, DenA M ι (tm t) (tmps.getD t undef)) (r : ResultVar) (hc : conv hp (resV T tm hp r) ≠ none) :
    ∃ v, (resRun tmps r).run P w = .ok v w ∧ DenA M ι (resV T tm hp r) v := by
  cases r with
  | tmp t => exact ⟨_, rfl, hρ t⟩
  | cell a t =>
    simp only [resV] at hc ⊢
    split at hc
    · rename_i b i j hx
      split at hc
      · rename_i c fr hb
        cases hk : ((T t).k.known && Nat.beq i 0) with
        | false => simp [hk, conv] at hc
        | true =>
          simp only [hk, cond_true] at hc ⊢
          simp only [Bool.and_eq_true] at hk
          have hi := Nat.eq_of_beq_eq_true hk.2
          subst hi
          have hl : loadA T t (.ptr b 0 j) hp (fun av => av = (bif (T t).k.agg then (bif Nat.ble (j + (T t).size) c.length then .agg ((c.drop j).take (T t).size) else .dead) else (match c[j]? with | some x => x | none => .dead))) := by
            simp only [loadA, hk.1, cond_true, loadB, hb]
            refine condK_of (by trivial) ?_
            unfold partA
            cases hag : (T t).k.agg with
            | true =>
              simp only [hag, cond_true] at hc ⊢
              cases hle : Nat.ble (j + (T t).size) c.length with
              | false => simp [hle, conv] at hc
              | true =>
                simp only [hle, cond_true] at hc ⊢
                have : ∀ (l : List AV) (K : List AV → Prop), conv.cells hp l ≠ none → K l → forceL l K := by
                  intro l
                  induction l with
                  | nil => intro K _ hK; exact hK
                  | cons x r ih =>
                    intro K h1 hK
                    simp only [conv.cells] at h1
                    have h2 : conv.one hp x ≠ none := by intro e; simp [e] at h1
                    have h3 : conv.cells hp r ≠ none := by intro e; simp [e] at h1
                    simp only [forceL]
                    have : ∀ K' : AV → Prop, K' x → force x K' := by
                      intro K' hK'
                      cases x <;> first | exact hK' | exact absurd rfl h2
                    exact this _ (ih _ h3 hK)
                refine this _ _ ?_ rfl
                intro e
                simp [conv, e] at hc
            | false =>
              simp only [hag, cond_false] at hc ⊢
              simp only [getC]
              cases hx2 : c[j]? with
              | none => simp [hx2, conv] at hc
              | some x =>
                simp only [hx2] at hc ⊢
                cases x <;> first | rfl | exact absurd rfl hc
          obtain ⟨av, hav, hld⟩ := loadA_out hT hl
          have hv := hρ a
          rw [hx] at hv
          obtain ⟨r, hr, hd⟩ := hld own M ι w _ ha hh hv
          refine ⟨r, ?_, hav ▸ hd⟩
          generalize hgv : tmps.getD a undef = u at hv hr
          cases hv with
          | ptr _ _ _ L hL =>
            simp only [resRun, hgv]
            simpa [Instr.loadAt, Instr.sureAddr, asAddr] using hr
          | ptrL _ _ _ _ hL => rw [(hh.dom b).2 hL] at hb; cases hb
      · exact absurd rfl hc
    · exact absurd rfl hc

include hT in
theorem resD_out {own : Nat → Prop} {M : Mem} {ι : Inj} {hp : Nat → Option Blk} {w : World} {tm : Nat → AV} {tmps : Array Value} (ha : Agree M w) (hh : HRel own M ι hp w) (hρ : ∀ t, DenA M ι (tm t) (tmps.getD t undef)) :
    ∀ {rs : List ResultVar} {ds : List D}, resD T tm hp rs = some ds → ∃ (vs : List Value) (xs : List AV) (ns : List Nat), (rs.mapM (resRun tmps)).run P w = .ok vs w ∧ vs.length = ds.length ∧ xs.length = ds.length ∧
      ∀ (i : Nat) (x : AV) (d : D) (v : Value), xs[i]? = some x → ds[i]? = some d → vs[i]? = some v → DenA M ι x v ∧ conv hp x = some d ∧ ∀ b ∈ openNames hp x, b ∈ ns
  | [], ds, h => by
    simp only [resD, Option.some.injEq] at h
    subst h
    exact ⟨[], [], [], rfl, rfl, rfl, fun i x d v h => by simp at h⟩
  | r :: q, ds, h => by
    simp only [resD] at h
    cases hc : conv hp (resV T tm hp r) with
    | none => simp [hc] at h
    | some d =>
      cases hq : resD T tm hp q with
      | none => simp [hc, hq] at h
      | some ds' =>
        simp only [hc, hq, Option.some.injEq] at h
        subst h
        obtain ⟨v, hv, hdv⟩ := resV_out hT ha hh hρ r (by rw [hc]; simp)
        obtain ⟨vs, xs, ns, hvs, hl1, hl2, hd⟩ := resD_out ha hh hρ hq
        refine ⟨v :: vs, resV T tm hp r :: xs, openNames hp (resV T tm hp r) ++ ns, ?_, by simp [hl1], by simp [hl2], fun i x d' v' h1 h2 h3 => ?_⟩
        · simp [List.mapM_cons, hv, hvs]
        · cases i with
          | zero =>
            simp only [List.getElem?_cons_zero, Option.some.injEq] at h1 h2 h3
            subst h1 h2 h3
            exact ⟨hdv, hc, fun b hb => List.mem_append_left _ hb⟩
          | succ i =>
            obtain ⟨g1, g2, g3⟩ := hd i x d' v' (by simpa using h1) (by simpa using h2) (by simpa using h3)
            exact ⟨g1, g2, fun b hb => List.mem_append_right _ (g3 b hb)⟩

def fnChk (fn : Func) (n : Nat) : Bool :=
  match fn.body with
  | some c => dstChk fn.ntmps c && Nat.ble n fn.ntmps && !(fn.name == "runtime.NumGoroutine")
  | none => false

theorem fnChk_out {fn : Func} {n : Nat} (h : fnChk fn n = true) : ∃ c, fn.body = some c ∧ dstChk fn.ntmps c = true ∧ n ≤ fn.ntmps ∧ (fn.name == "runtime.NumGoroutine") = false := by
  unfold fnChk at h
  split at h
  · rename_i c hc
    simp only [Bool.and_eq_true, Bool.not_eq_true', Nat.ble_eq] at h
    exact ⟨c, hc, h.1.1, h.1.2, h.2⟩
  · cases h

theorem initTm_den {M : Mem} {ι : Inj} : ∀ (ds : List D) (n : Nat) (vs : Array Value), (∀ (i : Nat) (d : D) (v : Value), ds[i]? = some d → vs[n + i]? = some v → DenD M d v) → vs.size = n + ds.length → ∀ t, DenA M ι (initTm.go n ds t) (vs.getD t undef)
  | [], n, vs, h, hl, t => .dead _
  | d :: r, n, vs, h, hl, t => by
    simp only [initTm.go]
    by_cases e : t = n
    · subst e
      rw [upd_same]
      have hlt : t < vs.size := by rw [hl]; simp
      have : vs[t]? = some vs[t] := by simp [hlt]
      have hg : vs.getD t undef = vs[t] := by simp [Array.getD, hlt]
      rw [hg]
      exact ofD_den (h 0 d _ (by simp) (by simpa using this))
    · rw [upd_other _ _ e]
      exact initTm_den r (n + 1) vs (fun i d' v h1 h2 => h (i + 1) d' v (by simpa using h1) (by rw [show n + (i + 1) = n + 1 + i by omega]; exact h2)) (by rw [hl]; simp; omega) t

theorem pad_getD (vs : Array Value) (n t : Nat) : (vs ++ Array.replicate n undef).getD t undef = vs.getD t undef := by
  rw [Array.getD_eq_getD_getElem?, Array.getD_eq_getD_getElem?]
  by_cases h : t < vs.size
  · rw [Array.getElem?_append_left h]
  · rw [Array.getElem?_append_right (by omega), Array.getElem?_eq_none (xs := vs) (by omega), Array.getElem?_replicate]
    split <;> rfl

theorem init_rel {ds : List D} {w : World} {M : Mem} {vs : Array Value} {n : Nat} (ha : Agree M w) (hds : DenDs M ds vs) (hn : vs.size ≤ n) :
    ARel (fun c => w.heap.size ≤ c) w M (fun _ => none) n ⟨initTm ds, fun _ => none⟩ { tmps := vs ++ Array.replicate (n - vs.size) undef, defers := [] } w := by
  refine ⟨M, fun _ => none, .refl M, ha, .refl _ _, .refl _ _, ⟨fun _ => ⟨fun _ => rfl, fun _ => rfl⟩, fun b h => (by cases h), fun b B L h => (by cases h), fun b b' L L' h => (by cases h)⟩, fun _ _ _ => rfl, fun t => ?_, by simp; omega, rfl⟩
  show DenA M _ (initTm ds t) ((vs ++ Array.replicate (n - vs.size) undef).getD t undef)
  rw [pad_getD]
  exact initTm_den ds 0 vs (fun i d v h1 h2 => hds.2 i d v h1 (by simpa using h2)) (by simpa using hds.1) t

theorem oneD_den {M : Mem} {ds : List D} {vs : List Value} (hl : vs.length = ds.length) (hd : ∀ (i : Nat) (d : D) (v : Value), ds[i]? = some d → vs[i]? = some v → DenD M d v) :
    DenD M (oneD ds) (if h : vs.toArray.size = 1 then vs.toArray[0] else .tuple vs.toArray) := by
  by_cases h1 : vs.length = 1
  · rw [dif_pos (by simpa using h1)]
    obtain ⟨v, rfl⟩ := List.length_eq_one_iff.1 h1
    obtain ⟨d, rfl⟩ := List.length_eq_one_iff.1 (hl.symm.trans h1)
    exact hd 0 d v rfl rfl
  · rw [dif_neg (by simpa using h1)]
    have : oneD ds = .tup ds := by
      unfold oneD
      split
      · rename_i d; rw [hl] at h1; exact absurd rfl h1
      · rfl
    rw [this]
    exact .tup ds _ (by simpa using hl) fun i d v h1 h2 => hd i d v h1 (by simpa using h2)

include hT in
theorem acall_sound (hm : P.follows .mixedOrders = true) {f : FuncId} {fn : Func} {ds : List D} {d : D} (hf : P.funcs[f]? = some fn) (hc : fnChk fn ds.length = true) (h : AFn T P fn ds d) : ACall P f ds d := by
  obtain ⟨c, hb, hdst, hn, hnm⟩ := fnChk_out hc
  refine ⟨⟨fn, hf, by rw [hb]; rfl, hnm⟩, fun w M vs ha hds => calls_of_wp hf hb ?_⟩
  simp only [AFn, hb] at h
  have hsz : vs.size ≤ fn.ntmps := by rw [hds.1]; exact hn
  refine Code.wp_mono (fun e a w' hq => ?_) (AW_sound (w0 := w) (M0 := M) (ι0 := fun _ => none) (own := fun c => w.heap.size ≤ c) hT (fun _ h => h) hm c _ _ _ w hdst h (init_rel ha hds hsz))
  have fin : ∀ st : AState, (resD T st.tm st.hp fn.results.toList).map oneD = some d → ARel (fun c => w.heap.size ≤ c) w M (fun _ => none) fn.ntmps st a w' →
      a.defers = [] ∧ ∃ v, (results fn a.tmps).run P w' = .ok v w' ∧ ∃ (v' : Value) (M' : Mem), Ending.returned v = .returned v' ∧ Below w.heap.size w w' ∧ Sub M M' ∧ Agree M' w' ∧ Fresh w M M' ∧ DenD M' d v' := by
    intro st hres hr
    obtain ⟨M1, ι, h1, h2, h3, h4, h5, h6, h7, h8, h9⟩ := hr
    cases hrd : resD T st.tm st.hp fn.results.toList with
    | none => simp [hrd] at hres
    | some rs =>
      simp only [hrd, Option.map_some, Option.some.injEq] at hres
      subst hres
      obtain ⟨us, xs, ns, e1, e2, e3, e4⟩ := resD_out hT h2 h5 h7 hrd
      obtain ⟨M2, s2, a2, n2, g2, l2, f2⟩ := freezeAll (hp0 := st.hp) ns M1 st.hp h2 h5 (.refl _)
      refine ⟨h9, _, results_eq fn a.tmps w' e1, _, M2, rfl, ⟨h4.os, h4.tape, h4.output, h4.size, fun c hc => h4.block c (by omega)⟩, h1.trans s2, a2, fun b o v hv => (h3.trans n2) b o v hv, ?_⟩
      refine oneD_den e2 fun i d v q1 q2 => ?_
      have hx : xs[i]? = some (xs[i]'(by rw [e3]; exact (List.getElem?_eq_some_iff.1 q1).1)) := by simp
      obtain ⟨p1, p2, p3⟩ := e4 i _ d v hx q1 q2
      exact den_conv g2 (by rw [conv_frz l2]; exact p2) (openNames_frz (fun b l sz fr hb he => f2 b l sz fr (.inl hb) he) l2 _ p3) (p1.mono s2)
  cases e with
  | normal => obtain ⟨st, k1, k2⟩ := hq; exact fin st k1 k2
  | ret => obtain ⟨st, k1, k2⟩ := hq; exact fin st k1 k2
  | exit i => obtain ⟨st, k1, k2⟩ := hq; exact k1.elim
  | goto l => exact hq.elim
  | panic ch => exact hq.elim
  | outgrown => exact hq.elim

include hT in
theorem ocall_sound (hm : P.follows .mixedOrders = true) {f : FuncId} {fn : Func} {ds : List D} {l : List (List D)} {sz : Nat} (hf : P.funcs[f]? = some fn) (hc : fnChk fn ds.length = true) (h : AFnO T P fn ds l sz) : OCall P f ds l sz := by
  obtain ⟨c, hb, hdst, hn, hnm⟩ := fnChk_out hc
  refine ⟨⟨fn, hf, by rw [hb]; rfl, hnm⟩, fun w M vs ha hds => calls_of_wp hf hb ?_⟩
  simp only [AFnO, hb] at h
  have hsz : vs.size ≤ fn.ntmps := by rw [hds.1]; exact hn
  refine Code.wp_mono (fun e a w' hq => ?_) (AW_sound (w0 := w) (M0 := M) (ι0 := fun _ => none) (own := fun c => w.heap.size ≤ c) hT (fun _ h => h) hm c _ _ _ w hdst h (init_rel ha hds hsz))
  have fin : ∀ st : AState, (∃ t, fn.results.toList = [.tmp t] ∧ ((∃ b, st.tm t = .own b ∧ st.hp b = some (.row l sz false)) ∨ (st.tm t = .nil ∧ l = []))) → ARel (fun c => w.heap.size ≤ c) w M (fun _ => none) fn.ntmps st a w' →
      a.defers = [] ∧ ∃ v, (results fn a.tmps).run P w' = .ok v w' ∧ ∃ (v' : Value) (M' : Mem), Ending.returned v = .returned v' ∧ Below w.heap.size w w' ∧ Sub M M' ∧ Agree M' w' ∧ Fresh w M M' ∧
        ((l = [] ∧ ∃ a, v' = .slice a 0 0) ∨ ∃ (c cap : Nat) (cs : Array Value) (T : TypeId), w.heap.size ≤ c ∧ v' = .slice (some ⟨c, 0, none⟩) l.length cap ∧ l.length ≤ cap ∧
        cap * sz ≤ cs.size ∧ w'.heap[c]? = some (.cells cs T (0, 0)) ∧ RowAt M' cs l sz ∧ ∀ o, M' c o = none) := by
    intro st hres hr
    obtain ⟨M1, ι, h1, h2, h3, h4, h5, h6, h7, h8, h9⟩ := hr
    obtain ⟨t, ht, hval⟩ := hres
    have hrun : (fn.results.toList.mapM (resRun a.tmps)).run P w' = .ok [a.tmps.getD t undef] w' := by
      rw [ht]; simp [List.mapM_cons, resRun]
    refine ⟨h9, _, results_eq fn a.tmps w' hrun, a.tmps.getD t undef, M1, rfl, ⟨h4.os, h4.tape, h4.output, h4.size, fun c hc => h4.block c (by omega)⟩, h1, h2, fun b o v hv => h3 b o v hv, ?_⟩
    have hv := h7 t
    rcases hval with ⟨b, e1, e2⟩ | ⟨e1, e2⟩
    · rw [e1] at hv
      generalize a.tmps.getD t undef = v at hv
      cases hv with
      | own _ L cap hL hn2 hc2 =>
        obtain ⟨q1, cs, Ty, q2, q3, q4, q5, q6, q7, q8⟩ := h5.at_ b _ L e2 hL
        exact .inr ⟨L.blk, cap, cs, Ty, q1, by rw [q5], by rw [q5]; exact hn2, by rw [q4, q3]; exact hc2, q2, q7, q8.2 rfl⟩
      | ownE _ a0 hL =>
        obtain ⟨sz2, fr2, e0⟩ := h5.virt b hL
        rw [e2] at e0; cases e0
        exact .inl ⟨rfl, a0, rfl⟩
      | ownL _ _ hL => rw [(h5.dom b).2 hL] at e2; cases e2
    · rw [e1] at hv
      generalize a.tmps.getD t undef = v at hv
      cases hv with
      | nil a0 => exact .inl ⟨e2, a0, rfl⟩
  cases e with
  | normal => obtain ⟨st, k1, k2⟩ := hq; exact fin st k1 k2
  | ret => obtain ⟨st, k1, k2⟩ := hq; exact fin st k1 k2
  | exit i => obtain ⟨st, k1, k2⟩ := hq; exact k1.elim
  | goto l => exact hq.elim
  | panic ch => exact hq.elim
  | outgrown => exact hq.elim

omit hT in
theorem matchS_conv {hp : Nat → Option Blk} : ∀ {c : List AV} {cs : List SC} {seen : List Nat}, matchS hp seen c cs → conv.cells hp c ≠ none
  | [], [], _, _ => by simp [conv.cells]
  | x :: c, .d d :: s, seen, h => by
    simp only [matchS] at h
    have := matchS_conv h.2
    have h1 : conv.one hp x ≠ none := by
      cases x <;> simp [conv.pure1] at h <;> simp [conv.one]
    simp only [conv.cells]
    cases h2 : conv.one hp x with
    | none => exact absurd h2 h1
    | some y =>
      cases h3 : conv.cells hp c with
      | none => exact absurd h3 this
      | some z => simp
  | x :: c, .row l sz :: s, seen, h => by
    simp only [matchS] at h
    have hc : conv.cells hp c ≠ none := by
      rcases h with ⟨b, _, _, _, h⟩ | ⟨_, _, h⟩
      · exact matchS_conv h
      · exact matchS_conv h
    have h1 : conv.one hp x ≠ none := by
      rcases h with ⟨b, rfl, h, _⟩ | ⟨rfl, _, _⟩
      · simp [conv.one, h]
      · simp [conv.one]
    simp only [conv.cells]
    cases h2 : conv.one hp x with
    | none => exact absurd h2 h1
    | some y =>
      cases h3 : conv.cells hp c with
      | none => exact absurd h3 hc
      | some z => simp
  | [], _ :: _, _, h => by simp [matchS] at h
  | _ :: _, [], _, h => by simp [matchS] at h

omit hT in
theorem matchS_get {hp : Nat → Option Blk} : ∀ {c : List AV} {cs : List SC} {seen : List Nat}, matchS hp seen c cs → c.length = cs.length ∧
    (∀ (i : Nat) (s : SC), cs[i]? = some s → ∃ x, c[i]? = some x ∧ match s with
      | .d d => conv.pure1 x = some d
      | .row l sz => (∃ b, x = .own b ∧ hp b = some (.row l sz false) ∧ b ∉ seen) ∨ (x = .nil ∧ l = [])) ∧
    ∀ (i j : Nat) (b l l' : _) (sz sz' : Nat), cs[i]? = some (.row l sz) → cs[j]? = some (.row l' sz') → c[i]? = some (.own b) → c[j]? = some (.own b) → i = j
  | [], [], _, _ => ⟨rfl, fun i s h => by simp at h, fun i j b l l' sz sz' h => by simp at h⟩
  | x :: c, .d d :: s, seen, h => by
    simp only [matchS] at h
    obtain ⟨g1, g2, g3⟩ := matchS_get h.2
    refine ⟨by simp [g1], fun i s' hs => ?_, fun i j b l l' sz sz' h1 h2 h3 h4 => ?_⟩
    · cases i with
      | zero =>
        simp only [List.getElem?_cons_zero, Option.some.injEq] at hs
        subst hs
        exact ⟨x, rfl, h.1⟩
      | succ i => exact g2 i s' (by simpa using hs)
    · cases i with
      | zero => simp at h1
      | succ i =>
        cases j with
        | zero => simp at h2
        | succ j => exact congrArg (· + 1) (g3 i j b l l' sz sz' (by simpa using h1) (by simpa using h2) (by simpa using h3) (by simpa using h4))
  | x :: c, .row l0 sz0 :: s, seen, h => by
    simp only [matchS] at h
    rcases h with ⟨b0, rfl, e1, e2, h⟩ | ⟨rfl, rfl, h⟩
    · obtain ⟨g1, g2, g3⟩ := matchS_get h
      have hns : b0 ∉ seen := fun hm => by rw [memN_iff.2 hm] at e2; cases e2
      have hne : ∀ (j : Nat) (l' : _) (sz' : Nat), s[j]? = some (.row l' sz') → c[j]? = some (.own b0) → False := fun j l' sz' h2 h4 => by
        obtain ⟨y, hy, q⟩ := g2 j _ h2
        rw [h4] at hy; cases hy
        rcases q with ⟨b1, e, _, q⟩ | ⟨e, _⟩
        · cases e; exact q (List.mem_cons_self ..)
        · cases e
      refine ⟨by simp [g1], fun i s' hs => ?_, fun i j b l l' sz sz' h1 h2 h3 h4 => ?_⟩
      · cases i with
        | zero =>
          simp only [List.getElem?_cons_zero, Option.some.injEq] at hs
          subst hs
          exact ⟨_, rfl, .inl ⟨b0, rfl, e1, hns⟩⟩
        | succ i =>
          obtain ⟨y, hy, q⟩ := g2 i s' (by simpa using hs)
          refine ⟨y, by simpa using hy, ?_⟩
          cases s' with
          | d d => exact q
          | row l sz =>
            rcases q with ⟨b1, q1, q2, q3⟩ | q
            · exact .inl ⟨b1, q1, q2, fun hm => q3 (List.mem_cons_of_mem _ hm)⟩
            · exact .inr q
      · cases i with
        | zero =>
          simp only [List.getElem?_cons_zero, Option.some.injEq] at h3
          cases h3
          cases j with
          | zero => rfl
          | succ j => exact (hne j l' sz' (by simpa using h2) (by simpa using h4)).elim
        | succ i =>
          cases j with
          | zero =>
            simp only [List.getElem?_cons_zero, Option.some.injEq] at h4
            cases h4
            exact (hne i l sz (by simpa using h1) (by simpa using h3)).elim
          | succ j => exact congrArg (· + 1) (g3 i j b l l' sz sz' (by simpa using h1) (by simpa using h2) (by simpa using h3) (by simpa using h4))
    · obtain ⟨g1, g2, g3⟩ := matchS_get h
      refine ⟨by simp [g1], fun i s' hs => ?_, fun i j b l l' sz sz' h1 h2 h3 h4 => ?_⟩
      · cases i with
        | zero =>
          simp only [List.getElem?_cons_zero, Option.some.injEq] at hs
          subst hs
          exact ⟨_, rfl, .inr ⟨rfl, rfl⟩⟩
        | succ i => exact g2 i s' (by simpa using hs)
      · cases i with
        | zero => simp at h3
        | succ i =>
          cases j with
          | zero => simp at h4
          | succ j => exact congrArg (· + 1) (g3 i j b l l' sz sz' (by simpa using h1) (by simpa using h2) (by simpa using h3) (by simpa using h4))
  | [], _ :: _, _, h => by simp [matchS] at h
  | _ :: _, [], _, h => by simp [matchS] at h

omit hT in
theorem pure1_den {M : Mem} {ι : Inj} {x : AV} {d : D} {v : Value} (h : DenA M ι x v) (hp : conv.pure1 x = some d) : DenD M d v := by
  cases h <;> simp only [conv.pure1, Option.some.injEq, reduceCtorEq] at hp <;> subst hp
  case d h => exact h
  case tt => exact .bool true
  case ff => exact .bool false
  case nil a => exact .emp a 0

include hT in
theorem scall_sound (hm : P.follows .mixedOrders = true) {f : FuncId} {fn : Func} {ds : List D} {cs : List SC} (hf : P.funcs[f]? = some fn) (hc : fnChk fn ds.length = true) (h : AFnS T P fn ds cs) : SCall P f ds cs := by
  obtain ⟨c, hb, hdst, hn, hnm⟩ := fnChk_out hc
  refine ⟨⟨fn, hf, by rw [hb]; rfl, hnm⟩, fun w M vs ha hds => calls_of_wp hf hb ?_⟩
  simp only [AFnS, hb] at h
  have hsz : vs.size ≤ fn.ntmps := by rw [hds.1]; exact hn
  refine Code.wp_mono (fun e a w' hq => ?_) (AW_sound (w0 := w) (M0 := M) (ι0 := fun _ => none) (own := fun c => w.heap.size ≤ c) hT (fun _ h => h) hm c _ _ _ w hdst h (init_rel ha hds hsz))
  have fin : ∀ st : AState, (∃ r c, fn.results.toList = [r] ∧ resV T st.tm st.hp r = .agg c ∧ matchS st.hp [] c cs) → ARel (fun c => w.heap.size ≤ c) w M (fun _ => none) fn.ntmps st a w' →
      a.defers = [] ∧ ∃ v, (results fn a.tmps).run P w' = .ok v w' ∧ ∃ (us : Array Value) (M' : Mem) (bl : Nat → Option Loc), Ending.returned v = .returned (.agg us) ∧ Below w.heap.size w w' ∧ Sub M M' ∧ Agree M' w' ∧ Fresh w M M' ∧ us.size = cs.length ∧
        (∀ (i : Nat) (c : SC), cs[i]? = some c → ∃ u, us[i]? = some u ∧ match c with
          | .d x => DenD M' x u
          | .row l sz => RowOk w w' M' l sz (bl i) u) ∧
        ∀ (i j : Nat) (L L' : Loc), bl i = some L → bl j = some L' → L.blk = L'.blk → i = j := by
    intro st hres hr
    obtain ⟨M1, ι, h1, h2, h3, h4, h5, h6, h7, h8, h9⟩ := hr
    obtain ⟨r, c, hr1, hr2, hr3⟩ := hres
    obtain ⟨v, hv, hdv⟩ := resV_out hT h2 h5 h7 r (by
      rw [hr2]
      simp only [conv]
      cases hcc : conv.cells st.hp c with
      | none => exact absurd hcc (matchS_conv hr3)
      | some y => simp)
    have hrun : (fn.results.toList.mapM (resRun a.tmps)).run P w' = .ok [v] w' := by
      rw [hr1]; simp [List.mapM_cons, hv]
    rw [hr2] at hdv
    cases hdv with
    | agg _ us hl hd =>
      obtain ⟨m1, m2, m3⟩ := matchS_get hr3
      let bl : Nat → Option Loc := fun i => match cs[i]? with
        | some (.row _ _) => match c[i]? with
          | some (.own b) => match ι b with
            | some (some L) => some L
            | _ => none
          | _ => none
        | _ => none
      have hbl : ∀ i L, bl i = some L → ∃ l sz b, cs[i]? = some (.row l sz) ∧ c[i]? = some (.own b) ∧ ι b = some (some L) := by
        intro i L hL
        simp only [bl] at hL
        split at hL
        · rename_i l sz e1
          split at hL
          · rename_i b e2
            split at hL
            · rename_i L' e3
              cases hL
              exact ⟨l, sz, b, e1, e2, e3⟩
            · cases hL
          · cases hL
        · cases hL
      refine ⟨h9, _, results_eq fn a.tmps w' hrun, us, M1, bl, rfl, ⟨h4.os, h4.tape, h4.output, h4.size, fun c hc => h4.block c (by omega)⟩, h1, h2, fun b o v hv => h3 b o v hv, by omega, fun i s hs => ?_, fun i j L L' hL hL' he => ?_⟩
      · obtain ⟨x, hx, hm2⟩ := m2 i s hs
        have hi : i < us.size := by rw [hl]; exact (List.getElem?_eq_some_iff.1 hx).1
        have hu : us[i]? = some us[i] := by simp [hi]
        have hdx := hd i x _ hx hu
        refine ⟨us[i], hu, ?_⟩
        cases s with
        | d d => exact pure1_den hdx hm2
        | row l sz =>
          rcases hm2 with ⟨b, rfl, e2, _⟩ | ⟨rfl, rfl⟩
          · show RowOk w w' M1 l sz (bl i) us[i]
            generalize us[i] = u at hdx
            cases hdx with
            | own _ L cap hL hn2 hc2 =>
              have : bl i = some L := by simp only [bl, hs, hx, hL]
              rw [this]
              obtain ⟨q1, cs', Ty, q2, q3, q4, q5, q6, q7, q8⟩ := h5.at_ b _ L e2 hL
              exact ⟨q1, cap, cs', Ty, by rw [q5], q5.symm, q4.symm, q3.symm, by rw [q5]; exact hn2, by rw [q4, q3]; exact hc2, q2, q7, q8.2 rfl⟩
            | ownE _ a0 hL =>
              have : bl i = none := by simp only [bl, hs, hx, hL]
              rw [this]
              obtain ⟨sz2, fr2, e0⟩ := h5.virt b hL
              rw [e2] at e0; cases e0
              exact ⟨rfl, a0, rfl⟩
            | ownL _ _ hL => rw [(h5.dom b).2 hL] at e2; cases e2
          · show RowOk w w' M1 [] sz (bl i) us[i]
            have : bl i = none := by simp only [bl, hs, hx]
            rw [this]
            generalize us[i] = u at hdx
            cases hdx with
            | nil a0 => exact ⟨rfl, a0, rfl⟩
      · obtain ⟨l, sz, b, g1, g2, g3⟩ := hbl i L hL
        obtain ⟨l', sz', b', g1', g2', g3'⟩ := hbl j L' hL'
        have := h5.inj b b' L L' g3 g3' he
        subst this
        exact m3 i j b l l' sz sz' g1 g1' g2 g2'
  cases e with
  | normal => obtain ⟨st, k1, k2⟩ := hq; exact fin st k1 k2
  | ret => obtain ⟨st, k1, k2⟩ := hq; exact fin st k1 k2
  | exit i => obtain ⟨st, k1, k2⟩ := hq; exact k1.elim
  | goto l => exact hq.elim
  | panic ch => exact hq.elim
  | outgrown => exact hq.elim

end
end Go.Lk

namespace Go.Lk
open Go Go.RowKit Go.WideShapes Go.ChangeShapes

/-! ### what a reading says of an argument -/
def FitFs (F : TypeId → List D → Prop) : List (Nat × TypeId) → List D → Prop
  | [], ds => ds = []
  | (_, t) :: r, ds => ∃ a b, ds = a ++ b ∧ F t a ∧ FitFs F r b
def FitN (F : List D → Prop) : Nat → List D → Prop
  | 0, ds => ds = []
  | n + 1, ds => ∃ a b, ds = a ++ b ∧ F a ∧ FitN F n b

/-- cells of data of a type -/
def Fit (T : Tab) : Nat → TypeId → List D → Prop
  | 0, _, _ => False
  | n + 1, t, ds => match (T t).k with
    | .int k => ∃ x, ds = [.int k x] ∧ (Lit.int k x).wf = true
    | .bool => ∃ b, ds = [.bool b]
    | .str => ∃ s : ByteArray, ds = [.str s] ∧ s.size ≤ maxLen
    | .slice e => ∃ l : List (List D), ds = [.lst l] ∧ l.length ≤ maxLen ∧ ∀ x ∈ l, Fit T n e x
    | .struct fs => FitFs (Fit T n) fs ds
    | .arr m e => FitN (Fit T n e) m ds
    | _ => False

def plainT (T : Tab) : Nat → TypeId → Bool
  | 0, _ => false
  | m + 1, t => match (T t).k with
    | .int _ => true
    | .bool => true
    | .str => true
    | .slice e => plainT T m e
    | .arr _ e => plainT T m e
    | .struct fs => fs.all fun p => plainT T m p.2
    | _ => false

theorem plainT_known {T : Tab} {m : Nat} {t : TypeId} (h : plainT T m t = true) : (T t).k.known = true := by
  cases m with
  | zero => cases h
  | succ m =>
    simp only [plainT] at h
    cases hk : (T t).k <;> simp_all [TK.known]

def FitV (T : Tab) (n : Nat) (t : TypeId) (d : D) : Prop := if (T t).k.agg = true then ∃ ds, d = .agg ds ∧ Fit T n t ds else Fit T n t [d]

def CellsD (M : Mem) (cs : List Value) (ds : List D) : Prop := cs.length = ds.length ∧ ∀ (i : Nat) (d : D) (v : Value), ds[i]? = some d → cs[i]? = some v → DenD M d v

theorem CellsD.app {M : Mem} {a b : List Value} {x y : List D} (h : CellsD M a x) (h' : CellsD M b y) : CellsD M (a ++ b) (x ++ y) := by
  refine ⟨by simp [h.1, h'.1], fun i d v h1 h2 => ?_⟩
  by_cases hi : i < x.length
  · rw [List.getElem?_append_left hi] at h1
    rw [List.getElem?_append_left (by rw [h.1]; exact hi)] at h2
    exact h.2 i d v h1 h2
  · rw [List.getElem?_append_right (by omega)] at h1
    rw [List.getElem?_append_right (by rw [h.1]; omega), h.1] at h2
    exact h'.2 _ d v h1 h2

theorem CellsD.one {M : Mem} {v : Value} {d : D} (h : DenD M d v) : CellsD M [v] [d] := by
  refine ⟨rfl, fun i d' v' h1 h2 => ?_⟩
  cases i with
  | zero =>
    simp only [List.getElem?_cons_zero, Option.some.injEq] at h1 h2
    subst h1 h2
    exact h
  | succ i => simp at h1

def memOf (w : World) : Mem := fun b o => w.cell? ⟨b, o, none⟩

section
variable {H : Type} {enc : TypeId × Value → H} {P : Program} {T : Tab} (hT : TabOk P T) {w : World} {spare : Nat → Bool} {held : Bool}

include hT in
theorem cells_size {t : TypeId} (h : (T t).k.known = true) : P.cellsOf t = (T t).size := by
  obtain ⟨d, i, _, hi, _, hs, _⟩ := (tyFact hT h).desc
  simp [Program.cellsOf, hi, hs]

include hT in
theorem trod_den (K : Kids P (· < P.types.size)) : ∀ (n : Nat) (t : TypeId) (cs : List Value) (x : DataW H × List MemPlace), t < P.types.size → (∃ m, plainT T m t = true) →
    DataW.trod enc P w 0 spare held n t cs = some x → ∃ ds, Fit T n t ds ∧ CellsD (memOf w) cs ds := by
  intro n
  induction n with
  | zero => intro t cs x _ _ h; simp [DataW.trod] at h
  | succ n ih =>
    intro t cs x ht hpl h
    obtain ⟨q, hpl⟩ := hpl
    have hk := plainT_known hpl
    cases q with
    | zero => cases hpl
    | succ qq =>
    obtain ⟨d0, i0, hu0, _, hkind, _, _, _, helems, _⟩ := (tyFact hT hk).desc
    cases hkt : (T t).k with
    | other => rw [hkt] at hk; cases hk
    | ptr e => simp [plainT, hkt] at hpl
    | int k =>
      obtain ⟨m, rfl, _, hw⟩ := DataW.trod_int (und_int hT hkt) h
      exact ⟨[.int k m], by simp only [Fit, hkt]; exact ⟨m, rfl, hw⟩, .one (.int k m)⟩
    | bool =>
      obtain ⟨b, rfl, _⟩ := DataW.trod_bool (und_bool hT hkt) h
      exact ⟨[.bool b], by simp only [Fit, hkt]; exact ⟨b, rfl⟩, .one (.bool b)⟩
    | str =>
      obtain ⟨s, rfl, _, hs⟩ := DataW.trod_string (und_str hT hkt) h
      exact ⟨[.str s], by simp only [Fit, hkt]; exact ⟨s, rfl, hs⟩, .one (.str s)⟩
    | slice e =>
      obtain ⟨hu, hke⟩ := und_slice hT hkt
      have hte := K.slice ht hu
      rcases DataW.trod_slice hu h with ⟨rfl, _⟩ | ⟨a, len, cap, elems, rest, m, hm, rfl, _, _, hlc, hcm, hel, hread, _, _⟩
      · exact ⟨[.lst []], by simp only [Fit, hkt]; exact ⟨[], rfl, by simp, by simp⟩, .one (.emp _ _)⟩
      · obtain rfl : n = m := by omega
        by_cases hl0 : len = 0
        · subst hl0
          exact ⟨[.lst []], by simp only [Fit, hkt]; exact ⟨[], rfl, by simp, by simp⟩, .one (.emp _ _)⟩
        have hsz : P.cellsOf e = (T e).size := cells_size hT hke
        have hpos := size_pos hT hke
        have hex : ∀ i, i < len → ∃ ds, Fit T n e ds ∧ ds.length = (T e).size ∧ a.spot = none ∧ ∀ (j : Nat) (d : D), ds[j]? = some d → ∃ v, w.cell? ⟨a.block, a.off + i * (T e).size + j, none⟩ = some v ∧ DenD (memOf w) d v := by
          intro i hi
          have hr := hread i hi
          have he : elems[i]? = some (elems[i]'(by omega)) := by simp
          rw [he] at hr
          simp only [Option.bind_eq_some_iff] at hr
          obtain ⟨cs', hcells, htrod⟩ := hr
          obtain ⟨ds, hfit, hcd⟩ := ih e cs' _ hte ⟨qq, by simpa [plainT, hkt] using hpl⟩ htrod
          have hcl : (List.range (P.cellsOf e)).mapM (fun j => w.cell? ((a.add (i * P.cellsOf e)).add j)) = some cs' := by
            unfold World.cells? at hcells
            split at hcells
            · exact hcells
            · cases hcells
          have hlen : cs'.length = (T e).size := by
            have := mapM_some_length hcl
            simpa [hsz] using this
          have hcell : ∀ j, j < (T e).size → w.cell? ((a.add (i * P.cellsOf e)).add j) = cs'[j]? := fun j hj =>
            mapM_some_get hcl j j (by rw [List.getElem?_range (by rw [hsz]; exact hj)])
          have hspot : ∀ b : Addr, w.cell? b ≠ none → b.spot = none := by
            intro b hb
            unfold World.cell? at hb
            cases hs : b.spot with
            | none => rfl
            | some s =>
              exfalso
              apply hb
              split <;> simp [hs]
          have hsp : a.spot = none := by
            have hr0 := hread 0 (by omega)
            have he0 : elems[0]? = some (elems[0]'(by omega)) := by simp
            rw [he0] at hr0
            simp only [Option.bind_eq_some_iff] at hr0
            obtain ⟨cs0, hc0, _⟩ := hr0
            unfold World.cells? at hc0
            split at hc0
            · have l0 := mapM_some_length hc0
              have := mapM_some_get hc0 0 0 (by rw [List.getElem?_range (by rw [hsz]; exact hpos)])
              have hz : cs0[0]? ≠ none := by
                have : 0 < cs0.length := by rw [l0]; simpa [hsz] using hpos
                rw [List.getElem?_eq_getElem this]; simp
              rw [← this] at hz
              have := hspot _ hz
              simpa [Addr.add] using this
            · cases hc0
          refine ⟨ds, hfit, by rw [← hcd.1, hlen], hsp, fun j d hj => ?_⟩
          have hjl : j < (T e).size := by rw [← hlen, hcd.1]; exact (List.getElem?_eq_some_iff.1 hj).1
          have hv : cs'[j]? = some (cs'[j]'(by omega)) := by simp
          refine ⟨_, ?_, hcd.2 j d _ hj hv⟩
          rw [← hv, ← hcell j hjl]
          congr 1
          obtain ⟨ab, ao, as⟩ := a
          simp only at hsp
          subst hsp
          rw [addr_add, addr_add, hsz]
        obtain ⟨f, hf⟩ : ∃ f : Nat → List D, ∀ i, i < len → Fit T n e (f i) ∧ (f i).length = (T e).size ∧ a.spot = none ∧ ∀ (j : Nat) (d : D), (f i)[j]? = some d → ∃ v, w.cell? ⟨a.block, a.off + i * (T e).size + j, none⟩ = some v ∧ DenD (memOf w) d v := by
          refine ⟨fun i => if h : i < len then Classical.choose (hex i h) else [], fun i hi => ?_⟩
          simp only [dif_pos hi]
          exact Classical.choose_spec (hex i hi)
        have hspn : a.spot = none := (hf 0 (by omega)).2.2.1
        obtain ⟨ab, ao, as⟩ := a
        simp only at hspn hf
        subst hspn
        let l : List (List D) := (List.range len).map f
        have hget : ∀ (i : Nat) (e' : List D), l[i]? = some e' → i < len ∧ e' = f i := by
          intro i e' hi
          simp only [l, List.getElem?_map] at hi
          by_cases h1 : i < len
          · rw [List.getElem?_range h1] at hi
            simp only [Option.map_some, Option.some.injEq] at hi
            exact ⟨h1, hi.symm⟩
          · rw [List.getElem?_eq_none (by simp; omega)] at hi; cases hi
        have hll : l.length = len := by simp [l]
        refine ⟨[.lst l], ?_, ?_⟩
        · simp only [Fit, hkt]
          refine ⟨l, rfl, by rw [hll]; omega, fun x hx => ?_⟩
          obtain ⟨i, hi, hxi⟩ := List.getElem_of_mem hx
          obtain ⟨h1, h2⟩ := hget i x (by rw [List.getElem?_eq_getElem hi, hxi])
          rw [h2]; exact (hf i h1).1
        · refine .one ?_
          rw [show len = l.length from hll.symm]
          refine .lst l ab ao cap (T e).size (fun i j => (w.cell? ⟨ab, ao + i * (T e).size + j, none⟩).getD undef) (by omega) (fun i e' hi => ?_) (fun i j e' d hi hj => ?_) fun i j e' d hi hj => ?_
          · obtain ⟨h1, h2⟩ := hget i e' hi
            rw [h2]; exact (hf i h1).2.1
          · obtain ⟨h1, h2⟩ := hget i e' hi
            subst h2
            obtain ⟨v, hv, _⟩ := (hf i h1).2.2.2 j d hj
            show w.cell? _ = some _
            rw [hv]; rfl
          · obtain ⟨h1, h2⟩ := hget i e' hi
            subst h2
            obtain ⟨v, hv, hd⟩ := (hf i h1).2.2.2 j d hj
            rw [hv]; exact hd
    | struct fs =>
      obtain ⟨F, hu, hF, hkn, _⟩ := und_struct hT hkt
      obtain ⟨hkids, hcells, hoff⟩ := K.struct ht hu
      obtain ⟨xs, m, hm, _, hlen, hxl, hread⟩ := DataW.trod_struct hu h
      obtain rfl : n = m := by omega
      have key : ∀ (G : List Field) (k o : Nat), F.toList.drop k = G → o = ((F.toList.take k).map fun f => P.cellsOf f.type).sum → ∃ ds, FitFs (Fit T n) (G.map fun f => (f.offset, f.type)) ds ∧ CellsD (memOf w) ((cs.drop o).take ((G.map fun f => P.cellsOf f.type).sum)) ds := by
        intro G
        induction G with
        | nil => intro k o _ _; exact ⟨[], rfl, by simp [CellsD]⟩
        | cons g G ihG =>
          intro k o hG ho
          have hgk : F.toList[k]? = some g := by
            have := congrArg (·[0]?) hG
            simpa using this
          have hG' : F.toList.drop (k + 1) = G := by
            have := congrArg (List.drop 1) hG
            simpa [Nat.add_comm] using this
          have hgo : g.offset = o := by rw [hoff k g hgk, ho]
          have hgm : g ∈ F.toList := List.mem_of_getElem? hgk
          have hgt : (T g.type).k.known = true := hkn (g.offset, g.type) (by rw [← hF]; exact List.mem_map.2 ⟨g, hgm, rfl⟩)
          have hr := hread k g (by rw [← Array.getElem?_toList]; exact hgk)
          have hxk : xs[k]? = some (xs[k]'(by rw [hxl]; have := (List.getElem?_eq_some_iff.1 hgk).1; simpa using this)) := by simp
          rw [hxk] at hr
          obtain ⟨d1, f1, c1⟩ := ih g.type _ _ (hkids g hgm) ⟨qq, by
            simp only [plainT, hkt, List.all_eq_true] at hpl
            exact hpl (g.offset, g.type) (by rw [← hF]; exact List.mem_map.2 ⟨g, hgm, rfl⟩)⟩ hr
          obtain ⟨d2, f2, c2⟩ := ihG (k + 1) (o + P.cellsOf g.type) hG' (by
            rw [ho]
            have : F.toList.take (k + 1) = F.toList.take k ++ [g] := by
              rw [List.take_add_one, hgk]; rfl
            rw [this]; simp)
          refine ⟨d1 ++ d2, ⟨d1, d2, rfl, f1, f2⟩, ?_⟩
          have : (cs.drop o).take (((g :: G).map fun f => P.cellsOf f.type).sum) = (cs.drop g.offset).take (P.cellsOf g.type) ++ (cs.drop (o + P.cellsOf g.type)).take ((G.map fun f => P.cellsOf f.type).sum) := by
            rw [hgo]
            simp only [List.map_cons, List.sum_cons]
            rw [List.take_add, List.drop_drop]
          rw [this]
          exact c1.app c2
      obtain ⟨ds, k1, k2⟩ := key F.toList 0 0 rfl rfl
      refine ⟨ds, by simp only [Fit, hkt]; rw [← hF]; exact k1, ?_⟩
      rw [← hcells, ← hlen] at k2
      simpa using k2
    | arr m e =>
      obtain ⟨hu, hke⟩ := und_arr hT hkt
      obtain ⟨hte, hcells⟩ := K.array ht hu
      obtain ⟨xs, m', hm', _, hlen, hxl, hread⟩ := DataW.trod_array hu h
      obtain rfl : n = m' := by omega
      have key : ∀ (q k : Nat), k + q = m → ∃ ds, FitN (Fit T n e) q ds ∧ CellsD (memOf w) ((cs.drop (k * P.cellsOf e)).take (q * P.cellsOf e)) ds := by
        intro q
        induction q with
        | zero => intro k _; exact ⟨[], rfl, by simp [CellsD]⟩
        | succ q ihq =>
          intro k hkq
          have hr := hread k (by omega)
          have hxk : xs[k]? = some (xs[k]'(by omega)) := by simp
          rw [hxk] at hr
          obtain ⟨d1, f1, c1⟩ := ih e _ _ hte ⟨qq, by simpa [plainT, hkt] using hpl⟩ hr
          obtain ⟨d2, f2, c2⟩ := ihq (k + 1) (by omega)
          refine ⟨d1 ++ d2, ⟨d1, d2, rfl, f1, f2⟩, ?_⟩
          have : (cs.drop (k * P.cellsOf e)).take ((q + 1) * P.cellsOf e) = (cs.drop (k * P.cellsOf e)).take (P.cellsOf e) ++ (cs.drop ((k + 1) * P.cellsOf e)).take (q * P.cellsOf e) := by
            rw [show (q + 1) * P.cellsOf e = P.cellsOf e + q * P.cellsOf e by rw [Nat.add_mul, Nat.one_mul, Nat.add_comm], List.take_add, List.drop_drop, show k * P.cellsOf e + P.cellsOf e = (k + 1) * P.cellsOf e by rw [Nat.add_mul, Nat.one_mul]]
          rw [this]
          exact c1.app c2
      obtain ⟨ds, k1, k2⟩ := key m 0 (by omega)
      refine ⟨ds, by simp only [Fit, hkt]; exact k1, ?_⟩
      rw [← hcells, ← hlen] at k2
      simpa using k2


include hT in
theorem arg_den (K : Kids P (· < P.types.size)) {t : TypeId} {v : Value} {d : DataW H} {ps : List MemPlace} {r : Reach} {base : Nat} (ht : t < P.types.size) (hpl : ∃ m, plainT T m t = true) (hok : Value.okWide P w r base t v) (h : DataW.Trod enc P w 0 spare held t v d ps) :
    ∃ n dd, FitV T n t dd ∧ DenD (memOf w) dd v := by
  obtain ⟨n, hn⟩ := h
  obtain ⟨ds, hfit, hcd⟩ := trod_den hT K n t _ _ ht hpl hn
  obtain ⟨m, hpl⟩ := hpl
  have hk := plainT_known hpl
  have aggc : ∀ cs : Array Value, v = .agg cs → (T t).k.agg = true → ∃ n dd, FitV T n t dd ∧ DenD (memOf w) dd v := by
    intro cs hv ha
    subst hv
    refine ⟨n, .agg ds, by unfold FitV; rw [if_pos ha]; exact ⟨ds, rfl, hfit⟩, .agg ds cs (by simpa [Value.cells] using hcd.1) fun i d v h1 h2 => hcd.2 i d v h1 (by simpa [Value.cells] using h2)⟩
  have one : v.cells = #[v] → (T t).k.agg = false → ∃ n dd, FitV T n t dd ∧ DenD (memOf w) dd v := by
    intro hv ha
    have hl : ds.length = 1 := by rw [← hcd.1, hv]; rfl
    obtain ⟨d, rfl⟩ := List.length_eq_one_iff.1 hl
    exact ⟨n, d, by unfold FitV; rw [if_neg (by simp [ha])]; exact hfit, hcd.2 0 d v rfl (by rw [hv]; rfl)⟩
  cases hkt : (T t).k with
  | other => rw [hkt] at hk; cases hk
  | ptr e => cases m <;> simp [plainT, hkt] at hpl
  | int k => obtain ⟨x, rfl⟩ := okWide_int (und_int hT hkt) hok; exact one rfl (by rw [hkt]; rfl)
  | bool => obtain ⟨x, rfl⟩ := okWide_bool (und_bool hT hkt) hok; exact one rfl (by rw [hkt]; rfl)
  | str => obtain ⟨x, rfl⟩ := okWide_string (und_str hT hkt) hok; exact one rfl (by rw [hkt]; rfl)
  | slice e => obtain ⟨a, l, c, rfl⟩ := okWide_slice (und_slice hT hkt).1 hok; exact one rfl (by rw [hkt]; rfl)
  | struct fs =>
    obtain ⟨F, hu, _⟩ := und_struct hT hkt
    obtain ⟨cs, hv, _⟩ := okWide_struct hu hok
    exact aggc cs hv (by rw [hkt]; rfl)
  | arr m e =>
    have hu := (und_arr hT hkt).1
    unfold Value.okWide at hok
    rw [hu] at hok
    obtain ⟨cs, hv, _⟩ := hok
    exact aggc cs hv (by rw [hkt]; rfl)

def FitAll (T : Tab) : List TypeId → List D → Prop
  | [], ds => ds = []
  | t :: ts, ds => ∃ n d r, ds = d :: r ∧ FitV T n t d ∧ FitAll T ts r

include hT in
theorem args_den' (K : Kids P (· < P.types.size)) {r : Reach} {base : Nat} : ∀ {ts : List TypeId} {vs : List Value} {ds : List (DataW H)} {ps : List MemPlace}, (∀ t ∈ ts, t < P.types.size ∧ ∃ m, plainT T m t = true) →
    (∀ (j : Nat) t v, ts[j]? = some t → vs[j]? = some v → Value.okWide P w r base t v) → DataW.TrodAll enc P w 0 spare held ts vs ds ps →
    ∃ dds, FitAll T ts dds ∧ dds.length = vs.length ∧ ds.length = ts.length ∧ ∀ (i : Nat) (d : D) (v : Value), dds[i]? = some d → vs[i]? = some v → DenD (memOf w) d v
  | [], vs, ds, ps, _, _, h => by
    obtain ⟨rfl, rfl, rfl⟩ := trodAll_nil h
    exact ⟨[], rfl, rfl, rfl, fun i d v h => by simp at h⟩
  | t :: ts, vs, ds, ps, hts, hok, h => by
    obtain ⟨v, vs1, d, ds1, a, b, rfl, rfl, rfl, h1, h2⟩ := trodAll_cons h
    obtain ⟨n, dd, e1, e2⟩ := arg_den hT K (hts t (List.mem_cons_self ..)).1 (hts t (List.mem_cons_self ..)).2 (hok 0 t v rfl rfl) h1
    obtain ⟨dds, e3, e4, e6, e5⟩ := args_den' K (fun t ht => hts t (List.mem_cons_of_mem _ ht)) (fun j t v h1 h2 => hok (j + 1) t v (by simpa using h1) (by simpa using h2)) h2
    refine ⟨dd :: dds, ⟨n, dd, dds, rfl, e1, e3⟩, by simp [e4], by simp [e6], fun i d' v' g1 g2 => ?_⟩
    cases i with
    | zero =>
      simp only [List.getElem?_cons_zero, Option.some.injEq] at g1 g2
      subst g1 g2
      exact e2
    | succ i => exact e5 i d' v' (by simpa using g1) (by simpa using g2)

theorem agree_memOf (w : World) : Agree (memOf w) w := fun _ _ _ h => h

theorem below_sameAt {w w' : World} (h : Below w.heap.size w w') {p : MemPlace} (hp : p.block < w.heap.size) : w.sameAt w' p := by
  have := h.block p.block hp
  cases p with
  | cell b off => simp only [World.sameAt, World.cell?]; simp only [MemPlace.block] at this; rw [this]
  | map b => exact this

theorem trodAll_carry' {w' : World} : ∀ {ts : List TypeId} {vs : List Value} {ds : List (DataW H)} {ps : List MemPlace}, DataW.TrodAll enc P w 0 spare held ts vs ds ps → (∀ p ∈ ps, w.sameAt w' p) → DataW.TrodAll enc P w' 0 spare held ts vs ds ps
  | [], vs, ds, ps, h, _ => by
    obtain ⟨rfl, rfl, rfl⟩ := trodAll_nil h
    rfl
  | t :: ts, vs, ds, ps, h, hs => by
    obtain ⟨v, vs1, d, ds1, a, b, rfl, rfl, rfl, ⟨n, hn⟩, h2⟩ := trodAll_cons h
    exact ⟨a, b, ⟨n, DataW.trod_carry n t _ _ hn fun p hp => hs p (List.mem_append_left _ hp)⟩, trodAll_carry' h2 fun p hp => hs p (List.mem_append_right _ hp), rfl⟩

/-- a last step: only what is new may have turned (after the guide's small lemmas) -/
theorem post_of_below {f : Func} {s : ChangeSpec} {apart fresh handsOn again : Bool} {W W' : World} {args : Array Value} {v : Value} {ds gs : List (DataW H)} {before pa pv : List MemPlace}
    (hW : DataW.Whole enc P f.params.toList s.vars apart W args.toList ds gs before)
    (hres : ∀ (b : Nat) (sp : Nat → Bool) (hd : Bool), DataW.TrodAll enc P W' b sp hd f.resultTypes.toList (v.resultList f.resultTypes.size) (s.fn H (ds ++ gs)).results [])
    (hargs : ∀ sp : Nat → Bool, (∀ p ∈ before, sp p.block = true) → DataW.TrodAll enc P W' 0 sp true f.params.toList args.toList (s.fn H (ds ++ gs)).args pa)
    (hvars : ∀ sp : Nat → Bool, (∀ p ∈ before, sp p.block = true) → DataW.TrodVars enc P W' sp s.vars (s.fn H (ds ++ gs)).vars pv)
    (hps : before = pa ++ pv) (hb : Below W.heap.size W W')
    (hok : ∀ (j : Nat) (t : TypeId) (r : Value), f.resultTypes[j]? = some t → (v.resultList f.resultTypes.size)[j]? = some r → Value.okWide P W' .any 0 t r) :
    s.post enc P f apart fresh handsOn again W args v W' := by
  have hlt : ∀ p ∈ before, p.block < W.heap.size := fun p hp => hW.lt p hp
  have hold : ∀ p ∈ before, (fun b => decide (b < W.heap.size)) p.block = true := fun p hp => by simpa using hlt p hp
  refine ⟨ds, gs, before, [], pa, pv, hW, hres _ _ _, hargs _ hold, hvars _ hold, World.keptBut_mono (fun p hp => ⟨hp, ?_⟩) (hb.frame (· ∈ before)), fun _ => ?_⟩
  · rw [hps, List.mem_append] at hp
    exact Or.inr hp
  · obtain ⟨_, _, _, _, _, hz, hn⟩ := hW
    refine ⟨hok, _, _, ([] ++ pa) ++ pv, ⟨[] ++ pa, pv, trodAll_append (hargs _ (fun _ _ => rfl)) (hres _ _ _), hvars _ (fun _ _ => rfl), rfl, ?_, ?_⟩, ?_⟩
    · intro b off hp
      have hin : MemPlace.cell b off ∈ before := by rw [hps]; simpa using hp
      rw [hb.frozen (hlt _ hin)]
      exact hz b off hin
    · intro ha
      have := hn ha
      rw [hps] at this
      simpa using this
    · intro p hp _
      rw [hps]
      simpa using hp

include hT in
/-- a law's contract, from its pure form -/
theorem law_contract (K : Kids P (· < P.types.size)) (hz : ∀ t e, t < P.types.size → P.underlying t = some (.slice e) → 0 < P.cellsOf e) {f : FuncId} {fn : Func} {s : ChangeSpec} {fresh handsOn again : Bool} {tb : TypeId}
    (hts : ∀ t ∈ fn.params.toList, t < P.types.size ∧ ∃ m, plainT T m t = true) (hres : fn.resultTypes = #[tb]) (hb : P.underlying tb = some .bool) (hvars : s.vars = [])
    (hs : ∀ ds : List (DataW H), ds.length = fn.params.toList.length → s.fn H ds = { results := [.lit (.bool true)], args := ds })
    (law : ∀ dds, FitAll T fn.params.toList dds → ACall P f dds (.bool true))
    (W : World) (base : Nat) (args : Array Value) (ds gs : List (DataW H)) (before : List MemPlace)
    (hval : ∀ (j : Nat) t v, fn.params[j]? = some t → args[j]? = some v → Value.okWide P W .any base t v)
    (hW : DataW.Whole enc P fn.params.toList s.vars false W args.toList ds gs before) :
    Calls P f args W fun e W' => ∃ v, e = .returned v ∧ s.post enc P fn false fresh handsOn again W args v W' := by
  have hlt : ∀ p ∈ before, p.block < W.heap.size := fun p hp => hW.lt p hp
  have hW' := hW
  obtain ⟨p, q, hA, hV, rfl, hfz, hnd⟩ := hW
  rw [hvars] at hV
  obtain ⟨rfl, rfl⟩ := trodVars_none hV
  obtain ⟨dds, hfit, hdl, hdsl, hden⟩ := args_den' hT K hts (fun j t v h1 h2 => hval j t v (by simpa using h1) (by simpa using h2)) hA
  have hlaw := law dds hfit
  refine (hlaw.2 W (memOf W) args (agree_memOf W) ⟨by simpa using hdl.symm, fun i d v h1 h2 => hden i d v h1 (by simpa using h2)⟩).mono fun e W' hq => ?_
  obtain ⟨v, M', rfl, hbel, _, _, _, hd⟩ := hq
  have hv : v = .bool true := by cases hd; rfl
  subst hv
  refine ⟨_, rfl, ?_⟩
  have hsf : s.fn H (ds ++ []) = { results := [.lit (.bool true)], args := ds } := by rw [List.append_nil]; exact hs _ hdsl
  refine post_of_below (pa := p) (pv := []) hW' ?_ ?_ ?_ rfl hbel ?_
  · intro b sp hd
    rw [hsf, hres]
    exact trodAll_mk1 ⟨1, by simp [DataW.trod, hb, Value.cells]⟩
  · intro sp hsp
    rw [hsf]
    exact DataW.TrodAll.respare K hz (fun t ht => (hts t ht).1) (trodAll_carry' hA fun x hx => below_sameAt hbel (hlt x (by simpa using hx))) fun x hx => hsp x (by simpa using hx)
  · intro sp _
    rw [hsf, hvars]
    rfl
  · exact ok_one hres rfl (okWide_bool_mk hb _)

end
end Go.Lk

namespace Go.Lk
open Go Go.RowKit

theorem w64 {n : Int} (h0 : -9223372036854775808 ≤ n) (h1 : n ≤ 9223372036854775807) : IntKind.i64.wrap n = n := by
  rw [IntKind.wrap_i64]; omega
theorem condK_draw {r : List Oper} {q : List Summ} {i : Nat} {done : List Summ} {pm : List Nat} {K : Prop} (h : drawOk r q i done pm = true) (k : K) : condK (drawOk r q i done pm = true) K := condK_of h k
theorem bF {A B : Prop} (h : B) : bcase false A B := ⟨h⟩
theorem bT {A B : Prop} (h : A) : bcase true A B := ⟨h⟩
theorem dK {r : List Oper} {q : List Summ} {i : Nat} {done : List Summ} {pm : List Nat} {K : Prop} (k : K) (h : drawOk r q i done pm = true := by kernel_rfl) : condK (drawOk r q i done pm = true) K := condK_of h k
theorem cR {α : Type} {a : α} {K : Prop} (k : K) : condK (a = a) K := ⟨⟨rfl, k⟩⟩
theorem cK {c K : Prop} (k : K) (h : c := by first | decide | omega) : condK c K := ⟨⟨h, k⟩⟩
theorem wK {n : Int} {K : Int → Prop} (k : K n) (h0 : -9223372036854775808 ≤ n := by omega) (h1 : n ≤ 9223372036854775807 := by omega) : wrapK .i64 n K := wrapK_in (w64 h0 h1) k
theorem drop_cons {α} {l : List α} {k : Nat} (h : k < l.length) : l.drop k = l[k] :: l.drop (k + 1) := List.drop_eq_getElem_cons h
theorem take_snoc {α} {l : List α} {k : Nat} (h : k < l.length) : l.take (k + 1) = l.take k ++ [l[k]] := by
  rw [List.take_add_one]; simp [h]

theorem getC_of {c : List AV} {j : Nat} {K : AV → Prop} {x : AV} (h : c[j]? = some x) (k : force x K) : getC c j K := by
  unfold getC; rw [h]; exact k
theorem bif_of {b : Bool} {A : Prop} (h : b = true) (k : A) : bif b then A else False := by rw [h]; exact k
/-- what is told -/
theorem ret_of {o : Option D} {d d' : D} (h : o = some d') (e : d' = d) : o = some d := by rw [h, e]
@[simp] theorem oneD1 (d : D) : oneD [d] = d := rfl
theorem roomK_le {n bytes : Nat} {K : Prop} (m c : Nat) (hn : n ≤ m) (hb : bytes ≤ c) (h1 : m * c ≤ 35184372088832) (h2 : m ≤ 35184372088832) (k : K) : roomK n bytes K :=
  roomK_of (Nat.le_trans (Nat.mul_le_mul hn hb) h1) (Nat.le_trans hn h2) k
theorem params_ok {P : Program} {T : Tab} {fn : Func} (h : (fn.params.toList.all fun t => Nat.blt t P.types.size && plainT T 12 t) = true) : ∀ t ∈ fn.params.toList, t < P.types.size ∧ ∃ m, plainT T m t = true := by
  intro t ht
  have := List.all_eq_true.1 h t ht
  simp only [Bool.and_eq_true] at this
  exact ⟨Nat.le_of_ble_eq_true this.1, 12, this.2⟩
def sliceSize (P : Program) : Bool := (List.range P.types.size).all fun t => match P.underlying t with
  | some (.slice e) => Nat.blt 0 (P.cellsOf e)
  | _ => true
theorem sliceSize_out {P : Program} (h : sliceSize P = true) : ∀ t e, t < P.types.size → P.underlying t = some (.slice e) → 0 < P.cellsOf e := by
  intro t e ht hu
  have := (List.all_eq_true.1 h) t (List.mem_range.2 ht)
  rw [hu] at this
  exact Nat.le_of_ble_eq_true this
/-! ### what an argument can be -/
theorem fit_int {T : Tab} {n : Nat} {t : TypeId} {k : IntKind} {ds : List D} (hk : (T t).k = .int k) (h : Fit T n t ds) : ∃ x, ds = [.int k x] ∧ (Lit.int k x).wf = true := by
  cases n with
  | zero => exact h.elim
  | succ n => simp only [Fit, hk] at h; exact h
theorem fit_bool {T : Tab} {n : Nat} {t : TypeId} {ds : List D} (hk : (T t).k = .bool) (h : Fit T n t ds) : ∃ b, ds = [.bool b] := by
  cases n with
  | zero => exact h.elim
  | succ n => simp only [Fit, hk] at h; exact h
theorem fit_str {T : Tab} {n : Nat} {t : TypeId} {ds : List D} (hk : (T t).k = .str) (h : Fit T n t ds) : ∃ s : ByteArray, ds = [.str s] ∧ s.size ≤ maxLen := by
  cases n with
  | zero => exact h.elim
  | succ n => simp only [Fit, hk] at h; exact h
theorem fit_slice {T : Tab} {n : Nat} {t e : TypeId} {ds : List D} (hk : (T t).k = .slice e) (h : Fit T n t ds) : ∃ m, ∃ l : List (List D), ds = [.lst l] ∧ l.length ≤ maxLen ∧ ∀ x ∈ l, Fit T m e x := by
  cases n with
  | zero => exact h.elim
  | succ n => simp only [Fit, hk] at h; exact ⟨n, h⟩
theorem fit_struct {T : Tab} {n : Nat} {t : TypeId} {fs : List (Nat × TypeId)} {ds : List D} (hk : (T t).k = .struct fs) (h : Fit T n t ds) : ∃ m, FitFs (Fit T m) fs ds := by
  cases n with
  | zero => exact h.elim
  | succ n => simp only [Fit, hk] at h; exact ⟨n, h⟩
theorem fit_arr {T : Tab} {n : Nat} {t e : TypeId} {k : Nat} {ds : List D} (hk : (T t).k = .arr k e) (h : Fit T n t ds) : ∃ m, FitN (Fit T m e) k ds := by
  cases n with
  | zero => exact h.elim
  | succ n => simp only [Fit, hk] at h; exact ⟨n, h⟩
theorem fitV_one {T : Tab} {n : Nat} {t : TypeId} {d : D} (ha : (T t).k.agg = false) (h : FitV T n t d) : Fit T n t [d] := by
  unfold FitV at h; rw [ha] at h; simpa using h
theorem fitV_agg {T : Tab} {n : Nat} {t : TypeId} {d : D} (ha : (T t).k.agg = true) (h : FitV T n t d) : ∃ ds, d = .agg ds ∧ Fit T n t ds := by
  unfold FitV at h; rw [ha] at h; simpa using h
theorem fitV_int {T : Tab} {n : Nat} {t : TypeId} {k : IntKind} {d : D} (hk : (T t).k = .int k) (h : FitV T n t d) : ∃ x, d = .int k x ∧ (Lit.int k x).wf = true := by
  obtain ⟨x, e, h⟩ := fit_int hk (fitV_one (by rw [hk]; rfl) h)
  exact ⟨x, (List.cons.inj e).1, h⟩
theorem fitV_bool {T : Tab} {n : Nat} {t : TypeId} {d : D} (hk : (T t).k = .bool) (h : FitV T n t d) : ∃ b, d = .bool b := by
  obtain ⟨x, e⟩ := fit_bool hk (fitV_one (by rw [hk]; rfl) h)
  exact ⟨x, (List.cons.inj e).1⟩
theorem exists_map {α : Type} {f : α → List D} {Q : α → Prop} : ∀ {l : List (List D)}, (∀ x ∈ l, ∃ a, x = f a ∧ Q a) → ∃ r : List α, l = r.map f ∧ ∀ a ∈ r, Q a
  | [], _ => ⟨[], rfl, fun a h => by cases h⟩
  | x :: l, h => by
    obtain ⟨a, rfl, ha⟩ := h x (List.mem_cons_self ..)
    obtain ⟨r, rfl, hr⟩ := exists_map (l := l) fun y hy => h y (List.mem_cons_of_mem _ hy)
    exact ⟨a :: r, rfl, fun b hb => by
      rcases List.mem_cons.1 hb with rfl | hb
      · exact ha
      · exact hr b hb⟩
theorem fitV_rows {α : Type} {f : α → List D} {Q : α → Prop} {T : Tab} {n : Nat} {t e : TypeId} {d : D} (hk : (T t).k = .slice e) (h : FitV T n t d) (hf : ∀ m x, Fit T m e x → ∃ a, x = f a ∧ Q a) :
    ∃ r : List α, d = .lst (r.map f) ∧ r.length ≤ maxLen ∧ ∀ a ∈ r, Q a := by
  obtain ⟨m, l, e1, e2, e3⟩ := fit_slice hk (fitV_one (by rw [hk]; rfl) h)
  obtain ⟨r, rfl, hr⟩ := exists_map fun x hx => hf m x (e3 x hx)
  exact ⟨r, (List.cons.inj e1).1, by simpa using e2, hr⟩
theorem wf_i64 {x : Int} (h : (Lit.int .i64 x).wf = true) : -9223372036854775808 ≤ x ∧ x ≤ 9223372036854775807 := by
  simpa [Lit.wf, IntKind.min, IntKind.max, IntKind.signed, IntKind.bits] using h
theorem wf_u8 {x : Int} (h : (Lit.int .u8 x).wf = true) : 0 ≤ x ∧ x ≤ 255 := by
  simpa [Lit.wf, IntKind.min, IntKind.max, IntKind.signed, IntKind.bits] using h
theorem fit_rows {α : Type} {f : α → List D} {Q : α → Prop} {T : Tab} {n : Nat} {t e : TypeId} {ds : List D} (hk : (T t).k = .slice e) (h : Fit T n t ds) (hf : ∀ m x, Fit T m e x → ∃ a, x = f a ∧ Q a) :
    ∃ r : List α, ds = [.lst (r.map f)] ∧ r.length ≤ maxLen ∧ ∀ a ∈ r, Q a := by
  obtain ⟨m, l, e1, e2, e3⟩ := fit_slice hk h
  obtain ⟨r, rfl, hr⟩ := exists_map fun x hx => hf m x (e3 x hx)
  exact ⟨r, e1, by simpa using e2, hr⟩
theorem fit_two {T : Tab} {n : Nat} {t a b : TypeId} {f g : Nat} {k l : IntKind} {ds : List D} (hk : (T t).k = .struct [(f, a), (g, b)]) (ha : (T a).k = .int k) (hb : (T b).k = .int l) (h : Fit T n t ds) :
    ∃ x y, ds = [.int k x, .int l y] ∧ (Lit.int k x).wf = true ∧ (Lit.int l y).wf = true := by
  obtain ⟨m, u, v, rfl, h1, v1, w1, rfl, h2, rfl⟩ := fit_struct hk h
  obtain ⟨x, rfl, hx⟩ := fit_int ha h1
  obtain ⟨y, rfl, hy⟩ := fit_int hb h2
  exact ⟨x, y, rfl, hx, hy⟩
/-- pairs of ints -/
def encI (p : Int × Int) : List D := [.int .i64 p.1, .int .i64 p.2]
def encIs (l : List (Int × Int)) : D := .lst (l.map encI)
theorem encI_len {l : List (Int × Int)} {e : List D} (h : e ∈ l.map encI) : e.length = 2 := by
  simp only [List.mem_map] at h
  obtain ⟨x, _, rfl⟩ := h
  rfl
theorem encI_ok : ∀ (l : List (Int × Int)), okRows 2 (l.map encI) = true
  | [] => rfl
  | _ :: r => encI_ok r
/-- rows of ints -/
def enc1 (n : Int) : List D := [.int .i64 n]
def encNs (l : List Int) : D := .lst (l.map enc1)
theorem enc1_len {l : List Int} {e : List D} (h : e ∈ l.map enc1) : e.length = 1 := by
  simp only [List.mem_map] at h
  obtain ⟨x, _, rfl⟩ := h
  rfl
theorem enc1_ok : ∀ (l : List Int), okRows 1 (l.map enc1) = true
  | [] => rfl
  | _ :: r => enc1_ok r
end Go.Lk


/-
  What is proved here: regions in any order; code; functions; no condition beyond each theorem's own.
-/
import Derived.Test.YtmkjebpdcclfdaaFf
set_option linter.unusedSectionVars false
set_option linter.unusedSimpArgs false
set_option linter.unusedVariables false
set_option linter.unnecessarySimpa false
namespace Go.Lk
open Go Go.RowKit

theorem forceN_out : ∀ {l : List Nat} {K : List Nat → Prop}, forceN l K → K l
  | [], _, h => h
  | x :: r, K, h => forceN_out (l := r) (K := fun r => K (x :: r)) h

theorem footT_out {tm : Nat → AV} {F : List Nat} : ∀ {rd : List Nat}, footT tm rd F = true → ∀ t ∈ rd, inO (namesO (tm t)) F = true
  | [], _, t, ht => by cases ht
  | x :: r, h, t, ht => by
    simp only [footT] at h
    cases hx : inO (namesO (tm x)) F with
    | false => simp [hx] at h
    | true =>
      simp only [hx, cond_true] at h
      cases ht with
      | head => exact hx
      | tail _ ht => exact footT_out h t ht

theorem footH_out {hp : Nat → Option Blk} {F : List Nat} : ∀ {G : List Nat}, footH hp F G = true → ∀ b ∈ G, ∀ B, hp b = some B → inO (namesB B) F = true
  | [], _, b, hb, _, _ => by cases hb
  | x :: r, h, b, hb, B, hB => by
    simp only [footH] at h
    cases hx : hp x with
    | none =>
      simp only [hx] at h
      cases hb with
      | head => rw [hx] at hB; cases hB
      | tail _ hb => exact footH_out h b hb B hB
    | some B0 =>
      simp only [hx] at h
      cases hi : inO (namesB B0) F with
      | false => simp [hi] at h
      | true =>
        simp only [hi, cond_true] at h
        cases hb with
        | head => rw [hx] at hB; cases hB; exact hi
        | tail _ hb => exact footH_out h b hb B hB

theorem footK_out {tm : Nat → AV} {hp : Nat → Option Blk} {rd : List Nat} {K : List Nat → Prop} (h : footK tm hp rd K) :
    ∃ F, K F ∧ (∀ t ∈ rd, inO (namesO (tm t)) F = true) ∧ ∀ b ∈ F, ∀ B, hp b = some B → inO (namesB B) F = true := by
  unfold footK at h
  split at h
  · have h := forceN_out h
    obtain ⟨h1, h2, h3⟩ := bif_and h
    exact ⟨_, h3, footT_out h1, footH_out h2⟩
  · exact h.elim

section
variable {P : Program} {T : Tab} (hT : TabOk P T)
include hT

omit hT in
theorem splitB_out {g : Bool} {o : Oper} {ρ : Operand → AV} {F : List Nat} {e : Eff} {K : Eff → Prop} (h : splitB g e K) (hf : EffFact F o.dst e) :
    ∃ e', K e' ∧ (∀ hp, OpSem P o ρ hp e → OpSem P o ρ hp e') ∧ EffFact F o.dst e' ∧ effW e' = effW e ∧ klOf e' = klOf e := by
  have turn : ∀ (b : Bool) (av : AV), e.av = .d (.bool b) → namesO av = some [] → (∀ (M : Mem) (ι : Inj), DenA M ι av (.bool b)) → (∀ hp, OpSem P o ρ hp e → OpSem P o ρ hp ⟨av, e.wr, e.kl⟩) ∧ EffFact F o.dst ⟨av, e.wr, e.kl⟩ := by
    intro b av he hn hv
    refine ⟨fun hp hs own M ι a w ho ha hh hρ => Oper.wp_monoQ (fun a' w' hq => ?_) (fun _ _ _ h => h) (hs own M ι a w ho ha hh hρ), ⟨hf.kl, hf.lt, hf.wr, hf.blk, fun d hd => .inr ?_⟩⟩
    · obtain ⟨v, e1, M', ι', f1, s1, a1, n1, g1, k1, d1⟩ := hq
      rw [he] at d1
      have := den_bool d1
      subst this
      exact ⟨_, e1, M', ι', f1, s1, a1, n1, g1, k1, hv M' ι'⟩
    · show inO (namesO av) _ = true
      rw [hn]; rfl
  cases g with
  | false => exact ⟨e, h, fun _ hs => hs, hf, rfl, rfl⟩
  | true =>
    obtain ⟨av, wr, kl⟩ := e
    simp only [splitB] at h
    split at h
    · rename_i b
      rcases bcase_out h with ⟨rfl, h1⟩ | ⟨rfl, h1⟩
      · obtain ⟨q1, q2⟩ := turn true .tt rfl rfl fun _ _ => .tt
        exact ⟨_, h1, q1, q2, rfl, rfl⟩
      · obtain ⟨q1, q2⟩ := turn false .ff rfl rfl fun _ _ => .ff
        exact ⟨_, h1, q1, q2, rfl, rfl⟩
    · exact ⟨_, h, fun _ hs => hs, hf, rfl, rfl⟩

omit hT in
theorem force_of {v : AV} {K : AV → Prop} (h : v ≠ .dead) (k : K v) : force v K := by
  cases v <;> first | exact k | exact absurd rfl h
omit hT in
/-- a value handed on: the blocks have no part in it -/
theorem blind_out {o : Oper} {ρ : Operand → AV} {hp : Nat → Option Blk} {K : Eff → Prop} (hb : blindOp o.op = true) (h : opG T P o ρ hp K) : ∃ e, K e ∧ ∀ hp', opG T P o ρ hp' (fun e' => e' = e) := by
  have one : ∀ x : Operand, force (ρ x) (val K) → ∃ e, K e ∧ force (ρ x) (val fun e' => e' = e) := fun x h =>
    let q := force_out h
    ⟨_, q.1, force_of q.2 rfl⟩
  cases ho : o.op with
  | move x =>
    simp only [opG, ho] at h ⊢
    obtain ⟨e, h1, h2⟩ := one _ h; exact ⟨e, h1, fun _ => h2⟩
  | assign x =>
    simp only [opG, ho] at h ⊢
    obtain ⟨e, h1, h2⟩ := one _ h; exact ⟨e, h1, fun _ => h2⟩
  | pick c a b =>
    simp only [opG, ho] at h ⊢
    split at h
    · obtain ⟨e, h1, h2⟩ := one _ h; exact ⟨e, h1, fun _ => h2⟩
    · obtain ⟨e, h1, h2⟩ := one _ h; exact ⟨e, h1, fun _ => h2⟩
    · rename_i c' _
      rcases bcase_out h with ⟨rfl, h'⟩ | ⟨rfl, h'⟩
      · obtain ⟨e, h1, h2⟩ := one _ h'; exact ⟨e, h1, fun _ => ⟨h2⟩⟩
      · obtain ⟨e, h1, h2⟩ := one _ h'; exact ⟨e, h1, fun _ => ⟨h2⟩⟩
    · exact h.elim
  | _ => rw [ho] at hb; cases hb

theorem opD_out {ops : Array Oper} {o : Oper} {gb : Bool} {gs : List Nat} {tm : Nat → AV} {hp : Nat → Option Blk} {K : Eff → Summ → Prop} (h : opD T P o gb gs tm hp K) (hgs : ∀ t ∈ gs, namesO (tm t) = some []) 
    (hg : match o.guard with
    | none => True
    | some (g, want) => ∃ t, (ops[g]?).bind (·.dst) = some t ∧ t ∈ gs ∧ GSay (tm t) want true) :
    ∃ e s, K e s ∧ ((∀ k, e.kl = some k → ¬ (1000000 ≤ k ∧ k < 1000004)) → DFact P ops ⟨o, true, e, s⟩ ⟨tm, hp⟩) := by
  unfold opD at h
  have h := forceN_out h
  obtain ⟨F, h, h1, h2⟩ := footK_out h
  have hsem : ∃ e, (bif effOk F o.dst e then forceN (effW e) fun W => forceN (gs ++ tmpsL (readsP o.op tm)) fun rg => splitB gb e fun e' => K e' ⟨o.dst, rg, F, W, blindOp o.op, klOf e'⟩ else False) ∧
      (blindOp o.op = false → OpSem P o (evT (restrT (tmpsL (readsP o.op tm)) tm)) (restrH F hp) e) ∧ (blindOp o.op = true → ∀ hp', OpSem P o (evT (restrT (tmpsL (readsP o.op tm)) tm)) hp' e) := by
    cases hb : blindOp o.op with
    | false =>
      obtain ⟨e, h, hs⟩ := opG_sound hT h
      exact ⟨e, by rw [hb] at h; exact h, fun _ => hs, fun h => by cases h⟩
    | true =>
      obtain ⟨e, h, hs⟩ := blind_out hb h
      refine ⟨e, by rw [hb] at h; exact h, (fun h => by cases h), fun _ hp' => ?_⟩
      obtain ⟨e', he, hs⟩ := opG_sound hT (hs hp')
      rw [← he]; exact hs
  obtain ⟨e, h, hsem, hsemb⟩ := hsem
  obtain ⟨he, h⟩ := bif_one h
  have h := forceN_out (forceN_out h)
  obtain ⟨e, h, hturn, he, hW, hks⟩ := splitB_out h (effOk_out he)
  rw [← hW] at h
  refine ⟨e, _, h, fun hk => ⟨rfl, rfl, fun t ht => ?_, fun _ => h2, rfl, he, hk, ?_, fun _ => ⟨tmpsL (readsP o.op tm), fun t ht => List.mem_append_right _ ht, fun hb => hturn _ (hsem hb), fun hb hp' => hturn _ (hsemb hb hp')⟩, fun h => by cases h⟩⟩
  · rcases List.mem_append.1 ht with m | m
    · show inO (namesO (tm t)) F = true
      rw [hgs t m]; rfl
    · exact h1 t m
  · split at hg
    · rename_i e0
      show match o.guard with | none => _ | some (g, want) => _
      rw [e0]
    · rename_i g want e0
      obtain ⟨t, q1, q2, q3⟩ := hg
      show match o.guard with | none => _ | some (g, want) => _
      rw [e0]
      exact ⟨t, q1, List.mem_append_left _ q2, q3⟩

omit hT in
def DGoal (P : Program) (ops : Array Oper) (K : AState → Prop) (l : List Oper) (tm : Nat → AV) (hp : Nat → Option Blk) (acc : List Summ) : Prop :=
  ∃ xs : List DOp, xs.map (·.o) = l ∧ drawOk ops.toList (acc ++ xs.map (·.s)) 0 [] [] = true ∧ K (xs.foldl (fun s x => x.app s) ⟨tm, hp⟩) ∧
      ∀ (i : Nat) (x : DOp), xs[i]? = some x → DFact P ops x ((xs.take i).foldl (fun s x => x.app s) ⟨tm, hp⟩)

theorem AOpsD_out {ops : Array Oper} {K : AState → Prop} : ∀ {l : List Oper} {tm : Nat → AV} {hp : Nat → Option Blk} {acc : List Summ}, AOpsD T P ops l tm hp acc K → DGoal P ops K l tm hp acc
  | [], tm, hp, acc, h => by
    obtain ⟨h1, h2⟩ := condK_out h
    exact ⟨[], rfl, by simpa using h1, h2, fun i x h => by simp at h⟩
  | o :: rest, tm, hp, acc, h => by
    have next : ∀ (x : DOp), x.o = o → DFact P ops x ⟨tm, hp⟩ → AOpsD T P ops rest (x.app ⟨tm, hp⟩).tm (x.app ⟨tm, hp⟩).hp (acc ++ [x.s]) K →
        DGoal P ops K (o :: rest) tm hp acc := by
      intro x hx hf h
      obtain ⟨xs, e1, e2, e3, e4⟩ := AOpsD_out h
      refine ⟨x :: xs, by simp [hx, e1], by simpa using e2, e3, fun i y hy => ?_⟩
      cases i with
      | zero =>
        simp only [List.getElem?_cons_zero, Option.some.injEq] at hy
        subst hy
        exact hf
      | succ i => exact e4 i y (by simpa using hy)
    have take : ∀ gs, (∀ t ∈ gs, namesO (tm t) = some []) → (match o.guard with
    | none => True
    | some (g, want) => ∃ t, (ops[g]?).bind (·.dst) = some t ∧ t ∈ gs ∧ GSay (tm t) want true) →
        opD T P o (isG ops o.dst ops.toList) gs tm hp (fun e s => step tm hp o.dst e fun st => AOpsD T P ops rest st.tm st.hp (acc ++ [s]) K) → DGoal P ops K (o :: rest) tm hp acc := by
      intro gs h1 h2 h
      obtain ⟨e, s, h3, h4⟩ := opD_out hT h h1 h2
      obtain ⟨h5, h6⟩ := step_out h3
      exact next ⟨o, true, e, s⟩ rfl (h4 h5) h6
    have skip : ∀ t, namesO (tm t) = some [] → (match o.guard with
    | none => False
    | some (g, want) => (ops[g]?).bind (·.dst) = some t ∧ GSay (tm t) want false) →
        step tm hp o.dst ⟨.tup [], [], none⟩ (fun st => AOpsD T P ops rest st.tm st.hp (acc ++ [⟨o.dst, [t], [], [], false, []⟩]) K) → DGoal P ops K (o :: rest) tm hp acc := by
      intro t h1 h2 h
      obtain ⟨h5, h6⟩ := step_out h
      refine next ⟨o, false, ⟨.tup [], [], none⟩, ⟨o.dst, [t], [], [], false, []⟩⟩ rfl ⟨rfl, rfl, fun t' ht => ?_, fun _ b hb => (by cases hb), rfl, ⟨fun k h => (by cases h), fun k h => (by cases h), fun b hb => (by cases hb), fun c B h => (by cases h), fun d _ => .inr rfl⟩, fun k h => (by cases h), ?_, fun h => (by cases h), fun _ => rfl⟩ h6
      · have : t' = t := by simpa using ht
        subst this
        show inO (namesO (tm t')) [] = true
        rw [h1]; rfl
      · split at h2
        · exact h2.elim
        · rename_i g want e0
          obtain ⟨q1, q3⟩ := h2
          show match o.guard with | none => _ | some (g, want) => _
          rw [e0]
          exact ⟨t, q1, by simp, q3⟩
    rw [AOpsD_cons] at h
    simp only [stepD, stD_eq] at h
    cases hg : o.guard with
    | none =>
      simp only [hg] at h
      exact take [] (fun t ht => by cases ht) (by rw [hg]; trivial) h
    | some gw =>
      obtain ⟨g, want⟩ := gw
      simp only [hg] at h take skip
      cases ht : (ops[g]?).bind (·.dst) with
      | none => simp [ht] at h
      | some t =>
        simp only [ht] at h
        have go : ∀ b, namesO (tm t) = some [] → (tm t = .d (.bool b) ∨ (tm t = .tt ∧ b = true) ∨ (tm t = .ff ∧ b = false)) →
            (if b = want then opD T P o (isG ops o.dst ops.toList) [t] tm hp (fun e s => step tm hp o.dst e fun st => AOpsD T P ops rest st.tm st.hp (acc ++ [s]) K) else step tm hp o.dst ⟨.tup [], [], none⟩ (fun st => AOpsD T P ops rest st.tm st.hp (acc ++ [⟨o.dst, [t], [], [], false, []⟩]) K)) → DGoal P ops K (o :: rest) tm hp acc := by
          intro b hn hb h
          by_cases e : b = want
          · rw [if_pos e] at h
            exact take [t] (fun t' ht' => by rw [List.mem_singleton.1 ht']; exact hn) ⟨t, ht, by simp, .inl ⟨b, hb, by simp [e]⟩⟩ h
          · rw [if_neg e] at h
            exact skip t hn ⟨ht, .inl ⟨b, hb, by simp [e]⟩⟩ h
        split at h
        · rename_i hx
          refine go true (by rw [hx]; rfl) (.inr (.inl ⟨hx, rfl⟩)) ?_
          cases want
          · simpa using h
          · simpa using h
        · rename_i hx
          refine go false (by rw [hx]; rfl) (.inr (.inr ⟨hx, rfl⟩)) ?_
          cases want
          · simpa using h
          · simpa using h
        · rename_i b hx
          rcases bcase_out h with ⟨rfl, h1⟩ | ⟨rfl, h1⟩
          · refine go true (by rw [hx]; rfl) (.inl hx) ?_
            cases want
            · simpa using h1
            · simpa using h1
          · refine go false (by rw [hx]; rfl) (.inl hx) ?_
            cases want
            · simpa using h1
            · simpa using h1
        · rename_i hx
          exact skip t (by rw [hx]; rfl) ⟨ht, .inr ⟨hx, rfl⟩⟩ h
        · exact h.elim
end

theorem bindsA_eq (e : Edge) : Region.binds .any e = bindsA e := by
  unfold Region.binds bindsA
  split <;> simp_all <;> rfl

theorem fold_eq (l : List (DOp × Nat)) (st : AState) : fold l st = (l.map (·.1)).foldl (fun s x => x.app s) st := by
  simp [fold, List.foldl_map]

section
variable {own : Nat → Prop} {w0 : World} {M0 : Mem} {ι0 : Inj} {N : Nat} {P : Program}

theorem ARel.drawn {st : AState} {a : Act} {w : World} (h : ARel own w0 M0 ι0 N st a w) (n : Nat) : ARel own w0 M0 ι0 N st a { w with drawn := n } := by
  obtain ⟨M, ι, h1, h2, h3, h4, h5, h6, h7, h8, h9⟩ := h
  exact ⟨M, ι, h1, h2, h3, ⟨h4.os, h4.tape, h4.output, h4.size, h4.block⟩, ⟨h5.dom, h5.virt, h5.at_, h5.inj⟩, h6, h7, h8, h9⟩

/-- running an operation where its facts hold -/
theorem run_fact {ops : Array Oper} {Q : Exit → Act → World → Prop} (hown : ∀ c, w0.heap.size ≤ c → own c) {x : DOp} {st : AState} {a : Act} {w : World} {j : Nat} {K : Act → World → Prop} (hj : ops[j]? = some x.o) (hf : DFact P ops x st) (hr : ARel own w0 M0 ι0 N st a w) (hd : DstOk N x.o)
    (hK : ∀ a' w', ARel own w0 M0 ι0 N (x.app st) a' w' → K a' w') : wpOp P ops Q j K a w := by
  obtain ⟨M, ι, h1, h2, h3, h4, h5, h6, h7, h8, h9⟩ := hr
  have hw : Region.wanted x.o (yielded ops a.tmps) = x.act := by
    have hg := hf.guard
    unfold Region.wanted
    split at hg
    · rename_i e; rw [e, hg]
    · rename_i g want e
      rw [e]
      obtain ⟨t, q1, q2, ⟨b, q3, q4⟩ | ⟨q3, q4⟩⟩ := hg
      · have hv : a.tmps.getD t undef = .bool b := by
          have hden := h7 t
          rcases q3 with q | ⟨q, rfl⟩ | ⟨q, rfl⟩
          · exact den_bool (q ▸ hden)
          · exact (den_guard hden).1 q
          · exact (den_guard hden).2 q
        simp [yields_bool q1 hv, q4]
      · simp [yields_undef q1 (den_undef (q3 ▸ h7 t)), q4]
  unfold wpOp
  rw [hj]
  simp only [hw]
  cases hact : x.act with
  | false =>
    simp only [Bool.false_eq_true, if_false]
    have he := hf.off hact
    refine hK _ _ ?_
    have : x.app st = ⟨putT st.tm x.o.dst (.tup []), st.hp⟩ := by simp only [DOp.app, he]; rfl
    rw [this]
    exact skip_rel ⟨M, ι, h1, h2, h3, h4, h5, h6, h7, h8, h9⟩ hd
  | true =>
    simp only [if_true]
    left
    obtain ⟨rd, hrd, hsem, hsemb⟩ := hf.sem hact
    have hρ : ∀ y, evT (restrT rd st.tm) y = .dead ∨ evT (restrT rd st.tm) y = evT st.tm y := fun y => by
      cases y with
      | tmp t =>
        simp only [evT, restrT]
        cases memN t rd with
        | true => exact .inr rfl
        | false => exact .inl rfl
      | _ => exact .inr rfl
    have hrun : x.o.wp P a w (fun a' w' => ∃ v, a' = a.put x.o.dst v ∧ ∃ (M' : Mem) (ι' : Inj), FrameOwn own w w' ∧ Sub M M' ∧ Agree M' w' ∧ NewDom own M M' ∧ HRel own M' ι' (x.e.hp st.hp) w' ∧ (∀ b, Kp x.e.kl b → ι' b = ι b) ∧ (x.o.dst ≠ none → DenA M' ι' x.e.av v)) (fun _ _ _ => False) := by
      have ho : ∀ c, w.heap.size ≤ c → own c := fun c hc => hown c (Nat.le_trans h4.size hc)
      cases hbl : x.s.bl with
      | false => exact opSem_frame (hsem hbl) hf.eff hρ (fun _ _ => rfl) (hf.footh hbl) own M ι a w ho h2 h5 (evT_den h7)
      | true =>
        refine Oper.wp_monoQ (fun a' w' hq => ?_) (fun _ _ _ h => h.elim) (hsemb hbl st.hp own M ι a w ho h2 h5 fun y => ?_)
        · obtain ⟨v, e1, M', ι', f1, s1, a1, n1, g1, k1, d1⟩ := hq
          exact ⟨v, e1, M', ι', f1, s1, a1, n1, g1, k1, fun _ => d1⟩
        · rcases hρ y with e | e
          · rw [e]; exact .dead _
          · rw [e]; exact evT_den h7 y
    refine Oper.wp_monoQ (fun a' w' hq => ?_) (fun _ _ _ h => h.elim) hrun
    obtain ⟨v, rfl, M', ι', f1, s1, a1, n1, g1, k1, d1⟩ := hq
    refine hK _ _ ⟨M', ι', h1.trans s1, a1, h3.trans n1, h4.trans f1, g1, fun b hb hb' => ?_, ?_, by rw [put_size, h8], by rw [put_def, h9]⟩
    · rw [k1 b (Kp_far hf.kl hb hb')]
      exact h6 b hb hb'
    · intro t
      show DenA M' ι' (putT (killT x.e.kl st.tm) x.o.dst x.e.av t) _
      cases hdst : x.o.dst with
      | none => exact killT_den s1 k1 (h7 t)
      | some d =>
        rw [← hdst]
        exact put_den (by rw [h8]; exact hd) (d1 (by rw [hdst]; simp)) (fun t => killT_den s1 k1 (h7 t)) t

theorem countP_lt {α : Type} {p q : α → Bool} : ∀ {l : List α} {x : α}, (∀ y, q y = true → p y = true) → x ∈ l → p x = true → q x = false → l.countP q < l.countP p
  | [], x, _, hx, _, _ => by cases hx
  | y :: r, x, h, hx, h1, h2 => by
    have hle : r.countP q ≤ r.countP p := List.countP_mono_left fun z _ => h z
    cases hx with
    | head =>
      rw [List.countP_cons_of_pos h1, List.countP_cons_of_neg (by simp [h2])]
      omega
    | tail _ hx =>
      have := countP_lt h hx h1 h2
      cases hq : q y with
      | true => rw [List.countP_cons_of_pos (h y hq), List.countP_cons_of_pos hq]; omega
      | false =>
        rw [List.countP_cons_of_neg (p := q) (by simp [hq])]
        cases hp : p y with
        | true => rw [List.countP_cons_of_pos hp]; omega
        | false => rw [List.countP_cons_of_neg (by simp [hp])]; exact this

def Dn (listed : Array Bool) (i : Nat) : Bool := listed.getD i false

theorem dn_true {listed : Array Bool} {i : Nat} (hi : i < listed.size) : listed.getD i true = Dn listed i := by simp [Dn, Array.getD, hi]
theorem dn_set {listed : Array Bool} {i j : Nat} (hi : i < listed.size) : Dn (listed.setIfInBounds i true) j = (decide (j = i) || Dn listed j) := by
  by_cases h : j = i
  · subst h; simp [Dn, Array.getD, hi]
  · have := getD_set_ne (listed := listed) (i := i) (j := j) false fun e => h e.symm
    simp [Dn, this, h]

theorem any_sound {ops : Array Oper} {Q : Exit → Act → World → Prop} (hown : ∀ c, w0.heap.size ≤ c → own c) (hdst : ∀ o ∈ ops, DstOk N o) {xs : List DOp} {s0 : AState} (hxs : xs.map (·.o) = ops.toList) (hdraw : drawOk ops.toList (xs.map (·.s)) 0 [] [] = true)
    (hfact : ∀ (i : Nat) (x : DOp), xs[i]? = some x → DFact P ops x ((xs.take i).foldl (fun s x => x.app s) s0)) (hQ : ∀ a w, ARel own w0 M0 ι0 N (xs.foldl (fun s x => x.app s) s0) a w → Q .normal a w) :
    ∀ (fuel : Nat) (listed : Array Bool) (a : Act) (w : World), listed.size = ops.size → (List.range ops.size).countP (fun i => !Dn listed i) ≤ fuel → (∀ (k : Nat) (o : Oper), ops[k]? = some o → Dn listed k = true → ∀ e ∈ o.after, Region.binds .any e = true → Dn listed e.on = true) →
      ARel own w0 M0 ι0 N (fold (xs.zipIdx.filter fun p => Dn listed p.2) s0) a w → wpAny P .any ops Q fuel listed a w := by
  obtain ⟨Ps, _, hlen, hpairs⟩ := drawOk_out hdraw rfl rfl
  simp only [Nat.zero_add, List.nil_append] at hpairs
  have hn : xs.length = ops.size := by have := congrArg List.length hxs; simpa using this
  have hop : ∀ (k : Nat) (x : DOp), xs[k]? = some x → ops[k]? = some x.o := fun k x hx => by
    have := congrArg (·[k]?) hxs
    simp only [List.getElem?_map, hx, Option.map_some, Array.getElem?_toList] at this
    exact this.symm
  have hsum : ∀ (k : Nat) (x : DOp), xs[k]? = some x → (xs.map (·.s))[k]? = some x.s := fun k x hx => by simp [hx]
  have hown' : ∀ (k : Nat) (x : DOp), xs[k]? = some x → Own x := fun k x hx => let h := hfact k x hx; ⟨h.dst, h.W, h.ks, h.eff⟩
  have hmem : ∀ p ∈ xs.zipIdx, xs[p.2]? = some p.1 := fun p hp => by
    obtain ⟨i, hi⟩ := List.getElem?_of_mem hp
    rw [List.getElem?_zipIdx] at hi
    cases hx : xs[i]? with
    | none => rw [hx] at hi; cases hi
    | some y =>
      rw [hx] at hi
      simp only [Option.map_some, Option.some.injEq, Nat.zero_add] at hi
      subst hi
      exact hx
  intro fuel
  -- what a state of the region says
  have main : ∀ (listed : Array Bool), listed.size = ops.size → (∀ (k : Nat) (o : Oper), ops[k]? = some o → Dn listed k = true → ∀ e ∈ o.after, Region.binds .any e = true → Dn listed e.on = true) →
      ∀ (j : Nat) (x : DOp), xs[j]? = some x → Dn listed j = false → (∀ e ∈ x.o.after, Region.binds .any e = true → Dn listed e.on = true) →
        DFact P ops x (fold (xs.zipIdx.filter fun p => Dn listed p.2) s0) ∧ fold (xs.zipIdx.filter fun p => Dn (listed.setIfInBounds j true) p.2) s0 = x.app (fold (xs.zipIdx.filter fun p => Dn listed p.2) s0) := by
    intro listed hsz hcl j x hx hjn hready
    have hj : j < xs.length := (List.getElem?_eq_some_iff.1 hx).1
    have reach : ∀ (m q : Nat) (o : Oper), ops[q]? = some o → (∀ e ∈ o.after, Region.binds .any e = true → Dn listed e.on = true) → Nat.testBit (Ps.getD q 0) m = true → Dn listed m = true := by
      intro m q
      induction q using Nat.strongRecOn with
      | _ q ih =>
        intro o ho hp hb
        have hq : q < ops.size := (Array.getElem?_eq_some_iff.1 ho).1
        obtain ⟨y, hy⟩ : ∃ y, xs[q]? = some y := ⟨xs[q]'(by omega), by simp⟩
        have hyo : y.o = o := by have := hop q y hy; rw [ho] at this; exact (Option.some.inj this).symm
        subst hyo
        obtain ⟨g1, g2, _⟩ := hpairs q y.o y.s (by simpa using ho) (hsum q y hy)
        obtain ⟨e, he, hbe, h⟩ := g2 m hb
        have hD := hp e (by simpa using he) (by rw [bindsA_eq]; exact hbe)
        rcases h with rfl | h
        · exact hD
        · have hlt := backOk_out g1 e he hbe
          have ho' : ops[e.on]? = some (ops[e.on]'(by omega)) := by simp
          exact ih e.on hlt _ ho' (hcl _ _ ho' hD) h
    have ind : ∀ (m k : Nat) (y z : DOp), xs[m]? = some y → xs[k]? = some z → m < k → Dn listed m = false → (∀ e ∈ z.o.after, Region.binds .any e = true → Dn listed e.on = true) → Ind y z := by
      intro m k y z hy hz hmk hm hp
      obtain ⟨_, _, g3⟩ := hpairs k z.o z.s (by have := hop k z hz; simpa using this) (hsum k z hz)
      rcases g3 m y.s (hsum m y hy) hmk with h | h
      · rw [reach m k z.o (hop k z hz) hp h] at hm; cases hm
      · exact ind_out (hown' m y hy) (hown' k z hz) h
    have closedOf : ∀ (k : Nat) (z : DOp), xs[k]? = some z → Dn listed k = true → ∀ e ∈ z.o.after, Region.binds .any e = true → Dn listed e.on = true := fun k z hz hk => hcl k z.o (hop k z hz) hk
    -- the list about j
    let L := xs.zipIdx
    let A := L.take j
    let B := L.drop (j + 1)
    have hLj : L[j]? = some (x, j) := by
      show (xs.zipIdx)[j]? = _
      rw [List.getElem?_zipIdx, hx]; simp
    have hL : L = A ++ (x, j) :: B := by
      have h1 : L = L.take j ++ L.drop j := (List.take_append_drop j L).symm
      have h2 : L.drop j = (x, j) :: L.drop (j + 1) := by
        have hjl := (List.getElem?_eq_some_iff.1 hLj).1
        rw [List.drop_eq_getElem_cons hjl]
        congr 1
        have := List.getElem?_eq_getElem hjl
        rw [this] at hLj
        exact Option.some.inj hLj
      rw [h2] at h1
      exact h1
    have hA : ∀ p ∈ A, p.2 < j ∧ xs[p.2]? = some p.1 := fun p hp => by
      obtain ⟨i, hi⟩ := List.getElem?_of_mem hp
      have : i < j := by
        have := (List.getElem?_eq_some_iff.1 hi).1
        have h2 : A.length ≤ j := by simp [A]; omega
        omega
      rw [List.getElem?_take_of_lt this, List.getElem?_zipIdx] at hi
      cases hy : xs[i]? with
      | none => rw [hy] at hi; cases hi
      | some y =>
        rw [hy] at hi
        simp only [Option.map_some, Option.some.injEq, Nat.zero_add] at hi
        subst hi
        exact ⟨this, hy⟩
    have hB : ∀ p ∈ B, j < p.2 ∧ xs[p.2]? = some p.1 := fun p hp => by
      obtain ⟨i, hi⟩ := List.getElem?_of_mem hp
      rw [List.getElem?_drop, List.getElem?_zipIdx] at hi
      cases hy : xs[j + 1 + i]? with
      | none => rw [hy] at hi; cases hi
      | some y =>
        rw [hy] at hi
        simp only [Option.map_some, Option.some.injEq, Nat.zero_add] at hi
        subst hi
        exact ⟨by simp; omega, hy⟩
    have hS : fold (L.filter fun p => Dn listed p.2) s0 = fold (B.filter fun p => Dn listed p.2) (fold (A.filter fun p => Dn listed p.2) s0) := by
      rw [hL, List.filter_append, List.filter_cons, if_neg (by simp [hjn]), fold_append]
    have hS' : fold (L.filter fun p => Dn (listed.setIfInBounds j true) p.2) s0 = fold (B.filter fun p => Dn listed p.2) (x.app (fold (A.filter fun p => Dn listed p.2) s0)) := by
      have eA : A.filter (fun p => Dn (listed.setIfInBounds j true) p.2) = A.filter fun p => Dn listed p.2 := List.filter_congr fun p hp => by
        rw [dn_set (by omega)]; simp [show p.2 ≠ j by have := (hA p hp).1; omega]
      have eB : B.filter (fun p => Dn (listed.setIfInBounds j true) p.2) = B.filter fun p => Dn listed p.2 := List.filter_congr fun p hp => by
        rw [dn_set (by omega)]; simp [show p.2 ≠ j by have := (hB p hp).1; omega]
      rw [hL, List.filter_append, List.filter_cons, if_pos (by rw [dn_set (by omega)]; simp), fold_append, eA, eB, fold_cons]
    have indB : ∀ p ∈ B.filter (fun p => Dn listed p.2), Ind x p.1 := fun p hp => by
      obtain ⟨m1, m2⟩ := List.mem_filter.1 hp
      obtain ⟨q1, q2⟩ := hB p m1
      exact ind j p.2 x p.1 hx q2 q1 hjn (closedOf p.2 p.1 q2 m2)
    refine ⟨?_, ?_⟩
    · show DFact P ops x (fold (L.filter fun p => Dn listed p.2) s0)
      rw [hS]
      have f0 : DFact P ops x (fold A s0) := by
        have := hfact j x hx
        rw [fold_eq]
        have e : A.map (·.1) = xs.take j := by
          show (xs.zipIdx.take j).map (·.1) = _
          rw [List.map_take, List.zipIdx_map_fst]
        rw [e]; exact this
      have f1 := fact_fold (l := B.filter fun p => Dn listed p.2) f0 fun p hp => (indB p hp).yx
      have pw : A.Pairwise fun p q => Dn listed p.2 = false → Dn listed q.2 = true → ∀ st, q.1.app (p.1.app st) = p.1.app (q.1.app st) := by
        have key : L.Pairwise fun p q => p.2 < q.2 := by
          rw [List.pairwise_iff_getElem]
          intro i k hi hk hik
          simp only [L, List.getElem_zipIdx]
          omega
        refine (key.sublist (List.take_sublist j L)).imp_of_mem fun {p q} hp hq hlt hp1 hq1 st => ?_
        have ip := ind p.2 q.2 p.1 q.1 (hA p hp).2 (hA q hq).2 hlt hp1 (closedOf q.2 q.1 (hA q hq).2 hq1)
        exact comm_app (hown' _ _ (hA p hp).2) (hown' _ _ (hA q hq).2) ip st
      rw [fold_split (D := Dn listed) pw, fold_swap2] at f1
      · exact fact_unfold f1 fun p hp => by
          obtain ⟨m1, m2⟩ := List.mem_filter.1 hp
          exact (ind p.2 j p.1 x (hA p m1).2 hx (hA p m1).1 (by simpa using m2) hready).xy
      · intro p hp q hq st
        obtain ⟨m1, m2⟩ := List.mem_filter.1 hp
        obtain ⟨m3, m4⟩ := List.mem_filter.1 hq
        have ip := ind p.2 q.2 p.1 q.1 (hA p m1).2 (hB q m3).2 (by have := (hA p m1).1; have := (hB q m3).1; omega) (by simpa using m2) (closedOf q.2 q.1 (hB q m3).2 m4)
        exact comm_app (hown' _ _ (hA p m1).2) (hown' _ _ (hB q m3).2) ip st
    · show fold (L.filter fun p => Dn (listed.setIfInBounds j true) p.2) s0 = x.app (fold (L.filter fun p => Dn listed p.2) s0)
      rw [hS, hS']
      refine fold_swap (fun p hp st => ?_) _
      exact comm_app (hown' j x hx) (hown' _ _ (hB p (List.mem_filter.1 hp).1).2) (indB p hp) st
  have stepOk : ∀ (listed : Array Bool) (a : Act) (w : World) (K : Act → World → Prop), listed.size = ops.size → (∀ (k : Nat) (o : Oper), ops[k]? = some o → Dn listed k = true → ∀ e ∈ o.after, Region.binds .any e = true → Dn listed e.on = true) →
      ARel own w0 M0 ι0 N (fold (xs.zipIdx.filter fun p => Dn listed p.2) s0) a w → ∀ j ∈ Region.ready .any ops listed,
      (∀ a' w', ARel own w0 M0 ι0 N (fold (xs.zipIdx.filter fun p => Dn (listed.setIfInBounds j true) p.2) s0) a' w' → K a' w') → wpOp P ops Q j K a w := by
    intro listed a w K hsz hcl hr j hj hK
    obtain ⟨h1, o, ho, h2⟩ := mem_ready.1 hj
    have hjl : j < ops.size := (Array.getElem?_eq_some_iff.1 ho).1
    rw [dn_true (by omega)] at h1
    obtain ⟨x, hx⟩ : ∃ x, xs[j]? = some x := ⟨xs[j]'(by omega), by simp⟩
    have hxo : x.o = o := by have := hop j x hx; rw [ho] at this; exact (Option.some.inj this).symm
    subst hxo
    obtain ⟨q1, q2⟩ := main listed hsz hcl j x hx h1 h2
    exact run_fact hown ho q1 hr (hdst x.o (Array.mem_of_getElem? ho)) fun a' w' hr' => hK a' w' (by rw [q2]; exact hr')
  have doneAll : ∀ (listed : Array Bool) (a : Act) (w : World), listed.size = ops.size → ARel own w0 M0 ι0 N (fold (xs.zipIdx.filter fun p => Dn listed p.2) s0) a w → Region.ready .any ops listed = [] → Q .normal a w := by
    intro listed a w hsz hr hnil
    have all : ∀ j, j < ops.size → Dn listed j = true := by
      intro j
      induction j using Nat.strongRecOn with
      | _ j ih =>
        intro hj
        cases hd : Dn listed j with
        | true => rfl
        | false =>
          exfalso
          have ho : ops[j]? = some (ops[j]) := by simp
          obtain ⟨x, hx⟩ : ∃ x, xs[j]? = some x := ⟨xs[j]'(by omega), by simp⟩
          have hxo := hop j x hx
          obtain ⟨g1, _, _⟩ := hpairs j x.o x.s (by simpa using hxo) (hsum j x hx)
          have : j ∈ Region.ready .any ops listed := mem_ready.2 ⟨by rw [dn_true (by omega)]; exact hd, x.o, hxo, fun e he hb => by
            have hlt := backOk_out g1 e (by simpa using he) (by rw [← bindsA_eq]; exact hb)
            exact ih e.on hlt (by omega)⟩
          rw [hnil] at this
          cases this
    refine hQ a w ?_
    have e : xs.zipIdx.filter (fun p => Dn listed p.2) = xs.zipIdx := List.filter_eq_self.2 fun p hp => all p.2 (by
      have := (List.getElem?_eq_some_iff.1 (hmem p hp)).1
      omega)
    rw [e, fold_eq, List.zipIdx_map_fst] at hr
    exact hr
  induction fuel with
  | zero =>
    intro listed a w hsz hc hcl hr
    have hnil : Region.ready .any ops listed = [] := by
      cases hr0 : Region.ready .any ops listed with
      | nil => rfl
      | cons j r =>
        exfalso
        have hj : j ∈ Region.ready .any ops listed := by rw [hr0]; exact List.mem_cons_self ..
        obtain ⟨h1, o, ho, _⟩ := mem_ready.1 hj
        have hjl : j < ops.size := (Array.getElem?_eq_some_iff.1 ho).1
        rw [dn_true (by omega)] at h1
        have : 0 < (List.range ops.size).countP (fun i => !Dn listed i) := List.countP_pos_iff.2 ⟨j, List.mem_range.2 hjl, by simp [h1]⟩
        omega
    exact ⟨hnil, doneAll listed a w hsz hr hnil⟩
  | succ fuel ih =>
    intro listed a w hsz hc hcl hr
    refine ⟨doneAll listed a w hsz hr, fun j hj => stepOk listed a w _ hsz hcl hr j hj fun a' w' hr' => ?_⟩
    obtain ⟨h1, o, ho, h2⟩ := mem_ready.1 hj
    have hjl : j < ops.size := (Array.getElem?_eq_some_iff.1 ho).1
    rw [dn_true (by omega)] at h1
    refine ih _ a' w' (by simp [hsz]) ?_ ?_ hr'
    · have := countP_lt (p := fun i => !Dn listed i) (q := fun i => !Dn (listed.setIfInBounds j true) i) (l := List.range ops.size) (x := j)
        (fun y hy => by simp only [dn_set (show j < listed.size by omega), Bool.not_or, Bool.and_eq_true] at hy; exact hy.2) (List.mem_range.2 hjl) (by simp [h1]) (by simp [dn_set (show j < listed.size by omega)])
      omega
    · intro k o' ho' hk e he hb
      rw [dn_set (by omega)] at hk ⊢
      simp only [Bool.or_eq_true, decide_eq_true_eq] at hk ⊢
      right
      rcases hk with rfl | hk
      · rw [ho] at ho'; cases ho'; exact h2 e he hb
      · exact hcl k o' ho' hk e he hb

theorem AOpsD_sound {T : Tab} (hT : TabOk P T) (hown : ∀ c, w0.heap.size ≤ c → own c) {ops : Array Oper} {Q : Exit → Act → World → Prop} {K : AState → Prop} (hQ : ∀ st a w, K st → ARel own w0 M0 ι0 N st a w → Q .normal a w) (hd : ∀ o ∈ ops, DstOk N o) (hm : P.follows .mixedOrders = true) (id : Nat)
    {tm : Nat → AV} {hp : Nat → Option Blk} {a : Act} {w : World} (h : AOpsD T P ops ops.toList tm hp [] K) (hr : ARel own w0 M0 ι0 N ⟨tm, hp⟩ a w) : (Code.region id ops true).wp P Q a w := by
  obtain ⟨xs, e1, e2, e3, e4⟩ := AOpsD_out hT h
  refine wp_region_any hm (any_sound (s0 := ⟨tm, hp⟩) hown hd e1 (by simpa using e2) e4 (fun a w hr => hQ _ a w e3 hr) ops.size _ a _ (by simp) ?_ ?_ ?_)
  · exact Nat.le_trans (List.countP_le_length) (by simp)
  · intro k o _ hk
    simp [Dn, Array.getD] at hk
  · have : xs.zipIdx.filter (fun p => Dn (Array.replicate ops.size false) p.2) = [] := List.filter_eq_nil_iff.2 fun p _ => by
      simp [Dn, Array.getD]
    rw [this]
    exact hr.drawn _
end
end Go.Lk

set_option linter.unusedSimpArgs false
set_option linter.unusedVariables false
set_option linter.unnecessarySimpa false
namespace Go.Lk
open Go Go.RowKit
section
variable {own : Nat → Prop} {w0 : World} {M0 : Mem} {ι0 : Inj} {N : Nat}
variable {P : Program} {T : Tab} (hT : TabOk P T)

/-! ### code -/
def CQ (own : Nat → Prop) (w0 : World) (M0 : Mem) (ι0 : Inj) (N : Nat) (Q : AExit → AState → Prop) : Exit → Act → World → Prop
  | .normal, a, w => ∃ st, Q .normal st ∧ ARel own w0 M0 ι0 N st a w
  | .exit i, a, w => ∃ st, Q (.exit i) st ∧ ARel own w0 M0 ι0 N st a w
  | .ret, a, w => ∃ st, Q .ret st ∧ ARel own w0 M0 ι0 N st a w
  | _, _, _ => False

def dstL (N : Nat) : List Oper → Bool
  | [] => true
  | o :: r => match o.dst with
    | some d => bif Nat.blt d N then dstL N r else false
    | none => dstL N r
/-- every operation of the code has its slot -/
def dstChk (N : Nat) : Code → Bool
  | .region _ ops _ => dstL N ops.toList
  | .seq a b => bif dstChk N a then dstChk N b else false
  | .cond _ a b => bif dstChk N a then dstChk N b else false
  | .block _ c => dstChk N c
  | .loop c => dstChk N c
  | .rangeFunc _ _ a b => bif dstChk N a then dstChk N b else false
  | .scope c => dstChk N c
  | _ => true

theorem dstL_ok {N : Nat} : ∀ {l : List Oper}, dstL N l = true → ∀ o ∈ l, DstOk N o
  | [], _, o, ho => by cases ho
  | x :: r, h, o, ho => by
    simp only [dstL] at h
    cases hx : x.dst with
    | none =>
      simp only [hx] at h
      cases ho with
      | head => intro d hd; rw [hx] at hd; cases hd
      | tail _ ho => exact dstL_ok h o ho
    | some d =>
      simp only [hx] at h
      cases hb : Nat.blt d N with
      | false => simp [hb] at h
      | true =>
        simp only [hb, cond_true] at h
        cases ho with
        | head => intro d' hd; rw [hx] at hd; cases hd; exact Nat.le_of_ble_eq_true hb
        | tail _ ho => exact dstL_ok h o ho

include hT in
theorem AW_sound (hown : ∀ c, w0.heap.size ≤ c → own c) (hm : P.follows .mixedOrders = true) : ∀ (c : Code) (Q : AExit → AState → Prop) (st : AState) (a : Act) (w : World), dstChk N c = true → AW T P c st Q → ARel own w0 M0 ι0 N st a w → c.wp P (CQ own w0 M0 ι0 N Q) a w := by
  intro c
  induction c with
  | skip => exact fun Q st a w _ h hr => wp_skip ⟨st, h, hr⟩
  | region id ops draw =>
    intro Q st a w hd h hr
    have hdo : ∀ o ∈ ops, DstOk N o := fun o ho => dstL_ok hd o (by simpa using ho)
    rw [AW_region] at h
    simp only [regionA] at h
    cases draw with
    | true =>
      obtain ⟨tm, hp⟩ := st
      exact AOpsD_sound hT hown (fun st a w k r => ⟨st, k, r⟩) hdo hm id h hr
    | false =>
      refine wp_region ?_
      have := AOps_sound hT hown (Q := CQ own w0 M0 ι0 N Q) (fun st a w k r => ⟨st, k, r⟩) hdo ops.toList 0 st a w rfl h hr
      rw [List.range_eq_range']
      simpa using this
  | seq x y ih1 ih2 =>
    intro Q st a w hd h hr
    simp only [dstChk] at hd
    cases h1 : dstChk N x with
    | false => simp [h1] at hd
    | true =>
      simp only [h1, cond_true] at hd
      rw [AW_seq] at h
      refine wp_seq (Code.wp_mono (fun e a' w' hq => ?_) (ih1 _ st a w h1 h hr))
      cases e with
      | normal => obtain ⟨st', k1, k2⟩ := hq; exact ih2 Q st' a' w' hd k1 k2
      | exit i => exact hq
      | ret => exact hq
      | goto l => exact hq.elim
      | panic ch => exact hq.elim
      | outgrown => exact hq.elim
  | cond o x y ih1 ih2 =>
    intro Q st a w hd h hr
    simp only [dstChk] at hd
    cases h1 : dstChk N x with
    | false => simp [h1] at hd
    | true =>
      simp only [h1, cond_true] at hd
      obtain ⟨tm, hp⟩ := st
      rw [AW_cond] at h
      simp only [condA] at h
      have hden : ∃ M ι, DenA M ι (evT tm o) (a.eval o) := by
        obtain ⟨M, ι, g1, g2, g3, g4, g5, g6, g7, g8, g9⟩ := hr
        exact ⟨M, ι, evT_den g7 o⟩
      obtain ⟨M, ι, hden⟩ := hden
      split at h
      · rename_i hx
        exact wp_cond_true ((den_guard hden).1 hx) (ih1 Q _ a w h1 h hr)
      · rename_i hx
        exact wp_cond_false ((den_guard hden).2 hx) (ih2 Q _ a w hd h hr)
      · rename_i b hx
        rcases bcase_out h with ⟨rfl, k⟩ | ⟨rfl, k⟩
        · exact wp_cond_true (den_bool (hx ▸ hden)) (ih1 Q _ a w h1 k hr)
        · exact wp_cond_false (den_bool (hx ▸ hden)) (ih2 Q _ a w hd k hr)
      · exact h.elim
  | block id x ih =>
    intro Q st a w hd h hr
    rw [AW_block] at h
    refine wp_block (Code.wp_mono (fun e a' w' hq => ?_) (ih _ st a w hd h hr))
    cases e with
    | normal => exact hq
    | exit i =>
      obtain ⟨st', k1, k2⟩ := hq
      replace k1 : bif Nat.beq i id then Q .normal st' else Q (.exit i) st' := k1
      simp only [Exit.inBlock]
      cases hb : Nat.beq i id with
      | true =>
        have := Nat.eq_of_beq_eq_true hb
        subst this
        rw [hb] at k1
        rw [if_pos rfl]
        exact ⟨st', k1, k2⟩
      | false =>
        rw [hb] at k1
        rw [if_neg (fun e => by subst e; simp at hb)]
        exact ⟨st', k1, k2⟩
    | ret => exact hq
    | goto l => exact hq.elim
    | panic ch => exact hq.elim
    | outgrown => exact hq.elim
  | loop x ih =>
    intro Q st a w hd h hr
    rw [AW_loop] at h
    replace h := h.out
    obtain ⟨J, S, R, μ, ⟨j, hj, hle⟩, hround⟩ := h
    have key : ∀ (n : Nat) (j : J) (a : Act) (w : World), R j → μ j < n → ARel own w0 M0 ι0 N (S j) a w → Code.rounds P x (CQ own w0 M0 ι0 N Q) n a w := by
      intro n
      induction n with
      | zero => intro j a w _ hn; omega
      | succ n ihn =>
        intro j a w hj hn hrel
        rw [rounds_succ]
        refine Code.wp_mono (fun e a' w' hq => ?_) (ih _ (S j) a w hd (hround j hj) hrel)
        cases e with
        | normal =>
          obtain ⟨st', ⟨j', g1, g2, g3⟩, k2⟩ := hq
          exact ihn j' a' w' g1 (by omega) (k2.leN g3)
        | exit i => exact hq
        | ret => exact hq
        | goto l => exact hq.elim
        | panic ch => exact hq.elim
        | outgrown => exact hq.elim
    exact wp_loop_rounds (μ j + 1) (key _ j a w hj (Nat.lt_succ_self _) (hr.leN hle))
  | rangeFunc f ps x y _ _ => exact fun Q st a w _ h => h.elim
  | exit id => exact fun Q st a w _ h hr => wp_exit ⟨st, h, hr⟩
  | scope x _ => exact fun Q st a w _ h => h.elim
  | label l => exact fun Q st a w _ h hr => wp_label ⟨st, h, hr⟩
  | goto l => exact fun Q st a w _ h => h.elim
  | ret => exact fun Q st a w _ h hr => wp_ret ⟨st, h, hr⟩
  | refuse y => exact fun Q st a w _ h => h.elim
end
end Go.Lk

set_option linter.unusedSimpArgs false
set_option linter.unusedVariables false
set_option linter.unnecessarySimpa false
namespace Go.Lk
open Go Go.RowKit

section
variable {P : Program} {T : Tab} (hT : TabOk P T)

def resRun (tmps : Array Value) : ResultVar → Sem Value
  | .tmp t => pure (tmps.getD t undef)
  | .cell a t => do loadVar t (← asAddr (tmps.getD a undef))

theorem results_eq (fn : Func) (tmps : Array Value) (w : World) {vs : List Value} (h : (fn.results.toList.mapM (resRun tmps)).run P w = .ok vs w) :
    (results fn tmps).run P w = .ok (if h : vs.toArray.size = 1 then vs.toArray[0] else .tuple vs.toArray) w := by
  have e : results fn tmps = (do let vs ← fn.results.mapM (resRun tmps); pure (if h : vs.size = 1 then vs[0] else .tuple vs)) := by
    unfold results
    congr 1
  rw [e]
  simp only [Array.mapM_eq_mapM_toList, Sem.run_bind, Sem.run_map, h, Result.andThen_ok, Sem.run_pure]

include hT in
theorem resV_out {own : Nat → Prop} {M : Mem} {ι : Inj} {hp : Nat → Option Blk} {w : World} {tm : Nat → AV} {tmps : Array Value} (ha : Agree M w) (hh : HRel own M ι hp w) (hρ : ∀ t, DenA M ι (tm t) (tmps.getD t undef)) (r : ResultVar) (hc : conv hp (resV T tm hp r) ≠ none) :
    ∃ v, (resRun tmps r).run P w = .ok v w ∧ DenA M ι (resV T tm hp r) v := by
  cases r with
  | tmp t => exact ⟨_, rfl, hρ t⟩
  | cell a t =>
    simp only [resV] at hc ⊢
    split at hc
    · rename_i b i j hx
      split at hc
      · rename_i c fr hb
        cases hk : ((T t).k.known && Nat.beq i 0) with
        | false => simp [hk, conv] at hc
        | true =>
          simp only [hk, cond_true] at hc ⊢
          simp only [Bool.and_eq_true] at hk
          have hi := Nat.eq_of_beq_eq_true hk.2
          subst hi
          have hl : loadA T t (.ptr b 0 j) hp (fun av => av = (bif (T t).k.agg then (bif Nat.ble (j + (T t).size) c.length then .agg ((c.drop j).take (T t).size) else .dead) else (match c[j]? with | some x => x | none => .dead))) := by
            simp only [loadA, hk.1, cond_true, loadB, hb]
            refine condK_of (by trivial) ?_
            unfold partA
            cases hag : (T t).k.agg with
            | true =>
              simp only [hag, cond_true] at hc ⊢
              cases hle : Nat.ble (j + (T t).size) c.length with
              | false => simp [hle, conv] at hc
              | true =>
                simp only [hle, cond_true] at hc ⊢
                have : ∀ (l : List AV) (K : List AV → Prop), conv.cells hp l ≠ none → K l → forceL l K := by
                  intro l
                  induction l with
                  | nil => intro K _ hK; exact hK
                  | cons x r ih =>
                    intro K h1 hK
                    simp only [conv.cells] at h1
                    have h2 : conv.one hp x ≠ none := by intro e; simp [e] at h1
                    have h3 : conv.cells hp r ≠ none := by intro e; simp [e] at h1
                    simp only [forceL]
                    have : ∀ K' : AV → Prop, K' x → force x K' := by
                      intro K' hK'
                      cases x <;> first | exact hK' | exact absurd rfl h2
                    exact this _ (ih _ h3 hK)
                refine this _ _ ?_ rfl
                intro e
                simp [conv, e] at hc
            | false =>
              simp only [hag, cond_false] at hc ⊢
              simp only [getC]
              cases hx2 : c[j]? with
              | none => simp [hx2, conv] at hc
              | some x =>
                simp only [hx2] at hc ⊢
                cases x <;> first | rfl | exact absurd rfl hc
          obtain ⟨av, hav, hld⟩ := loadA_out hT hl
          have hv := hρ a
          rw [hx] at hv
          obtain ⟨r, hr, hd⟩ := hld own M ι w _ ha hh hv
          refine ⟨r, ?_, hav ▸ hd⟩
          generalize hgv : tmps.getD a undef = u at hv hr
          cases hv with
          | ptr _ _ _ L hL =>
            simp only [resRun, hgv]
            simpa [Instr.loadAt, Instr.sureAddr, asAddr] using hr
          | ptrL _ _ _ _ hL => rw [(hh.dom b).2 hL] at hb; cases hb
      · exact absurd rfl hc
    · exact absurd rfl hc

include hT in
theorem resD_out {own : Nat → Prop} {M : Mem} {ι : Inj} {hp : Nat → Option Blk} {w : World} {tm : Nat → AV} {tmps : Array Value} (ha : Agree M w) (hh : HRel own M ι hp w) (hρ : ∀ t, DenA M ι (tm t) (tmps.getD t undef)) :
    ∀ {rs : List ResultVar} {ds : List D}, resD T tm hp rs = some ds → ∃ (vs : List Value) (xs : List AV) (ns : List Nat), (rs.mapM (resRun tmps)).run P w = .ok vs w ∧ vs.length = ds.length ∧ xs.length = ds.length ∧
      ∀ (i : Nat) (x : AV) (d : D) (v : Value), xs[i]? = some x → ds[i]? = some d → vs[i]? = some v → DenA M ι x v ∧ conv hp x = some d ∧ ∀ b ∈ openNames hp x, b ∈ ns
  | [], ds, h => by
    simp only [resD, Option.some.injEq] at h
    subst h
    exact ⟨[], [], [], rfl, rfl, rfl, fun i x d v h => by simp at h⟩
  | r :: q, ds, h => by
    simp only [resD] at h
    cases hc : conv hp (resV T tm hp r) with
    | none => simp [hc] at h
    | some d =>
      cases hq : resD T tm hp q with
      | none => simp [hc, hq] at h
      | some ds' =>
        simp only [hc, hq, Option.some.injEq] at h
        subst h
        obtain ⟨v, hv, hdv⟩ := resV_out hT ha hh hρ r (by rw [hc]; simp)
        obtain ⟨vs, xs, ns, hvs, hl1, hl2, hd⟩ := resD_out ha hh hρ hq
        refine ⟨v :: vs, resV T tm hp r :: xs, openNames hp (resV T tm hp r) ++ ns, ?_, by simp [hl1], by simp [hl2], fun i x d' v' h1 h2 h3 => ?_⟩
        · simp [List.mapM_cons, hv, hvs]
        · cases i with
          | zero =>
            simp only [List.getElem?_cons_zero, Option.some.injEq] at h1 h2 h3
            subst h1 h2 h3
            exact ⟨hdv, hc, fun b hb => List.mem_append_left _ hb⟩
          | succ i =>
            obtain ⟨g1, g2, g3⟩ := hd i x d' v' (by simpa using h1) (by simpa using h2) (by simpa using h3)
            exact ⟨g1, g2, fun b hb => List.mem_append_right _ (g3 b hb)⟩

def fnChk (fn : Func) (n : Nat) : Bool :=
  match fn.body with
  | some c => dstChk fn.ntmps c && Nat.ble n fn.ntmps && !(fn.name == "runtime.NumGoroutine")
  | none => false

theorem fnChk_out {fn : Func} {n : Nat} (h : fnChk fn n = true) : ∃ c, fn.body = some c ∧ dstChk fn.ntmps c = true ∧ n ≤ fn.ntmps ∧ (fn.name == "runtime.NumGoroutine") = false := by
  unfold fnChk at h
  split at h
  · rename_i c hc
    simp only [Bool.and_eq_true, Bool.not_eq_true', Nat.ble_eq] at h
    exact ⟨c, hc, h.1.1, h.1.2, h.2⟩
  · cases h

theorem initTm_den {M : Mem} {ι : Inj} : ∀ (ds : List D) (n : Nat) (vs : Array Value), (∀ (i : Nat) (d : D) (v : Value), ds[i]? = some d → vs[n + i]? = some v → DenD M d v) → vs.size = n + ds.length → ∀ t, DenA M ι (initTm.go n ds t) (vs.getD t undef)
  | [], n, vs, h, hl, t => .dead _
  | d :: r, n, vs, h, hl, t => by
    simp only [initTm.go]
    by_cases e : t = n
    · subst e
      rw [upd_same]
      have hlt : t < vs.size := by rw [hl]; simp
      have : vs[t]? = some vs[t] := by simp [hlt]
      have hg : vs.getD t undef = vs[t] := by simp [Array.getD, hlt]
      rw [hg]
      exact ofD_den (h 0 d _ (by simp) (by simpa using this))
    · rw [upd_other _ _ e]
      exact initTm_den r (n + 1) vs (fun i d' v h1 h2 => h (i + 1) d' v (by simpa using h1) (by rw [show n + (i + 1) = n + 1 + i by omega]; exact h2)) (by rw [hl]; simp; omega) t

theorem pad_getD (vs : Array Value) (n t : Nat) : (vs ++ Array.replicate n undef).getD t undef = vs.getD t undef := by
  rw [Array.getD_eq_getD_getElem?, Array.getD_eq_getD_getElem?]
  by_cases h : t < vs.size
  · rw [Array.getElem?_append_left h]
  · rw [Array.getElem?_append_right (by omega), Array.getElem?_eq_none (xs := vs) (by omega), Array.getElem?_replicate]
    split <;> rfl

theorem init_rel {ds : List D} {w : World} {M : Mem} {vs : Array Value} {n : Nat} (ha : Agree M w) (hds : DenDs M ds vs) (hn : vs.size ≤ n) :
    ARel (fun c => w.heap.size ≤ c) w M (fun _ => none) n ⟨initTm ds, fun _ => none⟩ { tmps := vs ++ Array.replicate (n - vs.size) undef, defers := [] } w := by
  refine ⟨M, fun _ => none, .refl M, ha, .refl _ _, .refl _ _, ⟨fun _ => ⟨fun _ => rfl, fun _ => rfl⟩, fun b h => (by cases h), fun b B L h => (by cases h), fun b b' L L' h => (by cases h)⟩, fun _ _ _ => rfl, fun t => ?_, by simp; omega, rfl⟩
  show DenA M _ (initTm ds t) ((vs ++ Array.replicate (n - vs.size) undef).getD t undef)
  rw [pad_getD]
  exact initTm_den ds 0 vs (fun i d v h1 h2 => hds.2 i d v h1 (by simpa using h2)) (by simpa using hds.1) t

theorem oneD_den {M : Mem} {ds : List D} {vs : List Value} (hl : vs.length = ds.length) (hd : ∀ (i : Nat) (d : D) (v : Value), ds[i]? = some d → vs[i]? = some v → DenD M d v) :
    DenD M (oneD ds) (if h : vs.toArray.size = 1 then vs.toArray[0] else .tuple vs.toArray) := by
  by_cases h1 : vs.length = 1
  · rw [dif_pos (by simpa using h1)]
    obtain ⟨v, rfl⟩ := List.length_eq_one_iff.1 h1
    obtain ⟨d, rfl⟩ := List.length_eq_one_iff.1 (hl.symm.trans h1)
    exact hd 0 d v rfl rfl
  · rw [dif_neg (by simpa using h1)]
    have : oneD ds = .tup ds := by
      unfold oneD
      split
      · rename_i d; rw [hl] at h1; exact absurd rfl h1
      · rfl
    rw [this]
    exact .tup ds _ (by simpa using hl) fun i d v h1 h2 => hd i d v h1 (by simpa using h2)

include hT in
theorem acall_sound (hm : P.follows .mixedOrders = true) {f : FuncId} {fn : Func} {ds : List D} {d : D} (hf : P.funcs[f]? = some fn) (hc : fnChk fn ds.length = true) (h : AFn T P fn ds d) : ACall P f ds d := by
  obtain ⟨c, hb, hdst, hn, hnm⟩ := fnChk_out hc
  refine ⟨⟨fn, hf, by rw [hb]; rfl, hnm⟩, fun w M vs ha hds => calls_of_wp hf hb ?_⟩
  simp only [AFn, hb] at h
  have hsz : vs.size ≤ fn.ntmps := by rw [hds.1]; exact hn
  refine Code.wp_mono (fun e a w' hq => ?_) (AW_sound (w0 := w) (M0 := M) (ι0 := fun _ => none) (own := fun c => w.heap.size ≤ c) hT (fun _ h => h) hm c _ _ _ w hdst h (init_rel ha hds hsz))
  have fin : ∀ st : AState, (resD T st.tm st.hp fn.results.toList).map oneD = some d → ARel (fun c => w.heap.size ≤ c) w M (fun _ => none) fn.ntmps st a w' →
      a.defers = [] ∧ ∃ v, (results fn a.tmps).run P w' = .ok v w' ∧ ∃ (v' : Value) (M' : Mem), Ending.returned v = .returned v' ∧ Below w.heap.size w w' ∧ Sub M M' ∧ Agree M' w' ∧ Fresh w M M' ∧ DenD M' d v' := by
    intro st hres hr
    obtain ⟨M1, ι, h1, h2, h3, h4, h5, h6, h7, h8, h9⟩ := hr
    cases hrd : resD T st.tm st.hp fn.results.toList with
    | none => simp [hrd] at hres
    | some rs =>
      simp only [hrd, Option.map_some, Option.some.injEq] at hres
      subst hres
      obtain ⟨us, xs, ns, e1, e2, e3, e4⟩ := resD_out hT h2 h5 h7 hrd
      obtain ⟨M2, s2, a2, n2, g2, l2, f2⟩ := freezeAll (hp0 := st.hp) ns M1 st.hp h2 h5 (.refl _)
      refine ⟨h9, _, results_eq fn a.tmps w' e1, _, M2, rfl, ⟨h4.os, h4.tape, h4.output, h4.size, fun c hc => h4.block c (by omega)⟩, h1.trans s2, a2, fun b o v hv => (h3.trans n2) b o v hv, ?_⟩
      refine oneD_den e2 fun i d v q1 q2 => ?_
      have hx : xs[i]? = some (xs[i]'(by rw [e3]; exact (List.getElem?_eq_some_iff.1 q1).1)) := by simp
      obtain ⟨p1, p2, p3⟩ := e4 i _ d v hx q1 q2
      exact den_conv g2 (by rw [conv_frz l2]; exact p2) (openNames_frz (fun b l sz fr hb he => f2 b l sz fr (.inl hb) he) l2 _ p3) (p1.mono s2)
  cases e with
  | normal => obtain ⟨st, k1, k2⟩ := hq; exact fin st k1 k2
  | ret => obtain ⟨st, k1, k2⟩ := hq; exact fin st k1 k2
  | exit i => obtain ⟨st, k1, k2⟩ := hq; exact k1.elim
  | goto l => exact hq.elim
  | panic ch => exact hq.elim
  | outgrown => exact hq.elim

include hT in
theorem ocall_sound (hm : P.follows .mixedOrders = true) {f : FuncId} {fn : Func} {ds : List D} {l : List (List D)} {sz : Nat} (hf : P.funcs[f]? = some fn) (hc : fnChk fn ds.length = true) (h : AFnO T P fn ds l sz) : OCall P f ds l sz := by
  obtain ⟨c, hb, hdst, hn, hnm⟩ := fnChk_out hc
  refine ⟨⟨fn, hf, by rw [hb]; rfl, hnm⟩, fun w M vs ha hds => calls_of_wp hf hb ?_⟩
  simp only [AFnO, hb] at h
  have hsz : vs.size ≤ fn.ntmps := by rw [hds.1]; exact hn
  refine Code.wp_mono (fun e a w' hq => ?_) (AW_sound (w0 := w) (M0 := M) (ι0 := fun _ => none) (own := fun c => w.heap.size ≤ c) hT (fun _ h => h) hm c _ _ _ w hdst h (init_rel ha hds hsz))
  have fin : ∀ st : AState, (∃ t, fn.results.toList = [.tmp t] ∧ ((∃ b, st.tm t = .own b ∧ st.hp b = some (.row l sz false)) ∨ (st.tm t = .nil ∧ l = []))) → ARel (fun c => w.heap.size ≤ c) w M (fun _ => none) fn.ntmps st a w' →
      a.defers = [] ∧ ∃ v, (results fn a.tmps).run P w' = .ok v w' ∧ ∃ (v' : Value) (M' : Mem), Ending.returned v = .returned v' ∧ Below w.heap.size w w' ∧ Sub M M' ∧ Agree M' w' ∧ Fresh w M M' ∧
        ((l = [] ∧ ∃ a, v' = .slice a 0 0) ∨ ∃ (c cap : Nat) (cs : Array Value) (T : TypeId), w.heap.size ≤ c ∧ v' = .slice (some ⟨c, 0, none⟩) l.length cap ∧ l.length ≤ cap ∧
        cap * sz ≤ cs.size ∧ w'.heap[c]? = some (.cells cs T (0, 0)) ∧ RowAt M' cs l sz ∧ ∀ o, M' c o = none) := by
    intro st hres hr
    obtain ⟨M1, ι, h1, h2, h3, h4, h5, h6, h7, h8, h9⟩ := hr
    obtain ⟨t, ht, hval⟩ := hres
    have hrun : (fn.results.toList.mapM (resRun a.tmps)).run P w' = .ok [a.tmps.getD t undef] w' := by
      rw [ht]; simp [List.mapM_cons, resRun]
    refine ⟨h9, _, results_eq fn a.tmps w' hrun, a.tmps.getD t undef, M1, rfl, ⟨h4.os, h4.tape, h4.output, h4.size, fun c hc => h4.block c (by omega)⟩, h1, h2, fun b o v hv => h3 b o v hv, ?_⟩
    have hv := h7 t
    rcases hval with ⟨b, e1, e2⟩ | ⟨e1, e2⟩
    · rw [e1] at hv
      generalize a.tmps.getD t undef = v at hv
      cases hv with
      | own _ L cap hL hn2 hc2 =>
        obtain ⟨q1, cs, Ty, q2, q3, q4, q5, q6, q7, q8⟩ := h5.at_ b _ L e2 hL
        exact .inr ⟨L.blk, cap, cs, Ty, q1, by rw [q5], by rw [q5]; exact hn2, by rw [q4, q3]; exact hc2, q2, q7, q8.2 rfl⟩
      | ownE _ a0 hL =>
        obtain ⟨sz2, fr2, e0⟩ := h5.virt b hL
        rw [e2] at e0; cases e0
        exact .inl ⟨rfl, a0, rfl⟩
      | ownL _ _ hL => rw [(h5.dom b).2 hL] at e2; cases e2
    · rw [e1] at hv
      generalize a.tmps.getD t undef = v at hv
      cases hv with
      | nil a0 => exact .inl ⟨e2, a0, rfl⟩
  cases e with
  | normal => obtain ⟨st, k1, k2⟩ := hq; exact fin st k1 k2
  | ret => obtain ⟨st, k1, k2⟩ := hq; exact fin st k1 k2
  | exit i => obtain ⟨st, k1, k2⟩ := hq; exact k1.elim
  | goto l => exact hq.elim
  | panic ch => exact hq.elim
  | outgrown => exact hq.elim

omit hT in
theorem matchS_conv {hp : Nat → Option Blk} : ∀ {c : List AV} {cs : List SC} {seen : List Nat}, matchS hp seen c cs → conv.cells hp c ≠ none
  | [], [], _, _ => by simp [conv.cells]
  | x :: c, .d d :: s, seen, h => by
    simp only [matchS] at h
    have := matchS_conv h.2
    have h1 : conv.one hp x ≠ none := by
      cases x <;> simp [conv.pure1] at h <;> simp [conv.one]
    simp only [conv.cells]
    cases h2 : conv.one hp x with
    | none => exact absurd h2 h1
    | some y =>
      cases h3 : conv.cells hp c with
      | none => exact absurd h3 this
      | some z => simp
  | x :: c, .row l sz :: s, seen, h => by
    simp only [matchS] at h
    have hc : conv.cells hp c ≠ none := by
      rcases h with ⟨b, _, _, _, h⟩ | ⟨_, _, h⟩
      · exact matchS_conv h
      · exact matchS_conv h
    have h1 : conv.one hp x ≠ none := by
      rcases h with ⟨b, rfl, h, _⟩ | ⟨rfl, _, _⟩
      · simp [conv.one, h]
      · simp [conv.one]
    simp only [conv.cells]
    cases h2 : conv.one hp x with
    | none => exact absurd h2 h1
    | some y =>
      cases h3 : conv.cells hp c with
      | none => exact absurd h3 hc
      | some z => simp
  | [], _ :: _, _, h => by simp [matchS] at h
  | _ :: _, [], _, h => by simp [matchS] at h

omit hT in
theorem matchS_get {hp : Nat → Option Blk} : ∀ {c : List AV} {cs : List SC} {seen : List Nat}, matchS hp seen c cs → c.length = cs.length ∧
    (∀ (i : Nat) (s : SC), cs[i]? = some s → ∃ x, c[i]? = some x ∧ match s with
      | .d d => conv.pure1 x = some d
      | .row l sz => (∃ b, x = .own b ∧ hp b = some (.row l sz false) ∧ b ∉ seen) ∨ (x = .nil ∧ l = [])) ∧
    ∀ (i j : Nat) (b l l' : _) (sz sz' : Nat), cs[i]? = some (.row l sz) → cs[j]? = some (.row l' sz') → c[i]? = some (.own b) → c[j]? = some (.own b) → i = j
  | [], [], _, _ => ⟨rfl, fun i s h => by simp at h, fun i j b l l' sz sz' h => by simp at h⟩
  | x :: c, .d d :: s, seen, h => by
    simp only [matchS] at h
    obtain ⟨g1, g2, g3⟩ := matchS_get h.2
    refine ⟨by simp [g1], fun i s' hs => ?_, fun i j b l l' sz sz' h1 h2 h3 h4 => ?_⟩
    · cases i with
      | zero =>
        simp only [List.getElem?_cons_zero, Option.some.injEq] at hs
        subst hs
        exact ⟨x, rfl, h.1⟩
      | succ i => exact g2 i s' (by simpa using hs)
    · cases i with
      | zero => simp at h1
      | succ i =>
        cases j with
        | zero => simp at h2
        | succ j => exact congrArg (· + 1) (g3 i j b l l' sz sz' (by simpa using h1) (by simpa using h2) (by simpa using h3) (by simpa using h4))
  | x :: c, .row l0 sz0 :: s, seen, h => by
    simp only [matchS] at h
    rcases h with ⟨b0, rfl, e1, e2, h⟩ | ⟨rfl, rfl, h⟩
    · obtain ⟨g1, g2, g3⟩ := matchS_get h
      have hns : b0 ∉ seen := fun hm => by rw [memN_iff.2 hm] at e2; cases e2
      have hne : ∀ (j : Nat) (l' : _) (sz' : Nat), s[j]? = some (.row l' sz') → c[j]? = some (.own b0) → False := fun j l' sz' h2 h4 => by
        obtain ⟨y, hy, q⟩ := g2 j _ h2
        rw [h4] at hy; cases hy
        rcases q with ⟨b1, e, _, q⟩ | ⟨e, _⟩
        · cases e; exact q (List.mem_cons_self ..)
        · cases e
      refine ⟨by simp [g1], fun i s' hs => ?_, fun i j b l l' sz sz' h1 h2 h3 h4 => ?_⟩
      · cases i with
        | zero =>
          simp only [List.getElem?_cons_zero, Option.some.injEq] at hs
          subst hs
          exact ⟨_, rfl, .inl ⟨b0, rfl, e1, hns⟩⟩
        | succ i =>
          obtain ⟨y, hy, q⟩ := g2 i s' (by simpa using hs)
          refine ⟨y, by simpa using hy, ?_⟩
          cases s' with
          | d d => exact q
          | row l sz =>
            rcases q with ⟨b1, q1, q2, q3⟩ | q
            · exact .inl ⟨b1, q1, q2, fun hm => q3 (List.mem_cons_of_mem _ hm)⟩
            · exact .inr q
      · cases i with
        | zero =>
          simp only [List.getElem?_cons_zero, Option.some.injEq] at h3
          cases h3
          cases j with
          | zero => rfl
          | succ j => exact (hne j l' sz' (by simpa using h2) (by simpa using h4)).elim
        | succ i =>
          cases j with
          | zero =>
            simp only [List.getElem?_cons_zero, Option.some.injEq] at h4
            cases h4
            exact (hne i l sz (by simpa using h1) (by simpa using h3)).elim
          | succ j => exact congrArg (· + 1) (g3 i j b l l' sz sz' (by simpa using h1) (by simpa using h2) (by simpa using h3) (by simpa using h4))
    · obtain ⟨g1, g2, g3⟩ := matchS_get h
      refine ⟨by simp [g1], fun i s' hs => ?_, fun i j b l l' sz sz' h1 h2 h3 h4 => ?_⟩
      · cases i with
        | zero =>
          simp only [List.getElem?_cons_zero, Option.some.injEq] at hs
          subst hs
          exact ⟨_, rfl, .inr ⟨rfl, rfl⟩⟩
        | succ i => exact g2 i s' (by simpa using hs)
      · cases i with
        | zero => simp at h3
        | succ i =>
          cases j with
          | zero => simp at h4
          | succ j => exact congrArg (· + 1) (g3 i j b l l' sz sz' (by simpa using h1) (by simpa using h2) (by simpa using h3) (by simpa using h4))
  | [], _ :: _, _, h => by simp [matchS] at h
  | _ :: _, [], _, h => by simp [matchS] at h

omit hT in
theorem pure1_den {M : Mem} {ι : Inj} {x : AV} {d : D} {v : Value} (h : DenA M ι x v) (hp : conv.pure1 x = some d) : DenD M d v := by
  cases h <;> simp only [conv.pure1, Option.some.injEq, reduceCtorEq] at hp <;> subst hp
  case d h => exact h
  case tt => exact .bool true
  case ff => exact .bool false
  case nil a => exact .emp a 0

include hT in
theorem scall_sound (hm : P.follows .mixedOrders = true) {f : FuncId} {fn : Func} {ds : List D} {cs : List SC} (hf : P.funcs[f]? = some fn) (hc : fnChk fn ds.length = true) (h : AFnS T P fn ds cs) : SCall P f ds cs := by
  obtain ⟨c, hb, hdst, hn, hnm⟩ := fnChk_out hc
  refine ⟨⟨fn, hf, by rw [hb]; rfl, hnm⟩, fun w M vs ha hds => calls_of_wp hf hb ?_⟩
  simp only [AFnS, hb] at h
  have hsz : vs.size ≤ fn.ntmps := by rw [hds.1]; exact hn
  refine Code.wp_mono (fun e a w' hq => ?_) (AW_sound (w0 := w) (M0 := M) (ι0 := fun _ => none) (own := fun c => w.heap.size ≤ c) hT (fun _ h => h) hm c _ _ _ w hdst h (init_rel ha hds hsz))
  have fin : ∀ st : AState, (∃ r c, fn.results.toList = [r] ∧ resV T st.tm st.hp r = .agg c ∧ matchS st.hp [] c cs) → ARel (fun c => w.heap.size ≤ c) w M (fun _ => none) fn.ntmps st a w' →
      a.defers = [] ∧ ∃ v, (results fn a.tmps).run P w' = .ok v w' ∧ ∃ (us : Array Value) (M' : Mem) (bl : Nat → Option Loc), Ending.returned v = .returned (.agg us) ∧ Below w.heap.size w w' ∧ Sub M M' ∧ Agree M' w' ∧ Fresh w M M' ∧ us.size = cs.length ∧
        (∀ (i : Nat) (c : SC), cs[i]? = some c → ∃ u, us[i]? = some u ∧ match c with
          | .d x => DenD M' x u
          | .row l sz => RowOk w w' M' l sz (bl i) u) ∧
        ∀ (i j : Nat) (L L' : Loc), bl i = some L → bl j = some L' → L.blk = L'.blk → i = j := by
    intro st hres hr
    obtain ⟨M1, ι, h1, h2, h3, h4, h5, h6, h7, h8, h9⟩ := hr
    obtain ⟨r, c, hr1, hr2, hr3⟩ := hres
    obtain ⟨v, hv, hdv⟩ := resV_out hT h2 h5 h7 r (by
      rw [hr2]
      simp only [conv]
      cases hcc : conv.cells st.hp c with
      | none => exact absurd hcc (matchS_conv hr3)
      | some y => simp)
    have hrun : (fn.results.toList.mapM (resRun a.tmps)).run P w' = .ok [v] w' := by
      rw [hr1]; simp [List.mapM_cons, hv]
    rw [hr2] at hdv
    cases hdv with
    | agg _ us hl hd =>
      obtain ⟨m1, m2, m3⟩ := matchS_get hr3
      let bl : Nat → Option Loc := fun i => match cs[i]? with
        | some (.row _ _) => match c[i]? with
          | some (.own b) => match ι b with
            | some (some L) => some L
            | _ => none
          | _ => none
        | _ => none
      have hbl : ∀ i L, bl i = some L → ∃ l sz b, cs[i]? = some (.row l sz) ∧ c[i]? = some (.own b) ∧ ι b = some (some L) := by
        intro i L hL
        simp only [bl] at hL
        split at hL
        · rename_i l sz e1
          split at hL
          · rename_i b e2
            split at hL
            · rename_i L' e3
              cases hL
              exact ⟨l, sz, b, e1, e2, e3⟩
            · cases hL
          · cases hL
        · cases hL
      refine ⟨h9, _, results_eq fn a.tmps w' hrun, us, M1, bl, rfl, ⟨h4.os, h4.tape, h4.output, h4.size, fun c hc => h4.block c (by omega)⟩, h1, h2, fun b o v hv => h3 b o v hv, by omega, fun i s hs => ?_, fun i j L L' hL hL' he => ?_⟩
      · obtain ⟨x, hx, hm2⟩ := m2 i s hs
        have hi : i < us.size := by rw [hl]; exact (List.getElem?_eq_some_iff.1 hx).1
        have hu : us[i]? = some us[i] := by simp [hi]
        have hdx := hd i x _ hx hu
        refine ⟨us[i], hu, ?_⟩
        cases s with
        | d d => exact pure1_den hdx hm2
        | row l sz =>
          rcases hm2 with ⟨b, rfl, e2, _⟩ | ⟨rfl, rfl⟩
          · show RowOk w w' M1 l sz (bl i) us[i]
            generalize us[i] = u at hdx
            cases hdx with
            | own _ L cap hL hn2 hc2 =>
              have : bl i = some L := by simp only [bl, hs, hx, hL]
              rw [this]
              obtain ⟨q1, cs', Ty, q2, q3, q4, q5, q6, q7, q8⟩ := h5.at_ b _ L e2 hL
              exact ⟨q1, cap, cs', Ty, by rw [q5], q5.symm, q4.symm, q3.symm, by rw [q5]; exact hn2, by rw [q4, q3]; exact hc2, q2, q7, q8.2 rfl⟩
            | ownE _ a0 hL =>
              have : bl i = none := by simp only [bl, hs, hx, hL]
              rw [this]
              obtain ⟨sz2, fr2, e0⟩ := h5.virt b hL
              rw [e2] at e0; cases e0
              exact ⟨rfl, a0, rfl⟩
            | ownL _ _ hL => rw [(h5.dom b).2 hL] at e2; cases e2
          · show RowOk w w' M1 [] sz (bl i) us[i]
            have : bl i = none := by simp only [bl, hs, hx]
            rw [this]
            generalize us[i] = u at hdx
            cases hdx with
            | nil a0 => exact ⟨rfl, a0, rfl⟩
      · obtain ⟨l, sz, b, g1, g2, g3⟩ := hbl i L hL
        obtain ⟨l', sz', b', g1', g2', g3'⟩ := hbl j L' hL'
        have := h5.inj b b' L L' g3 g3' he
        subst this
        exact m3 i j b l l' sz sz' g1 g1' g2 g2'
  cases e with
  | normal => obtain ⟨st, k1, k2⟩ := hq; exact fin st k1 k2
  | ret => obtain ⟨st, k1, k2⟩ := hq; exact fin st k1 k2
  | exit i => obtain ⟨st, k1, k2⟩ := hq; exact k1.elim
  | goto l => exact hq.elim
  | panic ch => exact hq.elim
  | outgrown => exact hq.elim

end
end Go.Lk


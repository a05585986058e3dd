/-
  What is proved here: what functions of the program compute, and what follows; no condition beyond each theorem's own.
-/
import Derived.Test.YtfpmffadpjoogaaGreatBAd
import Derived.ReadAgain
import Derived.OpenShut
import Derived.ChangeArms
import Derived.Below
import Derived.ChangeSame
import Derived.WideShapes
import Derived.RowKit
set_option linter.unusedSimpArgs false
set_option linter.unusedVariables false
set_option linter.unnecessarySimpa false
set_option linter.unusedSectionVars false
namespace Go.Lk
open Go Go.RowKit

section
variable {P : Program} {T : Tab} (hT : TabOk P T)

def resRun (tmps : Array Value) : ResultVar → Sem Value
  | .tmp t => pure (tmps.getD t undef)
  | .cell a t => do loadVar t (← asAddr (tmps.getD a undef))

theorem results_eq (fn : Func) (tmps : Array Value) (w : World) {vs : List Value} (h : (fn.results.toList.mapM (resRun tmps)).run P w = .ok vs w) :
    (results fn tmps).run P w = .ok (if h : vs.toArray.size = 1 then vs.toArray[0] else .tuple vs.toArray) w := by
  have e : results fn tmps = (do let vs ← fn.results.mapM (resRun tmps); pure (if h : vs.size = 1 then vs[0] else .tuple vs)) := by
    unfold results
    congr 1
  rw [e]
  simp only [Array.mapM_eq_mapM_toList, Sem.run_bind, Sem.run_map, h, Result.andThen_ok, Sem.run_pure]

include hT in
theorem resV_out {own : Nat → Prop} {M : Mem} {ι : Inj} {hp : Nat → Option Blk} {w : World} {tm : Nat → AV} {tmps : Array Value} (ha : Agree M w) (hh : HRel own M ι hp w) (hρ : ∀ t, DenA M ι (tm t) (tmps.getD t undef)) (r : ResultVar) (hc : conv hp (resV T tm hp r) ≠ none) :
    ∃ v, (resRun tmps r).run P w = .ok v w ∧ DenA M ι (resV T tm hp r) v := by
  cases r with
  | tmp t => exact ⟨_, rfl, hρ t⟩
  | cell a t =>
    simp only [resV] at hc ⊢
    split at hc
    · rename_i b i j hx
      split at hc
      · rename_i c fr hb
        cases hk : ((T t).k.known && Nat.beq i 0) with
        | false => simp [hk, conv] at hc
        | true =>
          simp only [hk, cond_true] at hc ⊢
          simp only [Bool.and_eq_true] at hk
          have hi := Nat.eq_of_beq_eq_true hk.2
          subst hi
          have hl : loadA T t (.ptr b 0 j) hp (fun av => av = (bif (T t).k.agg then (bif Nat.ble (j + (T t).size) c.length then .agg ((c.drop j).take (T t).size) else .dead) else (match c[j]? with | some x => x | none => .dead))) := by
            simp only [loadA, hk.1, cond_true, loadB, hb]
            refine condK_of (by trivial) ?_
            unfold partA
            cases hag : (T t).k.agg with
            | true =>
              simp only [hag, cond_true] at hc ⊢
              cases hle : Nat.ble (j + (T t).size) c.length with
              | false => simp [hle, conv] at hc
              | true =>
                simp only [hle, cond_true] at hc ⊢
                have : ∀ (l : List AV) (K : List AV → Prop), conv.cells hp l ≠ none → K l → forceL l K := by
                  intro l
                  induction l with
                  | nil => intro K _ hK; exact hK
                  | cons x r ih =>
                    intro K h1 hK
                    simp only [conv.cells] at h1
                    have h2 : conv.one hp x ≠ none := by intro e; simp [e] at h1
                    have h3 : conv.cells hp r ≠ none := by intro e; simp [e] at h1
                    simp only [forceL]
                    have : ∀ K' : AV → Prop, K' x → force x K' := by
                      intro K' hK'
                      cases x <;> first | exact hK' | exact absurd rfl h2
                    exact this _ (ih _ h3 hK)
                refine this _ _ ?_ rfl
                intro e
                simp [conv, e] at hc
            | false =>
              simp only [hag, cond_false] at hc ⊢
              simp only [getC]
              cases hx2 : c[j]? with
              | none => simp [hx2, conv] at hc
              | some x =>
                simp only [hx2] at hc ⊢
                cases x <;> first | rfl | exact absurd rfl hc
          obtain ⟨av, hav, hld⟩ := loadA_out hT hl
          have hv := hρ a
          rw [hx] at hv
          obtain ⟨r, hr, hd⟩ := hld own M ι w _ ha hh hv
          refine ⟨r, ?_, hav ▸ hd⟩
          generalize hgv : tmps.getD a undef = u at hv hr
          cases hv with
          | ptr _ _ _ L hL =>
            simp only [resRun, hgv]
            simpa [Instr.loadAt, Instr.sureAddr, asAddr] using hr
          | ptrL _ _ _ _ hL => rw [(hh.dom b).2 hL] at hb; cases hb
      · exact absurd rfl hc
    · exact absurd rfl hc

include hT in
theorem resD_out {own : Nat → Prop} {M : Mem} {ι : Inj} {hp : Nat → Option Blk} {w : World} {tm : Nat → AV} {tmps : Array Value} (ha : Agree M w) (hh : HRel own M ι hp w) (hρ : ∀ t, DenA M ι (tm t) (tmps.getD t undef)) :
    ∀ {rs : List ResultVar} {ds : List D}, resD T tm hp rs = some ds → ∃ (vs : List Value) (xs : List AV) (ns : List Nat), (rs.mapM (resRun tmps)).run P w = .ok vs w ∧ vs.length = ds.length ∧ xs.length = ds.length ∧
      ∀ (i : Nat) (x : AV) (d : D) (v : Value), xs[i]? = some x → ds[i]? = some d → vs[i]? = some v → DenA M ι x v ∧ conv hp x = some d ∧ ∀ b ∈ openNames hp x, b ∈ ns
  | [], ds, h => by
    simp only [resD, Option.some.injEq] at h
    subst h
    exact ⟨[], [], [], rfl, rfl, rfl, fun i x d v h => by simp at h⟩
  | r :: q, ds, h => by
    simp only [resD] at h
    cases hc : conv hp (resV T tm hp r) with
    | none => simp [hc] at h
    | some d =>
      cases hq : resD T tm hp q with
      | none => simp [hc, hq] at h
      | some ds' =>
        simp only [hc, hq, Option.some.injEq] at h
        subst h
        obtain ⟨v, hv, hdv⟩ := resV_out hT ha hh hρ r (by rw [hc]; simp)
        obtain ⟨vs, xs, ns, hvs, hl1, hl2, hd⟩ := resD_out ha hh hρ hq
        refine ⟨v :: vs, resV T tm hp r :: xs, openNames hp (resV T tm hp r) ++ ns, ?_, by simp [hl1], by simp [hl2], fun i x d' v' h1 h2 h3 => ?_⟩
        · simp [List.mapM_cons, hv, hvs]
        · cases i with
          | zero =>
            simp only [List.getElem?_cons_zero, Option.some.injEq] at h1 h2 h3
            subst h1 h2 h3
            exact ⟨hdv, hc, fun b hb => List.mem_append_left _ hb⟩
          | succ i =>
            obtain ⟨g1, g2, g3⟩ := hd i x d' v' (by simpa using h1) (by simpa using h2) (by simpa using h3)
            exact ⟨g1, g2, fun b hb => List.mem_append_right _ (g3 b hb)⟩

def fnChk (fn : Func) (n : Nat) : Bool :=
  match fn.body with
  | some c => dstChk fn.ntmps c && Nat.ble n fn.ntmps && !(fn.name == "runtime.NumGoroutine")
  | none => false

theorem fnChk_out {fn : Func} {n : Nat} (h : fnChk fn n = true) : ∃ c, fn.body = some c ∧ dstChk fn.ntmps c = true ∧ n ≤ fn.ntmps ∧ (fn.name == "runtime.NumGoroutine") = false := by
  unfold fnChk at h
  split at h
  · rename_i c hc
    simp only [Bool.and_eq_true, Bool.not_eq_true', Nat.ble_eq] at h
    exact ⟨c, hc, h.1.1, h.1.2, h.2⟩
  · cases h

theorem initTm_den {M : Mem} {ι : Inj} : ∀ (ds : List D) (n : Nat) (vs : Array Value), (∀ (i : Nat) (d : D) (v : Value), ds[i]? = some d → vs[n + i]? = some v → DenD M d v) → vs.size = n + ds.length → ∀ t, DenA M ι (initTm.go n ds t) (vs.getD t undef)
  | [], n, vs, h, hl, t => .dead _
  | d :: r, n, vs, h, hl, t => by
    simp only [initTm.go]
    by_cases e : t = n
    · subst e
      rw [upd_same]
      have hlt : t < vs.size := by rw [hl]; simp
      have : vs[t]? = some vs[t] := by simp [hlt]
      have hg : vs.getD t undef = vs[t] := by simp [Array.getD, hlt]
      rw [hg]
      exact ofD_den (h 0 d _ (by simp) (by simpa using this))
    · rw [upd_other _ _ e]
      exact initTm_den r (n + 1) vs (fun i d' v h1 h2 => h (i + 1) d' v (by simpa using h1) (by rw [show n + (i + 1) = n + 1 + i by omega]; exact h2)) (by rw [hl]; simp; omega) t

theorem pad_getD (vs : Array Value) (n t : Nat) : (vs ++ Array.replicate n undef).getD t undef = vs.getD t undef := by
  rw [Array.getD_eq_getD_getElem?, Array.getD_eq_getD_getElem?]
  by_cases h : t < vs.size
  · rw [Array.getElem?_append_left h]
  · rw [Array.getElem?_append_right (by omega), Array.getElem?_eq_none (xs := vs) (by omega), Array.getElem?_replicate]
    split <;> rfl

theorem init_rel {ds : List D} {w : World} {M : Mem} {vs : Array Value} {n : Nat} (ha : Agree M w) (hds : DenDs M ds vs) (hn : vs.size ≤ n) :
    ARel (fun c => w.heap.size ≤ c) w M (fun _ => none) n ⟨initTm ds, fun _ => none⟩ { tmps := vs ++ Array.replicate (n - vs.size) undef, defers := [] } w := by
  refine ⟨M, fun _ => none, .refl M, ha, .refl _ _, .refl _ _, ⟨fun _ => ⟨fun _ => rfl, fun _ => rfl⟩, fun b h => (by cases h), fun b B L h => (by cases h), fun b b' L L' h => (by cases h)⟩, fun _ _ _ => rfl, fun t => ?_, by simp; omega, rfl⟩
  show DenA M _ (initTm ds t) ((vs ++ Array.replicate (n - vs.size) undef).getD t undef)
  rw [pad_getD]
  exact initTm_den ds 0 vs (fun i d v h1 h2 => hds.2 i d v h1 (by simpa using h2)) (by simpa using hds.1) t

theorem oneD_den {M : Mem} {ds : List D} {vs : List Value} (hl : vs.length = ds.length) (hd : ∀ (i : Nat) (d : D) (v : Value), ds[i]? = some d → vs[i]? = some v → DenD M d v) :
    DenD M (oneD ds) (if h : vs.toArray.size = 1 then vs.toArray[0] else .tuple vs.toArray) := by
  by_cases h1 : vs.length = 1
  · rw [dif_pos (by simpa using h1)]
    obtain ⟨v, rfl⟩ := List.length_eq_one_iff.1 h1
    obtain ⟨d, rfl⟩ := List.length_eq_one_iff.1 (hl.symm.trans h1)
    exact hd 0 d v rfl rfl
  · rw [dif_neg (by simpa using h1)]
    have : oneD ds = .tup ds := by
      unfold oneD
      split
      · rename_i d; rw [hl] at h1; exact absurd rfl h1
      · rfl
    rw [this]
    exact .tup ds _ (by simpa using hl) fun i d v h1 h2 => hd i d v h1 (by simpa using h2)

include hT in
theorem acall_sound (hm : P.follows .mixedOrders = true) {f : FuncId} {fn : Func} {ds : List D} {d : D} (hf : P.funcs[f]? = some fn) (hc : fnChk fn ds.length = true) (h : AFn T P fn ds d) : ACall P f ds d := by
  obtain ⟨c, hb, hdst, hn, hnm⟩ := fnChk_out hc
  refine ⟨⟨fn, hf, by rw [hb]; rfl, hnm⟩, fun w M vs ha hds => calls_of_wp hf hb ?_⟩
  simp only [AFn, hb] at h
  have hsz : vs.size ≤ fn.ntmps := by rw [hds.1]; exact hn
  refine Code.wp_mono (fun e a w' hq => ?_) (AW_sound (w0 := w) (M0 := M) (ι0 := fun _ => none) (own := fun c => w.heap.size ≤ c) hT (fun _ h => h) hm c _ _ _ w hdst h (init_rel ha hds hsz))
  have fin : ∀ st : AState, (resD T st.tm st.hp fn.results.toList).map oneD = some d → ARel (fun c => w.heap.size ≤ c) w M (fun _ => none) fn.ntmps st a w' →
      a.defers = [] ∧ ∃ v, (results fn a.tmps).run P w' = .ok v w' ∧ ∃ (v' : Value) (M' : Mem), Ending.returned v = .returned v' ∧ Below w.heap.size w w' ∧ Sub M M' ∧ Agree M' w' ∧ Fresh w M M' ∧ DenD M' d v' := by
    intro st hres hr
    obtain ⟨M1, ι, h1, h2, h3, h4, h5, h6, h7, h8, h9⟩ := hr
    cases hrd : resD T st.tm st.hp fn.results.toList with
    | none => simp [hrd] at hres
    | some rs =>
      simp only [hrd, Option.map_some, Option.some.injEq] at hres
      subst hres
      obtain ⟨us, xs, ns, e1, e2, e3, e4⟩ := resD_out hT h2 h5 h7 hrd
      obtain ⟨M2, s2, a2, n2, g2, l2, f2⟩ := freezeAll (hp0 := st.hp) ns M1 st.hp h2 h5 (.refl _)
      refine ⟨h9, _, results_eq fn a.tmps w' e1, _, M2, rfl, ⟨h4.os, h4.tape, h4.output, h4.size, fun c hc => h4.block c (by omega)⟩, h1.trans s2, a2, fun b o v hv => (h3.trans n2) b o v hv, ?_⟩
      refine oneD_den e2 fun i d v q1 q2 => ?_
      have hx : xs[i]? = some (xs[i]'(by rw [e3]; exact (List.getElem?_eq_some_iff.1 q1).1)) := by simp
      obtain ⟨p1, p2, p3⟩ := e4 i _ d v hx q1 q2
      exact den_conv g2 (by rw [conv_frz l2]; exact p2) (openNames_frz (fun b l sz fr hb he => f2 b l sz fr (.inl hb) he) l2 _ p3) (p1.mono s2)
  cases e with
  | normal => obtain ⟨st, k1, k2⟩ := hq; exact fin st k1 k2
  | ret => obtain ⟨st, k1, k2⟩ := hq; exact fin st k1 k2
  | exit i => obtain ⟨st, k1, k2⟩ := hq; exact k1.elim
  | goto l => exact hq.elim
  | panic ch => exact hq.elim
  | outgrown => exact hq.elim

include hT in
theorem ocall_sound (hm : P.follows .mixedOrders = true) {f : FuncId} {fn : Func} {ds : List D} {l : List (List D)} {sz : Nat} (hf : P.funcs[f]? = some fn) (hc : fnChk fn ds.length = true) (h : AFnO T P fn ds l sz) : OCall P f ds l sz := by
  obtain ⟨c, hb, hdst, hn, hnm⟩ := fnChk_out hc
  refine ⟨⟨fn, hf, by rw [hb]; rfl, hnm⟩, fun w M vs ha hds => calls_of_wp hf hb ?_⟩
  simp only [AFnO, hb] at h
  have hsz : vs.size ≤ fn.ntmps := by rw [hds.1]; exact hn
  refine Code.wp_mono (fun e a w' hq => ?_) (AW_sound (w0 := w) (M0 := M) (ι0 := fun _ => none) (own := fun c => w.heap.size ≤ c) hT (fun _ h => h) hm c _ _ _ w hdst h (init_rel ha hds hsz))
  have fin : ∀ st : AState, (∃ t, fn.results.toList = [.tmp t] ∧ ((∃ b, st.tm t = .own b ∧ st.hp b = some (.row l sz false)) ∨ (st.tm t = .nil ∧ l = []))) → ARel (fun c => w.heap.size ≤ c) w M (fun _ => none) fn.ntmps st a w' →
      a.defers = [] ∧ ∃ v, (results fn a.tmps).run P w' = .ok v w' ∧ ∃ (v' : Value) (M' : Mem), Ending.returned v = .returned v' ∧ Below w.heap.size w w' ∧ Sub M M' ∧ Agree M' w' ∧ Fresh w M M' ∧
        ((l = [] ∧ ∃ a, v' = .slice a 0 0) ∨ ∃ (c cap : Nat) (cs : Array Value) (T : TypeId), w.heap.size ≤ c ∧ v' = .slice (some ⟨c, 0, none⟩) l.length cap ∧ l.length ≤ cap ∧
        cap * sz ≤ cs.size ∧ w'.heap[c]? = some (.cells cs T (0, 0)) ∧ RowAt M' cs l sz ∧ ∀ o, M' c o = none) := by
    intro st hres hr
    obtain ⟨M1, ι, h1, h2, h3, h4, h5, h6, h7, h8, h9⟩ := hr
    obtain ⟨t, ht, hval⟩ := hres
    have hrun : (fn.results.toList.mapM (resRun a.tmps)).run P w' = .ok [a.tmps.getD t undef] w' := by
      rw [ht]; simp [List.mapM_cons, resRun]
    refine ⟨h9, _, results_eq fn a.tmps w' hrun, a.tmps.getD t undef, M1, rfl, ⟨h4.os, h4.tape, h4.output, h4.size, fun c hc => h4.block c (by omega)⟩, h1, h2, fun b o v hv => h3 b o v hv, ?_⟩
    have hv := h7 t
    rcases hval with ⟨b, e1, e2⟩ | ⟨e1, e2⟩
    · rw [e1] at hv
      generalize a.tmps.getD t undef = v at hv
      cases hv with
      | own _ L cap hL hn2 hc2 =>
        obtain ⟨q1, cs, Ty, q2, q3, q4, q5, q6, q7, q8⟩ := h5.at_ b _ L e2 hL
        exact .inr ⟨L.blk, cap, cs, Ty, q1, by rw [q5], by rw [q5]; exact hn2, by rw [q4, q3]; exact hc2, q2, q7, q8.2 rfl⟩
      | ownE _ a0 hL =>
        obtain ⟨sz2, fr2, e0⟩ := h5.virt b hL
        rw [e2] at e0; cases e0
        exact .inl ⟨rfl, a0, rfl⟩
      | ownL _ _ hL => rw [(h5.dom b).2 hL] at e2; cases e2
    · rw [e1] at hv
      generalize a.tmps.getD t undef = v at hv
      cases hv with
      | nil a0 => exact .inl ⟨e2, a0, rfl⟩
  cases e with
  | normal => obtain ⟨st, k1, k2⟩ := hq; exact fin st k1 k2
  | ret => obtain ⟨st, k1, k2⟩ := hq; exact fin st k1 k2
  | exit i => obtain ⟨st, k1, k2⟩ := hq; exact k1.elim
  | goto l => exact hq.elim
  | panic ch => exact hq.elim
  | outgrown => exact hq.elim

omit hT in
theorem matchS_conv {hp : Nat → Option Blk} : ∀ {c : List AV} {cs : List SC} {seen : List Nat}, matchS hp seen c cs → conv.cells hp c ≠ none
  | [], [], _, _ => by simp [conv.cells]
  | x :: c, .d d :: s, seen, h => by
    simp only [matchS] at h
    have := matchS_conv h.2
    have h1 : conv.one hp x ≠ none := by
      cases x <;> simp [conv.pure1] at h <;> simp [conv.one]
    simp only [conv.cells]
    cases h2 : conv.one hp x with
    | none => exact absurd h2 h1
    | some y =>
      cases h3 : conv.cells hp c with
      | none => exact absurd h3 this
      | some z => simp
  | x :: c, .row l sz :: s, seen, h => by
    simp only [matchS] at h
    have hc : conv.cells hp c ≠ none := by
      rcases h with ⟨b, _, _, _, h⟩ | ⟨_, _, h⟩
      · exact matchS_conv h
      · exact matchS_conv h
    have h1 : conv.one hp x ≠ none := by
      rcases h with ⟨b, rfl, h, _⟩ | ⟨rfl, _, _⟩
      · simp [conv.one, h]
      · simp [conv.one]
    simp only [conv.cells]
    cases h2 : conv.one hp x with
    | none => exact absurd h2 h1
    | some y =>
      cases h3 : conv.cells hp c with
      | none => exact absurd h3 hc
      | some z => simp
  | [], _ :: _, _, h => by simp [matchS] at h
  | _ :: _, [], _, h => by simp [matchS] at h

omit hT in
theorem matchS_get {hp : Nat → Option Blk} : ∀ {c : List AV} {cs : List SC} {seen : List Nat}, matchS hp seen c cs → c.length = cs.length ∧
    (∀ (i : Nat) (s : SC), cs[i]? = some s → ∃ x, c[i]? = some x ∧ match s with
      | .d d => conv.pure1 x = some d
      | .row l sz => (∃ b, x = .own b ∧ hp b = some (.row l sz false) ∧ b ∉ seen) ∨ (x = .nil ∧ l = [])) ∧
    ∀ (i j : Nat) (b l l' : _) (sz sz' : Nat), cs[i]? = some (.row l sz) → cs[j]? = some (.row l' sz') → c[i]? = some (.own b) → c[j]? = some (.own b) → i = j
  | [], [], _, _ => ⟨rfl, fun i s h => by simp at h, fun i j b l l' sz sz' h => by simp at h⟩
  | x :: c, .d d :: s, seen, h => by
    simp only [matchS] at h
    obtain ⟨g1, g2, g3⟩ := matchS_get h.2
    refine ⟨by simp [g1], fun i s' hs => ?_, fun i j b l l' sz sz' h1 h2 h3 h4 => ?_⟩
    · cases i with
      | zero =>
        simp only [List.getElem?_cons_zero, Option.some.injEq] at hs
        subst hs
        exact ⟨x, rfl, h.1⟩
      | succ i => exact g2 i s' (by simpa using hs)
    · cases i with
      | zero => simp at h1
      | succ i =>
        cases j with
        | zero => simp at h2
        | succ j => exact congrArg (· + 1) (g3 i j b l l' sz sz' (by simpa using h1) (by simpa using h2) (by simpa using h3) (by simpa using h4))
  | x :: c, .row l0 sz0 :: s, seen, h => by
    simp only [matchS] at h
    rcases h with ⟨b0, rfl, e1, e2, h⟩ | ⟨rfl, rfl, h⟩
    · obtain ⟨g1, g2, g3⟩ := matchS_get h
      have hns : b0 ∉ seen := fun hm => by rw [memN_iff.2 hm] at e2; cases e2
      have hne : ∀ (j : Nat) (l' : _) (sz' : Nat), s[j]? = some (.row l' sz') → c[j]? = some (.own b0) → False := fun j l' sz' h2 h4 => by
        obtain ⟨y, hy, q⟩ := g2 j _ h2
        rw [h4] at hy; cases hy
        rcases q with ⟨b1, e, _, q⟩ | ⟨e, _⟩
        · cases e; exact q (List.mem_cons_self ..)
        · cases e
      refine ⟨by simp [g1], fun i s' hs => ?_, fun i j b l l' sz sz' h1 h2 h3 h4 => ?_⟩
      · cases i with
        | zero =>
          simp only [List.getElem?_cons_zero, Option.some.injEq] at hs
          subst hs
          exact ⟨_, rfl, .inl ⟨b0, rfl, e1, hns⟩⟩
        | succ i =>
          obtain ⟨y, hy, q⟩ := g2 i s' (by simpa using hs)
          refine ⟨y, by simpa using hy, ?_⟩
          cases s' with
          | d d => exact q
          | row l sz =>
            rcases q with ⟨b1, q1, q2, q3⟩ | q
            · exact .inl ⟨b1, q1, q2, fun hm => q3 (List.mem_cons_of_mem _ hm)⟩
            · exact .inr q
      · cases i with
        | zero =>
          simp only [List.getElem?_cons_zero, Option.some.injEq] at h3
          cases h3
          cases j with
          | zero => rfl
          | succ j => exact (hne j l' sz' (by simpa using h2) (by simpa using h4)).elim
        | succ i =>
          cases j with
          | zero =>
            simp only [List.getElem?_cons_zero, Option.some.injEq] at h4
            cases h4
            exact (hne i l sz (by simpa using h1) (by simpa using h3)).elim
          | succ j => exact congrArg (· + 1) (g3 i j b l l' sz sz' (by simpa using h1) (by simpa using h2) (by simpa using h3) (by simpa using h4))
    · obtain ⟨g1, g2, g3⟩ := matchS_get h
      refine ⟨by simp [g1], fun i s' hs => ?_, fun i j b l l' sz sz' h1 h2 h3 h4 => ?_⟩
      · cases i with
        | zero =>
          simp only [List.getElem?_cons_zero, Option.some.injEq] at hs
          subst hs
          exact ⟨_, rfl, .inr ⟨rfl, rfl⟩⟩
        | succ i => exact g2 i s' (by simpa using hs)
      · cases i with
        | zero => simp at h3
        | succ i =>
          cases j with
          | zero => simp at h4
          | succ j => exact congrArg (· + 1) (g3 i j b l l' sz sz' (by simpa using h1) (by simpa using h2) (by simpa using h3) (by simpa using h4))
  | [], _ :: _, _, h => by simp [matchS] at h
  | _ :: _, [], _, h => by simp [matchS] at h

omit hT in
theorem pure1_den {M : Mem} {ι : Inj} {x : AV} {d : D} {v : Value} (h : DenA M ι x v) (hp : conv.pure1 x = some d) : DenD M d v := by
  cases h <;> simp only [conv.pure1, Option.some.injEq, reduceCtorEq] at hp <;> subst hp
  case d h => exact h
  case tt => exact .bool true
  case ff => exact .bool false
  case nil a => exact .emp a 0

include hT in
theorem scall_sound (hm : P.follows .mixedOrders = true) {f : FuncId} {fn : Func} {ds : List D} {cs : List SC} (hf : P.funcs[f]? = some fn) (hc : fnChk fn ds.length = true) (h : AFnS T P fn ds cs) : SCall P f ds cs := by
  obtain ⟨c, hb, hdst, hn, hnm⟩ := fnChk_out hc
  refine ⟨⟨fn, hf, by rw [hb]; rfl, hnm⟩, fun w M vs ha hds => calls_of_wp hf hb ?_⟩
  simp only [AFnS, hb] at h
  have hsz : vs.size ≤ fn.ntmps := by rw [hds.1]; exact hn
  refine Code.wp_mono (fun e a w' hq => ?_) (AW_sound (w0 := w) (M0 := M) (ι0 := fun _ => none) (own := fun c => w.heap.size ≤ c) hT (fun _ h => h) hm c _ _ _ w hdst h (init_rel ha hds hsz))
  have fin : ∀ st : AState, (∃ r c, fn.results.toList = [r] ∧ resV T st.tm st.hp r = .agg c ∧ matchS st.hp [] c cs) → ARel (fun c => w.heap.size ≤ c) w M (fun _ => none) fn.ntmps st a w' →
      a.defers = [] ∧ ∃ v, (results fn a.tmps).run P w' = .ok v w' ∧ ∃ (us : Array Value) (M' : Mem) (bl : Nat → Option Loc), Ending.returned v = .returned (.agg us) ∧ Below w.heap.size w w' ∧ Sub M M' ∧ Agree M' w' ∧ Fresh w M M' ∧ us.size = cs.length ∧
        (∀ (i : Nat) (c : SC), cs[i]? = some c → ∃ u, us[i]? = some u ∧ match c with
          | .d x => DenD M' x u
          | .row l sz => RowOk w w' M' l sz (bl i) u) ∧
        ∀ (i j : Nat) (L L' : Loc), bl i = some L → bl j = some L' → L.blk = L'.blk → i = j := by
    intro st hres hr
    obtain ⟨M1, ι, h1, h2, h3, h4, h5, h6, h7, h8, h9⟩ := hr
    obtain ⟨r, c, hr1, hr2, hr3⟩ := hres
    obtain ⟨v, hv, hdv⟩ := resV_out hT h2 h5 h7 r (by
      rw [hr2]
      simp only [conv]
      cases hcc : conv.cells st.hp c with
      | none => exact absurd hcc (matchS_conv hr3)
      | some y => simp)
    have hrun : (fn.results.toList.mapM (resRun a.tmps)).run P w' = .ok [v] w' := by
      rw [hr1]; simp [List.mapM_cons, hv]
    rw [hr2] at hdv
    cases hdv with
    | agg _ us hl hd =>
      obtain ⟨m1, m2, m3⟩ := matchS_get hr3
      let bl : Nat → Option Loc := fun i => match cs[i]? with
        | some (.row _ _) => match c[i]? with
          | some (.own b) => match ι b with
            | some (some L) => some L
            | _ => none
          | _ => none
        | _ => none
      have hbl : ∀ i L, bl i = some L → ∃ l sz b, cs[i]? = some (.row l sz) ∧ c[i]? = some (.own b) ∧ ι b = some (some L) := by
        intro i L hL
        simp only [bl] at hL
        split at hL
        · rename_i l sz e1
          split at hL
          · rename_i b e2
            split at hL
            · rename_i L' e3
              cases hL
              exact ⟨l, sz, b, e1, e2, e3⟩
            · cases hL
          · cases hL
        · cases hL
      refine ⟨h9, _, results_eq fn a.tmps w' hrun, us, M1, bl, rfl, ⟨h4.os, h4.tape, h4.output, h4.size, fun c hc => h4.block c (by omega)⟩, h1, h2, fun b o v hv => h3 b o v hv, by omega, fun i s hs => ?_, fun i j L L' hL hL' he => ?_⟩
      · obtain ⟨x, hx, hm2⟩ := m2 i s hs
        have hi : i < us.size := by rw [hl]; exact (List.getElem?_eq_some_iff.1 hx).1
        have hu : us[i]? = some us[i] := by simp [hi]
        have hdx := hd i x _ hx hu
        refine ⟨us[i], hu, ?_⟩
        cases s with
        | d d => exact pure1_den hdx hm2
        | row l sz =>
          rcases hm2 with ⟨b, rfl, e2, _⟩ | ⟨rfl, rfl⟩
          · show RowOk w w' M1 l sz (bl i) us[i]
            generalize us[i] = u at hdx
            cases hdx with
            | own _ L cap hL hn2 hc2 =>
              have : bl i = some L := by simp only [bl, hs, hx, hL]
              rw [this]
              obtain ⟨q1, cs', Ty, q2, q3, q4, q5, q6, q7, q8⟩ := h5.at_ b _ L e2 hL
              exact ⟨q1, cap, cs', Ty, by rw [q5], q5.symm, q4.symm, q3.symm, by rw [q5]; exact hn2, by rw [q4, q3]; exact hc2, q2, q7, q8.2 rfl⟩
            | ownE _ a0 hL =>
              have : bl i = none := by simp only [bl, hs, hx, hL]
              rw [this]
              obtain ⟨sz2, fr2, e0⟩ := h5.virt b hL
              rw [e2] at e0; cases e0
              exact ⟨rfl, a0, rfl⟩
            | ownL _ _ hL => rw [(h5.dom b).2 hL] at e2; cases e2
          · show RowOk w w' M1 [] sz (bl i) us[i]
            have : bl i = none := by simp only [bl, hs, hx]
            rw [this]
            generalize us[i] = u at hdx
            cases hdx with
            | nil a0 => exact ⟨rfl, a0, rfl⟩
      · obtain ⟨l, sz, b, g1, g2, g3⟩ := hbl i L hL
        obtain ⟨l', sz', b', g1', g2', g3'⟩ := hbl j L' hL'
        have := h5.inj b b' L L' g3 g3' he
        subst this
        exact m3 i j b l l' sz sz' g1 g1' g2 g2'
  cases e with
  | normal => obtain ⟨st, k1, k2⟩ := hq; exact fin st k1 k2
  | ret => obtain ⟨st, k1, k2⟩ := hq; exact fin st k1 k2
  | exit i => obtain ⟨st, k1, k2⟩ := hq; exact k1.elim
  | goto l => exact hq.elim
  | panic ch => exact hq.elim
  | outgrown => exact hq.elim

end
end Go.Lk

namespace Go.Lk
open Go Go.RowKit Go.WideShapes Go.ChangeShapes

/-! ### what a reading says of an argument -/
def FitFs (F : TypeId → List D → Prop) : List (Nat × TypeId) → List D → Prop
  | [], ds => ds = []
  | (_, t) :: r, ds => ∃ a b, ds = a ++ b ∧ F t a ∧ FitFs F r b
def FitN (F : List D → Prop) : Nat → List D → Prop
  | 0, ds => ds = []
  | n + 1, ds => ∃ a b, ds = a ++ b ∧ F a ∧ FitN F n b

/-- cells of data of a type -/
def Fit (T : Tab) : Nat → TypeId → List D → Prop
  | 0, _, _ => False
  | n + 1, t, ds => match (T t).k with
    | .int k => ∃ x, ds = [.int k x] ∧ (Lit.int k x).wf = true
    | .bool => ∃ b, ds = [.bool b]
    | .str => ∃ s : ByteArray, ds = [.str s] ∧ s.size ≤ maxLen
    | .slice e => ∃ l : List (List D), ds = [.lst l] ∧ l.length ≤ maxLen ∧ ∀ x ∈ l, Fit T n e x
    | .struct fs => FitFs (Fit T n) fs ds
    | .arr m e => FitN (Fit T n e) m ds
    | _ => False

def plainT (T : Tab) : Nat → TypeId → Bool
  | 0, _ => false
  | m + 1, t => match (T t).k with
    | .int _ => true
    | .bool => true
    | .str => true
    | .slice e => plainT T m e
    | .arr _ e => plainT T m e
    | .struct fs => fs.all fun p => plainT T m p.2
    | _ => false

theorem plainT_known {T : Tab} {m : Nat} {t : TypeId} (h : plainT T m t = true) : (T t).k.known = true := by
  cases m with
  | zero => cases h
  | succ m =>
    simp only [plainT] at h
    cases hk : (T t).k <;> simp_all [TK.known]

def FitV (T : Tab) (n : Nat) (t : TypeId) (d : D) : Prop := if (T t).k.agg = true then ∃ ds, d = .agg ds ∧ Fit T n t ds else Fit T n t [d]

def CellsD (M : Mem) (cs : List Value) (ds : List D) : Prop := cs.length = ds.length ∧ ∀ (i : Nat) (d : D) (v : Value), ds[i]? = some d → cs[i]? = some v → DenD M d v

theorem CellsD.app {M : Mem} {a b : List Value} {x y : List D} (h : CellsD M a x) (h' : CellsD M b y) : CellsD M (a ++ b) (x ++ y) := by
  refine ⟨by simp [h.1, h'.1], fun i d v h1 h2 => ?_⟩
  by_cases hi : i < x.length
  · rw [List.getElem?_append_left hi] at h1
    rw [List.getElem?_append_left (by rw [h.1]; exact hi)] at h2
    exact h.2 i d v h1 h2
  · rw [List.getElem?_append_right (by omega)] at h1
    rw [List.getElem?_append_right (by rw [h.1]; omega), h.1] at h2
    exact h'.2 _ d v h1 h2

theorem CellsD.one {M : Mem} {v : Value} {d : D} (h : DenD M d v) : CellsD M [v] [d] := by
  refine ⟨rfl, fun i d' v' h1 h2 => ?_⟩
  cases i with
  | zero =>
    simp only [List.getElem?_cons_zero, Option.some.injEq] at h1 h2
    subst h1 h2
    exact h
  | succ i => simp at h1

def memOf (w : World) : Mem := fun b o => w.cell? ⟨b, o, none⟩

section
variable {H : Type} {enc : TypeId × Value → H} {P : Program} {T : Tab} (hT : TabOk P T) {w : World} {spare : Nat → Bool} {held : Bool}

include hT in
theorem cells_size {t : TypeId} (h : (T t).k.known = true) : P.cellsOf t = (T t).size := by
  obtain ⟨d, i, _, hi, _, hs, _⟩ := (tyFact hT h).desc
  simp [Program.cellsOf, hi, hs]

include hT in
theorem trod_den (K : Kids P (· < P.types.size)) : ∀ (n : Nat) (t : TypeId) (cs : List Value) (x : DataW H × List MemPlace), t < P.types.size → (∃ m, plainT T m t = true) →
    DataW.trod enc P w 0 spare held n t cs = some x → ∃ ds, Fit T n t ds ∧ CellsD (memOf w) cs ds := by
  intro n
  induction n with
  | zero => intro t cs x _ _ h; simp [DataW.trod] at h
  | succ n ih =>
    intro t cs x ht hpl h
    obtain ⟨q, hpl⟩ := hpl
    have hk := plainT_known hpl
    cases q with
    | zero => cases hpl
    | succ qq =>
    obtain ⟨d0, i0, hu0, _, hkind, _, _, _, helems, _⟩ := (tyFact hT hk).desc
    cases hkt : (T t).k with
    | other => rw [hkt] at hk; cases hk
    | ptr e => simp [plainT, hkt] at hpl
    | int k =>
      obtain ⟨m, rfl, _, hw⟩ := DataW.trod_int (und_int hT hkt) h
      exact ⟨[.int k m], by simp only [Fit, hkt]; exact ⟨m, rfl, hw⟩, .one (.int k m)⟩
    | bool =>
      obtain ⟨b, rfl, _⟩ := DataW.trod_bool (und_bool hT hkt) h
      exact ⟨[.bool b], by simp only [Fit, hkt]; exact ⟨b, rfl⟩, .one (.bool b)⟩
    | str =>
      obtain ⟨s, rfl, _, hs⟩ := DataW.trod_string (und_str hT hkt) h
      exact ⟨[.str s], by simp only [Fit, hkt]; exact ⟨s, rfl, hs⟩, .one (.str s)⟩
    | slice e =>
      obtain ⟨hu, hke⟩ := und_slice hT hkt
      have hte := K.slice ht hu
      rcases DataW.trod_slice hu h with ⟨rfl, _⟩ | ⟨a, len, cap, elems, rest, m, hm, rfl, _, _, hlc, hcm, hel, hread, _, _⟩
      · exact ⟨[.lst []], by simp only [Fit, hkt]; exact ⟨[], rfl, by simp, by simp⟩, .one (.emp _ _)⟩
      · obtain rfl : n = m := by omega
        by_cases hl0 : len = 0
        · subst hl0
          exact ⟨[.lst []], by simp only [Fit, hkt]; exact ⟨[], rfl, by simp, by simp⟩, .one (.emp _ _)⟩
        have hsz : P.cellsOf e = (T e).size := cells_size hT hke
        have hpos := size_pos hT hke
        have hex : ∀ i, i < len → ∃ ds, Fit T n e ds ∧ ds.length = (T e).size ∧ a.spot = none ∧ ∀ (j : Nat) (d : D), ds[j]? = some d → ∃ v, w.cell? ⟨a.block, a.off + i * (T e).size + j, none⟩ = some v ∧ DenD (memOf w) d v := by
          intro i hi
          have hr := hread i hi
          have he : elems[i]? = some (elems[i]'(by omega)) := by simp
          rw [he] at hr
          simp only [Option.bind_eq_some_iff] at hr
          obtain ⟨cs', hcells, htrod⟩ := hr
          obtain ⟨ds, hfit, hcd⟩ := ih e cs' _ hte ⟨qq, by simpa [plainT, hkt] using hpl⟩ htrod
          have hcl : (List.range (P.cellsOf e)).mapM (fun j => w.cell? ((a.add (i * P.cellsOf e)).add j)) = some cs' := by
            unfold World.cells? at hcells
            split at hcells
            · exact hcells
            · cases hcells
          have hlen : cs'.length = (T e).size := by
            have := mapM_some_length hcl
            simpa [hsz] using this
          have hcell : ∀ j, j < (T e).size → w.cell? ((a.add (i * P.cellsOf e)).add j) = cs'[j]? := fun j hj =>
            mapM_some_get hcl j j (by rw [List.getElem?_range (by rw [hsz]; exact hj)])
          have hspot : ∀ b : Addr, w.cell? b ≠ none → b.spot = none := by
            intro b hb
            unfold World.cell? at hb
            cases hs : b.spot with
            | none => rfl
            | some s =>
              exfalso
              apply hb
              split <;> simp [hs]
          have hsp : a.spot = none := by
            have hr0 := hread 0 (by omega)
            have he0 : elems[0]? = some (elems[0]'(by omega)) := by simp
            rw [he0] at hr0
            simp only [Option.bind_eq_some_iff] at hr0
            obtain ⟨cs0, hc0, _⟩ := hr0
            unfold World.cells? at hc0
            split at hc0
            · have l0 := mapM_some_length hc0
              have := mapM_some_get hc0 0 0 (by rw [List.getElem?_range (by rw [hsz]; exact hpos)])
              have hz : cs0[0]? ≠ none := by
                have : 0 < cs0.length := by rw [l0]; simpa [hsz] using hpos
                rw [List.getElem?_eq_getElem this]; simp
              rw [← this] at hz
              have := hspot _ hz
              simpa [Addr.add] using this
            · cases hc0
          refine ⟨ds, hfit, by rw [← hcd.1, hlen], hsp, fun j d hj => ?_⟩
          have hjl : j < (T e).size := by rw [← hlen, hcd.1]; exact (List.getElem?_eq_some_iff.1 hj).1
          have hv : cs'[j]? = some (cs'[j]'(by omega)) := by simp
          refine ⟨_, ?_, hcd.2 j d _ hj hv⟩
          rw [← hv, ← hcell j hjl]
          congr 1
          obtain ⟨ab, ao, as⟩ := a
          simp only at hsp
          subst hsp
          rw [addr_add, addr_add, hsz]
        obtain ⟨f, hf⟩ : ∃ f : Nat → List D, ∀ i, i < len → Fit T n e (f i) ∧ (f i).length = (T e).size ∧ a.spot = none ∧ ∀ (j : Nat) (d : D), (f i)[j]? = some d → ∃ v, w.cell? ⟨a.block, a.off + i * (T e).size + j, none⟩ = some v ∧ DenD (memOf w) d v := by
          refine ⟨fun i => if h : i < len then Classical.choose (hex i h) else [], fun i hi => ?_⟩
          simp only [dif_pos hi]
          exact Classical.choose_spec (hex i hi)
        have hspn : a.spot = none := (hf 0 (by omega)).2.2.1
        obtain ⟨ab, ao, as⟩ := a
        simp only at hspn hf
        subst hspn
        let l : List (List D) := (List.range len).map f
        have hget : ∀ (i : Nat) (e' : List D), l[i]? = some e' → i < len ∧ e' = f i := by
          intro i e' hi
          simp only [l, List.getElem?_map] at hi
          by_cases h1 : i < len
          · rw [List.getElem?_range h1] at hi
            simp only [Option.map_some, Option.some.injEq] at hi
            exact ⟨h1, hi.symm⟩
          · rw [List.getElem?_eq_none (by simp; omega)] at hi; cases hi
        have hll : l.length = len := by simp [l]
        refine ⟨[.lst l], ?_, ?_⟩
        · simp only [Fit, hkt]
          refine ⟨l, rfl, by rw [hll]; omega, fun x hx => ?_⟩
          obtain ⟨i, hi, hxi⟩ := List.getElem_of_mem hx
          obtain ⟨h1, h2⟩ := hget i x (by rw [List.getElem?_eq_getElem hi, hxi])
          rw [h2]; exact (hf i h1).1
        · refine .one ?_
          rw [show len = l.length from hll.symm]
          refine .lst l ab ao cap (T e).size (fun i j => (w.cell? ⟨ab, ao + i * (T e).size + j, none⟩).getD undef) (by omega) (fun i e' hi => ?_) (fun i j e' d hi hj => ?_) fun i j e' d hi hj => ?_
          · obtain ⟨h1, h2⟩ := hget i e' hi
            rw [h2]; exact (hf i h1).2.1
          · obtain ⟨h1, h2⟩ := hget i e' hi
            subst h2
            obtain ⟨v, hv, _⟩ := (hf i h1).2.2.2 j d hj
            show w.cell? _ = some _
            rw [hv]; rfl
          · obtain ⟨h1, h2⟩ := hget i e' hi
            subst h2
            obtain ⟨v, hv, hd⟩ := (hf i h1).2.2.2 j d hj
            rw [hv]; exact hd
    | struct fs =>
      obtain ⟨F, hu, hF, hkn, _⟩ := und_struct hT hkt
      obtain ⟨hkids, hcells, hoff⟩ := K.struct ht hu
      obtain ⟨xs, m, hm, _, hlen, hxl, hread⟩ := DataW.trod_struct hu h
      obtain rfl : n = m := by omega
      have key : ∀ (G : List Field) (k o : Nat), F.toList.drop k = G → o = ((F.toList.take k).map fun f => P.cellsOf f.type).sum → ∃ ds, FitFs (Fit T n) (G.map fun f => (f.offset, f.type)) ds ∧ CellsD (memOf w) ((cs.drop o).take ((G.map fun f => P.cellsOf f.type).sum)) ds := by
        intro G
        induction G with
        | nil => intro k o _ _; exact ⟨[], rfl, by simp [CellsD]⟩
        | cons g G ihG =>
          intro k o hG ho
          have hgk : F.toList[k]? = some g := by
            have := congrArg (·[0]?) hG
            simpa using this
          have hG' : F.toList.drop (k + 1) = G := by
            have := congrArg (List.drop 1) hG
            simpa [Nat.add_comm] using this
          have hgo : g.offset = o := by rw [hoff k g hgk, ho]
          have hgm : g ∈ F.toList := List.mem_of_getElem? hgk
          have hgt : (T g.type).k.known = true := hkn (g.offset, g.type) (by rw [← hF]; exact List.mem_map.2 ⟨g, hgm, rfl⟩)
          have hr := hread k g (by rw [← Array.getElem?_toList]; exact hgk)
          have hxk : xs[k]? = some (xs[k]'(by rw [hxl]; have := (List.getElem?_eq_some_iff.1 hgk).1; simpa using this)) := by simp
          rw [hxk] at hr
          obtain ⟨d1, f1, c1⟩ := ih g.type _ _ (hkids g hgm) ⟨qq, by
            simp only [plainT, hkt, List.all_eq_true] at hpl
            exact hpl (g.offset, g.type) (by rw [← hF]; exact List.mem_map.2 ⟨g, hgm, rfl⟩)⟩ hr
          obtain ⟨d2, f2, c2⟩ := ihG (k + 1) (o + P.cellsOf g.type) hG' (by
            rw [ho]
            have : F.toList.take (k + 1) = F.toList.take k ++ [g] := by
              rw [List.take_add_one, hgk]; rfl
            rw [this]; simp)
          refine ⟨d1 ++ d2, ⟨d1, d2, rfl, f1, f2⟩, ?_⟩
          have : (cs.drop o).take (((g :: G).map fun f => P.cellsOf f.type).sum) = (cs.drop g.offset).take (P.cellsOf g.type) ++ (cs.drop (o + P.cellsOf g.type)).take ((G.map fun f => P.cellsOf f.type).sum) := by
            rw [hgo]
            simp only [List.map_cons, List.sum_cons]
            rw [List.take_add, List.drop_drop]
          rw [this]
          exact c1.app c2
      obtain ⟨ds, k1, k2⟩ := key F.toList 0 0 rfl rfl
      refine ⟨ds, by simp only [Fit, hkt]; rw [← hF]; exact k1, ?_⟩
      rw [← hcells, ← hlen] at k2
      simpa using k2
    | arr m e =>
      obtain ⟨hu, hke⟩ := und_arr hT hkt
      obtain ⟨hte, hcells⟩ := K.array ht hu
      obtain ⟨xs, m', hm', _, hlen, hxl, hread⟩ := DataW.trod_array hu h
      obtain rfl : n = m' := by omega
      have key : ∀ (q k : Nat), k + q = m → ∃ ds, FitN (Fit T n e) q ds ∧ CellsD (memOf w) ((cs.drop (k * P.cellsOf e)).take (q * P.cellsOf e)) ds := by
        intro q
        induction q with
        | zero => intro k _; exact ⟨[], rfl, by simp [CellsD]⟩
        | succ q ihq =>
          intro k hkq
          have hr := hread k (by omega)
          have hxk : xs[k]? = some (xs[k]'(by omega)) := by simp
          rw [hxk] at hr
          obtain ⟨d1, f1, c1⟩ := ih e _ _ hte ⟨qq, by simpa [plainT, hkt] using hpl⟩ hr
          obtain ⟨d2, f2, c2⟩ := ihq (k + 1) (by omega)
          refine ⟨d1 ++ d2, ⟨d1, d2, rfl, f1, f2⟩, ?_⟩
          have : (cs.drop (k * P.cellsOf e)).take ((q + 1) * P.cellsOf e) = (cs.drop (k * P.cellsOf e)).take (P.cellsOf e) ++ (cs.drop ((k + 1) * P.cellsOf e)).take (q * P.cellsOf e) := by
            rw [show (q + 1) * P.cellsOf e = P.cellsOf e + q * P.cellsOf e by rw [Nat.add_mul, Nat.one_mul, Nat.add_comm], List.take_add, List.drop_drop, show k * P.cellsOf e + P.cellsOf e = (k + 1) * P.cellsOf e by rw [Nat.add_mul, Nat.one_mul]]
          rw [this]
          exact c1.app c2
      obtain ⟨ds, k1, k2⟩ := key m 0 (by omega)
      refine ⟨ds, by simp only [Fit, hkt]; exact k1, ?_⟩
      rw [← hcells, ← hlen] at k2
      simpa using k2


include hT in
theorem arg_den (K : Kids P (· < P.types.size)) {t : TypeId} {v : Value} {d : DataW H} {ps : List MemPlace} {r : Reach} {base : Nat} (ht : t < P.types.size) (hpl : ∃ m, plainT T m t = true) (hok : Value.okWide P w r base t v) (h : DataW.Trod enc P w 0 spare held t v d ps) :
    ∃ n dd, FitV T n t dd ∧ DenD (memOf w) dd v := by
  obtain ⟨n, hn⟩ := h
  obtain ⟨ds, hfit, hcd⟩ := trod_den hT K n t _ _ ht hpl hn
  obtain ⟨m, hpl⟩ := hpl
  have hk := plainT_known hpl
  have aggc : ∀ cs : Array Value, v = .agg cs → (T t).k.agg = true → ∃ n dd, FitV T n t dd ∧ DenD (memOf w) dd v := by
    intro cs hv ha
    subst hv
    refine ⟨n, .agg ds, by unfold FitV; rw [if_pos ha]; exact ⟨ds, rfl, hfit⟩, .agg ds cs (by simpa [Value.cells] using hcd.1) fun i d v h1 h2 => hcd.2 i d v h1 (by simpa [Value.cells] using h2)⟩
  have one : v.cells = #[v] → (T t).k.agg = false → ∃ n dd, FitV T n t dd ∧ DenD (memOf w) dd v := by
    intro hv ha
    have hl : ds.length = 1 := by rw [← hcd.1, hv]; rfl
    obtain ⟨d, rfl⟩ := List.length_eq_one_iff.1 hl
    exact ⟨n, d, by unfold FitV; rw [if_neg (by simp [ha])]; exact hfit, hcd.2 0 d v rfl (by rw [hv]; rfl)⟩
  cases hkt : (T t).k with
  | other => rw [hkt] at hk; cases hk
  | ptr e => cases m <;> simp [plainT, hkt] at hpl
  | int k => obtain ⟨x, rfl⟩ := okWide_int (und_int hT hkt) hok; exact one rfl (by rw [hkt]; rfl)
  | bool => obtain ⟨x, rfl⟩ := okWide_bool (und_bool hT hkt) hok; exact one rfl (by rw [hkt]; rfl)
  | str => obtain ⟨x, rfl⟩ := okWide_string (und_str hT hkt) hok; exact one rfl (by rw [hkt]; rfl)
  | slice e => obtain ⟨a, l, c, rfl⟩ := okWide_slice (und_slice hT hkt).1 hok; exact one rfl (by rw [hkt]; rfl)
  | struct fs =>
    obtain ⟨F, hu, _⟩ := und_struct hT hkt
    obtain ⟨cs, hv, _⟩ := okWide_struct hu hok
    exact aggc cs hv (by rw [hkt]; rfl)
  | arr m e =>
    have hu := (und_arr hT hkt).1
    unfold Value.okWide at hok
    rw [hu] at hok
    obtain ⟨cs, hv, _⟩ := hok
    exact aggc cs hv (by rw [hkt]; rfl)

def FitAll (T : Tab) : List TypeId → List D → Prop
  | [], ds => ds = []
  | t :: ts, ds => ∃ n d r, ds = d :: r ∧ FitV T n t d ∧ FitAll T ts r

include hT in
theorem args_den' (K : Kids P (· < P.types.size)) {r : Reach} {base : Nat} : ∀ {ts : List TypeId} {vs : List Value} {ds : List (DataW H)} {ps : List MemPlace}, (∀ t ∈ ts, t < P.types.size ∧ ∃ m, plainT T m t = true) →
    (∀ (j : Nat) t v, ts[j]? = some t → vs[j]? = some v → Value.okWide P w r base t v) → DataW.TrodAll enc P w 0 spare held ts vs ds ps →
    ∃ dds, FitAll T ts dds ∧ dds.length = vs.length ∧ ds.length = ts.length ∧ ∀ (i : Nat) (d : D) (v : Value), dds[i]? = some d → vs[i]? = some v → DenD (memOf w) d v
  | [], vs, ds, ps, _, _, h => by
    obtain ⟨rfl, rfl, rfl⟩ := trodAll_nil h
    exact ⟨[], rfl, rfl, rfl, fun i d v h => by simp at h⟩
  | t :: ts, vs, ds, ps, hts, hok, h => by
    obtain ⟨v, vs1, d, ds1, a, b, rfl, rfl, rfl, h1, h2⟩ := trodAll_cons h
    obtain ⟨n, dd, e1, e2⟩ := arg_den hT K (hts t (List.mem_cons_self ..)).1 (hts t (List.mem_cons_self ..)).2 (hok 0 t v rfl rfl) h1
    obtain ⟨dds, e3, e4, e6, e5⟩ := args_den' K (fun t ht => hts t (List.mem_cons_of_mem _ ht)) (fun j t v h1 h2 => hok (j + 1) t v (by simpa using h1) (by simpa using h2)) h2
    refine ⟨dd :: dds, ⟨n, dd, dds, rfl, e1, e3⟩, by simp [e4], by simp [e6], fun i d' v' g1 g2 => ?_⟩
    cases i with
    | zero =>
      simp only [List.getElem?_cons_zero, Option.some.injEq] at g1 g2
      subst g1 g2
      exact e2
    | succ i => exact e5 i d' v' (by simpa using g1) (by simpa using g2)

theorem agree_memOf (w : World) : Agree (memOf w) w := fun _ _ _ h => h

theorem below_sameAt {w w' : World} (h : Below w.heap.size w w') {p : MemPlace} (hp : p.block < w.heap.size) : w.sameAt w' p := by
  have := h.block p.block hp
  cases p with
  | cell b off => simp only [World.sameAt, World.cell?]; simp only [MemPlace.block] at this; rw [this]
  | map b => exact this

theorem trodAll_carry' {w' : World} : ∀ {ts : List TypeId} {vs : List Value} {ds : List (DataW H)} {ps : List MemPlace}, DataW.TrodAll enc P w 0 spare held ts vs ds ps → (∀ p ∈ ps, w.sameAt w' p) → DataW.TrodAll enc P w' 0 spare held ts vs ds ps
  | [], vs, ds, ps, h, _ => by
    obtain ⟨rfl, rfl, rfl⟩ := trodAll_nil h
    rfl
  | t :: ts, vs, ds, ps, h, hs => by
    obtain ⟨v, vs1, d, ds1, a, b, rfl, rfl, rfl, ⟨n, hn⟩, h2⟩ := trodAll_cons h
    exact ⟨a, b, ⟨n, DataW.trod_carry n t _ _ hn fun p hp => hs p (List.mem_append_left _ hp)⟩, trodAll_carry' h2 fun p hp => hs p (List.mem_append_right _ hp), rfl⟩

/-- a last step: only what is new may have turned (after the guide's small lemmas) -/
theorem post_of_below {f : Func} {s : ChangeSpec} {apart fresh handsOn again : Bool} {W W' : World} {args : Array Value} {v : Value} {ds gs : List (DataW H)} {before pa pv : List MemPlace}
    (hW : DataW.Whole enc P f.params.toList s.vars apart W args.toList ds gs before)
    (hres : ∀ (b : Nat) (sp : Nat → Bool) (hd : Bool), DataW.TrodAll enc P W' b sp hd f.resultTypes.toList (v.resultList f.resultTypes.size) (s.fn H (ds ++ gs)).results [])
    (hargs : ∀ sp : Nat → Bool, (∀ p ∈ before, sp p.block = true) → DataW.TrodAll enc P W' 0 sp true f.params.toList args.toList (s.fn H (ds ++ gs)).args pa)
    (hvars : ∀ sp : Nat → Bool, (∀ p ∈ before, sp p.block = true) → DataW.TrodVars enc P W' sp s.vars (s.fn H (ds ++ gs)).vars pv)
    (hps : before = pa ++ pv) (hb : Below W.heap.size W W')
    (hok : ∀ (j : Nat) (t : TypeId) (r : Value), f.resultTypes[j]? = some t → (v.resultList f.resultTypes.size)[j]? = some r → Value.okWide P W' .any 0 t r) :
    s.post enc P f apart fresh handsOn again W args v W' := by
  have hlt : ∀ p ∈ before, p.block < W.heap.size := fun p hp => hW.lt p hp
  have hold : ∀ p ∈ before, (fun b => decide (b < W.heap.size)) p.block = true := fun p hp => by simpa using hlt p hp
  refine ⟨ds, gs, before, [], pa, pv, hW, hres _ _ _, hargs _ hold, hvars _ hold, World.keptBut_mono (fun p hp => ⟨hp, ?_⟩) (hb.frame (· ∈ before)), fun _ => ?_⟩
  · rw [hps, List.mem_append] at hp
    exact Or.inr hp
  · obtain ⟨_, _, _, _, _, hz, hn⟩ := hW
    refine ⟨hok, _, _, ([] ++ pa) ++ pv, ⟨[] ++ pa, pv, trodAll_append (hargs _ (fun _ _ => rfl)) (hres _ _ _), hvars _ (fun _ _ => rfl), rfl, ?_, ?_⟩, ?_⟩
    · intro b off hp
      have hin : MemPlace.cell b off ∈ before := by rw [hps]; simpa using hp
      rw [hb.frozen (hlt _ hin)]
      exact hz b off hin
    · intro ha
      have := hn ha
      rw [hps] at this
      simpa using this
    · intro p hp _
      rw [hps]
      simpa using hp

include hT in
/-- a law's contract, from its pure form -/
theorem law_contract (K : Kids P (· < P.types.size)) (hz : ∀ t e, t < P.types.size → P.underlying t = some (.slice e) → 0 < P.cellsOf e) {f : FuncId} {fn : Func} {s : ChangeSpec} {fresh handsOn again : Bool} {tb : TypeId}
    (hts : ∀ t ∈ fn.params.toList, t < P.types.size ∧ ∃ m, plainT T m t = true) (hres : fn.resultTypes = #[tb]) (hb : P.underlying tb = some .bool) (hvars : s.vars = [])
    (hs : ∀ ds : List (DataW H), ds.length = fn.params.toList.length → s.fn H ds = { results := [.lit (.bool true)], args := ds })
    (law : ∀ dds, FitAll T fn.params.toList dds → ACall P f dds (.bool true))
    (W : World) (base : Nat) (args : Array Value) (ds gs : List (DataW H)) (before : List MemPlace)
    (hval : ∀ (j : Nat) t v, fn.params[j]? = some t → args[j]? = some v → Value.okWide P W .any base t v)
    (hW : DataW.Whole enc P fn.params.toList s.vars false W args.toList ds gs before) :
    Calls P f args W fun e W' => ∃ v, e = .returned v ∧ s.post enc P fn false fresh handsOn again W args v W' := by
  have hlt : ∀ p ∈ before, p.block < W.heap.size := fun p hp => hW.lt p hp
  have hW' := hW
  obtain ⟨p, q, hA, hV, rfl, hfz, hnd⟩ := hW
  rw [hvars] at hV
  obtain ⟨rfl, rfl⟩ := trodVars_none hV
  obtain ⟨dds, hfit, hdl, hdsl, hden⟩ := args_den' hT K hts (fun j t v h1 h2 => hval j t v (by simpa using h1) (by simpa using h2)) hA
  have hlaw := law dds hfit
  refine (hlaw.2 W (memOf W) args (agree_memOf W) ⟨by simpa using hdl.symm, fun i d v h1 h2 => hden i d v h1 (by simpa using h2)⟩).mono fun e W' hq => ?_
  obtain ⟨v, M', rfl, hbel, _, _, _, hd⟩ := hq
  have hv : v = .bool true := by cases hd; rfl
  subst hv
  refine ⟨_, rfl, ?_⟩
  have hsf : s.fn H (ds ++ []) = { results := [.lit (.bool true)], args := ds } := by rw [List.append_nil]; exact hs _ hdsl
  refine post_of_below (pa := p) (pv := []) hW' ?_ ?_ ?_ rfl hbel ?_
  · intro b sp hd
    rw [hsf, hres]
    exact trodAll_mk1 ⟨1, by simp [DataW.trod, hb, Value.cells]⟩
  · intro sp hsp
    rw [hsf]
    exact DataW.TrodAll.respare K hz (fun t ht => (hts t ht).1) (trodAll_carry' hA fun x hx => below_sameAt hbel (hlt x (by simpa using hx))) fun x hx => hsp x (by simpa using hx)
  · intro sp _
    rw [hsf, hvars]
    rfl
  · exact ok_one hres rfl (okWide_bool_mk hb _)

end
end Go.Lk

namespace Go.Lk
open Go Go.RowKit

theorem w64 {n : Int} (h0 : -9223372036854775808 ≤ n) (h1 : n ≤ 9223372036854775807) : IntKind.i64.wrap n = n := by
  rw [IntKind.wrap_i64]; omega
theorem condK_draw {r : List Oper} {q : List Summ} {i : Nat} {done : List Summ} {pm : List Nat} {K : Prop} (h : drawOk r q i done pm = true) (k : K) : condK (drawOk r q i done pm = true) K := condK_of h k
theorem bF {A B : Prop} (h : B) : bcase false A B := ⟨h⟩
theorem bT {A B : Prop} (h : A) : bcase true A B := ⟨h⟩
theorem dK {r : List Oper} {q : List Summ} {i : Nat} {done : List Summ} {pm : List Nat} {K : Prop} (h : drawOk r q i done pm = true) (k : K) : condK (drawOk r q i done pm = true) K := condK_of h k
theorem cK {c K : Prop} (h : c) (k : K) : condK c K := ⟨⟨h, k⟩⟩
theorem wK {n : Int} {K : Int → Prop} (h0 : -9223372036854775808 ≤ n) (h1 : n ≤ 9223372036854775807) (k : K n) : wrapK .i64 n K := wrapK_in (w64 h0 h1) k
theorem drop_cons {α} {l : List α} {k : Nat} (h : k < l.length) : l.drop k = l[k] :: l.drop (k + 1) := List.drop_eq_getElem_cons h
theorem take_snoc {α} {l : List α} {k : Nat} (h : k < l.length) : l.take (k + 1) = l.take k ++ [l[k]] := by
  rw [List.take_add_one]; simp [h]

theorem getC_of {c : List AV} {j : Nat} {K : AV → Prop} {x : AV} (h : c[j]? = some x) (k : force x K) : getC c j K := by
  unfold getC; rw [h]; exact k
theorem bif_of {b : Bool} {A : Prop} (h : b = true) (k : A) : bif b then A else False := by rw [h]; exact k
/-- what is told -/
theorem ret_of {o : Option D} {d d' : D} (h : o = some d') (e : d' = d) : o = some d := by rw [h, e]
@[simp] theorem oneD1 (d : D) : oneD [d] = d := rfl
theorem roomK_le {n bytes : Nat} {K : Prop} (m c : Nat) (hn : n ≤ m) (hb : bytes ≤ c) (h1 : m * c ≤ 35184372088832) (h2 : m ≤ 35184372088832) (k : K) : roomK n bytes K :=
  roomK_of (Nat.le_trans (Nat.mul_le_mul hn hb) h1) (Nat.le_trans hn h2) k
theorem params_ok {P : Program} {T : Tab} {fn : Func} (h : (fn.params.toList.all fun t => Nat.blt t P.types.size && plainT T 12 t) = true) : ∀ t ∈ fn.params.toList, t < P.types.size ∧ ∃ m, plainT T m t = true := by
  intro t ht
  have := List.all_eq_true.1 h t ht
  simp only [Bool.and_eq_true] at this
  exact ⟨Nat.le_of_ble_eq_true this.1, 12, this.2⟩
def sliceSize (P : Program) : Bool := (List.range P.types.size).all fun t => match P.underlying t with
  | some (.slice e) => Nat.blt 0 (P.cellsOf e)
  | _ => true
theorem sliceSize_out {P : Program} (h : sliceSize P = true) : ∀ t e, t < P.types.size → P.underlying t = some (.slice e) → 0 < P.cellsOf e := by
  intro t e ht hu
  have := (List.all_eq_true.1 h) t (List.mem_range.2 ht)
  rw [hu] at this
  exact Nat.le_of_ble_eq_true this
/-! ### what an argument can be -/
theorem fit_int {T : Tab} {n : Nat} {t : TypeId} {k : IntKind} {ds : List D} (hk : (T t).k = .int k) (h : Fit T n t ds) : ∃ x, ds = [.int k x] ∧ (Lit.int k x).wf = true := by
  cases n with
  | zero => exact h.elim
  | succ n => simp only [Fit, hk] at h; exact h
theorem fit_bool {T : Tab} {n : Nat} {t : TypeId} {ds : List D} (hk : (T t).k = .bool) (h : Fit T n t ds) : ∃ b, ds = [.bool b] := by
  cases n with
  | zero => exact h.elim
  | succ n => simp only [Fit, hk] at h; exact h
theorem fit_str {T : Tab} {n : Nat} {t : TypeId} {ds : List D} (hk : (T t).k = .str) (h : Fit T n t ds) : ∃ s : ByteArray, ds = [.str s] ∧ s.size ≤ maxLen := by
  cases n with
  | zero => exact h.elim
  | succ n => simp only [Fit, hk] at h; exact h
theorem fit_slice {T : Tab} {n : Nat} {t e : TypeId} {ds : List D} (hk : (T t).k = .slice e) (h : Fit T n t ds) : ∃ m, ∃ l : List (List D), ds = [.lst l] ∧ l.length ≤ maxLen ∧ ∀ x ∈ l, Fit T m e x := by
  cases n with
  | zero => exact h.elim
  | succ n => simp only [Fit, hk] at h; exact ⟨n, h⟩
theorem fit_struct {T : Tab} {n : Nat} {t : TypeId} {fs : List (Nat × TypeId)} {ds : List D} (hk : (T t).k = .struct fs) (h : Fit T n t ds) : ∃ m, FitFs (Fit T m) fs ds := by
  cases n with
  | zero => exact h.elim
  | succ n => simp only [Fit, hk] at h; exact ⟨n, h⟩
theorem fit_arr {T : Tab} {n : Nat} {t e : TypeId} {k : Nat} {ds : List D} (hk : (T t).k = .arr k e) (h : Fit T n t ds) : ∃ m, FitN (Fit T m e) k ds := by
  cases n with
  | zero => exact h.elim
  | succ n => simp only [Fit, hk] at h; exact ⟨n, h⟩
theorem fitV_one {T : Tab} {n : Nat} {t : TypeId} {d : D} (ha : (T t).k.agg = false) (h : FitV T n t d) : Fit T n t [d] := by
  unfold FitV at h; rw [ha] at h; simpa using h
theorem fitV_agg {T : Tab} {n : Nat} {t : TypeId} {d : D} (ha : (T t).k.agg = true) (h : FitV T n t d) : ∃ ds, d = .agg ds ∧ Fit T n t ds := by
  unfold FitV at h; rw [ha] at h; simpa using h
theorem fitV_int {T : Tab} {n : Nat} {t : TypeId} {k : IntKind} {d : D} (hk : (T t).k = .int k) (h : FitV T n t d) : ∃ x, d = .int k x ∧ (Lit.int k x).wf = true := by
  obtain ⟨x, e, h⟩ := fit_int hk (fitV_one (by rw [hk]; rfl) h)
  exact ⟨x, (List.cons.inj e).1, h⟩
theorem fitV_bool {T : Tab} {n : Nat} {t : TypeId} {d : D} (hk : (T t).k = .bool) (h : FitV T n t d) : ∃ b, d = .bool b := by
  obtain ⟨x, e⟩ := fit_bool hk (fitV_one (by rw [hk]; rfl) h)
  exact ⟨x, (List.cons.inj e).1⟩
theorem exists_map {α : Type} {f : α → List D} {Q : α → Prop} : ∀ {l : List (List D)}, (∀ x ∈ l, ∃ a, x = f a ∧ Q a) → ∃ r : List α, l = r.map f ∧ ∀ a ∈ r, Q a
  | [], _ => ⟨[], rfl, fun a h => by cases h⟩
  | x :: l, h => by
    obtain ⟨a, rfl, ha⟩ := h x (List.mem_cons_self ..)
    obtain ⟨r, rfl, hr⟩ := exists_map (l := l) fun y hy => h y (List.mem_cons_of_mem _ hy)
    exact ⟨a :: r, rfl, fun b hb => by
      rcases List.mem_cons.1 hb with rfl | hb
      · exact ha
      · exact hr b hb⟩
theorem fitV_rows {α : Type} {f : α → List D} {Q : α → Prop} {T : Tab} {n : Nat} {t e : TypeId} {d : D} (hk : (T t).k = .slice e) (h : FitV T n t d) (hf : ∀ m x, Fit T m e x → ∃ a, x = f a ∧ Q a) :
    ∃ r : List α, d = .lst (r.map f) ∧ r.length ≤ maxLen ∧ ∀ a ∈ r, Q a := by
  obtain ⟨m, l, e1, e2, e3⟩ := fit_slice hk (fitV_one (by rw [hk]; rfl) h)
  obtain ⟨r, rfl, hr⟩ := exists_map fun x hx => hf m x (e3 x hx)
  exact ⟨r, (List.cons.inj e1).1, by simpa using e2, hr⟩
theorem wf_i64 {x : Int} (h : (Lit.int .i64 x).wf = true) : -9223372036854775808 ≤ x ∧ x ≤ 9223372036854775807 := by
  simpa [Lit.wf, IntKind.min, IntKind.max, IntKind.signed, IntKind.bits] using h
theorem wf_u8 {x : Int} (h : (Lit.int .u8 x).wf = true) : 0 ≤ x ∧ x ≤ 255 := by
  simpa [Lit.wf, IntKind.min, IntKind.max, IntKind.signed, IntKind.bits] using h
theorem fit_rows {α : Type} {f : α → List D} {Q : α → Prop} {T : Tab} {n : Nat} {t e : TypeId} {ds : List D} (hk : (T t).k = .slice e) (h : Fit T n t ds) (hf : ∀ m x, Fit T m e x → ∃ a, x = f a ∧ Q a) :
    ∃ r : List α, ds = [.lst (r.map f)] ∧ r.length ≤ maxLen ∧ ∀ a ∈ r, Q a := by
  obtain ⟨m, l, e1, e2, e3⟩ := fit_slice hk h
  obtain ⟨r, rfl, hr⟩ := exists_map fun x hx => hf m x (e3 x hx)
  exact ⟨r, e1, by simpa using e2, hr⟩
theorem fit_two {T : Tab} {n : Nat} {t a b : TypeId} {f g : Nat} {k l : IntKind} {ds : List D} (hk : (T t).k = .struct [(f, a), (g, b)]) (ha : (T a).k = .int k) (hb : (T b).k = .int l) (h : Fit T n t ds) :
    ∃ x y, ds = [.int k x, .int l y] ∧ (Lit.int k x).wf = true ∧ (Lit.int l y).wf = true := by
  obtain ⟨m, u, v, rfl, h1, v1, w1, rfl, h2, rfl⟩ := fit_struct hk h
  obtain ⟨x, rfl, hx⟩ := fit_int ha h1
  obtain ⟨y, rfl, hy⟩ := fit_int hb h2
  exact ⟨x, y, rfl, hx, hy⟩
/-- pairs of ints -/
def encI (p : Int × Int) : List D := [.int .i64 p.1, .int .i64 p.2]
def encIs (l : List (Int × Int)) : D := .lst (l.map encI)
theorem encI_len {l : List (Int × Int)} {e : List D} (h : e ∈ l.map encI) : e.length = 2 := by
  simp only [List.mem_map] at h
  obtain ⟨x, _, rfl⟩ := h
  rfl
theorem encI_ok : ∀ (l : List (Int × Int)), okRows 2 (l.map encI) = true
  | [] => rfl
  | _ :: r => encI_ok r
/-- rows of ints -/
def enc1 (n : Int) : List D := [.int .i64 n]
def encNs (l : List Int) : D := .lst (l.map enc1)
theorem enc1_len {l : List Int} {e : List D} (h : e ∈ l.map enc1) : e.length = 1 := by
  simp only [List.mem_map] at h
  obtain ⟨x, _, rfl⟩ := h
  rfl
theorem enc1_ok : ∀ (l : List Int), okRows 1 (l.map enc1) = true
  | [] => rfl
  | _ :: r => enc1_ok r
end Go.Lk


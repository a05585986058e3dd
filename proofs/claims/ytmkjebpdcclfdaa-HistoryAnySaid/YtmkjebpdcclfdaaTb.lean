/-
  HistoryBegins, HistoryTurned, HistoryAny, HistoryLate, HistoryOps.
-/
import Derived.Test.YtmkjebpdcclfdaaTa
set_option linter.unusedSectionVars false
set_option linter.unusedSimpArgs false
set_option linter.unusedVariables false
set_option linter.unnecessarySimpa false
namespace Go.Lk
open Go Go.Proofs Go.RowKit Go.Lk.St

/-! ### what a check of a part, of a permutation, and of a turned event tells -/
theorem doM_right {m : List Pg} {o : Op} (h : mapB m = true) : mapB (doM m o).1 = true := by
  have hM := mr_iff.1 (mapB_t.1 h)
  have up : ∀ {l : List Pg}, MR l → mapB l = true := fun h => mapB_t.2 (mr_iff.2 h)
  rw [doM]
  by_cases e0 : mapB m = false ∨ o.1 < 1 ∨ 4 < o.1 ∨ o.2.1 < 1 ∨ 16 < o.2.1
  · rw [if_pos e0]; exact h
  rw [if_neg e0]
  by_cases k1 : o.1 = 1
  · rw [if_pos k1]
    cases hb : plB m o.2.1 with
    | true => rw [if_pos rfl]; exact h
    | false =>
      rw [if_neg (by decide)]
      exact up (mr_ins (q := (o.2.1, 1, ByteArray.empty)) hM hb (pgR_out.2 ⟨by simp only []; omega, by simp only []; omega, show (1 : Int) ≤ 1 by decide, show (1 : Int) ≤ 2147483647 by decide, show ByteArray.empty.size ≤ 16 by decide⟩))
  rw [if_neg k1]
  cases hb : plB m o.2.1 with
  | false => rw [if_pos rfl]; exact h
  | true =>
    rw [if_neg (by decide)]
    obtain ⟨hk, hk1⟩ := plB_t hb
    rw [List.getElem?_eq_getElem hk]
    have hv := pgR_out.1 (hM.one _ (List.getElem_mem hk))
    simp only []
    split
    · exact h
    split
    · exact up (mr_del hM _)
    split
    · exact h
    split
    · exact h
    · exact up (mr_set hM hk (q := (m[plN m o.2.1].1, m[plN m o.2.1].2.1 + 1, o.2.2)) rfl (pgR_out.2 ⟨by simp only []; omega, by simp only []; omega, by simp only []; omega, by simp only []; omega, by simp only []; omega⟩))
theorem doM_e {m : List Pg} {o : Op} : (doM m o).2.1 ≠ 8 := by
  rw [doM]
  repeat' split
  all_goals (simp only []; decide)
theorem do_noFail {m : List Pg} {o : Op} : (doM m o).2 ≠ failR := fun h => doM_e (congrArg Prod.fst h)
theorem chkGo_shift : ∀ (s : List Ev) (m : List Pg) (i : Nat), chkGo m i s = ((chkGo m 0 s).1, i + (chkGo m 0 s).2.1, (chkGo m 0 s).2.2)
  | [], m, i => rfl
  | v :: r, m, i => by
    rw [chkGo, chkGo]
    split
    · rw [chkGo_shift r m (i + 1), chkGo_shift r m (0 + 1)]
      simp only [Prod.mk.injEq, true_and, and_true]; omega
    · split
      · rw [chkGo_shift r _ (i + 1), chkGo_shift r _ (0 + 1)]
        simp only [Prod.mk.injEq, true_and, and_true]; omega
      · rfl
theorem chkGo_app : ∀ (a b : List Ev) (m : List Pg) (i : Nat), (chkGo m i (a ++ b)).2.2 = 0 → chkGo m i a = ((chkGo m i a).1, i + a.length, 0) ∧ chkGo (chkGo m i a).1 (i + a.length) b = chkGo m i (a ++ b)
  | [], b, m, i, _ => ⟨rfl, rfl⟩
  | v :: r, b, m, i, h => by
    rw [List.cons_append, chkGo] at h
    rw [List.cons_append, chkGo, chkGo]
    have el : i + (v :: r).length = (i + 1) + r.length := by simp only [List.length_cons]; omega
    rw [el]
    split
    · rename_i h1
      rw [if_pos h1] at h
      exact chkGo_app r b m (i + 1) h
    · rename_i h1
      rw [if_neg h1] at h
      split
      · rename_i h2
        rw [if_pos h2] at h
        exact chkGo_app r b _ (i + 1) h
      · rename_i h2
        rw [if_neg h2] at h
        exact absurd h (show ¬ (2 : Int) = 0 by decide)
theorem chkGo_right : ∀ (s : List Ev) (m : List Pg) (i : Nat), mapB m = true → mapB (chkGo m i s).1 = true
  | [], m, i, h => h
  | v :: r, m, i, h => by
    rw [chkGo]
    split
    · exact chkGo_right r m _ h
    split
    · exact chkGo_right r _ _ (doM_right h)
    · exact h
theorem chkGo_e : ∀ (s : List Ev) (m : List Pg) (i : Nat), (chkGo m i s).2.2 = 0 ∨ (chkGo m i s).2.2 = 2
  | [], m, i => .inl rfl
  | v :: r, m, i => by
    rw [chkGo]
    split
    · exact chkGo_e r m _
    split
    · exact chkGo_e r _ _
    · exact .inr rfl
theorem chkM_of {m : List Pg} {l : List Ev} (h1 : l.length ≤ 400) (h2 : mapB m = true) (h3 : AP l) : chkM m l = chkGo m 0 (srt leD l) := by
  rw [chkM, if_neg (by omega), if_neg (by rw [h2]; decide), if_neg (by rw [apB_t.2 h3]; decide)]
theorem chkM_out {m : List Pg} {l : List Ev} (h : (chkM m l).2.2 = 0) : l.length ≤ 400 ∧ mapB m = true ∧ AP l := by
  rw [chkM] at h
  split at h
  · exact absurd h (show ¬ (5 : Int) = 0 by decide)
  split at h
  · exact absurd h (show ¬ (1 : Int) = 0 by decide)
  split at h
  · exact absurd h (show ¬ (2 : Int) = 0 by decide)
  rename_i h1 h2 h3
  exact ⟨by omega, by simpa using h2, apB_t.1 (by simpa using h3)⟩
theorem chkM_e {m : List Pg} {l : List Ev} (h : (chkM m l).2.2 ≠ 0) : (chkM m l).2.1 = 0 ∨ (chkM m l).2.2 = 2 := by
  rw [chkM] at h ⊢
  split
  · exact .inl rfl
  split
  · exact .inl rfl
  split
  · exact .inl rfl
  rename_i h1 h2 h3
  rw [if_neg h1, if_neg h2, if_neg h3] at h
  exact .inr ((chkGo_e _ _ _).resolve_left h)
theorem AP.sub {l r : List Ev} (h : r.Sublist l) (a : AP l) : AP r := ⟨fun x hx => a.ok x (h.subset hx), a.rd.sublist h, a.rw_.sublist h⟩
theorem tpD : TP leD := ⟨fun x y => by simp only [leD, decide_eq_true_eq]; omega, fun x y z => by simp only [leD, decide_eq_true_eq]; omega⟩
theorem ap_srt {l : List Ev} : AP (srt leD l) ↔ AP l := AP.perm (srt_perm l)

/-- any beginning can be true, and so can the rest behind it -/
theorem begins_p {m : List Pg} {l : List Ev} {k : Nat} (he : (chkM m l).2.2 = 0) (hk : k ≤ l.length) :
    (chkM m l).2.1 = l.length ∧ (chkM m ((srt leD l).take k)).2 = (k, 0) ∧ chkM (chkM m ((srt leD l).take k)).1 ((srt leD l).drop k) = ((chkM m l).1, l.length - k, 0) := by
  obtain ⟨h1, h2, h3⟩ := chkM_out he
  have hC := chkM_of h1 h2 h3
  obtain ⟨s, hs⟩ : ∃ s, srt leD l = s := ⟨_, rfl⟩
  have hsl : s.length = l.length := by rw [← hs, srt_len]
  have hso : Sorted leD s := hs ▸ srt_sorted tpD l
  have hap : AP s := hs ▸ ap_srt.2 h3
  rw [hs] at hC ⊢
  rw [hC] at he ⊢
  have hl1 : (s.take k).length = k := by rw [List.length_take]; omega
  have hl2 : (s.drop k).length = l.length - k := by rw [List.length_drop]; omega
  have hall := chkGo_app s [] m 0 (by rw [List.append_nil]; exact he)
  rw [List.append_nil] at hall
  have hsp := chkGo_app (s.take k) (s.drop k) m 0 (by rw [List.take_append_drop]; exact he)
  rw [List.take_append_drop, hl1] at hsp
  have ht : srt leD (s.take k) = s.take k := srt_id tpD (hso.sublist (List.take_sublist ..))
  have hd : srt leD (s.drop k) = s.drop k := srt_id tpD (hso.sublist (List.drop_sublist ..))
  have c1 : chkM m (s.take k) = chkGo m 0 (s.take k) := by rw [chkM_of (by omega) h2 (hap.sub (List.take_sublist ..)), ht]
  have c2 : chkM (chkGo m 0 (s.take k)).1 (s.drop k) = chkGo (chkGo m 0 (s.take k)).1 0 (s.drop k) := by rw [chkM_of (by omega) (chkGo_right _ _ _ h2) (hap.sub (List.drop_sublist ..)), hd]
  rw [c1, c2]
  refine ⟨?_, ?_, ?_⟩
  · rw [hall.1]; simp only []; omega
  · rw [hsp.1]; simp only [Nat.zero_add]
  · have q := hsp.2
    rw [chkGo_shift] at q
    have q1 := congrArg Prod.fst q
    have q2 := congrArg (fun x => x.2.1) q
    have q3 := congrArg (fun x => x.2.2) q
    simp only [] at q1 q2 q3
    rw [hall.1] at q2
    simp only [] at q2
    refine Prod.ext q1 (Prod.ext ?_ (q3.trans he))
    simp only []
    omega

/-- an event with another version -/
def turnE (v : Ev) (w : Int) : Ev := ⟨v.who, v.kind, v.id, v.body, v.e, v.pid, w, v.text, v.began, v.done, v.ended⟩
theorem ap_set {s : List Ev} {k : Nat} (hk : k < s.length) {w : Int} (h : AP s) : AP (s.set k (turnE s[k] w)) := by
  have ok : ∀ (R : Ev → Ev → Prop), (∀ x y x' y' : Ev, x.who = x'.who → x.began = x'.began → x.done = x'.done → x.ended = x'.ended → y.who = y'.who → y.began = y'.began → y.done = y'.done → y.ended = y'.ended → R x y → R x' y') → s.Pairwise R → (s.set k (turnE s[k] w)).Pairwise R := by
    intro R hR hp
    rw [List.pairwise_iff_getElem] at hp ⊢
    intro i j hi hj hij
    rw [List.length_set] at hi hj
    have := hp i j hi hj hij
    rw [List.getElem_set, List.getElem_set]
    split <;> split
    · rename_i a b; subst a; subst b; exact absurd hij (Nat.lt_irrefl _)
    · rename_i a b; subst a; exact hR s[k] s[j] _ _ rfl rfl rfl rfl rfl rfl rfl rfl this
    · rename_i a b; subst b; exact hR s[i] s[k] _ _ rfl rfl rfl rfl rfl rfl rfl rfl this
    · exact this
  refine ⟨fun x hx => ?_, ok _ (fun x y x' y' a1 a2 a3 a4 b1 b2 b3 b4 hr => ?_) h.rd, ok _ (fun x y x' y' a1 a2 a3 a4 b1 b2 b3 b4 hr => ?_) h.rw_⟩
  · rcases List.mem_or_eq_of_mem_set hx with q | q
    · exact h.ok x q
    · subst q; exact h.ok s[k] (List.getElem_mem hk)
  · unfold RD at hr ⊢; omega
  · unfold RW at hr ⊢; omega
theorem sorted_set {s : List Ev} {k : Nat} (hk : k < s.length) {w : Int} (h : Sorted leD s) : Sorted leD (s.set k (turnE s[k] w)) := by
  unfold Sorted at h ⊢
  rw [List.pairwise_iff_getElem] at h ⊢
  intro i j hi hj hij
  rw [List.length_set] at hi hj
  have := h i j hi hj hij
  rw [List.getElem_set, List.getElem_set]
  split <;> split
  · rename_i a b; subst a; subst b; exact absurd hij (Nat.lt_irrefl _)
  · rename_i a b; subst a; exact this
  · rename_i a b; subst b; exact this
  · exact this
theorem turned_p {m : List Pg} {l : List Ev} {k : Nat} {w : Int} (he : (chkM m l).2.2 = 0) (hk : k < (srt leD l).length) (hw : w ≠ ((srt leD l)[k]).ver) :
    (chkM m ((srt leD l).set k (turnE (srt leD l)[k] w))).2 = (k, 2) := by
  obtain ⟨h1, h2, h3⟩ := chkM_out he
  have hC := chkM_of h1 h2 h3
  obtain ⟨s, hs⟩ : ∃ s, srt leD l = s := ⟨_, rfl⟩
  have hsl : s.length = l.length := by rw [← hs, srt_len]
  have hso : Sorted leD s := hs ▸ srt_sorted tpD l
  have hap : AP s := hs ▸ ap_srt.2 h3
  simp only [hs] at hC hk hw ⊢
  rw [hC] at he
  have hl1 : (s.take k).length = k := by rw [List.length_take]; omega
  rw [chkM_of (by rw [List.length_set]; omega) h2 (ap_set hk hap), srt_id tpD (sorted_set hk hso)]
  have hsp := chkGo_app (s.take k) (s.drop k) m 0 (by rw [List.take_append_drop]; exact he)
  rw [List.take_append_drop, hl1, Nat.zero_add] at hsp
  rw [List.drop_eq_getElem_cons hk] at hsp
  have eset : s.set k (turnE s[k] w) = s.take k ++ turnE s[k] w :: s.drop (k + 1) := List.set_eq_take_append_cons_drop .. |>.trans (if_pos hk)
  obtain ⟨m1, hm1⟩ : ∃ m1, (chkGo m 0 (s.take k)).1 = m1 := ⟨_, rfl⟩
  rw [hm1] at hsp
  have e2 := hsp.2
  have go : ∀ (a : List Ev) (m : List Pg) (i : Nat), (chkGo m i a).2.2 = 0 → ∀ b, chkGo m i (a ++ b) = chkGo (chkGo m i a).1 (i + a.length) b := by
    intro a
    induction a with
    | nil => intro m i _ b; rfl
    | cons v r ih =>
      intro m i h b
      have el : i + (v :: r).length = (i + 1) + r.length := by simp only [List.length_cons]; omega
      rw [chkGo] at h
      rw [List.cons_append, chkGo, chkGo, el]
      split
      · rename_i q; rw [if_pos q] at h; exact ih _ _ h b
      · rename_i q; rw [if_neg q] at h
        split
        · rename_i q2; rw [if_pos q2] at h; exact ih _ _ h b
        · rename_i q2; rw [if_neg q2] at h; exact absurd h (show ¬ (2 : Int) = 0 by decide)
  rw [eset, go _ _ _ (by rw [hsp.1]) _, hm1, hl1, Nat.zero_add]
  have ew : ∀ r : Res, resE s[k] = r → resE (turnE s[k] w) ≠ r := fun r h1 h2 => hw (congrArg (fun x : Res => x.2.2.1) (h2.trans h1.symm))
  have ne : resE (turnE s[k] w) ≠ failR ∧ (doM m1 (opE (turnE s[k] w))).2 ≠ resE (turnE s[k] w) := by
    by_cases hf : resE s[k] = failR
    · refine ⟨ew _ hf, fun q => doM_e (m := m1) (o := opE (turnE s[k] w)) ?_⟩
      rw [q]
      exact congrArg (fun x : Res => x.1) hf
    · rw [chkGo, if_neg hf] at e2
      by_cases hd : (doM m1 (opE s[k])).2 = resE s[k]
      · refine ⟨fun q => ?_, fun q => ew _ hd.symm q.symm⟩
        have q1 : s[k].e = 8 := congrArg (fun x : Res => x.1) q
        exact doM_e (m := m1) (o := opE s[k]) (by rw [hd]; exact q1)
      · rw [if_neg hd] at e2
        rw [← e2] at he
        exact absurd he (show ¬ (2 : Int) = 0 by decide)
  rw [chkGo, if_neg ne.1, if_neg ne.2]

/-- in whatever order -/
theorem uniq_perm : ∀ {a b : List Ev}, Sorted leD a → Sorted leD b → a.Pairwise RD → a.Perm b → a = b
  | [], b, _, _, _, hp => (List.nil_perm.1 hp).symm
  | x :: r, [], _, _, _, hp => absurd hp.symm (by simp)
  | x :: r, y :: t, ha, hb, hd, hp => by
    have hx : x ∈ y :: t := hp.mem_iff.1 (List.mem_cons_self ..)
    have hy : y ∈ x :: r := hp.mem_iff.2 (List.mem_cons_self ..)
    have exy : x = y := by
      rcases List.mem_cons.1 hx with q | q
      · exact q
      rcases List.mem_cons.1 hy with q2 | q2
      · exact q2.symm
      have a1 := (List.pairwise_cons.1 ha).1 y q2
      have a2 := (List.pairwise_cons.1 hb).1 x q
      have a3 := (List.pairwise_cons.1 hd).1 y q2
      simp only [leD, decide_eq_true_eq, RD] at a1 a2 a3
      exact absurd (by omega) a3
    subst exy
    rw [uniq_perm (List.pairwise_cons.1 ha).2 (List.pairwise_cons.1 hb).2 (List.pairwise_cons.1 hd).2 ((List.perm_cons _).1 hp)]
theorem any_p {m : List Pg} {l r : List Ev} (hp : r.Perm l) : apB r = apB l ∧ chkM m r = chkM m l := by
  have ha : apB r = apB l := by
    cases h : apB l with
    | true => exact apB_t.2 ((AP.perm hp).2 (apB_t.1 h))
    | false => exact apB_f.2 fun q => apB_f.1 h ((AP.perm hp).1 q)
  refine ⟨ha, ?_⟩
  rw [chkM, chkM, ha, hp.length_eq]
  split
  · rfl
  split
  · rfl
  split
  · rfl
  rename_i h
  have hA : AP l := apB_t.1 (by simpa using h)
  rw [uniq_perm (srt_sorted tpD r) (srt_sorted tpD l) ((pw_srt rd_sym leD r).2 ((AP.perm hp).2 hA).rd) (((srt_perm r).trans hp).trans (srt_perm l).symm)]
/-- turned round, and begun at a place -/
def rot (l : List Ev) (k : Nat) : List Ev := (l.take (k + 1)).reverse ++ (l.drop (k + 1)).reverse
theorem rot_perm (l : List Ev) (k : Nat) : (rot l k).Perm l := by
  have := ((l.take (k + 1)).reverse_perm).append ((l.drop (k + 1)).reverse_perm)
  rwa [List.take_append_drop] at this
theorem rot_len (l : List Ev) (k : Nat) : (rot l k).length = l.length := (rot_perm l k).length_eq
theorem rot_get {l : List Ev} {k i : Nat} (hk : k < l.length) (hi : i < l.length) : (rot l k)[i]'(by rw [rot_len]; exact hi) = l[(l.length - i + k) % l.length]'(Nat.mod_lt _ (by omega)) := by
  have hl1 : (l.take (k + 1)).reverse.length = k + 1 := by rw [List.length_reverse, List.length_take]; omega
  have key : ∀ j : Nat, (hj : j < l.length) → (l.length - i + k) % l.length = j → l[(l.length - i + k) % l.length]'(Nat.mod_lt _ (by omega)) = l[j] := fun j hj e => by simp only [e]
  by_cases h : i < k + 1
  · have e : (l.length - i + k) % l.length = k - i := by
      rw [show l.length - i + k = l.length + (k - i) by omega, Nat.add_mod_left, Nat.mod_eq_of_lt (by omega)]
    rw [key _ (by omega) e]
    simp only [rot]
    rw [List.getElem_append_left (by rw [hl1]; exact h), List.getElem_reverse, List.getElem_take]
    have : (l.take (k + 1)).length - 1 - i = k - i := by rw [List.length_take]; omega
    simp only [this]
  · have e : (l.length - i + k) % l.length = l.length - i + k := Nat.mod_eq_of_lt (by omega)
    rw [key _ (by omega) e]
    simp only [rot]
    rw [List.getElem_append_right (by rw [hl1]; omega), List.getElem_reverse, List.getElem_drop]
    have : k + 1 + ((l.drop (k + 1)).length - 1 - (i - (l.take (k + 1)).reverse.length)) = l.length - i + k := by rw [hl1, List.length_drop]; omega
    simp only [this]

/-- operations, one behind the other -/
def evO (i : Nat) (o : Op) (r : Res) : Ev := ⟨i, o.1, o.2.1, o.2.2, r.1, r.2.1, r.2.2.1, r.2.2.2, 0, 1 + i, 1000⟩
noncomputable def evsO (m : List Pg) (b : Nat) : List Op → List Ev
  | [] => []
  | o :: r => evO b o (doM m o).2 :: evsO (doM m o).1 (b + 1) r
theorem evsO_len : ∀ (w : List Op) (m : List Pg) (b : Nat), (evsO m b w).length = w.length
  | [], _, _ => rfl
  | o :: r, m, b => by simp only [evsO, List.length_cons, evsO_len r]
theorem evsO_get : ∀ (w : List Op) (m : List Pg) (b k : Nat) (hk : k < w.length), (evsO m b w)[k]'(by rw [evsO_len]; exact hk) = evO (b + k) w[k] ((allM m w).2[k]'(by rw [allM_len2]; exact hk))
  | o :: r, m, b, 0, hk => rfl
  | o :: r, m, b, k + 1, hk => by
    have := evsO_get r (doM m o).1 (b + 1) k (by simpa using hk)
    simp only [evsO, allM, List.getElem_cons_succ]
    rw [this, show b + 1 + k = b + (k + 1) by omega]
theorem evsO_go : ∀ (w : List Op) (m : List Pg) (b i : Nat), chkGo m i (evsO m b w) = ((allM m w).1, i + w.length, 0)
  | [], m, b, i => rfl
  | o :: r, m, b, i => by
    rw [evsO, chkGo, if_neg (show ¬ resE (evO b o (doM m o).2) = failR from do_noFail), if_pos (show (doM m (opE (evO b o (doM m o).2))).2 = resE (evO b o (doM m o).2) from rfl)]
    show chkGo (doM m o).1 (i + 1) _ = _
    rw [evsO_go r (doM m o).1 (b + 1) (i + 1), allM]
    simp only [List.length_cons, Prod.mk.injEq, true_and, and_true]; omega
theorem ops_p {m : List Pg} {w : List Op} (hm : mapB m = true) (hw : w.length ≤ 60) : chkM m (evsO m 0 w) = ((allM m w).1, w.length, 0) := by
  have hl := evsO_len w m 0
  have get : ∀ i, (hi : i < (evsO m 0 w).length) → ∃ o r, (evsO m 0 w)[i] = evO i o r := fun i hi => ⟨_, _, by rw [evsO_get w m 0 i (by omega), Nat.zero_add]⟩
  have hap : AP (evsO m 0 w) := by
    refine ⟨fun x hx => ?_, ?_, ?_⟩
    · obtain ⟨i, hi, rfl⟩ := List.mem_iff_getElem.1 hx
      obtain ⟨o, r, e⟩ := get i hi
      rw [e]; unfold evOk evO; simp only []; omega
    · rw [List.pairwise_iff_getElem]
      intro i j hi hj hij
      obtain ⟨o, r, e⟩ := get i hi
      obtain ⟨o', r', e'⟩ := get j hj
      rw [e, e']; unfold RD evO; simp only []; intro q; omega
    · rw [List.pairwise_iff_getElem]
      intro i j hi hj hij
      obtain ⟨o, r, e⟩ := get i hi
      obtain ⟨o', r', e'⟩ := get j hj
      rw [e, e']; unfold RW evO; intro q; simp only [] at q; omega
  have hso : Sorted leD (evsO m 0 w) := by
    unfold Sorted
    rw [List.pairwise_iff_getElem]
    intro i j hi hj hij
    obtain ⟨o, r, e⟩ := get i hi
    obtain ⟨o', r', e'⟩ := get j hj
    rw [e, e']; exact decide_eq_true (show 1 + (i : Int) ≤ 1 + (j : Int) by omega)
  rw [chkM_of (by omega) hm hap, srt_id tpD hso, evsO_go, Nat.zero_add]
end Go.Lk

set_option linter.unusedSimpArgs false
set_option linter.unusedVariables false
set_option linter.unnecessarySimpa false
namespace Go.Lk
open Go Go.Proofs Go.RowKit Go.Lk.St

def evL (began done ended who : Int) : Ev := ⟨who, 2, 1, ByteArray.empty, 3, 0, 0, ByteArray.empty, began, done, ended⟩
theorem ap_L {b d e w : Int} : apB [evL b d e w] = decide (b < d ∧ d < e) := by
  by_cases h : b < d ∧ d < e
  · rw [decide_eq_true h]
    exact apB_t.2 ⟨fun x hx => by rw [List.mem_singleton] at hx; subst hx; exact h, List.pairwise_singleton _ _, List.pairwise_singleton _ _⟩
  · rw [decide_eq_false h]
    exact apB_f.2 fun a => h (a.ok _ (List.mem_singleton.2 rfl))
theorem ap_LL {b d e w : Int} : apB [evL b d e w, evL b d e w] = false := apB_f.2 fun h => by
  have := h.rd
  simp [RD] at this
theorem do_L {b d e w : Int} : doM [] (opE (evL b d e w)) = ([], (3, zP)) := by
  rw [doM, if_neg (by rw [map_nil]; simp [opE, evL]), if_neg (show ¬ (opE (evL b d e w)).1 = 1 by simp [opE, evL]), if_pos (show plB [] (opE (evL b d e w)).2.1 = false from rfl)]
theorem chk_L1 {b d e w : Int} (h : ¬ (b < d ∧ d < e)) : chkM [] [evL b d e w] = ([], 0, 2) := by
  rw [chkM, if_neg (by simp), if_neg (by rw [map_nil]; decide), if_pos (by rw [ap_L, decide_eq_false h])]
theorem chk_L2 {b d e w : Int} (h : b < d ∧ d < e) : chkM [] [evL b d e w] = ([], 1, 0) := by
  rw [chkM, if_neg (by simp), if_neg (by rw [map_nil]; decide), if_neg (by rw [ap_L, decide_eq_true h]; decide)]
  show chkGo [] 0 [evL b d e w] = _
  rw [chkGo, if_neg (by intro q; exact absurd (congrArg Prod.fst q) (show ¬ (3 : Int) = 8 by decide)), do_L, if_pos (show ((([], (3, zP)) : List Pg × Res)).2 = resE (evL b d e w) from rfl), chkGo]
theorem chk_LL {b d e w : Int} : chkM [] [evL b d e w, evL b d e w] = ([], 0, 2) := by
  rw [chkM, if_neg (by simp), if_neg (by rw [map_nil]; decide), if_pos ap_LL]

theorem cells2 {a0 a1 a2 a3 a4 a5 a6 a7 a8 a9 a10 b0 b1 b2 b3 b4 b5 b6 b7 b8 b9 b10 : AV} : splice (splice (zeros T 52 2) (0 * (T 52).size) (cellsOf (.agg [a0, a1, a2, a3, a4, a5, a6, a7, a8, a9, a10]))) (1 * (T 52).size) (cellsOf (.agg [b0, b1, b2, b3, b4, b5, b6, b7, b8, b9, b10])) = [a0, a1, a2, a3, a4, a5, a6, a7, a8, a9, a10, b0, b1, b2, b3, b4, b5, b6, b7, b8, b9, b10] := by kernel_rfl
set_option maxHeartbeats 1000000 in
theorem late_ok (b d e w : Int) : ACall Try.prog 7 [.int .i64 b, .int .i64 d, .int .i64 e, .int .i64 w] (.bool true) := by
  refine acall_of Try.func7 4 rfl (by kernel_rfl) ?_
  conv => whnf
  repeat (first | (refine bcase_f rfl ?_; conv => whnf) | (refine bcase_t rfl ?_; conv => whnf) | (refine condK_draw (by kernel_rfl) ?_; conv => whnf) | (refine condK_of rfl ?_; conv => whnf) | (refine condK_of (by decide) ?_; conv => whnf) | (refine condK_of (by omega) ?_; conv => whnf) | (refine wrapK_in (w64 (by omega) (by omega)) ?_; conv => whnf))
  refine callX_pure (check_ok [] [evL b d e w] (Nat.zero_le _) (by simp)) ?_
  conv => whnf
  repeat (first | (refine bcase_f rfl ?_; conv => whnf) | (refine bcase_t rfl ?_; conv => whnf) | (refine condK_draw (by kernel_rfl) ?_; conv => whnf) | (refine condK_of rfl ?_; conv => whnf) | (refine condK_of (by decide) ?_; conv => whnf) | (refine condK_of (by omega) ?_; conv => whnf) | (refine wrapK_in (w64 (by omega) (by omega)) ?_; conv => whnf))
  by_cases h : b < d ∧ d < e
  · rw [chk_L2 h]
    refine bcase_p (fun g1 => ?_) (fun g1 => ?_) <;> conv => whnf
    · omega
    repeat (first | (refine bcase_f rfl ?_; conv => whnf) | (refine bcase_t rfl ?_; conv => whnf) | (refine condK_draw (by kernel_rfl) ?_; conv => whnf) | (refine condK_of rfl ?_; conv => whnf) | (refine condK_of (by decide) ?_; conv => whnf) | (refine condK_of (by omega) ?_; conv => whnf) | (refine wrapK_in (w64 (by omega) (by omega)) ?_; conv => whnf))
    refine bcase_p (fun g2 => ?_) (fun g2 => ?_) <;> conv => whnf
    · omega
    simp only [killB.cells, killV]
    refine condK_of trivial ?_
    conv => whnf
    simp only [killB.cells, killV]
    refine condK_of trivial ?_
    conv => whnf
    simp only [killB.cells, killV]
    refine condK_of trivial ?_
    conv => whnf
    rw [cells2]
    refine condK_of (by decide) ?_
    conv => whnf
    refine callX_pure (check_ok [] [evL b d e w, evL b d e w] (Nat.zero_le _) (by simp)) ?_
    conv => whnf
    repeat (first | (refine bcase_f rfl ?_; conv => whnf) | (refine bcase_t rfl ?_; conv => whnf) | (refine condK_draw (by kernel_rfl) ?_; conv => whnf) | (refine condK_of rfl ?_; conv => whnf) | (refine condK_of (by decide) ?_; conv => whnf) | (refine condK_of (by omega) ?_; conv => whnf) | (refine wrapK_in (w64 (by omega) (by omega)) ?_; conv => whnf))
    rw [chk_LL]
    repeat (first | (refine bcase_f rfl ?_; conv => whnf) | (refine bcase_t rfl ?_; conv => whnf) | (refine condK_draw (by kernel_rfl) ?_; conv => whnf) | (refine condK_of rfl ?_; conv => whnf) | (refine condK_of (by decide) ?_; conv => whnf) | (refine condK_of (by omega) ?_; conv => whnf) | (refine wrapK_in (w64 (by omega) (by omega)) ?_; conv => whnf))
    refine callX_pure awake_ok ?_
    conv => whnf
    repeat (first | (refine bcase_f rfl ?_; conv => whnf) | (refine bcase_t rfl ?_; conv => whnf) | (refine condK_draw (by kernel_rfl) ?_; conv => whnf) | (refine condK_of rfl ?_; conv => whnf) | (refine condK_of (by decide) ?_; conv => whnf) | (refine condK_of (by omega) ?_; conv => whnf) | (refine wrapK_in (w64 (by omega) (by omega)) ?_; conv => whnf))
    exact ret_of rfl rfl
  · rw [chk_L1 h]
    refine bcase_p (fun g1 => ?_) (fun g1 => ?_) <;> conv => whnf
    · repeat (first | (refine bcase_f rfl ?_; conv => whnf) | (refine bcase_t rfl ?_; conv => whnf) | (refine condK_draw (by kernel_rfl) ?_; conv => whnf) | (refine condK_of rfl ?_; conv => whnf) | (refine condK_of (by decide) ?_; conv => whnf) | (refine condK_of (by omega) ?_; conv => whnf) | (refine wrapK_in (w64 (by omega) (by omega)) ?_; conv => whnf))
      refine callX_pure awake_ok ?_
      conv => whnf
      repeat (first | (refine bcase_f rfl ?_; conv => whnf) | (refine bcase_t rfl ?_; conv => whnf) | (refine condK_draw (by kernel_rfl) ?_; conv => whnf) | (refine condK_of rfl ?_; conv => whnf) | (refine condK_of (by decide) ?_; conv => whnf) | (refine condK_of (by omega) ?_; conv => whnf) | (refine wrapK_in (w64 (by omega) (by omega)) ?_; conv => whnf))
      exact ret_of rfl rfl
    repeat (first | (refine bcase_f rfl ?_; conv => whnf) | (refine bcase_t rfl ?_; conv => whnf) | (refine condK_draw (by kernel_rfl) ?_; conv => whnf) | (refine condK_of rfl ?_; conv => whnf) | (refine condK_of (by decide) ?_; conv => whnf) | (refine condK_of (by omega) ?_; conv => whnf) | (refine wrapK_in (w64 (by omega) (by omega)) ?_; conv => whnf))
    refine bcase_p (fun g2 => ?_) (fun g2 => ?_) <;> conv => whnf
    · repeat (first | (refine bcase_f rfl ?_; conv => whnf) | (refine bcase_t rfl ?_; conv => whnf) | (refine condK_draw (by kernel_rfl) ?_; conv => whnf) | (refine condK_of rfl ?_; conv => whnf) | (refine condK_of (by decide) ?_; conv => whnf) | (refine condK_of (by omega) ?_; conv => whnf) | (refine wrapK_in (w64 (by omega) (by omega)) ?_; conv => whnf))
      refine callX_pure awake_ok ?_
      conv => whnf
      repeat (first | (refine bcase_f rfl ?_; conv => whnf) | (refine bcase_t rfl ?_; conv => whnf) | (refine condK_draw (by kernel_rfl) ?_; conv => whnf) | (refine condK_of rfl ?_; conv => whnf) | (refine condK_of (by decide) ?_; conv => whnf) | (refine condK_of (by omega) ?_; conv => whnf) | (refine wrapK_in (w64 (by omega) (by omega)) ?_; conv => whnf))
      exact ret_of rfl rfl
    omega
end Go.Lk

set_option linter.unusedSimpArgs false
set_option linter.unusedVariables false
set_option linter.unnecessarySimpa false
namespace Go.Lk
open Go Go.Proofs Go.RowKit Go.Lk.St

set_option maxHeartbeats 4000000 in
theorem begins_ok (m : List Pg) (l : List Ev) (n : Nat) (hn : n < 256) (hm : m.length ≤ 9223372036854775807) : ACall Try.prog 4 [.agg [.lst (m.map encP)], .lst (l.map encE), .int .u8 n] (.bool true) := by
  refine acall_of Try.func4 3 rfl (by kernel_rfl) ?_
  conv => whnf
  repeat (first | (refine bcase_f rfl ?_; conv => whnf) | (refine bcase_t rfl ?_; conv => whnf) | (refine condK_draw (by kernel_rfl) ?_; conv => whnf) | (refine condK_of rfl ?_; conv => whnf) | (refine condK_of (by decide) ?_; conv => whnf) | (refine condK_of (by omega) ?_; conv => whnf) | (refine wrapK_in (w64 (by omega) (by omega)) ?_; conv => whnf))
  refine callX_pure (small_ok l) ?_
  conv => whnf
  repeat (first | (refine bcase_f rfl ?_; conv => whnf) | (refine bcase_t rfl ?_; conv => whnf) | (refine condK_draw (by kernel_rfl) ?_; conv => whnf) | (refine condK_of rfl ?_; conv => whnf) | (refine condK_of (by decide) ?_; conv => whnf) | (refine condK_of (by omega) ?_; conv => whnf) | (refine wrapK_in (w64 (by omega) (by omega)) ?_; conv => whnf))
  refine bcase_intro (fun g1 => ?_) (fun g1 => ?_) <;> conv => whnf
  · repeat (first | (refine bcase_f rfl ?_; conv => whnf) | (refine bcase_t rfl ?_; conv => whnf) | (refine condK_draw (by kernel_rfl) ?_; conv => whnf) | (refine condK_of rfl ?_; conv => whnf) | (refine condK_of (by decide) ?_; conv => whnf) | (refine condK_of (by omega) ?_; conv => whnf) | (refine wrapK_in (w64 (by omega) (by omega)) ?_; conv => whnf))
    refine callX_pure awake_ok ?_
    conv => whnf
    repeat (first | (refine bcase_f rfl ?_; conv => whnf) | (refine bcase_t rfl ?_; conv => whnf) | (refine condK_draw (by kernel_rfl) ?_; conv => whnf) | (refine condK_of rfl ?_; conv => whnf) | (refine condK_of (by decide) ?_; conv => whnf) | (refine condK_of (by omega) ?_; conv => whnf) | (refine wrapK_in (w64 (by omega) (by omega)) ?_; conv => whnf))
    exact ret_of rfl rfl
  have hs := smB_t.1 (show smB l = true by simpa using g1)
  have hl := hs.len
  repeat (first | (refine bcase_f rfl ?_; conv => whnf) | (refine bcase_t rfl ?_; conv => whnf) | (refine condK_draw (by kernel_rfl) ?_; conv => whnf) | (refine condK_of rfl ?_; conv => whnf) | (refine condK_of (by decide) ?_; conv => whnf) | (refine condK_of (by omega) ?_; conv => whnf) | (refine wrapK_in (w64 (by omega) (by omega)) ?_; conv => whnf))
  refine callX_pure (pages_ok m hm) ?_
  conv => whnf
  repeat (first | (refine bcase_f rfl ?_; conv => whnf) | (refine bcase_t rfl ?_; conv => whnf) | (refine condK_draw (by kernel_rfl) ?_; conv => whnf) | (refine condK_of rfl ?_; conv => whnf) | (refine condK_of (by decide) ?_; conv => whnf) | (refine condK_of (by omega) ?_; conv => whnf) | (refine wrapK_in (w64 (by omega) (by omega)) ?_; conv => whnf))
  refine bcase_intro (fun g2 => ?_) (fun g2 => ?_) <;> conv => whnf
  · repeat (first | (refine bcase_f rfl ?_; conv => whnf) | (refine bcase_t rfl ?_; conv => whnf) | (refine condK_draw (by kernel_rfl) ?_; conv => whnf) | (refine condK_of rfl ?_; conv => whnf) | (refine condK_of (by decide) ?_; conv => whnf) | (refine condK_of (by omega) ?_; conv => whnf) | (refine wrapK_in (w64 (by omega) (by omega)) ?_; conv => whnf))
    refine callX_pure awake_ok ?_
    conv => whnf
    repeat (first | (refine bcase_f rfl ?_; conv => whnf) | (refine bcase_t rfl ?_; conv => whnf) | (refine condK_draw (by kernel_rfl) ?_; conv => whnf) | (refine condK_of rfl ?_; conv => whnf) | (refine condK_of (by decide) ?_; conv => whnf) | (refine condK_of (by omega) ?_; conv => whnf) | (refine wrapK_in (w64 (by omega) (by omega)) ?_; conv => whnf))
    exact ret_of rfl rfl
  have hp := pgB_t.1 (show pgB m = true by simpa using g2)
  have hpl := hp.len
  repeat (first | (refine bcase_f rfl ?_; conv => whnf) | (refine bcase_t rfl ?_; conv => whnf) | (refine condK_draw (by kernel_rfl) ?_; conv => whnf) | (refine condK_of rfl ?_; conv => whnf) | (refine condK_of (by decide) ?_; conv => whnf) | (refine condK_of (by omega) ?_; conv => whnf) | (refine wrapK_in (w64 (by omega) (by omega)) ?_; conv => whnf))
  refine callX_pure (check_ok m l (by omega) (by omega)) ?_
  conv => whnf
  repeat (first | (refine bcase_f rfl ?_; conv => whnf) | (refine bcase_t rfl ?_; conv => whnf) | (refine condK_draw (by kernel_rfl) ?_; conv => whnf) | (refine condK_of rfl ?_; conv => whnf) | (refine condK_of (by decide) ?_; conv => whnf) | (refine condK_of (by omega) ?_; conv => whnf) | (refine wrapK_in (w64 (by omega) (by omega)) ?_; conv => whnf))
  refine bcase_intro (fun g3 => ?_) (fun g3 => ?_) <;> conv => whnf
  · have he : (chkM m l).2.2 ≠ 0 := by simpa using g3
    have hd := chkM_e he
    refine bcase_intro (fun g4 => ?_) (fun g4 => ?_) <;> conv => whnf
    · repeat (first | (refine bcase_f rfl ?_; conv => whnf) | (refine bcase_t rfl ?_; conv => whnf) | (refine condK_draw (by kernel_rfl) ?_; conv => whnf) | (refine condK_of rfl ?_; conv => whnf) | (refine condK_of (by decide) ?_; conv => whnf) | (refine condK_of (by omega) ?_; conv => whnf) | (refine wrapK_in (w64 (by omega) (by omega)) ?_; conv => whnf))
      refine callX_pure awake_ok ?_
      conv => whnf
      repeat (first | (refine bcase_f rfl ?_; conv => whnf) | (refine bcase_t rfl ?_; conv => whnf) | (refine condK_draw (by kernel_rfl) ?_; conv => whnf) | (refine condK_of rfl ?_; conv => whnf) | (refine condK_of (by decide) ?_; conv => whnf) | (refine condK_of (by omega) ?_; conv => whnf) | (refine wrapK_in (w64 (by omega) (by omega)) ?_; conv => whnf))
      exact ret_of rfl rfl
    · have g4 : (chkM m l).2.1 ≠ 0 := by simpa using g4
      have h2 : (chkM m l).2.2 = 2 := hd.resolve_left g4
      rw [h2]
      repeat (first | (refine bcase_f rfl ?_; conv => whnf) | (refine bcase_t rfl ?_; conv => whnf) | (refine condK_draw (by kernel_rfl) ?_; conv => whnf) | (refine condK_of rfl ?_; conv => whnf) | (refine condK_of (by decide) ?_; conv => whnf) | (refine condK_of (by omega) ?_; conv => whnf) | (refine wrapK_in (w64 (by omega) (by omega)) ?_; conv => whnf))
      refine callX_pure awake_ok ?_
      conv => whnf
      repeat (first | (refine bcase_f rfl ?_; conv => whnf) | (refine bcase_t rfl ?_; conv => whnf) | (refine condK_draw (by kernel_rfl) ?_; conv => whnf) | (refine condK_of rfl ?_; conv => whnf) | (refine condK_of (by decide) ?_; conv => whnf) | (refine condK_of (by omega) ?_; conv => whnf) | (refine wrapK_in (w64 (by omega) (by omega)) ?_; conv => whnf))
      exact ret_of rfl rfl
  have he : (chkM m l).2.2 = 0 := by simpa using g3
  repeat (first | (refine bcase_f rfl ?_; conv => whnf) | (refine bcase_t rfl ?_; conv => whnf) | (refine condK_draw (by kernel_rfl) ?_; conv => whnf) | (refine condK_of rfl ?_; conv => whnf) | (refine condK_of (by decide) ?_; conv => whnf) | (refine condK_of (by omega) ?_; conv => whnf) | (refine wrapK_in (w64 (by omega) (by omega)) ?_; conv => whnf))
  refine callX_own (sort_ok l (by omega)) ?_
  conv => whnf
  repeat (first | (refine bcase_f rfl ?_; conv => whnf) | (refine bcase_t rfl ?_; conv => whnf) | (refine condK_draw (by kernel_rfl) ?_; conv => whnf) | (refine condK_of rfl ?_; conv => whnf) | (refine condK_of (by decide) ?_; conv => whnf) | (refine condK_of (by omega) ?_; conv => whnf) | (refine wrapK_in (w64 (by omega) (by omega)) ?_; conv => whnf))
  refine bcase_f (by simp [srt_len]) ?_
  conv => whnf
  have hml : (l.map encE).length = l.length := List.length_map ..
  repeat (first | (refine bcase_f rfl ?_; conv => whnf) | (refine bcase_t rfl ?_; conv => whnf) | (refine condK_draw (by kernel_rfl) ?_; conv => whnf) | (refine condK_of rfl ?_; conv => whnf) | (refine condK_of (by decide) ?_; conv => whnf) | (refine condK_of (by omega) ?_; conv => whnf) | (refine wrapK_in (w64 (by omega) (by omega)) ?_; conv => whnf))
  refine divK_rem (by omega) (by omega) ?_
  conv => whnf
  obtain ⟨k, hk, hkl⟩ : ∃ k : Nat, (n : Int) % (((l.map encE).length : Int) + 1) = k ∧ k ≤ l.length := by
    have q1 := Int.emod_nonneg (n : Int) (show (((l.map encE).length : Int) + 1) ≠ 0 by omega)
    have q2 := Int.emod_lt_of_pos (n : Int) (show 0 < (((l.map encE).length : Int) + 1) by omega)
    exact ⟨((n : Int) % (((l.map encE).length : Int) + 1)).toNat, by omega, by omega⟩
  rw [hk]
  repeat (first | (refine bcase_f rfl ?_; conv => whnf) | (refine bcase_t rfl ?_; conv => whnf) | (refine condK_draw (by kernel_rfl) ?_; conv => whnf) | (refine condK_of rfl ?_; conv => whnf) | (refine condK_of (by decide) ?_; conv => whnf) | (refine condK_of (by omega) ?_; conv => whnf) | (refine wrapK_in (w64 (by omega) (by omega)) ?_; conv => whnf))
  obtain ⟨q1, q2, q3⟩ := begins_p (k := k) he hkl
  obtain ⟨s, hs⟩ : ∃ s, srt leD l = s := ⟨_, rfl⟩
  have hsl : s.length = l.length := by rw [← hs, srt_len]
  have hms : (s.map encE).length = s.length := List.length_map ..
  rw [hs] at q2 q3
  rw [hs]
  refine sliceK_hi (by omega) ?_
  conv => whnf
  rw [show ((s.map encE).take k).drop 0 = (s.take k).map encE by rw [List.drop_zero, List.map_take]]
  repeat (first | (refine bcase_f rfl ?_; conv => whnf) | (refine bcase_t rfl ?_; conv => whnf) | (refine condK_draw (by kernel_rfl) ?_; conv => whnf) | (refine condK_of rfl ?_; conv => whnf) | (refine condK_of (by decide) ?_; conv => whnf) | (refine condK_of (by omega) ?_; conv => whnf) | (refine wrapK_in (w64 (by omega) (by omega)) ?_; conv => whnf))
  refine callX_pure (check_ok m (s.take k) (by omega) (by rw [List.length_take]; omega)) ?_
  conv => whnf
  repeat (first | (refine bcase_f rfl ?_; conv => whnf) | (refine bcase_t rfl ?_; conv => whnf) | (refine condK_draw (by kernel_rfl) ?_; conv => whnf) | (refine condK_of rfl ?_; conv => whnf) | (refine condK_of (by decide) ?_; conv => whnf) | (refine condK_of (by omega) ?_; conv => whnf) | (refine wrapK_in (w64 (by omega) (by omega)) ?_; conv => whnf))
  have hcl := chkM_len m (s.take k)
  rw [List.length_take] at hcl
  refine sliceK_lo (by omega) ?_
  conv => whnf
  rw [show ((s.map encE).take (s.map encE).length).drop k = (s.drop k).map encE by rw [List.take_length, List.map_drop]]
  repeat (first | (refine bcase_f rfl ?_; conv => whnf) | (refine bcase_t rfl ?_; conv => whnf) | (refine condK_draw (by kernel_rfl) ?_; conv => whnf) | (refine condK_of rfl ?_; conv => whnf) | (refine condK_of (by decide) ?_; conv => whnf) | (refine condK_of (by omega) ?_; conv => whnf) | (refine wrapK_in (w64 (by omega) (by omega)) ?_; conv => whnf))
  refine callX_pure (check_ok (chkM m (s.take k)).1 (s.drop k) (by omega) (by rw [List.length_drop]; omega)) ?_
  conv => whnf
  repeat (first | (refine bcase_f rfl ?_; conv => whnf) | (refine bcase_t rfl ?_; conv => whnf) | (refine condK_draw (by kernel_rfl) ?_; conv => whnf) | (refine condK_of rfl ?_; conv => whnf) | (refine condK_of (by decide) ?_; conv => whnf) | (refine condK_of (by omega) ?_; conv => whnf) | (refine wrapK_in (w64 (by omega) (by omega)) ?_; conv => whnf))
  rw [q3, show (chkM m (s.take k)).2.1 = k from congrArg Prod.fst q2, show (chkM m (s.take k)).2.2 = 0 from congrArg Prod.snd q2, q1]
  refine bcase_t (by simp) ?_
  conv => whnf
  repeat (first | (refine bcase_f rfl ?_; conv => whnf) | (refine bcase_t rfl ?_; conv => whnf) | (refine condK_draw (by kernel_rfl) ?_; conv => whnf) | (refine condK_of rfl ?_; conv => whnf) | (refine condK_of (by decide) ?_; conv => whnf) | (refine condK_of (by omega) ?_; conv => whnf) | (refine wrapK_in (w64 (by omega) (by omega)) ?_; conv => whnf))
  refine bcase_t (by simp) ?_
  conv => whnf
  repeat (first | (refine bcase_f rfl ?_; conv => whnf) | (refine bcase_t rfl ?_; conv => whnf) | (refine condK_draw (by kernel_rfl) ?_; conv => whnf) | (refine condK_of rfl ?_; conv => whnf) | (refine condK_of (by decide) ?_; conv => whnf) | (refine condK_of (by omega) ?_; conv => whnf) | (refine wrapK_in (w64 (by omega) (by omega)) ?_; conv => whnf))
  refine bcase_t (decide_eq_true (show ((l.length - k : Nat) : Int) = ((l.map encE).length : Int) - (k : Int) by omega)) ?_
  conv => whnf
  repeat (first | (refine bcase_f rfl ?_; conv => whnf) | (refine bcase_t rfl ?_; conv => whnf) | (refine condK_draw (by kernel_rfl) ?_; conv => whnf) | (refine condK_of rfl ?_; conv => whnf) | (refine condK_of (by decide) ?_; conv => whnf) | (refine condK_of (by omega) ?_; conv => whnf) | (refine wrapK_in (w64 (by omega) (by omega)) ?_; conv => whnf))
  have hcm := chkM_len m l
  refine callX_pure (same_ok (chkM m l).1 (chkM m l).1 (by omega)) ?_
  conv => whnf
  repeat (first | (refine bcase_f rfl ?_; conv => whnf) | (refine bcase_t rfl ?_; conv => whnf) | (refine condK_draw (by kernel_rfl) ?_; conv => whnf) | (refine condK_of rfl ?_; conv => whnf) | (refine condK_of (by decide) ?_; conv => whnf) | (refine condK_of (by omega) ?_; conv => whnf) | (refine wrapK_in (w64 (by omega) (by omega)) ?_; conv => whnf))
  refine bcase_t (by simp) ?_
  conv => whnf
  repeat (first | (refine bcase_f rfl ?_; conv => whnf) | (refine bcase_t rfl ?_; conv => whnf) | (refine condK_draw (by kernel_rfl) ?_; conv => whnf) | (refine condK_of rfl ?_; conv => whnf) | (refine condK_of (by decide) ?_; conv => whnf) | (refine condK_of (by omega) ?_; conv => whnf) | (refine wrapK_in (w64 (by omega) (by omega)) ?_; conv => whnf))
  refine callX_pure awake_ok ?_
  conv => whnf
  repeat (first | (refine bcase_f rfl ?_; conv => whnf) | (refine bcase_t rfl ?_; conv => whnf) | (refine condK_draw (by kernel_rfl) ?_; conv => whnf) | (refine condK_of rfl ?_; conv => whnf) | (refine condK_of (by decide) ?_; conv => whnf) | (refine condK_of (by omega) ?_; conv => whnf) | (refine wrapK_in (w64 (by omega) (by omega)) ?_; conv => whnf))
  exact ret_of rfl rfl
end Go.Lk

set_option linter.unusedSimpArgs false
set_option linter.unusedVariables false
set_option linter.unnecessarySimpa false
namespace Go.Lk
open Go Go.Proofs Go.RowKit Go.Lk.St

theorem wrap_ne {v : Int} {b : Nat} (hv : -9223372036854775808 ≤ v ∧ v ≤ 9223372036854775807) (hb : b < 256) : IntKind.i64.wrap (v + (1 + (b : Int))) ≠ v := by
  rw [IntKind.wrap_i64]; omega
set_option maxHeartbeats 4000000 in
theorem turned_ok (m : List Pg) (l : List Ev) (n b : Nat) (hn : n < 256) (hb : b < 256) (hm : m.length ≤ 9223372036854775807) (hv : ∀ x ∈ l, -9223372036854775808 ≤ x.ver ∧ x.ver ≤ 9223372036854775807) :
    ACall Try.prog 5 [.agg [.lst (m.map encP)], .lst (l.map encE), .int .u8 n, .int .u8 b] (.bool true) := by
  refine acall_of Try.func5 4 rfl (by kernel_rfl) ?_
  conv => whnf
  repeat (first | (refine bcase_f rfl ?_; conv => whnf) | (refine bcase_t rfl ?_; conv => whnf) | (refine condK_draw (by kernel_rfl) ?_; conv => whnf) | (refine condK_of rfl ?_; conv => whnf) | (refine condK_of (by decide) ?_; conv => whnf) | (refine condK_of (by omega) ?_; conv => whnf) | (refine wrapK_in (w64 (by omega) (by omega)) ?_; conv => whnf))
  refine callX_pure (small_ok l) ?_
  conv => whnf
  repeat (first | (refine bcase_f rfl ?_; conv => whnf) | (refine bcase_t rfl ?_; conv => whnf) | (refine condK_draw (by kernel_rfl) ?_; conv => whnf) | (refine condK_of rfl ?_; conv => whnf) | (refine condK_of (by decide) ?_; conv => whnf) | (refine condK_of (by omega) ?_; conv => whnf) | (refine wrapK_in (w64 (by omega) (by omega)) ?_; conv => whnf))
  refine bcase_intro (fun g1 => ?_) (fun g1 => ?_) <;> conv => whnf
  · repeat (first | (refine bcase_f rfl ?_; conv => whnf) | (refine bcase_t rfl ?_; conv => whnf) | (refine condK_draw (by kernel_rfl) ?_; conv => whnf) | (refine condK_of rfl ?_; conv => whnf) | (refine condK_of (by decide) ?_; conv => whnf) | (refine condK_of (by omega) ?_; conv => whnf) | (refine wrapK_in (w64 (by omega) (by omega)) ?_; conv => whnf))
    refine callX_pure awake_ok ?_
    conv => whnf
    repeat (first | (refine bcase_f rfl ?_; conv => whnf) | (refine bcase_t rfl ?_; conv => whnf) | (refine condK_draw (by kernel_rfl) ?_; conv => whnf) | (refine condK_of rfl ?_; conv => whnf) | (refine condK_of (by decide) ?_; conv => whnf) | (refine condK_of (by omega) ?_; conv => whnf) | (refine wrapK_in (w64 (by omega) (by omega)) ?_; conv => whnf))
    exact ret_of rfl rfl
  have hs := smB_t.1 (show smB l = true by simpa using g1)
  have hl := hs.len
  repeat (first | (refine bcase_f rfl ?_; conv => whnf) | (refine bcase_t rfl ?_; conv => whnf) | (refine condK_draw (by kernel_rfl) ?_; conv => whnf) | (refine condK_of rfl ?_; conv => whnf) | (refine condK_of (by decide) ?_; conv => whnf) | (refine condK_of (by omega) ?_; conv => whnf) | (refine wrapK_in (w64 (by omega) (by omega)) ?_; conv => whnf))
  refine callX_pure (pages_ok m hm) ?_
  conv => whnf
  repeat (first | (refine bcase_f rfl ?_; conv => whnf) | (refine bcase_t rfl ?_; conv => whnf) | (refine condK_draw (by kernel_rfl) ?_; conv => whnf) | (refine condK_of rfl ?_; conv => whnf) | (refine condK_of (by decide) ?_; conv => whnf) | (refine condK_of (by omega) ?_; conv => whnf) | (refine wrapK_in (w64 (by omega) (by omega)) ?_; conv => whnf))
  refine bcase_intro (fun g2 => ?_) (fun g2 => ?_) <;> conv => whnf
  · repeat (first | (refine bcase_f rfl ?_; conv => whnf) | (refine bcase_t rfl ?_; conv => whnf) | (refine condK_draw (by kernel_rfl) ?_; conv => whnf) | (refine condK_of rfl ?_; conv => whnf) | (refine condK_of (by decide) ?_; conv => whnf) | (refine condK_of (by omega) ?_; conv => whnf) | (refine wrapK_in (w64 (by omega) (by omega)) ?_; conv => whnf))
    refine callX_pure awake_ok ?_
    conv => whnf
    repeat (first | (refine bcase_f rfl ?_; conv => whnf) | (refine bcase_t rfl ?_; conv => whnf) | (refine condK_draw (by kernel_rfl) ?_; conv => whnf) | (refine condK_of rfl ?_; conv => whnf) | (refine condK_of (by decide) ?_; conv => whnf) | (refine condK_of (by omega) ?_; conv => whnf) | (refine wrapK_in (w64 (by omega) (by omega)) ?_; conv => whnf))
    exact ret_of rfl rfl
  have hp := pgB_t.1 (show pgB m = true by simpa using g2)
  have hpl := hp.len
  have hml : (l.map encE).length = l.length := List.length_map ..
  repeat (first | (refine bcase_f rfl ?_; conv => whnf) | (refine bcase_t rfl ?_; conv => whnf) | (refine condK_draw (by kernel_rfl) ?_; conv => whnf) | (refine condK_of rfl ?_; conv => whnf) | (refine condK_of (by decide) ?_; conv => whnf) | (refine condK_of (by omega) ?_; conv => whnf) | (refine wrapK_in (w64 (by omega) (by omega)) ?_; conv => whnf))
  refine bcase_p (fun g5 => ?_) (fun g5 => ?_) <;> conv => whnf
  · repeat (first | (refine bcase_f rfl ?_; conv => whnf) | (refine bcase_t rfl ?_; conv => whnf) | (refine condK_draw (by kernel_rfl) ?_; conv => whnf) | (refine condK_of rfl ?_; conv => whnf) | (refine condK_of (by decide) ?_; conv => whnf) | (refine condK_of (by omega) ?_; conv => whnf) | (refine wrapK_in (w64 (by omega) (by omega)) ?_; conv => whnf))
    refine callX_pure awake_ok ?_
    conv => whnf
    repeat (first | (refine bcase_f rfl ?_; conv => whnf) | (refine bcase_t rfl ?_; conv => whnf) | (refine condK_draw (by kernel_rfl) ?_; conv => whnf) | (refine condK_of rfl ?_; conv => whnf) | (refine condK_of (by decide) ?_; conv => whnf) | (refine condK_of (by omega) ?_; conv => whnf) | (refine wrapK_in (w64 (by omega) (by omega)) ?_; conv => whnf))
    exact ret_of rfl rfl
  repeat (first | (refine bcase_f rfl ?_; conv => whnf) | (refine bcase_t rfl ?_; conv => whnf) | (refine condK_draw (by kernel_rfl) ?_; conv => whnf) | (refine condK_of rfl ?_; conv => whnf) | (refine condK_of (by decide) ?_; conv => whnf) | (refine condK_of (by omega) ?_; conv => whnf) | (refine wrapK_in (w64 (by omega) (by omega)) ?_; conv => whnf))
  refine callX_pure (check_ok m l (by omega) (by omega)) ?_
  conv => whnf
  repeat (first | (refine bcase_f rfl ?_; conv => whnf) | (refine bcase_t rfl ?_; conv => whnf) | (refine condK_draw (by kernel_rfl) ?_; conv => whnf) | (refine condK_of rfl ?_; conv => whnf) | (refine condK_of (by decide) ?_; conv => whnf) | (refine condK_of (by omega) ?_; conv => whnf) | (refine wrapK_in (w64 (by omega) (by omega)) ?_; conv => whnf))
  refine bcase_intro (fun g3 => ?_) (fun g3 => ?_) <;> conv => whnf
  · repeat (first | (refine bcase_f rfl ?_; conv => whnf) | (refine bcase_t rfl ?_; conv => whnf) | (refine condK_draw (by kernel_rfl) ?_; conv => whnf) | (refine condK_of rfl ?_; conv => whnf) | (refine condK_of (by decide) ?_; conv => whnf) | (refine condK_of (by omega) ?_; conv => whnf) | (refine wrapK_in (w64 (by omega) (by omega)) ?_; conv => whnf))
    refine callX_pure awake_ok ?_
    conv => whnf
    repeat (first | (refine bcase_f rfl ?_; conv => whnf) | (refine bcase_t rfl ?_; conv => whnf) | (refine condK_draw (by kernel_rfl) ?_; conv => whnf) | (refine condK_of rfl ?_; conv => whnf) | (refine condK_of (by decide) ?_; conv => whnf) | (refine condK_of (by omega) ?_; conv => whnf) | (refine wrapK_in (w64 (by omega) (by omega)) ?_; conv => whnf))
    exact ret_of rfl rfl
  have he : (chkM m l).2.2 = 0 := by simpa using g3
  repeat (first | (refine bcase_f rfl ?_; conv => whnf) | (refine bcase_t rfl ?_; conv => whnf) | (refine condK_draw (by kernel_rfl) ?_; conv => whnf) | (refine condK_of rfl ?_; conv => whnf) | (refine condK_of (by decide) ?_; conv => whnf) | (refine condK_of (by omega) ?_; conv => whnf) | (refine wrapK_in (w64 (by omega) (by omega)) ?_; conv => whnf))
  refine callX_own (sort_ok l (by omega)) ?_
  conv => whnf
  repeat (first | (refine bcase_f rfl ?_; conv => whnf) | (refine bcase_t rfl ?_; conv => whnf) | (refine condK_draw (by kernel_rfl) ?_; conv => whnf) | (refine condK_of rfl ?_; conv => whnf) | (refine condK_of (by decide) ?_; conv => whnf) | (refine condK_of (by omega) ?_; conv => whnf) | (refine wrapK_in (w64 (by omega) (by omega)) ?_; conv => whnf))
  refine condK_of (encE_ok _) ?_
  conv => whnf
  repeat (first | (refine bcase_f rfl ?_; conv => whnf) | (refine bcase_t rfl ?_; conv => whnf) | (refine condK_draw (by kernel_rfl) ?_; conv => whnf) | (refine condK_of rfl ?_; conv => whnf) | (refine condK_of (by decide) ?_; conv => whnf) | (refine condK_of (by omega) ?_; conv => whnf) | (refine wrapK_in (w64 (by omega) (by omega)) ?_; conv => whnf))
  obtain ⟨s, hs⟩ : ∃ s, srt leD l = s := ⟨_, rfl⟩
  have hsl : s.length = l.length := by rw [← hs, srt_len]
  have hms : (s.map encE).length = s.length := List.length_map ..
  rw [hs]
  refine roomK_le 1000100 1000 (by show 0 + (s.map encE).length ≤ 1000100; omega) (by decide) (by decide) (by decide) ?_
  conv => whnf
  repeat (first | (refine bcase_f rfl ?_; conv => whnf) | (refine bcase_t rfl ?_; conv => whnf) | (refine condK_draw (by kernel_rfl) ?_; conv => whnf) | (refine condK_of rfl ?_; conv => whnf) | (refine condK_of (by decide) ?_; conv => whnf) | (refine condK_of (by omega) ?_; conv => whnf) | (refine wrapK_in (w64 (by omega) (by omega)) ?_; conv => whnf))
  rw [show opG.chunk (T 52).size 0 [] ++ s.map encE = s.map encE from rfl]
  refine bcase_f (by rw [hms, hml, hsl]; simp) ?_
  conv => whnf
  repeat (first | (refine bcase_f rfl ?_; conv => whnf) | (refine bcase_t rfl ?_; conv => whnf) | (refine condK_draw (by kernel_rfl) ?_; conv => whnf) | (refine condK_of rfl ?_; conv => whnf) | (refine condK_of (by decide) ?_; conv => whnf) | (refine condK_of (by omega) ?_; conv => whnf) | (refine wrapK_in (w64 (by omega) (by omega)) ?_; conv => whnf))
  refine divK_rem (by omega) (by omega) ?_
  conv => whnf
  obtain ⟨k, hk, hkl⟩ : ∃ k : Nat, (n : Int) % ((s.map encE).length : Int) = k ∧ k < l.length := by
    have q1 := Int.emod_nonneg (n : Int) (show ((s.map encE).length : Int) ≠ 0 by omega)
    have q2 := Int.emod_lt_of_pos (n : Int) (show 0 < ((s.map encE).length : Int) by omega)
    exact ⟨((n : Int) % ((s.map encE).length : Int)).toNat, by omega, by omega⟩
  rw [hk]
  repeat (first | (refine bcase_f rfl ?_; conv => whnf) | (refine bcase_t rfl ?_; conv => whnf) | (refine condK_draw (by kernel_rfl) ?_; conv => whnf) | (refine condK_of rfl ?_; conv => whnf) | (refine condK_of (by decide) ?_; conv => whnf) | (refine condK_of (by omega) ?_; conv => whnf) | (refine wrapK_in (w64 (by omega) (by omega)) ?_; conv => whnf))
  have hk2 : k < s.length := by omega
  refine idxK_nat (by omega) ?_
  conv => whnf
  refine getRow_of (x := encE s[k]) (by simp [hk2]) ?_
  conv => whnf
  repeat (first | (refine bcase_f rfl ?_; conv => whnf) | (refine bcase_t rfl ?_; conv => whnf) | (refine condK_draw (by kernel_rfl) ?_; conv => whnf) | (refine condK_of rfl ?_; conv => whnf) | (refine condK_of (by decide) ?_; conv => whnf) | (refine condK_of (by omega) ?_; conv => whnf) | (refine wrapK_in (w64 (by omega) (by omega)) ?_; conv => whnf))
  have hv2 : -9223372036854775808 ≤ s[k].ver ∧ s[k].ver ≤ 9223372036854775807 := hv _ ((srt_mem tpD).1 (hs ▸ List.getElem_mem hk2))
  obtain ⟨w, hw, hwn⟩ : ∃ w, IntKind.i64.wrap (s[k].ver + (1 + (b : Int))) = w ∧ w ≠ s[k].ver := ⟨_, rfl, wrap_ne hv2 hb⟩
  refine wrapK_raw ?_
  conv => whnf
  rw [hw]
  repeat (first | (refine bcase_f rfl ?_; conv => whnf) | (refine bcase_t rfl ?_; conv => whnf) | (refine condK_draw (by kernel_rfl) ?_; conv => whnf) | (refine condK_of rfl ?_; conv => whnf) | (refine condK_of (by decide) ?_; conv => whnf) | (refine condK_of (by omega) ?_; conv => whnf) | (refine wrapK_in (w64 (by omega) (by omega)) ?_; conv => whnf))
  refine idxK_nat (by omega) ?_
  conv => whnf
  refine getRow_of (x := encE s[k]) (by simp [hk2]) ?_
  conv => whnf
  repeat (first | (refine bcase_f rfl ?_; conv => whnf) | (refine bcase_t rfl ?_; conv => whnf) | (refine condK_draw (by kernel_rfl) ?_; conv => whnf) | (refine condK_of rfl ?_; conv => whnf) | (refine condK_of (by decide) ?_; conv => whnf) | (refine condK_of (by omega) ?_; conv => whnf) | (refine wrapK_in (w64 (by omega) (by omega)) ?_; conv => whnf))
  have hck := check_ok m (s.set k (turnE s[k] w)) (by omega) (by rw [List.length_set]; omega)
  have htp : (chkM m (s.set k (turnE s[k] w))).2 = (k, 2) := by
    subst hs
    exact turned_p he hk2 hwn
  rw [List.map_set, show (chkM m (s.set k (turnE s[k] w))).2.1 = k from congrArg Prod.fst htp, show (chkM m (s.set k (turnE s[k] w))).2.2 = 2 from congrArg Prod.snd htp] at hck
  refine callX_pure hck ?_
  conv => whnf
  repeat (first | (refine bcase_f rfl ?_; conv => whnf) | (refine bcase_t rfl ?_; conv => whnf) | (refine condK_draw (by kernel_rfl) ?_; conv => whnf) | (refine condK_of rfl ?_; conv => whnf) | (refine condK_of (by decide) ?_; conv => whnf) | (refine condK_of (by omega) ?_; conv => whnf) | (refine wrapK_in (w64 (by omega) (by omega)) ?_; conv => whnf))
  refine bcase_t (by simp) ?_
  conv => whnf
  repeat (first | (refine bcase_f rfl ?_; conv => whnf) | (refine bcase_t rfl ?_; conv => whnf) | (refine condK_draw (by kernel_rfl) ?_; conv => whnf) | (refine condK_of rfl ?_; conv => whnf) | (refine condK_of (by decide) ?_; conv => whnf) | (refine condK_of (by omega) ?_; conv => whnf) | (refine wrapK_in (w64 (by omega) (by omega)) ?_; conv => whnf))
  refine callX_pure awake_ok ?_
  conv => whnf
  repeat (first | (refine bcase_f rfl ?_; conv => whnf) | (refine bcase_t rfl ?_; conv => whnf) | (refine condK_draw (by kernel_rfl) ?_; conv => whnf) | (refine condK_of rfl ?_; conv => whnf) | (refine condK_of (by decide) ?_; conv => whnf) | (refine condK_of (by omega) ?_; conv => whnf) | (refine wrapK_in (w64 (by omega) (by omega)) ?_; conv => whnf))
  exact ret_of rfl rfl
end Go.Lk

set_option linter.unusedSimpArgs false
set_option linter.unusedVariables false
set_option linter.unnecessarySimpa false
namespace Go.Lk
open Go Go.Proofs Go.RowKit Go.Lk.St

set_option maxHeartbeats 4000000 in
theorem any_ok (m : List Pg) (l : List Ev) (n : Nat) (hn : n < 256) (hm : m.length ≤ 9223372036854775807) :
    ACall Try.prog 6 [.agg [.lst (m.map encP)], .lst (l.map encE), .int .u8 n] (.bool true) := by
  refine acall_of Try.func6 3 rfl (by kernel_rfl) ?_
  conv => whnf
  repeat (first | (refine bcase_f rfl ?_; conv => whnf) | (refine bcase_t rfl ?_; conv => whnf) | (refine condK_draw (by kernel_rfl) ?_; conv => whnf) | (refine condK_of rfl ?_; conv => whnf) | (refine condK_of (by decide) ?_; conv => whnf) | (refine condK_of (by omega) ?_; conv => whnf) | (refine wrapK_in (w64 (by omega) (by omega)) ?_; conv => whnf))
  refine callX_pure (small_ok l) ?_
  conv => whnf
  repeat (first | (refine bcase_f rfl ?_; conv => whnf) | (refine bcase_t rfl ?_; conv => whnf) | (refine condK_draw (by kernel_rfl) ?_; conv => whnf) | (refine condK_of rfl ?_; conv => whnf) | (refine condK_of (by decide) ?_; conv => whnf) | (refine condK_of (by omega) ?_; conv => whnf) | (refine wrapK_in (w64 (by omega) (by omega)) ?_; conv => whnf))
  refine bcase_intro (fun g1 => ?_) (fun g1 => ?_) <;> conv => whnf
  · repeat (first | (refine bcase_f rfl ?_; conv => whnf) | (refine bcase_t rfl ?_; conv => whnf) | (refine condK_draw (by kernel_rfl) ?_; conv => whnf) | (refine condK_of rfl ?_; conv => whnf) | (refine condK_of (by decide) ?_; conv => whnf) | (refine condK_of (by omega) ?_; conv => whnf) | (refine wrapK_in (w64 (by omega) (by omega)) ?_; conv => whnf))
    refine callX_pure awake_ok ?_
    conv => whnf
    repeat (first | (refine bcase_f rfl ?_; conv => whnf) | (refine bcase_t rfl ?_; conv => whnf) | (refine condK_draw (by kernel_rfl) ?_; conv => whnf) | (refine condK_of rfl ?_; conv => whnf) | (refine condK_of (by decide) ?_; conv => whnf) | (refine condK_of (by omega) ?_; conv => whnf) | (refine wrapK_in (w64 (by omega) (by omega)) ?_; conv => whnf))
    exact ret_of rfl rfl
  have hs := smB_t.1 (show smB l = true by simpa using g1)
  have hl := hs.len
  repeat (first | (refine bcase_f rfl ?_; conv => whnf) | (refine bcase_t rfl ?_; conv => whnf) | (refine condK_draw (by kernel_rfl) ?_; conv => whnf) | (refine condK_of rfl ?_; conv => whnf) | (refine condK_of (by decide) ?_; conv => whnf) | (refine condK_of (by omega) ?_; conv => whnf) | (refine wrapK_in (w64 (by omega) (by omega)) ?_; conv => whnf))
  refine callX_pure (pages_ok m hm) ?_
  conv => whnf
  repeat (first | (refine bcase_f rfl ?_; conv => whnf) | (refine bcase_t rfl ?_; conv => whnf) | (refine condK_draw (by kernel_rfl) ?_; conv => whnf) | (refine condK_of rfl ?_; conv => whnf) | (refine condK_of (by decide) ?_; conv => whnf) | (refine condK_of (by omega) ?_; conv => whnf) | (refine wrapK_in (w64 (by omega) (by omega)) ?_; conv => whnf))
  refine bcase_intro (fun g2 => ?_) (fun g2 => ?_) <;> conv => whnf
  · repeat (first | (refine bcase_f rfl ?_; conv => whnf) | (refine bcase_t rfl ?_; conv => whnf) | (refine condK_draw (by kernel_rfl) ?_; conv => whnf) | (refine condK_of rfl ?_; conv => whnf) | (refine condK_of (by decide) ?_; conv => whnf) | (refine condK_of (by omega) ?_; conv => whnf) | (refine wrapK_in (w64 (by omega) (by omega)) ?_; conv => whnf))
    refine callX_pure awake_ok ?_
    conv => whnf
    repeat (first | (refine bcase_f rfl ?_; conv => whnf) | (refine bcase_t rfl ?_; conv => whnf) | (refine condK_draw (by kernel_rfl) ?_; conv => whnf) | (refine condK_of rfl ?_; conv => whnf) | (refine condK_of (by decide) ?_; conv => whnf) | (refine condK_of (by omega) ?_; conv => whnf) | (refine wrapK_in (w64 (by omega) (by omega)) ?_; conv => whnf))
    exact ret_of rfl rfl
  have hp := pgB_t.1 (show pgB m = true by simpa using g2)
  have hpl := hp.len
  have hml : (l.map encE).length = l.length := List.length_map ..
  repeat (first | (refine bcase_f rfl ?_; conv => whnf) | (refine bcase_t rfl ?_; conv => whnf) | (refine condK_draw (by kernel_rfl) ?_; conv => whnf) | (refine condK_of rfl ?_; conv => whnf) | (refine condK_of (by decide) ?_; conv => whnf) | (refine condK_of (by omega) ?_; conv => whnf) | (refine wrapK_in (w64 (by omega) (by omega)) ?_; conv => whnf))
  refine bcase_p (fun g5 => ?_) (fun g5 => ?_) <;> conv => whnf
  · repeat (first | (refine bcase_f rfl ?_; conv => whnf) | (refine bcase_t rfl ?_; conv => whnf) | (refine condK_draw (by kernel_rfl) ?_; conv => whnf) | (refine condK_of rfl ?_; conv => whnf) | (refine condK_of (by decide) ?_; conv => whnf) | (refine condK_of (by omega) ?_; conv => whnf) | (refine wrapK_in (w64 (by omega) (by omega)) ?_; conv => whnf))
    refine callX_pure awake_ok ?_
    conv => whnf
    repeat (first | (refine bcase_f rfl ?_; conv => whnf) | (refine bcase_t rfl ?_; conv => whnf) | (refine condK_draw (by kernel_rfl) ?_; conv => whnf) | (refine condK_of rfl ?_; conv => whnf) | (refine condK_of (by decide) ?_; conv => whnf) | (refine condK_of (by omega) ?_; conv => whnf) | (refine wrapK_in (w64 (by omega) (by omega)) ?_; conv => whnf))
    exact ret_of rfl rfl
  repeat (first | (refine bcase_f rfl ?_; conv => whnf) | (refine bcase_t rfl ?_; conv => whnf) | (refine condK_draw (by kernel_rfl) ?_; conv => whnf) | (refine condK_of rfl ?_; conv => whnf) | (refine condK_of (by decide) ?_; conv => whnf) | (refine condK_of (by omega) ?_; conv => whnf) | (refine wrapK_in (w64 (by omega) (by omega)) ?_; conv => whnf))
  refine divK_rem (by omega) (by omega) ?_
  conv => whnf
  obtain ⟨k, hk, hkl⟩ : ∃ k : Nat, (n : Int) % ((l.map encE).length : Int) = k ∧ k < l.length := by
    have q1 := Int.emod_nonneg (n : Int) (show ((l.map encE).length : Int) ≠ 0 by omega)
    have q2 := Int.emod_lt_of_pos (n : Int) (show 0 < ((l.map encE).length : Int) by omega)
    exact ⟨((n : Int) % ((l.map encE).length : Int)).toNat, by omega, by omega⟩
  rw [hk]
  repeat (first | (refine bcase_f rfl ?_; conv => whnf) | (refine bcase_t rfl ?_; conv => whnf) | (refine condK_draw (by kernel_rfl) ?_; conv => whnf) | (refine condK_of rfl ?_; conv => whnf) | (refine condK_of (by decide) ?_; conv => whnf) | (refine condK_of (by omega) ?_; conv => whnf) | (refine wrapK_in (w64 (by omega) (by omega)) ?_; conv => whnf))
  have hrl := rot_len l k
  refine aloop (ι := Nat) (fun i => [(1, .d (.lst (l.map encE))), (3, .ptr 3 0 0), (7, .d (.int .i64 k)), (8, .own 54), (36, .d (.int .i64 (l.map encE).length)), (37, .d (.int .i64 i))]) (fun i => [(3, .box [.d (.lst (m.map encP))] false), (54, .row (((rot l k).take i).map encE) 11 false)])
    (fun i => i ≤ l.length) (fun i => l.length - i) 0 (Nat.zero_le _) (le1 (.row 8 54 11) ⟨rfl, rfl⟩ (le_of_cov ⟨rfl, rfl, rfl, rfl, rfl, rfl, trivial⟩ ⟨rfl, rfl, trivial⟩ ⟨rfl, rfl, rfl, rfl⟩)) ?_
  intro i hi
  conv => whnf
  refine bcase_p (fun h5 => ?_) (fun h5 => ?_) <;> conv => whnf
  · have hi2 : i < l.length := by omega
    repeat (first | (refine bcase_f rfl ?_; conv => whnf) | (refine bcase_t rfl ?_; conv => whnf) | (refine condK_draw (by kernel_rfl) ?_; conv => whnf) | (refine condK_of rfl ?_; conv => whnf) | (refine condK_of (by decide) ?_; conv => whnf) | (refine condK_of (by omega) ?_; conv => whnf) | (refine wrapK_in (w64 (by omega) (by omega)) ?_; conv => whnf))
    refine divK_rem (by omega) (by omega) ?_
    conv => whnf
    obtain ⟨j, hj⟩ : ∃ j, (l.length - i + k) % l.length = j := ⟨_, rfl⟩
    have hj2 : j < l.length := by rw [← hj]; exact Nat.mod_lt _ (by omega)
    have ej : (((l.map encE).length : Int) - (i : Int) + (k : Int)) % ((l.map encE).length : Int) = (j : Int) := by
      rw [hml, ← hj, Int.natCast_emod]
      congr 1
      omega
    rw [ej]
    refine idxK_nat (by omega) ?_
    conv => whnf
    refine getRow_of (x := encE l[j]) (by simp [hj2]) ?_
    conv => whnf
    repeat (first | (refine bcase_f rfl ?_; conv => whnf) | (refine bcase_t rfl ?_; conv => whnf) | (refine condK_draw (by kernel_rfl) ?_; conv => whnf) | (refine condK_of rfl ?_; conv => whnf) | (refine condK_of (by decide) ?_; conv => whnf) | (refine condK_of (by omega) ?_; conv => whnf) | (refine wrapK_in (w64 (by omega) (by omega)) ?_; conv => whnf))
    refine roomK_le 1000100 1000 (by show List.length _ + 1 ≤ 1000100; rw [List.length_map, List.length_take]; omega) (by decide) (by decide) (by decide) ?_
    conv => whnf
    repeat (first | (refine bcase_f rfl ?_; conv => whnf) | (refine bcase_t rfl ?_; conv => whnf) | (refine condK_draw (by kernel_rfl) ?_; conv => whnf) | (refine condK_of rfl ?_; conv => whnf) | (refine condK_of (by decide) ?_; conv => whnf) | (refine condK_of (by omega) ?_; conv => whnf) | (refine wrapK_in (w64 (by omega) (by omega)) ?_; conv => whnf))
    have hi3 : i < (rot l k).length := by omega
    have er : ((rot l k).take i).map encE ++ [encE l[j]] = ((rot l k).take (i + 1)).map encE := by
      rw [take_snoc hi3, List.map_append, rot_get hkl hi2]
      simp only [hj]
      rfl
    refine ⟨i + 1, by omega, by omega, le0 (le_of_cov ⟨?_, ?_, ?_, ?_, ?_, ?_, trivial⟩ ⟨?_, ?_, trivial⟩ ⟨?_, ?_, ?_, ?_⟩)⟩
    rotate_left 7
    rw [← er]
    all_goals kernel_rfl
  · repeat (first | (refine bcase_f rfl ?_; conv => whnf) | (refine bcase_t rfl ?_; conv => whnf) | (refine condK_draw (by kernel_rfl) ?_; conv => whnf) | (refine condK_of rfl ?_; conv => whnf) | (refine condK_of (by decide) ?_; conv => whnf) | (refine condK_of (by omega) ?_; conv => whnf) | (refine wrapK_in (w64 (by omega) (by omega)) ?_; conv => whnf))
    have ei : i = l.length := by omega
    subst ei
    have ek : (rot l k).take l.length = rot l k := List.take_of_length_le (by omega)
    rw [ek]
    obtain ⟨q1, q2⟩ := any_p (m := m) (rot_perm l k)
    have hcl := chkM_len m l
    refine callX_pure (check_ok m l (by omega) (by omega)) ?_
    conv => whnf
    repeat (first | (refine bcase_f rfl ?_; conv => whnf) | (refine bcase_t rfl ?_; conv => whnf) | (refine condK_draw (by kernel_rfl) ?_; conv => whnf) | (refine condK_of rfl ?_; conv => whnf) | (refine condK_of (by decide) ?_; conv => whnf) | (refine condK_of (by omega) ?_; conv => whnf) | (refine wrapK_in (w64 (by omega) (by omega)) ?_; conv => whnf))
    refine callX_pure (check_ok m (rot l k) (by omega) (by omega)) ?_
    conv => whnf
    repeat (first | (refine bcase_f rfl ?_; conv => whnf) | (refine bcase_t rfl ?_; conv => whnf) | (refine condK_draw (by kernel_rfl) ?_; conv => whnf) | (refine condK_of rfl ?_; conv => whnf) | (refine condK_of (by decide) ?_; conv => whnf) | (refine condK_of (by omega) ?_; conv => whnf) | (refine wrapK_in (w64 (by omega) (by omega)) ?_; conv => whnf))
    rw [q2]
    refine callX_pure (same_ok (chkM m l).1 (chkM m l).1 (by omega)) ?_
    conv => whnf
    repeat (first | (refine bcase_f rfl ?_; conv => whnf) | (refine bcase_t rfl ?_; conv => whnf) | (refine condK_draw (by kernel_rfl) ?_; conv => whnf) | (refine condK_of rfl ?_; conv => whnf) | (refine condK_of (by decide) ?_; conv => whnf) | (refine condK_of (by omega) ?_; conv => whnf) | (refine wrapK_in (w64 (by omega) (by omega)) ?_; conv => whnf))
    refine bcase_t (by simp) ?_
    conv => whnf
    repeat (first | (refine bcase_f rfl ?_; conv => whnf) | (refine bcase_t rfl ?_; conv => whnf) | (refine condK_draw (by kernel_rfl) ?_; conv => whnf) | (refine condK_of rfl ?_; conv => whnf) | (refine condK_of (by decide) ?_; conv => whnf) | (refine condK_of (by omega) ?_; conv => whnf) | (refine wrapK_in (w64 (by omega) (by omega)) ?_; conv => whnf))
    refine bcase_t (by simp) ?_
    conv => whnf
    repeat (first | (refine bcase_f rfl ?_; conv => whnf) | (refine bcase_t rfl ?_; conv => whnf) | (refine condK_draw (by kernel_rfl) ?_; conv => whnf) | (refine condK_of rfl ?_; conv => whnf) | (refine condK_of (by decide) ?_; conv => whnf) | (refine condK_of (by omega) ?_; conv => whnf) | (refine wrapK_in (w64 (by omega) (by omega)) ?_; conv => whnf))
    refine bcase_t (by simp) ?_
    conv => whnf
    repeat (first | (refine bcase_f rfl ?_; conv => whnf) | (refine bcase_t rfl ?_; conv => whnf) | (refine condK_draw (by kernel_rfl) ?_; conv => whnf) | (refine condK_of rfl ?_; conv => whnf) | (refine condK_of (by decide) ?_; conv => whnf) | (refine condK_of (by omega) ?_; conv => whnf) | (refine wrapK_in (w64 (by omega) (by omega)) ?_; conv => whnf))
    refine callX_pure (apart_ok l (by omega)) ?_
    conv => whnf
    repeat (first | (refine bcase_f rfl ?_; conv => whnf) | (refine bcase_t rfl ?_; conv => whnf) | (refine condK_draw (by kernel_rfl) ?_; conv => whnf) | (refine condK_of rfl ?_; conv => whnf) | (refine condK_of (by decide) ?_; conv => whnf) | (refine condK_of (by omega) ?_; conv => whnf) | (refine wrapK_in (w64 (by omega) (by omega)) ?_; conv => whnf))
    refine callX_pure (apart_ok (rot l k) (by omega)) ?_
    conv => whnf
    repeat (first | (refine bcase_f rfl ?_; conv => whnf) | (refine bcase_t rfl ?_; conv => whnf) | (refine condK_draw (by kernel_rfl) ?_; conv => whnf) | (refine condK_of rfl ?_; conv => whnf) | (refine condK_of (by decide) ?_; conv => whnf) | (refine condK_of (by omega) ?_; conv => whnf) | (refine wrapK_in (w64 (by omega) (by omega)) ?_; conv => whnf))
    rw [q1]
    refine bcase_t (by simp) ?_
    conv => whnf
    repeat (first | (refine bcase_f rfl ?_; conv => whnf) | (refine bcase_t rfl ?_; conv => whnf) | (refine condK_draw (by kernel_rfl) ?_; conv => whnf) | (refine condK_of rfl ?_; conv => whnf) | (refine condK_of (by decide) ?_; conv => whnf) | (refine condK_of (by omega) ?_; conv => whnf) | (refine wrapK_in (w64 (by omega) (by omega)) ?_; conv => whnf))
    refine callX_pure awake_ok ?_
    conv => whnf
    repeat (first | (refine bcase_f rfl ?_; conv => whnf) | (refine bcase_t rfl ?_; conv => whnf) | (refine condK_draw (by kernel_rfl) ?_; conv => whnf) | (refine condK_of rfl ?_; conv => whnf) | (refine condK_of (by decide) ?_; conv => whnf) | (refine condK_of (by omega) ?_; conv => whnf) | (refine wrapK_in (w64 (by omega) (by omega)) ?_; conv => whnf))
    exact ret_of rfl rfl
end Go.Lk

set_option linter.unusedSimpArgs false
set_option linter.unusedVariables false
set_option linter.unnecessarySimpa false
namespace Go.Lk
open Go Go.Proofs Go.RowKit Go.Lk.St

set_option maxHeartbeats 4000000 in
theorem ops_ok (m : List Pg) (w : List Op) (hm : m.length ≤ 9223372036854775807) :
    ACall Try.prog 8 [.agg [.lst (m.map encP)], .lst (w.map encO)] (.bool true) := by
  refine acall_of Try.func8 2 rfl (by kernel_rfl) ?_
  conv => whnf
  repeat (first | (refine bcase_f rfl ?_; conv => whnf) | (refine bcase_t rfl ?_; conv => whnf) | (refine condK_draw (by kernel_rfl) ?_; conv => whnf) | (refine condK_of rfl ?_; conv => whnf) | (refine condK_of (by decide) ?_; conv => whnf) | (refine condK_of (by omega) ?_; conv => whnf) | (refine wrapK_in (w64 (by omega) (by omega)) ?_; conv => whnf))
  refine callX_pure (pages_ok m hm) ?_
  conv => whnf
  repeat (first | (refine bcase_f rfl ?_; conv => whnf) | (refine bcase_t rfl ?_; conv => whnf) | (refine condK_draw (by kernel_rfl) ?_; conv => whnf) | (refine condK_of rfl ?_; conv => whnf) | (refine condK_of (by decide) ?_; conv => whnf) | (refine condK_of (by omega) ?_; conv => whnf) | (refine wrapK_in (w64 (by omega) (by omega)) ?_; conv => whnf))
  refine bcase_intro (fun g1 => ?_) (fun g1 => ?_) <;> conv => whnf
  · repeat (first | (refine bcase_f rfl ?_; conv => whnf) | (refine bcase_t rfl ?_; conv => whnf) | (refine condK_draw (by kernel_rfl) ?_; conv => whnf) | (refine condK_of rfl ?_; conv => whnf) | (refine condK_of (by decide) ?_; conv => whnf) | (refine condK_of (by omega) ?_; conv => whnf) | (refine wrapK_in (w64 (by omega) (by omega)) ?_; conv => whnf))
    refine callX_pure awake_ok ?_
    conv => whnf
    repeat (first | (refine bcase_f rfl ?_; conv => whnf) | (refine bcase_t rfl ?_; conv => whnf) | (refine condK_draw (by kernel_rfl) ?_; conv => whnf) | (refine condK_of rfl ?_; conv => whnf) | (refine condK_of (by decide) ?_; conv => whnf) | (refine condK_of (by omega) ?_; conv => whnf) | (refine wrapK_in (w64 (by omega) (by omega)) ?_; conv => whnf))
    exact ret_of rfl rfl
  have hp := pgB_t.1 (show pgB m = true by simpa using g1)
  have hpl := hp.len
  have hml : (w.map encO).length = w.length := List.length_map ..
  repeat (first | (refine bcase_f rfl ?_; conv => whnf) | (refine bcase_t rfl ?_; conv => whnf) | (refine condK_draw (by kernel_rfl) ?_; conv => whnf) | (refine condK_of rfl ?_; conv => whnf) | (refine condK_of (by decide) ?_; conv => whnf) | (refine condK_of (by omega) ?_; conv => whnf) | (refine wrapK_in (w64 (by omega) (by omega)) ?_; conv => whnf))
  refine bcase_p (fun g2 => ?_) (fun g2 => ?_) <;> conv => whnf
  · repeat (first | (refine bcase_f rfl ?_; conv => whnf) | (refine bcase_t rfl ?_; conv => whnf) | (refine condK_draw (by kernel_rfl) ?_; conv => whnf) | (refine condK_of rfl ?_; conv => whnf) | (refine condK_of (by decide) ?_; conv => whnf) | (refine condK_of (by omega) ?_; conv => whnf) | (refine wrapK_in (w64 (by omega) (by omega)) ?_; conv => whnf))
    refine callX_pure awake_ok ?_
    conv => whnf
    repeat (first | (refine bcase_f rfl ?_; conv => whnf) | (refine bcase_t rfl ?_; conv => whnf) | (refine condK_draw (by kernel_rfl) ?_; conv => whnf) | (refine condK_of rfl ?_; conv => whnf) | (refine condK_of (by decide) ?_; conv => whnf) | (refine condK_of (by omega) ?_; conv => whnf) | (refine wrapK_in (w64 (by omega) (by omega)) ?_; conv => whnf))
    exact ret_of rfl rfl
  repeat (first | (refine bcase_f rfl ?_; conv => whnf) | (refine bcase_t rfl ?_; conv => whnf) | (refine condK_draw (by kernel_rfl) ?_; conv => whnf) | (refine condK_of rfl ?_; conv => whnf) | (refine condK_of (by decide) ?_; conv => whnf) | (refine condK_of (by omega) ?_; conv => whnf) | (refine wrapK_in (w64 (by omega) (by omega)) ?_; conv => whnf))
  refine callX_pure (refRight_ok m (by omega)) ?_
  conv => whnf
  repeat (first | (refine bcase_f rfl ?_; conv => whnf) | (refine bcase_t rfl ?_; conv => whnf) | (refine condK_draw (by kernel_rfl) ?_; conv => whnf) | (refine condK_of rfl ?_; conv => whnf) | (refine condK_of (by decide) ?_; conv => whnf) | (refine condK_of (by omega) ?_; conv => whnf) | (refine wrapK_in (w64 (by omega) (by omega)) ?_; conv => whnf))
  refine bcase_intro (fun g3 => ?_) (fun g3 => ?_) <;> conv => whnf
  · repeat (first | (refine bcase_f rfl ?_; conv => whnf) | (refine bcase_t rfl ?_; conv => whnf) | (refine condK_draw (by kernel_rfl) ?_; conv => whnf) | (refine condK_of rfl ?_; conv => whnf) | (refine condK_of (by decide) ?_; conv => whnf) | (refine condK_of (by omega) ?_; conv => whnf) | (refine wrapK_in (w64 (by omega) (by omega)) ?_; conv => whnf))
    refine callX_pure awake_ok ?_
    conv => whnf
    repeat (first | (refine bcase_f rfl ?_; conv => whnf) | (refine bcase_t rfl ?_; conv => whnf) | (refine condK_draw (by kernel_rfl) ?_; conv => whnf) | (refine condK_of rfl ?_; conv => whnf) | (refine condK_of (by decide) ?_; conv => whnf) | (refine condK_of (by omega) ?_; conv => whnf) | (refine wrapK_in (w64 (by omega) (by omega)) ?_; conv => whnf))
    exact ret_of rfl rfl
  have hM : mapB m = true := by simpa using g3
  repeat (first | (refine bcase_f rfl ?_; conv => whnf) | (refine bcase_t rfl ?_; conv => whnf) | (refine condK_draw (by kernel_rfl) ?_; conv => whnf) | (refine condK_of rfl ?_; conv => whnf) | (refine condK_of (by decide) ?_; conv => whnf) | (refine condK_of (by omega) ?_; conv => whnf) | (refine wrapK_in (w64 (by omega) (by omega)) ?_; conv => whnf))
  refine aloop (ι := Nat) (fun i => [(1, .d (.lst (w.map encO))), (2, .ptr 2 0 0), (30, .d (.lst (w.map encO))), (31, .d (.int .i64 (w.map encO).length)), (32, .d (.int .i64 i))]) (fun i => [(2, .box [.d (.lst (m.map encP))] false)])
    (fun i => i ≤ w.length) (fun i => w.length - i) 0 (Nat.zero_le _) (le0 (le_of_cov ⟨rfl, rfl, rfl, rfl, rfl, trivial⟩ ⟨rfl, trivial⟩ ⟨rfl, rfl, rfl, rfl⟩)) ?_
  intro i hi
  conv => whnf
  refine bcase_p (fun h5 => ?_) (fun h5 => ?_) <;> conv => whnf
  · have hi2 : i < w.length := by omega
    refine idxK_nat (by omega) ?_
    conv => whnf
    refine getRow_of (x := encO w[i]) (by simp [hi2]) ?_
    conv => whnf
    repeat (first | (refine bcase_f rfl ?_; conv => whnf) | (refine bcase_t rfl ?_; conv => whnf) | (refine condK_draw (by kernel_rfl) ?_; conv => whnf) | (refine condK_of rfl ?_; conv => whnf) | (refine condK_of (by decide) ?_; conv => whnf) | (refine condK_of (by omega) ?_; conv => whnf) | (refine wrapK_in (w64 (by omega) (by omega)) ?_; conv => whnf))
    refine bcase_p (fun h6 => ?_) (fun h6 => ?_) <;> conv => whnf
    · repeat (first | (refine bcase_f rfl ?_; conv => whnf) | (refine bcase_t rfl ?_; conv => whnf) | (refine condK_draw (by kernel_rfl) ?_; conv => whnf) | (refine condK_of rfl ?_; conv => whnf) | (refine condK_of (by decide) ?_; conv => whnf) | (refine condK_of (by omega) ?_; conv => whnf) | (refine wrapK_in (w64 (by omega) (by omega)) ?_; conv => whnf))
      refine callX_pure awake_ok ?_
      conv => whnf
      repeat (first | (refine bcase_f rfl ?_; conv => whnf) | (refine bcase_t rfl ?_; conv => whnf) | (refine condK_draw (by kernel_rfl) ?_; conv => whnf) | (refine condK_of rfl ?_; conv => whnf) | (refine condK_of (by decide) ?_; conv => whnf) | (refine condK_of (by omega) ?_; conv => whnf) | (refine wrapK_in (w64 (by omega) (by omega)) ?_; conv => whnf))
      exact ret_of rfl rfl
    repeat (first | (refine bcase_f rfl ?_; conv => whnf) | (refine bcase_t rfl ?_; conv => whnf) | (refine condK_draw (by kernel_rfl) ?_; conv => whnf) | (refine condK_of rfl ?_; conv => whnf) | (refine condK_of (by decide) ?_; conv => whnf) | (refine condK_of (by omega) ?_; conv => whnf) | (refine wrapK_in (w64 (by omega) (by omega)) ?_; conv => whnf))
    exact ⟨i + 1, by omega, by omega, le0 (le_of_cov ⟨rfl, rfl, rfl, rfl, rfl, trivial⟩ ⟨rfl, trivial⟩ ⟨rfl, rfl, rfl, rfl⟩)⟩
  · repeat (first | (refine bcase_f rfl ?_; conv => whnf) | (refine bcase_t rfl ?_; conv => whnf) | (refine condK_draw (by kernel_rfl) ?_; conv => whnf) | (refine condK_of rfl ?_; conv => whnf) | (refine condK_of (by decide) ?_; conv => whnf) | (refine condK_of (by omega) ?_; conv => whnf) | (refine wrapK_in (w64 (by omega) (by omega)) ?_; conv => whnf))
    have hal := allM_len w m
    have hal2 := allM_len2 w m
    refine callX_pure (all_ok m w (by omega) (by omega)) ?_
    conv => whnf
    repeat (first | (refine bcase_f rfl ?_; conv => whnf) | (refine bcase_t rfl ?_; conv => whnf) | (refine condK_draw (by kernel_rfl) ?_; conv => whnf) | (refine condK_of rfl ?_; conv => whnf) | (refine condK_of (by decide) ?_; conv => whnf) | (refine condK_of (by omega) ?_; conv => whnf) | (refine wrapK_in (w64 (by omega) (by omega)) ?_; conv => whnf))
    obtain ⟨t, ht⟩ : ∃ t, (allM m w).2 = t := ⟨_, rfl⟩
    obtain ⟨n, hn⟩ : ∃ n, (allM m w).1 = n := ⟨_, rfl⟩
    have hmt : (t.map encR).length = t.length := List.length_map ..
    rw [ht] at hal2
    rw [hn] at hal
    rw [ht, hn]
    refine bcase_f (by rw [hmt, hml, hal2]; simp) ?_
    conv => whnf
    repeat (first | (refine bcase_f rfl ?_; conv => whnf) | (refine bcase_t rfl ?_; conv => whnf) | (refine condK_draw (by kernel_rfl) ?_; conv => whnf) | (refine condK_of rfl ?_; conv => whnf) | (refine condK_of (by decide) ?_; conv => whnf) | (refine condK_of (by omega) ?_; conv => whnf) | (refine wrapK_in (w64 (by omega) (by omega)) ?_; conv => whnf))
    have hel := evsO_len w m 0
    have hop := ops_p hM (show w.length ≤ 60 by omega)
    rw [hn] at hop
    refine aloop (ι := Nat) (fun k => [(2, .ptr 2 0 0), (7, .ptr 7 0 0), (8, .d (.lst (t.map encR))), (9, .own 71), (53, .d (.lst (w.map encO))), (54, .d (.int .i64 (w.map encO).length)), (55, .d (.int .i64 k))]) (fun k => [(2, .box [.d (.lst (m.map encP))] false), (7, .box [.d (.lst (n.map encP))] false), (71, .row (((evsO m 0 w).take k).map encE) 11 false)])
      (fun k => k ≤ w.length) (fun k => w.length - k) 0 (Nat.zero_le _) (le1 (.row 9 71 11) ⟨rfl, rfl⟩ (le_of_cov ⟨rfl, rfl, rfl, rfl, rfl, rfl, rfl, trivial⟩ ⟨rfl, rfl, rfl, trivial⟩ ⟨rfl, rfl, rfl, rfl⟩)) ?_
    intro k hk
    conv => whnf
    refine bcase_p (fun h7 => ?_) (fun h7 => ?_) <;> conv => whnf
    · have hk2 : k < w.length := by omega
      have hk3 : k < t.length := by omega
      refine idxK_nat (by omega) ?_
      conv => whnf
      refine getRow_of (x := encO w[k]) (by simp [hk2]) ?_
      conv => whnf
      repeat (first | (refine bcase_f rfl ?_; conv => whnf) | (refine bcase_t rfl ?_; conv => whnf) | (refine condK_draw (by kernel_rfl) ?_; conv => whnf) | (refine condK_of rfl ?_; conv => whnf) | (refine condK_of (by decide) ?_; conv => whnf) | (refine condK_of (by omega) ?_; conv => whnf) | (refine wrapK_in (w64 (by omega) (by omega)) ?_; conv => whnf))
      refine idxK_nat (by omega) ?_
      conv => whnf
      refine getRow_of (x := encR t[k]) (by simp [hk3]) ?_
      conv => whnf
      repeat (first | (refine bcase_f rfl ?_; conv => whnf) | (refine bcase_t rfl ?_; conv => whnf) | (refine condK_draw (by kernel_rfl) ?_; conv => whnf) | (refine condK_of rfl ?_; conv => whnf) | (refine condK_of (by decide) ?_; conv => whnf) | (refine condK_of (by omega) ?_; conv => whnf) | (refine wrapK_in (w64 (by omega) (by omega)) ?_; conv => whnf))
      refine roomK_le 1000100 1000 (by show List.length _ + 1 ≤ 1000100; rw [List.length_map, List.length_take]; omega) (by decide) (by decide) (by decide) ?_
      conv => whnf
      repeat (first | (refine bcase_f rfl ?_; conv => whnf) | (refine bcase_t rfl ?_; conv => whnf) | (refine condK_draw (by kernel_rfl) ?_; conv => whnf) | (refine condK_of rfl ?_; conv => whnf) | (refine condK_of (by decide) ?_; conv => whnf) | (refine condK_of (by omega) ?_; conv => whnf) | (refine wrapK_in (w64 (by omega) (by omega)) ?_; conv => whnf))
      have hk4 : k < (evsO m 0 w).length := by omega
      have er : ((evsO m 0 w).take k).map encE ++ [encE (evO k w[k] t[k])] = ((evsO m 0 w).take (k + 1)).map encE := by
        rw [take_snoc hk4, List.map_append, evsO_get w m 0 k hk2]
        subst ht
        rw [Nat.zero_add]
        rfl
      refine ⟨k + 1, by omega, by omega, le0 (le_of_cov ⟨?_, ?_, ?_, ?_, ?_, ?_, ?_, trivial⟩ ⟨?_, ?_, ?_, trivial⟩ ⟨?_, ?_, ?_, ?_⟩)⟩
      rotate_left 9
      rw [← er]
      all_goals kernel_rfl
    · repeat (first | (refine bcase_f rfl ?_; conv => whnf) | (refine bcase_t rfl ?_; conv => whnf) | (refine condK_draw (by kernel_rfl) ?_; conv => whnf) | (refine condK_of rfl ?_; conv => whnf) | (refine condK_of (by decide) ?_; conv => whnf) | (refine condK_of (by omega) ?_; conv => whnf) | (refine wrapK_in (w64 (by omega) (by omega)) ?_; conv => whnf))
      have ek : (evsO m 0 w).take k = evsO m 0 w := List.take_of_length_le (by omega)
      rw [ek]
      refine callX_pure (check_ok m (evsO m 0 w) (by omega) (by omega)) ?_
      conv => whnf
      repeat (first | (refine bcase_f rfl ?_; conv => whnf) | (refine bcase_t rfl ?_; conv => whnf) | (refine condK_draw (by kernel_rfl) ?_; conv => whnf) | (refine condK_of rfl ?_; conv => whnf) | (refine condK_of (by decide) ?_; conv => whnf) | (refine condK_of (by omega) ?_; conv => whnf) | (refine wrapK_in (w64 (by omega) (by omega)) ?_; conv => whnf))
      rw [hop]
      refine bcase_t (by simp) ?_
      conv => whnf
      repeat (first | (refine bcase_f rfl ?_; conv => whnf) | (refine bcase_t rfl ?_; conv => whnf) | (refine condK_draw (by kernel_rfl) ?_; conv => whnf) | (refine condK_of rfl ?_; conv => whnf) | (refine condK_of (by decide) ?_; conv => whnf) | (refine condK_of (by omega) ?_; conv => whnf) | (refine wrapK_in (w64 (by omega) (by omega)) ?_; conv => whnf))
      refine bcase_t (decide_eq_true (show ((w.length : Nat) : Int) = (((evsO m 0 w).map encE).length : Int) by rw [List.length_map, hel])) ?_
      conv => whnf
      repeat (first | (refine bcase_f rfl ?_; conv => whnf) | (refine bcase_t rfl ?_; conv => whnf) | (refine condK_draw (by kernel_rfl) ?_; conv => whnf) | (refine condK_of rfl ?_; conv => whnf) | (refine condK_of (by decide) ?_; conv => whnf) | (refine condK_of (by omega) ?_; conv => whnf) | (refine wrapK_in (w64 (by omega) (by omega)) ?_; conv => whnf))
      refine callX_pure (same_ok n n (by omega)) ?_
      conv => whnf
      repeat (first | (refine bcase_f rfl ?_; conv => whnf) | (refine bcase_t rfl ?_; conv => whnf) | (refine condK_draw (by kernel_rfl) ?_; conv => whnf) | (refine condK_of rfl ?_; conv => whnf) | (refine condK_of (by decide) ?_; conv => whnf) | (refine condK_of (by omega) ?_; conv => whnf) | (refine wrapK_in (w64 (by omega) (by omega)) ?_; conv => whnf))
      refine bcase_t (by simp) ?_
      conv => whnf
      repeat (first | (refine bcase_f rfl ?_; conv => whnf) | (refine bcase_t rfl ?_; conv => whnf) | (refine condK_draw (by kernel_rfl) ?_; conv => whnf) | (refine condK_of rfl ?_; conv => whnf) | (refine condK_of (by decide) ?_; conv => whnf) | (refine condK_of (by omega) ?_; conv => whnf) | (refine wrapK_in (w64 (by omega) (by omega)) ?_; conv => whnf))
      refine callX_pure awake_ok ?_
      conv => whnf
      repeat (first | (refine bcase_f rfl ?_; conv => whnf) | (refine bcase_t rfl ?_; conv => whnf) | (refine condK_draw (by kernel_rfl) ?_; conv => whnf) | (refine condK_of rfl ?_; conv => whnf) | (refine condK_of (by decide) ?_; conv => whnf) | (refine condK_of (by omega) ?_; conv => whnf) | (refine wrapK_in (w64 (by omega) (by omega)) ?_; conv => whnf))
      exact ret_of rfl rfl
end Go.Lk

set_option linter.unusedSimpArgs false
set_option linter.unusedVariables false
namespace Go.Lk
open Go Go.Proofs Go.RowKit Go.Lk.St

theorem byte_arg {n : Nat} {d : D} (h : FitV T n 5 d) : ∃ x : Nat, d = .int .u8 x ∧ x < 256 := by
  obtain ⟨x, rfl, hx⟩ := fitV_int (k := .u8) rfl h
  have hw := wf_u8 hx
  exact ⟨x.toNat, by rw [Int.toNat_of_nonneg hw.1], by omega⟩
theorem int_arg {n : Nat} {d : D} (h : FitV T n 3 d) : ∃ x : Int, d = .int .i64 x := by
  obtain ⟨x, rfl, hx⟩ := fitV_int (k := .i64) rfl h
  exact ⟨x, rfl⟩
theorem ops_arg {n : Nat} {d : D} (h : FitV T n 55 d) : ∃ w : List Op, d = .lst (w.map encO) := by
  obtain ⟨w, rfl, hl, hv⟩ := fitV_rows (f := encO) (Q := fun _ => True) (e := 50) rfl h fun m x hx => fit_op hx
  exact ⟨w, rfl⟩
theorem historyBegins_law : ∀ dds, FitAll T Try.f4.params.toList dds → ACall Try.prog 4 dds (.bool true) := by
  rintro dds ⟨n1, d1, r1, rfl, h1, n2, d2, r2, rfl, h2, n3, d3, r3, rfl, h3, rfl⟩
  obtain ⟨m, rfl, hm⟩ := map_arg h1
  obtain ⟨l, rfl, hl, _⟩ := evs_arg h2
  obtain ⟨n, rfl, hn⟩ := byte_arg h3
  exact begins_ok m l n hn hm
theorem historyTurned_law : ∀ dds, FitAll T Try.f5.params.toList dds → ACall Try.prog 5 dds (.bool true) := by
  rintro dds ⟨n1, d1, r1, rfl, h1, n2, d2, r2, rfl, h2, n3, d3, r3, rfl, h3, n4, d4, r4, rfl, h4, rfl⟩
  obtain ⟨m, rfl, hm⟩ := map_arg h1
  obtain ⟨l, rfl, hl, hv⟩ := evs_arg h2
  obtain ⟨n, rfl, hn⟩ := byte_arg h3
  obtain ⟨b, rfl, hb⟩ := byte_arg h4
  exact turned_ok m l n b hn hb hm hv
theorem historyAny_law : ∀ dds, FitAll T Try.f6.params.toList dds → ACall Try.prog 6 dds (.bool true) := by
  rintro dds ⟨n1, d1, r1, rfl, h1, n2, d2, r2, rfl, h2, n3, d3, r3, rfl, h3, rfl⟩
  obtain ⟨m, rfl, hm⟩ := map_arg h1
  obtain ⟨l, rfl, hl, _⟩ := evs_arg h2
  obtain ⟨n, rfl, hn⟩ := byte_arg h3
  exact any_ok m l n hn hm
theorem historyLate_law : ∀ dds, FitAll T Try.f7.params.toList dds → ACall Try.prog 7 dds (.bool true) := by
  rintro dds ⟨n1, d1, r1, rfl, h1, n2, d2, r2, rfl, h2, n3, d3, r3, rfl, h3, n4, d4, r4, rfl, h4, rfl⟩
  obtain ⟨b, rfl⟩ := int_arg h1
  obtain ⟨d, rfl⟩ := int_arg h2
  obtain ⟨e, rfl⟩ := int_arg h3
  obtain ⟨w, rfl⟩ := int_arg h4
  exact late_ok b d e w
theorem historyOps_law : ∀ dds, FitAll T Try.f8.params.toList dds → ACall Try.prog 8 dds (.bool true) := by
  rintro dds ⟨n1, d1, r1, rfl, h1, n2, d2, r2, rfl, h2, rfl⟩
  obtain ⟨m, rfl, hm⟩ := map_arg h1
  obtain ⟨w, rfl⟩ := ops_arg h2
  exact ops_ok m w hm
end Go.Lk


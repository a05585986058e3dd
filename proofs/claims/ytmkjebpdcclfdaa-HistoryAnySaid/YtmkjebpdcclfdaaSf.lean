/-
  the table's answer is the map's.
-/
import Derived.Test.YtmkjebpdcclfdaaSe
set_option linter.unusedSectionVars false
set_option linter.unusedSimpArgs false
set_option linter.unusedVariables false
set_option linter.unnecessarySimpa false
namespace Go.Lk
open Go Go.Proofs Go.RowKit Go.Lk.St

/-! ### the table's answer is the map's -/
structure MR (l : List Pg) : Prop where
  pw : l.Pairwise fun a b => a.1 < b.1
  one : ∀ x ∈ l, pgR x = true
theorem mr_iff {l : List Pg} : MRight l ↔ MR l := by
  constructor
  · intro h
    refine ⟨?_, h.one⟩
    rw [List.pairwise_iff_getElem]
    intro i j hi hj hij
    exact mright_lt h j i hij hj
  · intro h
    refine ⟨h.one, fun i hi => ?_⟩
    exact (List.pairwise_iff_getElem.1 h.pw) i (i + 1) (by omega) hi (by omega)
theorem findP_iff {l : List Pg} (h : l.Pairwise fun a b => a.1 < b.1) {j : Nat} {x : Pg} : findP l j = some x ↔ x ∈ l ∧ x.1 = (j : Int) := by
  constructor
  · intro e
    exact ⟨List.mem_of_find?_eq_some e, by have := List.find?_some e; simpa using this⟩
  · rintro ⟨h1, h2⟩
    cases e : findP l j with
    | none =>
      unfold findP at e
      rw [List.find?_eq_none] at e
      have := e x h1
      simp [h2] at this
    | some y =>
      have e1 := List.mem_of_find?_eq_some e
      have e2 : y.1 = (j : Int) := by have := List.find?_some e; simpa using this
      obtain ⟨i, hi, rfl⟩ := List.mem_iff_getElem.1 h1
      obtain ⟨i', hi', rfl⟩ := List.mem_iff_getElem.1 e1
      rw [List.pairwise_iff_getElem] at h
      rcases Nat.lt_trichotomy i i' with q | q | q
      · have := h i i' hi hi' q; omega
      · subst q; rfl
      · have := h i' i hi' hi q; omega

theorem fm_congr {α β : Type} {f g : α → Option β} : ∀ {xs : List α}, (∀ j ∈ xs, f j = g j) → xs.filterMap f = xs.filterMap g
  | [], _ => rfl
  | x :: r, h => by rw [List.filterMap_cons, List.filterMap_cons, h x (List.mem_cons_self ..), fm_congr fun j hj => h j (List.mem_cons_of_mem _ hj)]
theorem coll : ∀ (n a : Nat) (L : List Pg), L.Pairwise (fun a b => a.1 < b.1) → (∀ x ∈ L, (a : Int) ≤ x.1 ∧ x.1 < ((a + n : Nat) : Int)) → (List.range' a n).filterMap (fun j => findP L j) = L
  | 0, a, L, hp, h => by
    cases L with
    | nil => rfl
    | cons x r => have := h x (List.mem_cons_self ..); omega
  | n + 1, a, L, hp, h => by
    rw [List.range'_succ, List.filterMap_cons]
    cases L with
    | nil =>
      rw [findP_none (by simp)]
      exact coll n (a + 1) [] hp (by simp)
    | cons x r =>
      rw [List.pairwise_cons] at hp
      by_cases e : x.1 = (a : Int)
      · have e1 : findP (x :: r) a = some x := by simp [findP, e]
        rw [e1]
        have ih := coll n (a + 1) r hp.2 fun y hy => by
          have h1 := hp.1 y hy
          have h2 := h y (List.mem_cons_of_mem _ hy)
          omega
        show x :: (List.range' (a + 1) n).filterMap (fun j => findP (x :: r) j) = x :: r
        rw [fm_congr (g := fun j => findP r j) fun j hj => ?_, ih]
        rw [List.mem_range'_1] at hj
        have : decide (x.1 = (j : Int)) = false := by simp; omega
        simp [findP, this]
      · have hx := h x (List.mem_cons_self ..)
        rw [findP_none (fun y hy => by
          cases hy with
          | head => exact e
          | tail _ hy => have := hp.1 y hy; omega)]
        exact coll n (a + 1) (x :: r) (List.pairwise_cons.2 hp) fun y hy => by
          have h2 := h y hy
          cases hy with
          | head => omega
          | tail _ hy => have := hp.1 y hy; omega

theorem col_tab {L : List Pg} (hM : MR L) : colN (tabOf L) 17 = L := by
  have h1 : colN (tabOf L) 17 = ((List.range' 1 16).map fun j => (findP L j).getD zP).filter fun p => !decide (p.1 = 0) := by
    unfold colN tabOf
    rw [List.take_of_length_le (by simp), ← List.map_drop]
    rfl
  rw [h1]
  have h2 : ∀ xs : List Nat, (∀ j ∈ xs, 1 ≤ j) → ((xs.map fun j => (findP L j).getD zP).filter fun p => !decide (p.1 = 0)) = xs.filterMap fun j => findP L j := by
    intro xs
    induction xs with
    | nil => intro _; rfl
    | cons j r ih =>
      intro h
      have hj := h j (List.mem_cons_self ..)
      rw [List.map_cons, List.filterMap_cons, List.filter_cons, ih fun i hi => h i (List.mem_cons_of_mem _ hi)]
      cases e : findP L j with
      | none => simp [zP]
      | some x =>
        have := ((findP_iff hM.pw).1 e).2
        have h0 : ¬ x.1 = 0 := by omega
        simp [h0]
  rw [h2 _ fun j hj => (List.mem_range'_1.1 hj).1]
  exact coll 16 1 L hM.pw fun x hx => by
    have := pgR_out.1 (hM.one x hx)
    omega
theorem tab_set {l L : List Pg} {n : Nat} {q : Pg} (hn : n < 17) (h : ∀ j, j < 17 → (findP L j).getD zP = if j = n then q else (findP l j).getD zP) : (tabOf l).set n q = tabOf L := by
  apply List.ext_getElem
  · rw [List.length_set, tabOf_len, tabOf_len]
  · intro j h1 h2
    rw [tabOf_len] at h2
    rw [List.getElem_set, tabOf_get, tabOf_get, h j h2]
    by_cases e : n = j
    · simp [e]
    · rw [if_neg e, if_neg (fun h => e h.symm)]
end Go.Lk

set_option linter.unusedSimpArgs false
set_option linter.unusedVariables false
set_option linter.unnecessarySimpa false
namespace Go.Lk
open Go Go.Proofs Go.RowKit Go.Lk.St

theorem find_eq {l L : List Pg} (h1 : MR l) (h2 : MR L) {j : Nat} (h : ∀ x : Pg, x.1 = (j : Int) → (x ∈ L ↔ x ∈ l)) : findP L j = findP l j := by
  apply Option.ext
  intro x
  rw [findP_iff h1.pw, findP_iff h2.pw]
  constructor
  · rintro ⟨a, b⟩; exact ⟨(h x b).1 a, b⟩
  · rintro ⟨a, b⟩; exact ⟨(h x b).2 a, b⟩
theorem plN_lt {l : List Pg} {id : Int} {i : Nat} (hi : i < plN l id) : ∃ h : i < l.length, l[i].1 < id := by
  have h : i < l.length := Nat.lt_of_lt_of_le hi (plN_le l id)
  refine ⟨h, ?_⟩
  have := List.not_of_lt_findIdx hi
  simpa using this
theorem plN_ge {l : List Pg} {id : Int} (h : plN l id < l.length) : id ≤ l[plN l id].1 := by
  have := List.findIdx_getElem (w := h)
  exact of_decide_eq_true this
theorem plB_t {l : List Pg} {id : Int} (h : plB l id = true) : ∃ hk : plN l id < l.length, l[plN l id].1 = id := by
  unfold plB at h
  cases hq : l[plN l id]? with
  | none => rw [hq] at h; cases h
  | some p =>
    rw [hq] at h
    obtain ⟨h1, h2⟩ := List.getElem?_eq_some_iff.1 hq
    exact ⟨h1, by rw [h2]; simpa using h⟩
theorem plB_f {l : List Pg} {id : Int} (hM : MR l) (h : plB l id = false) : (∀ x ∈ l.take (plN l id), x.1 < id) ∧ (∀ x ∈ l.drop (plN l id), id < x.1) ∧ (∀ x ∈ l, x.1 ≠ id) := by
  have h1 : ∀ x ∈ l.take (plN l id), x.1 < id := by
    intro x hx
    obtain ⟨i, hi, rfl⟩ := List.mem_iff_getElem.1 hx
    rw [List.length_take] at hi
    rw [List.getElem_take]
    exact (plN_lt (by omega)).2
  have h2 : ∀ x ∈ l.drop (plN l id), id < x.1 := by
    intro x hx
    by_cases hk : plN l id < l.length
    · have e1 := plN_ge hk
      have e2 : l[plN l id].1 ≠ id := by
        intro e
        unfold plB at h
        rw [List.getElem?_eq_getElem hk] at h
        simp [e] at h
      rw [List.drop_eq_getElem_cons hk] at hx
      cases hx with
      | head => omega
      | tail _ hx =>
        have hp := hM.pw
        rw [← List.take_append_drop (plN l id) l, List.pairwise_append, List.drop_eq_getElem_cons hk, List.pairwise_cons] at hp
        have := hp.2.1.1 x hx
        omega
    · rw [List.drop_of_length_le (by omega)] at hx
      cases hx
  refine ⟨h1, h2, fun x hx => ?_⟩
  rw [← List.take_append_drop (plN l id) l, List.mem_append] at hx
  rcases hx with hx | hx
  · have := h1 x hx; omega
  · have := h2 x hx; omega
/-- a page put in -/
theorem mr_ins {l : List Pg} {q : Pg} (hM : MR l) (h : plB l q.1 = false) (hq : pgR q = true) : MR (l.take (plN l q.1) ++ q :: l.drop (plN l q.1)) := by
  obtain ⟨h1, h2, _⟩ := plB_f hM h
  refine ⟨?_, fun x hx => ?_⟩
  · rw [List.pairwise_append, List.pairwise_cons]
    refine ⟨hM.pw.sublist (List.take_sublist _ _), ⟨h2, hM.pw.sublist (List.drop_sublist _ _)⟩, fun a ha b hb => ?_⟩
    have := h1 a ha
    cases hb with
    | head => exact this
    | tail _ hb => have := h2 b hb; omega
  · rw [List.mem_append, List.mem_cons] at hx
    rcases hx with hx | rfl | hx
    · exact hM.one x (List.mem_of_mem_take hx)
    · exact hq
    · exact hM.one x (List.mem_of_mem_drop hx)
theorem mem_ins {l : List Pg} {q x : Pg} {k : Nat} : x ∈ l.take k ++ q :: l.drop k ↔ x = q ∨ x ∈ l := by
  rw [List.mem_append, List.mem_cons]
  have : x ∈ l ↔ x ∈ l.take k ∨ x ∈ l.drop k := by rw [← List.mem_append, List.take_append_drop]
  rw [this]
  constructor
  · rintro (h | h | h)
    · exact .inr (.inl h)
    · exact .inl h
    · exact .inr (.inr h)
  · rintro (h | h | h)
    · exact .inr (.inl h)
    · exact .inl h
    · exact .inr (.inr h)
/-- a page taken out -/
theorem pw_at {l : List Pg} (hM : MR l) {i j : Nat} (hi : i < l.length) (hj : j < l.length) (h : l[i].1 = l[j].1) : i = j := by
  have hp := List.pairwise_iff_getElem.1 hM.pw
  rcases Nat.lt_trichotomy i j with q | q | q
  · have := hp i j hi hj q; omega
  · exact q
  · have := hp j i hj hi q; omega
theorem mr_del {l : List Pg} (hM : MR l) (k : Nat) : MR (l.take k ++ l.drop (k + 1)) := by
  rw [← List.eraseIdx_eq_take_drop_succ]
  exact ⟨hM.pw.sublist (List.eraseIdx_sublist _ _), fun x hx => hM.one x (List.mem_of_mem_eraseIdx hx)⟩
theorem mem_del {l : List Pg} (hM : MR l) {k : Nat} (hk : k < l.length) {x : Pg} : x ∈ l.take k ++ l.drop (k + 1) ↔ x ∈ l ∧ x.1 ≠ l[k].1 := by
  rw [← List.eraseIdx_eq_take_drop_succ, List.mem_eraseIdx_iff_getElem]
  constructor
  · rintro ⟨i, hi, hne, rfl⟩
    exact ⟨List.getElem_mem hi, fun e => hne (pw_at hM hi hk e)⟩
  · rintro ⟨hx, hne⟩
    obtain ⟨i, hi, rfl⟩ := List.mem_iff_getElem.1 hx
    exact ⟨i, hi, fun e => hne (by subst e; rfl), rfl⟩
/-- a page set anew -/
theorem mr_set {l : List Pg} (hM : MR l) {k : Nat} (hk : k < l.length) {q : Pg} (h1 : q.1 = l[k].1) (hq : pgR q = true) : MR (l.set k q) := by
  refine ⟨?_, fun x hx => ?_⟩
  · rw [List.pairwise_iff_getElem]
    intro i j hi hj hij
    have hp := List.pairwise_iff_getElem.1 hM.pw i j (by simpa using hi) (by simpa using hj) hij
    rw [List.getElem_set, List.getElem_set]
    by_cases a : k = i
    · subst a; rw [if_pos rfl, if_neg (by omega), h1]; exact hp
    · by_cases b : k = j
      · subst b; rw [if_neg a, if_pos rfl, h1]; exact hp
      · rw [if_neg a, if_neg b]; exact hp
  · rcases List.mem_or_eq_of_mem_set hx with h | h
    · exact hM.one x h
    · rw [h]; exact hq
theorem mem_set {l : List Pg} (hM : MR l) {k : Nat} (hk : k < l.length) {q x : Pg} (h : x.1 ≠ l[k].1) (h1 : q.1 = l[k].1) : x ∈ l.set k q ↔ x ∈ l := by
  constructor
  · intro hx
    rcases List.mem_or_eq_of_mem_set hx with h2 | h2
    · exact h2
    · rw [h2] at h; exact absurd h1 h
  · intro hx
    obtain ⟨i, hi, rfl⟩ := List.mem_iff_getElem.1 hx
    have : k ≠ i := fun e => h (by subst e; rfl)
    rw [List.mem_iff_getElem]
    exact ⟨i, by simpa using hi, by rw [List.getElem_set, if_neg this]⟩
end Go.Lk

set_option linter.unusedSimpArgs false
set_option linter.unusedVariables false
set_option linter.unnecessarySimpa false
namespace Go.Lk
open Go Go.Proofs Go.RowKit Go.Lk.St

theorem rdM_eq (l : List Pg) (o : Op) : rdM l o = doM l o := by
  by_cases e0 : mapB l = false ∨ o.1 < 1 ∨ 4 < o.1 ∨ o.2.1 < 1 ∨ 16 < o.2.1
  · rw [rdM, doM, if_pos e0, if_pos e0]
  · have hM : MR l := mr_iff.1 (mapB_t.1 (by
      cases hb : mapB l with
      | true => rfl
      | false => exact absurd (.inl hb) e0))
    obtain ⟨n, hn⟩ : ∃ n : Nat, o.2.1 = n := ⟨o.2.1.toNat, by omega⟩
    have hn1 : 1 ≤ n ∧ n ≤ 16 := by omega
    rw [rdM, doM, if_neg e0, if_neg e0, hn]
    simp only [Int.toNat_natCast]
    cases hb : plB l (n : Int) with
    | false =>
      obtain ⟨h1, h2, h3⟩ := plB_f hM hb
      have hf : findP l n = none := findP_none h3
      rw [hf, Option.getD_none]
      by_cases k1 : o.1 = 1
      · rw [if_neg (show ¬ (o.1 = 1 ∧ zP.1 ≠ 0) from fun h => h.2 rfl), if_neg (show ¬ (1 < o.1 ∧ zP.1 = 0) from fun h => by omega), if_neg (show ¬ (o.1 = 3 ∧ 16 < o.2.2.size) from fun h => by omega), if_neg (show ¬ (o.1 = 3 ∧ zP.2.1 = 2147483647) from fun h => by omega), if_pos k1, if_pos k1, if_neg (by decide)]
        have hq : pgR ((n : Int), 1, ByteArray.empty) = true := pgR_out.2 ⟨by simp only; omega, by simp only; omega, show (1 : Int) ≤ 1 by decide, show (1 : Int) ≤ 2147483647 by decide, show ByteArray.empty.size ≤ 16 by decide⟩
        have hL := mr_ins (q := ((n : Int), 1, ByteArray.empty)) hM hb hq
        have ht : (tabOf l).set n ((n : Int), 1, ByteArray.empty) = tabOf (l.take (plN l n) ++ ((n : Int), 1, ByteArray.empty) :: l.drop (plN l n)) := tab_set (by omega) fun j hj => by
          by_cases e : j = n
          · subst e
            rw [if_pos rfl, (findP_iff hL.pw).2 ⟨mem_ins.2 (.inl rfl), rfl⟩]; rfl
          · rw [if_neg e, find_eq hM hL]
            intro x hx
            rw [mem_ins]
            constructor
            · rintro (h | h)
              · rw [h] at hx; exact absurd (by simp only at hx; omega) e
              · exact h
            · exact .inr
        rw [ht, col_tab hL]
      · rw [if_neg (show ¬ (o.1 = 1 ∧ zP.1 ≠ 0) from fun h => k1 h.1), if_pos (show 1 < o.1 ∧ zP.1 = 0 from ⟨by omega, rfl⟩), if_neg k1, if_pos rfl]
    | true =>
      obtain ⟨hk, hk1⟩ := plB_t hb
      have hf : findP l n = some l[plN l n] := (findP_iff hM.pw).2 ⟨List.getElem_mem hk, hk1⟩
      rw [hf, Option.getD_some, List.getElem?_eq_getElem hk]
      obtain ⟨k, hkd⟩ : ∃ k, plN l (n : Int) = k := ⟨_, rfl⟩
      simp only [hkd] at hk hk1 hf ⊢
      have hk2 : k < l.length := hk
      have hv := pgR_out.1 (hM.one l[k] (List.getElem_mem hk))
      have hp0 : l[k].1 ≠ 0 := by omega
      by_cases k1 : o.1 = 1
      · rw [if_pos (show o.1 = 1 ∧ l[k].1 ≠ 0 from ⟨k1, hp0⟩), if_pos k1, if_pos trivial]
      · rw [if_neg (show ¬ (o.1 = 1 ∧ l[k].1 ≠ 0) from fun h => k1 h.1), if_neg (show ¬ (1 < o.1 ∧ l[k].1 = 0) from fun h => hp0 h.2), if_neg k1, if_neg k1, if_neg (show ¬ (true = false) by decide)]
        by_cases k3 : o.1 = 3
        · by_cases q2 : 16 < o.2.2.size
          · rw [if_pos ⟨k3, q2⟩, if_neg (show ¬ o.1 = 2 by omega), if_neg (show ¬ o.1 = 4 by omega), if_pos q2]
          · rw [if_neg (show ¬ (o.1 = 3 ∧ 16 < o.2.2.size) from fun h => q2 h.2)]
            by_cases q3 : l[k].2.1 = 2147483647
            · rw [if_pos ⟨k3, q3⟩, if_neg (show ¬ o.1 = 2 by omega), if_neg (show ¬ o.1 = 4 by omega), if_neg q2, if_pos (show 2147483647 ≤ l[k].2.1 by omega)]
            · rw [if_neg (show ¬ (o.1 = 3 ∧ l[k].2.1 = 2147483647) from fun h => q3 h.2), if_pos k3, if_neg (show ¬ o.1 = 2 by omega), if_neg (show ¬ o.1 = 4 by omega), if_neg q2, if_neg (show ¬ 2147483647 ≤ l[k].2.1 by omega)]
              have hq : pgR (l[k].1, l[k].2.1 + 1, o.2.2) = true := pgR_out.2 ⟨by simp only; omega, by simp only; omega, by simp only; omega, by simp only; omega, by simp only; omega⟩
              have hL := mr_set hM hk (q := (l[k].1, l[k].2.1 + 1, o.2.2)) rfl hq
              have ht : (tabOf l).set n (l[k].1, l[k].2.1 + 1, o.2.2) = tabOf (l.set k (l[k].1, l[k].2.1 + 1, o.2.2)) := tab_set (by omega) fun j hj => by
                by_cases e : j = n
                · subst e
                  rw [if_pos rfl, (findP_iff (x := (l[k].1, l[k].2.1 + 1, o.2.2)) hL.pw).2 ⟨List.mem_iff_getElem.2 ⟨k, by rw [List.length_set]; exact hk2, List.getElem_set_self ..⟩, hk1⟩]; rfl
                · rw [if_neg e, find_eq hM hL]
                  intro x hx
                  exact mem_set hM hk (by omega) rfl
              rw [ht, col_tab hL]
        · rw [if_neg (show ¬ (o.1 = 3 ∧ 16 < o.2.2.size) from fun h => k3 h.1), if_neg (show ¬ (o.1 = 3 ∧ l[k].2.1 = 2147483647) from fun h => k3 h.1), if_neg k3]
          by_cases k4 : o.1 = 4
          · rw [if_pos k4, if_neg (show ¬ o.1 = 2 by omega), if_pos k4]
            have hL := mr_del hM k
            have ht : (tabOf l).set n zP = tabOf (l.take k ++ l.drop (k + 1)) := tab_set (by omega) fun j hj => by
              by_cases e : j = n
              · subst e
                rw [if_pos rfl, findP_none fun x hx => by have := ((mem_del hM hk2).1 hx).2; omega]; rfl
              · rw [if_neg e, find_eq hM hL]
                intro x hx
                rw [mem_del hM hk]
                exact ⟨fun h => h.1, fun h => ⟨h, by omega⟩⟩
            rw [ht, col_tab hL]
          · rw [if_neg k4, if_pos (show o.1 = 2 by omega)]
            have ht : (tabOf l).set n l[k] = tabOf l := tab_set (by omega) fun j hj => by
              by_cases e : j = n
              · subst e; rw [if_pos rfl, hf]; rfl
              · rw [if_neg e]
            rw [ht, col_tab hM]
end Go.Lk

set_option linter.unusedSimpArgs false
set_option linter.unusedVariables false
set_option linter.unnecessarySimpa false
namespace Go.Lk
open Go Go.Proofs Go.RowKit Go.Lk.St

theorem same_ok (a b : List Pg) (ha : a.length ≤ 1000000) : ACall Try.prog 17 [.lst (a.map encP), .lst (b.map encP)] (.bool (decide (a = b))) := by
  refine acall_of Try.func17 2 rfl (by kernel_rfl) ?_
  conv => whnf
  have hma : (a.map encP).length = a.length := List.length_map ..
  have hmb : (b.map encP).length = b.length := List.length_map ..
  refine bcase_n (fun h1 => ?_) (fun h1 => ?_) <;> conv => whnf
  · exact ret_of rfl (congrArg D.bool (by
      rw [hma, hmb] at h1
      symm; rw [decide_eq_false_iff_not]; intro e; subst e; exact h1 rfl))
  have hl : a.length = b.length := by omega
  repeat (first | (refine bcase_f rfl ?_; conv => whnf) | (refine bcase_t rfl ?_; conv => whnf) | (refine condK_draw (by kernel_rfl) ?_; conv => whnf) | (refine condK_of rfl ?_; conv => whnf) | (refine condK_of (by decide) ?_; conv => whnf) | (refine condK_of (by omega) ?_; conv => whnf) | (refine wrapK_in (w64 (by omega) (by omega)) ?_; conv => whnf))
  refine aloop (ι := Nat) (fun k => [(0, .d (.lst (a.map encP))), (1, .d (.lst (b.map encP))), (5, .d (.int .i64 k))]) (fun _ => [])
    (fun k => k ≤ a.length ∧ ∀ i, i < k → (hi : i < a.length) → a[i] = b[i]) (fun k => a.length - k) 0 ⟨by omega, by omega⟩ (le0 (le_of_cov ⟨rfl, rfl, rfl, trivial⟩ trivial ⟨rfl, rfl, rfl, rfl⟩)) ?_
  rintro k ⟨hk, hR⟩
  conv => whnf
  refine bcase_p (fun h5 => ?_) (fun h5 => ?_) <;> conv => whnf
  · have hk2 : k < a.length := by omega
    have hk3 : k < b.length := by omega
    refine idxK_nat (by omega) ?_
    conv => whnf
    refine getRow_of (x := encP a[k]) (by simp [hk2]) ?_
    conv => whnf
    repeat (first | (refine bcase_f rfl ?_; conv => whnf) | (refine bcase_t rfl ?_; conv => whnf) | (refine condK_draw (by kernel_rfl) ?_; conv => whnf) | (refine condK_of rfl ?_; conv => whnf) | (refine condK_of (by decide) ?_; conv => whnf) | (refine condK_of (by omega) ?_; conv => whnf) | (refine wrapK_in (w64 (by omega) (by omega)) ?_; conv => whnf))
    refine idxK_nat (by omega) ?_
    conv => whnf
    refine getRow_of (x := encP b[k]) (by simp [hk3]) ?_
    conv => whnf
    repeat (first | (refine bcase_f rfl ?_; conv => whnf) | (refine bcase_t rfl ?_; conv => whnf) | (refine condK_draw (by kernel_rfl) ?_; conv => whnf) | (refine condK_of rfl ?_; conv => whnf) | (refine condK_of (by decide) ?_; conv => whnf) | (refine condK_of (by omega) ?_; conv => whnf) | (refine wrapK_in (w64 (by omega) (by omega)) ?_; conv => whnf))
    refine bcase_intro (fun h6 => ?_) (fun h6 => ?_) <;> conv => whnf
    · repeat (first | (refine bcase_f rfl ?_; conv => whnf) | (refine bcase_t rfl ?_; conv => whnf) | (refine condK_draw (by kernel_rfl) ?_; conv => whnf) | (refine condK_of rfl ?_; conv => whnf) | (refine condK_of (by decide) ?_; conv => whnf) | (refine condK_of (by omega) ?_; conv => whnf) | (refine wrapK_in (w64 (by omega) (by omega)) ?_; conv => whnf))
      refine ret_of rfl (congrArg D.bool ?_)
      symm; rw [decide_eq_false_iff_not]; intro e; subst e
      simp at h6
    · have e : a[k] = b[k] := by
        refine Prod.ext ?_ (Prod.ext ?_ ?_)
        · simp at h6; exact h6.1
        · simp at h6; exact h6.2.1
        · simp at h6; exact h6.2.2
      repeat (first | (refine bcase_f rfl ?_; conv => whnf) | (refine bcase_t rfl ?_; conv => whnf) | (refine condK_draw (by kernel_rfl) ?_; conv => whnf) | (refine condK_of rfl ?_; conv => whnf) | (refine condK_of (by decide) ?_; conv => whnf) | (refine condK_of (by omega) ?_; conv => whnf) | (refine wrapK_in (w64 (by omega) (by omega)) ?_; conv => whnf))
      exact ⟨k + 1, ⟨by omega, fun i hi hi2 => by
        by_cases q : i = k
        · subst q; exact e
        · exact hR i (by omega) hi2⟩, by omega, (le0 (le_of_cov ⟨rfl, rfl, rfl, trivial⟩ trivial ⟨rfl, rfl, rfl, rfl⟩))⟩
  · repeat (first | (refine bcase_f rfl ?_; conv => whnf) | (refine bcase_t rfl ?_; conv => whnf) | (refine condK_draw (by kernel_rfl) ?_; conv => whnf) | (refine condK_of rfl ?_; conv => whnf) | (refine condK_of (by decide) ?_; conv => whnf) | (refine condK_of (by omega) ?_; conv => whnf) | (refine wrapK_in (w64 (by omega) (by omega)) ?_; conv => whnf))
    refine ret_of rfl (congrArg D.bool ?_)
    symm; rw [decide_eq_true_eq]
    exact List.ext_getElem hl fun i h1 h2 => hR i (by omega) h1
end Go.Lk


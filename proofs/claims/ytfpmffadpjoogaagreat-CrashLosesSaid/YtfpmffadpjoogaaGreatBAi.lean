/-
  What is proved here: what functions of the program compute, and what follows; no condition beyond each theorem's own.
-/
import Derived.Test.YtfpmffadpjoogaaGreatBAh
import Derived.Test.YtfpmffadpjoogaaGreatBAd
set_option linter.unusedSimpArgs false
set_option linter.unusedVariables false
set_option linter.unnecessarySimpa false
set_option linter.unusedSectionVars false
namespace Go.Lk
open Go Go.Proofs Go.RowKit

theorem del_run {s : List ByteArray} (h : Rest s) {q : Nat} (h1 : 1 ≤ q) (h16 : q ≤ 16) : runL ⟨s, []⟩ (planJ q (nulB 32)) = ⟨rmD s q, []⟩ :=
  plan_runs h h1 h16 (nulB_size 32)
theorem delete_did {p P W v u} (h : Inv p P W v u) (hv : 0 ≤ v) {q : Nat} (h1 : 1 ≤ q) (h16 : q ≤ 16) : Did p v u (if 0 < W q then (P, W, zP, 6) else if (P q).1 = 0 then (P, W, zP, 3) else (ud P q zP, W, zP, 0)) (poolRemove p q) := by
  obtain ⟨d1, d2, d3, d4⟩ := delD_rest h.pj.rest h1 h16
  have hr := del_run h.pj.rest h1 h16
  rw [poolRemove]
  rcases h.where h1 with hn | ⟨i, hA⟩
  · rw [findF_no h.pj.fm hn (by omega), if_neg (show ¬ false = true by decide), h.pj.get h1 h16, h.on.dsk q h1 h16 (h.out h1 hn), h.wout h1 h16 hn, if_neg (show ¬ (0 : Int) < 0 by decide)]
    by_cases hz : (P q).1 = 0
    · rw [if_pos hz, if_pos hz, if_pos (show (3 : Int) ≠ 0 by decide)]
      exact Did.same h zP 3
    · rw [if_neg hz, if_neg hz, if_neg (show ¬ ((0 : Int) ≠ 0) from fun g => g rfl), delTail, h.pj.get h1 h16, h.on.dsk q h1 h16 (h.out h1 hn), if_neg hz, if_neg (show ¬ (0 : Int) = 3 by decide)]
      rw [h.pj.d, d1, d2, if_neg (show ¬ ((0 : Int) ≠ 0) from fun g => g rfl)]
      exact ⟨rfl, rfl, h.rm h1 h16 hv hn, rfl, rfl, by rw [h.pj.d]; exact hr, show (10 : Nat) ≤ 170 by decide, fun g => absurd rfl g⟩
  · have hi := hA.hi
    have hw := h.wat hA
    have hk := frOk_out.1 (h.pj.fm.ck.all i hi)
    rw [findF_at hA, if_pos rfl, Int.toNat_natCast, atF_eq hi, hw]
    by_cases hz : 0 < p.f.fr[i].2.1
    · rw [if_pos hz, if_pos hz]
      exact Did.same h zP 6
    rw [if_neg hz, if_neg hz, if_neg (h.nz hA)]
    have e : lookS p.f q = ((i : Int), 0) := by
      rw [lookS, if_pos (fm_iff.2 hA.right), (find_mem hA.right.tb).2 ⟨hA.p1, hA.mem⟩]; rfl
    have ed : dropS p.f q = (relS p.f i q, 0) := by
      rw [dropS, e, if_neg (fun g => g rfl), Int.toNat_natCast, atF_eq hi, if_neg hz]
    rw [ed, if_neg (show ¬ ((0 : Int) ≠ 0) from fun g => g rfl), delTail, h.pj.get h1 h16]
    have h0 : p.f.fr[i].2.1 = 0 := by omega
    by_cases hg : (getR p.d.sec q).2 = 3
    · rw [if_pos hg]
      have hg2 : getR p.d.sec q = (zP, 3) := by
        have e3 : ∀ a : ByteArray, (takeM a).2 ≠ 0 → True := fun _ _ => trivial
        rw [getR] at hg ⊢
        split
        · rename_i g; rw [if_pos g] at hg; rw [hg]
        · rename_i g
          rw [if_neg g] at hg
          split at hg <;> exact absurd hg (show ¬ _ = (3 : Int) by simp only []; decide)
      have := h.rel hA h0 (s' := p.d.sec) (P' := ud P q zP) h.pj.rest h.pj.z0 (fun k hk => ud_ne _ _ hk) (fun _ _ _ _ => rfl) (by rw [ud_at, if_pos (show zP.1 = 0 from rfl)]; exact hg2) (by rw [ud_at]; exact .inl rfl) (by rw [ud_at]; exact hv)
      rw [← h.pj.d] at this
      exact ⟨rfl, rfl, this, rfl, by show (p.f.fr.set i _).length = _; rw [List.length_set], rfl, by simp, fun g => absurd rfl g⟩
    · rw [if_neg hg, h.pj.d, d1, d2, if_neg (show ¬ ((0 : Int) ≠ 0) from fun g => g rfl)]
      have := h.rel hA h0 (s' := rmD p.d.sec q) (P' := ud P q zP) d3 (setD_0 h.pj.rest) (fun k hk => ud_ne _ _ hk) (fun k k1 k16 hne => by rw [get_rm h.pj.rest h1 h16 k1 k16, if_neg (fun e => hne e.symm)]) (by rw [ud_at, if_pos (show zP.1 = 0 from rfl), get_rm h.pj.rest h1 h16 h1 h16, if_pos rfl]) (by rw [ud_at]; exact .inl rfl) (by rw [ud_at]; exact hv)
      exact ⟨rfl, rfl, this, rfl, by show (p.f.fr.set i _).length = _; rw [List.length_set], by rw [h.pj.d]; exact hr, show (10 : Nat) ≤ 170 by decide, fun g => absurd rfl g⟩
theorem flush_did {p P W v u} (h : Inv p P W v u) {q : Nat} (h1 : 1 ≤ q) (h16 : q ≤ 16) : Did p v u (if (P q).1 = 0 then (P, W, zP, 3) else (P, W, zP, 0)) (poolFlush p q) ∧ ((P q).1 ≠ 0 → ∀ x ∈ (poolFlush p q).1.f.dt, x.1 ≠ (q : Int)) := by
  rw [poolFlush]
  rcases h.where h1 with hn | ⟨i, hA⟩
  · rw [findF_no h.pj.fm hn (by omega), if_pos rfl, h.pj.get h1 h16, h.on.dsk q h1 h16 (h.out h1 hn)]
    by_cases hz : (P q).1 = 0
    · rw [if_pos hz, if_pos hz, if_pos (show (3 : Int) ≠ 0 by decide)]
      exact ⟨Did.same h zP 3, fun g => absurd hz g⟩
    · rw [if_neg hz, if_neg hz, if_neg (show ¬ ((0 : Int) ≠ 0) from fun g => g rfl)]
      exact ⟨Did.same h zP 0, fun _ => h.out h1 hn⟩
  · rw [findF_at hA, if_neg (show ¬ true = false by decide), if_neg (h.nz hA)]
    by_cases hs : (Dt.sinceG p.f.dt q).2 = false
    · rw [if_pos hs]
      refine ⟨Did.same h zP 0, fun _ x hx ex => ?_⟩
      rw [Dt.since_yes h.pj.fm.dt (p := (q : Int)) (t := x.2) (by rw [← ex]; exact hx)] at hs
      cases hs
    · rw [if_neg hs]
      have hd := Dt.placeG_mem.1 (since_place (by simpa using hs))
      obtain ⟨p', l, e, i1, f1, n1, r1, len1⟩ := wb_inv h hA hd
      rw [e, if_neg (show ¬ ((0 : Int) ≠ 0) from fun g => g rfl)]
      refine ⟨⟨rfl, rfl, i1, n1, by simp only [f1]; rfl, r1, by simp only []; omega, fun g => absurd rfl g⟩, fun _ x hx ex => ?_⟩
      simp only [f1] at hx
      have := (List.mem_filter.1 hx).2
      simp [ex] at this
theorem age_run {p0 : PS} : ∀ {ids : List Int} {q P W v u} {l : List Jo}, Inv q P W v u → ids.Nodup → (∀ id ∈ ids, ∃ x ∈ q.f.dt, x.1 = id) →
    ∃ q' l', ageL p0 ids q l = (q', zP, l ++ l', 0) ∧ Inv q' P W v u ∧ q'.now = q.now ∧ q'.f.fr.length = q.f.fr.length ∧ runL q.d l' = q'.d ∧ l'.length ≤ 10 * ids.length ∧ ∀ x, x ∈ q'.f.dt ↔ x ∈ q.f.dt ∧ x.1 ∉ ids
  | [], q, P, W, v, u, l, h, _, _ => ⟨q, [], by rw [ageL, List.append_nil], h, rfl, rfl, rfl, by simp, fun x => by simp⟩
  | id :: r, q, P, W, v, u, l, h, hn, hd => by
    rw [List.nodup_cons] at hn
    obtain ⟨x, hx, ex⟩ := hd id (List.mem_cons_self ..)
    obtain ⟨i, hA⟩ := dirty_in h.pj.fm hx
    rw [ex] at hA
    obtain ⟨qn, rfl⟩ : ∃ qn : Nat, id = qn := ⟨id.toNat, by have := hA.p1; omega⟩
    obtain ⟨p', l1, e, i1, f1, n1, r1, len1⟩ := wb_inv h hA ⟨x, hx, ex⟩
    have hmem : ∀ y, y ∈ p'.f.dt ↔ y ∈ q.f.dt ∧ y.1 ≠ (qn : Int) := fun y => by
      rw [f1]
      show y ∈ q.f.dt.filter _ ↔ _
      rw [List.mem_filter]
      simp
    obtain ⟨q2, l2, e2, i2, n2, m2, r2, len2, d2⟩ := age_run (p0 := p0) (l := l ++ l1) i1 hn.2 fun id' hid' => by
      obtain ⟨y, hy, ey⟩ := hd id' (List.mem_cons_of_mem _ hid')
      exact ⟨y, (hmem y).2 ⟨hy, fun g => hn.1 (by rw [← g, ey]; exact hid')⟩, ey⟩
    refine ⟨q2, l1 ++ l2, ?_, i2, n2.trans n1, by rw [m2, f1]; rfl, by rw [runL_app, r1, r2], by simp only [List.length_append, List.length_cons]; omega, fun y => ?_⟩
    · rw [ageL, e, if_neg (show ¬ ((0 : Int) ≠ 0) from fun g => g rfl), e2, List.append_assoc]
    · rw [d2, hmem, List.mem_cons]
      constructor
      · rintro ⟨⟨a, b⟩, c⟩
        exact ⟨a, fun g => g.elim b c⟩
      · rintro ⟨a, b⟩
        exact ⟨⟨a, fun g => b (.inl g)⟩, fun g => b (.inr g)⟩
theorem due_nodup {now age : Int} : ∀ {l : List (Int × Int)}, l.Pairwise (fun a b => a.1 ≠ b.1) → (l.filterMap (Dt.dueF now age)).Nodup
  | [], _ => List.nodup_nil
  | x :: r, h => by
    rw [List.pairwise_cons] at h
    have ih := due_nodup (now := now) (age := age) h.2
    rw [List.filterMap_cons]
    split
    · exact ih
    · rename_i b e
      rw [List.nodup_cons]
      refine ⟨fun hm => ?_, ih⟩
      obtain ⟨y, hy, ey⟩ := List.mem_filterMap.1 hm
      rw [Dt.dueF] at e ey
      split at e
      · split at ey
        · exact h.1 y hy ((Option.some.inj e).trans (Option.some.inj ey).symm)
        · cases ey
      · cases e
theorem due_nd {l : List (Int × Int)} (h : Dt.rightB l = true) (now age : Int) : (Dt.dueG l now age).Nodup := by
  rw [Dt.dueG]
  split
  · exact List.nodup_nil
  · exact due_nodup (Dt.rightB_iff.1 h).2.2.1
theorem age_did {p P W v u} (h : Inv p P W v u) (age : Int) : Did p v u (P, W, zP, 0) (poolAge p age) ∧ (0 ≤ age → ∀ x, x ∈ (poolAge p age).1.f.dt ↔ x ∈ p.f.dt ∧ p.now - x.2 < age) := by
  obtain ⟨q', l', e, i1, n1, m1, r1, len1, d1⟩ := age_run (p0 := p) (l := []) h (due_nd h.pj.fm.dt p.now age) fun id hid => by
    obtain ⟨_, t, ht, _⟩ := due_ids hid
    exact ⟨_, ht, rfl⟩
  have h16 := due_len (now := p.now) (age := age) h.pj.fm.dt
  rw [poolAge, e]
  refine ⟨⟨rfl, rfl, i1, n1, m1, r1, by simp only [List.nil_append]; omega, fun g => absurd rfl g⟩, fun h0 x => ?_⟩
  simp only []
  rw [d1]
  constructor
  · rintro ⟨a, b⟩
    refine ⟨a, Classical.byContradiction fun g => b ?_⟩
    rw [Dt.dueG, if_neg]
    · exact List.mem_filterMap.2 ⟨x, a, by rw [Dt.dueF, if_pos (by omega)]⟩
    · rintro (g | g | g)
      · omega
      · have := h.pj.n0; omega
      · rw [h.pj.fm.dt] at g; cases g
  · rintro ⟨a, b⟩
    refine ⟨a, fun g => ?_⟩
    obtain ⟨_, t, ht, hl⟩ := due_ids g
    have s1 := Dt.since_yes h.pj.fm.dt ht
    rw [Dt.since_yes h.pj.fm.dt (p := x.1) (t := x.2) a] at s1
    cases s1
    omega
theorem Did.mono {p P W v u v' u'} {x : Pg} {e : Int} {r : R4} (h : Did p v u (P, W, x, e) r) (hv : v ≤ v') (hu : u ≤ u') : Did p v' u' (P, W, x, e) r :=
  ⟨h.told, h.err, h.inv.mono hv hu, h.now, h.len, h.run, h.few, h.none⟩
theorem Did.mono' {p v u v' u'} {m : R3} {r : R4} (h : Did p v u m r) (hv : v ≤ v') (hu : u ≤ u') : Did p v' u' m r :=
  ⟨h.told, h.err, h.inv.mono hv hu, h.now, h.len, h.run, h.few, h.none⟩
/-- WHATEVER IS DONE, the map of pages tells -/
theorem do_did {p P W v u} (h : Inv p P W v u) (hv1 : 1 ≤ v) (hv : v < 2147483647) (hu0 : 0 ≤ u) (hu : u < 2147483647) (a : PAct) {n : Nat} (hl : p.f.fr.length = n) : Did p (v + 1) (u + 1) (docM P W n a) (poolDo p a) := by
  have m1 : v ≤ v + 1 := by omega
  have m2 : u ≤ u + 1 := by omega
  have hm := h.mono m1 m2
  obtain ⟨k, id, b⟩ := a
  by_cases hb : k < 1 ∨ 8 < k
  · rw [docM, if_pos (hb.elim .inl fun g => .inr (.inl g)), poolDo, if_pos hb]
    exact Did.same hm zP 1
  by_cases hb2 : k ≠ 8 ∧ (id < 1 ∨ 16 < id)
  · rw [docM, if_pos (.inr (.inr hb2)), poolDo, if_neg hb, if_pos hb2]
    exact Did.same hm zP 1
  by_cases h8 : k = 8
  · subst h8
    rw [docM, if_neg (by simp only []; omega), if_pos rfl, poolDo, if_neg hb, if_neg hb2, if_neg (show ¬ (8 : Int) = 1 by decide), if_neg (show ¬ (8 : Int) = 2 by decide), if_neg (show ¬ (8 : Int) = 6 by decide), if_neg (show ¬ (8 : Int) = 7 by decide), if_pos rfl]
    exact (age_did h id).1.mono m1 m2
  obtain ⟨q, rfl⟩ : ∃ q : Nat, id = q := ⟨id.toNat, by omega⟩
  have h1 : 1 ≤ q := by omega
  have h16 : q ≤ 16 := by omega
  by_cases h35 : k = 3 ∨ k = 4 ∨ k = 5
  · rw [do_pinned (show 1 ≤ (q : Int) by omega) (show (q : Int) ≤ 16 by omega) h35]
    exact (pinned_did h hv h1 h16 h35).mono' (Int.le_refl _) m2
  rw [docM, if_neg (by simp only []; omega), if_neg h8, if_neg (by simp only []; omega), if_neg (by simp only []; omega), if_neg (by simp only []; omega), if_neg (by simp only []; omega), poolDo, if_neg hb, if_neg hb2]
  simp only [Int.toNat_natCast]
  have hk : k = 1 ∨ k = 2 ∨ k = 6 ∨ k = 7 := by omega
  rcases hk with rfl | rfl | rfl | rfl
  · rw [if_pos rfl, if_neg (by decide), if_neg (by decide)]
    exact (fetch_did h hv hu0 hu h1 h16 hl).mono' m1 (Int.le_refl _)
  · rw [if_neg (by decide), if_pos rfl, if_neg (by decide), if_neg (by decide)]
    exact (create_did h hv1 hv hu0 hu h1 h16 hl).mono' m1 (Int.le_refl _)
  · rw [if_neg (show ¬ (6 : Int) = 1 by decide), if_neg (show ¬ (6 : Int) = 2 by decide)]
    simp only [if_true]
    exact (delete_did h (by omega) h1 h16).mono' m1 m2
  · rw [if_neg (show ¬ (7 : Int) = 1 by decide), if_neg (show ¬ (7 : Int) = 2 by decide)]
    have e : ¬ (7 : Int) = 6 := by decide
    simp only [if_true, if_neg e]
    exact (flush_did h h1 h16).1.mono' m1 m2
end Go.Lk

namespace Go.Lk
open Go Go.Proofs Go.RowKit

theorem Inv.new {n : Nat} (h1 : 1 ≤ n) (h8 : n ≤ 8) {s : List ByteArray} (hs : Rest s) (hz : s[0]?.getD ByteArray.empty = nul16) {P : Nat → Pg} {v u : Int} (h : OnD s [] P v) (hu : 0 ≤ u) : Inv ⟨newFS n, ⟨s, []⟩, 0⟩ P (fun _ => 0) v u := by
  have hfr : ∀ i (hi : i < (newFS n).fr.length), (newFS n).fr[i] = (0, 0, false) := fun i hi => by
    have hi2 : i < (List.replicate n ((0, 0, false) : Fr)).length := hi
    show (List.replicate n ((0, 0, false) : Fr))[i]'hi2 = _
    rw [List.getElem_replicate]
  refine ⟨⟨FM.new h1 h8, hs, rfl, hz, by show (0 : Int) ≤ 0; decide, by show (0 : Int) ≤ _; decide, fun x hx => by cases hx⟩, fun q h1 h16 => .inr ⟨fun i hi e => ?_, rfl⟩, fun q i hA => ?_, h, fun q => hu⟩
  · rw [hfr i hi] at e
    have e : (0 : Int) = (q : Int) := e
    omega
  · have e := hA.fr
    rw [hfr i hA.hi] at e
    have e : (0 : Int) = (q : Int) := e
    have := hA.p1
    omega
theorem OnD.new {v : Int} (hv : 0 ≤ v) : OnD (List.replicate 35 nul16) [] (fun _ => zP) v :=
  ⟨fun q _ h16 _ => by rw [get_new h16, if_pos (show zP.1 = 0 from rfl)], fun _ _ _ => .inl rfl, fun _ => hv⟩
theorem z_new : (List.replicate 35 nul16)[0]?.getD ByteArray.empty = nul16 := by rw [List.getElem?_replicate, if_pos (by decide)]; rfl
def p0 (n : Nat) : PS := ⟨newFS n, newDS, 0⟩
theorem p0_inv {n : Nat} (h1 : 1 ≤ n) (h8 : n ≤ 8) : Inv (p0 n) (fun _ => zP) (fun _ => 0) 1 0 := Inv.new h1 h8 new_rest z_new (OnD.new (by decide)) (by decide)
/-- an act, told -/
theorem Did.eq {p v u} {P' : Nat → Pg} {W' : Nat → Int} {x : Pg} {e : Int} {r : R4} (h : Did p v u (P', W', x, e) r) : ∃ q l, r = (q, x, l, e) ∧ Inv q P' W' v u ∧ q.now = p.now ∧ q.f.fr.length = p.f.fr.length ∧ runL p.d l = q.d ∧ l.length ≤ 170 ∧ (e ≠ 0 → l = []) := by
  obtain ⟨q, y, l, f⟩ := r
  have h1 := h.told
  have h2 := h.err
  simp only at h1 h2
  subst h1 h2
  exact ⟨q, l, rfl, h.inv, h.now, h.len, h.run, h.few, h.none⟩
/-- one page is given back, and written back, and another one comes -/
theorem ten {p P W v u} (h : Inv p P W v u) (hv1 : 1 ≤ v) (hv : v + 1 < 2147483647) (hu0 : 0 ≤ u) (hu : u + 1 < 2147483647) {k id : Nat} (k1 : 1 ≤ k) (k16 : k ≤ 16) (id1 : 1 ≤ id) (id16 : id ≤ 16) (hne : id ≠ k)
    (hall : ∀ i (hi : i < p.f.fr.length), p.f.fr[i].2.1 ≠ 0) (hWk : W k = 1) (hWid : W id = 0) (hPid : (P id).1 = 0) (hPk : (P k).1 ≠ 0) (hg : getR p.d.sec k = (zP, 3)) (hc : bn (ud (ud W k 0) id 1) 16 = p.f.fr.length) (b b' : ByteArray) :
    ∃ c e l, poolDo p (5, (k : Int), b) = (c, zP, [], 0) ∧ FM c.f ∧ c.now = p.now ∧ poolDo c (2, (id : Int), b') = (e, newP id, l, 0) ∧ l.length = 10 ∧ FM e.f ∧ e.now = p.now ∧ getS e.d k = (P k, 0) := by
  -- where k is
  obtain ⟨i, hA⟩ : ∃ i, AtF p.f (k : Int) i := by
    rcases h.where k1 with hn | hA
    · rw [h.wout k1 k16 hn] at hWk; cases hWk
    · exact hA
  have hi := hA.hi
  have hpin : p.f.fr[i].2.1 = 1 := by rw [← h.wat hA]; exact hWk
  have hkd : ∃ x ∈ p.f.dt, x.1 = (k : Int) := by
    refine Classical.byContradiction fun g => ?_
    have := h.on.dsk k k1 k16 fun x hx ex => g ⟨x, hx, ex⟩
    rw [hg, if_neg hPk] at this
    exact absurd (congrArg Prod.snd this) (show ¬ (3 : Int) = 0 by decide)
  -- unpin
  have hunp := unpinS_yes hA (by rw [hpin]; decide)
  have ec : poolDo p (5, (k : Int), b) = (⟨withF p.f i (downPin (p.f.fr[i]'hA.hi)), p.d, p.now⟩, zP, [], 0) := by
    rw [do_pinned (by omega) (by omega) (.inr (.inr rfl)), pinned_at (a := (5, (k : Int), b)) hA (by rw [hpin]; decide)]
    have e54 : ¬ (5 : Int) = 4 := by decide
    simp only [if_neg e54, if_true, hunp, ne_eq, not_true_eq_false, if_false]
  have hdid : docM P W p.f.fr.length (5, (k : Int), b) = (P, ud W k 0, zP, 0) := by
    rw [docM, if_neg (by simp only []; omega), if_neg (show ¬ (5 : Int) = 8 by decide)]
    simp only [Int.toNat_natCast]
    rw [if_neg (fun g => by rw [hWk] at g; exact absurd g.2.2 (by decide)), if_neg (show ¬ (5 : Int) = 3 by decide), if_neg (show ¬ (5 : Int) = 4 by decide), if_pos trivial, hWk]
    rfl
  have d1 := do_did h hv1 (by omega) hu0 (by omega) (5, (k : Int), b) rfl
  rw [hdid, ec] at d1
  obtain ⟨c, hcd⟩ : ∃ c, PS.mk (withF p.f i (downPin (p.f.fr[i]'hA.hi))) p.d p.now = c := ⟨_, rfl⟩
  have cf : c.f = withF p.f i (downPin (p.f.fr[i]'hA.hi)) := by rw [← hcd]
  have cd : c.d = p.d := by rw [← hcd]
  have cn : c.now = p.now := by rw [← hcd]
  rw [hcd] at d1 ec
  have ic := d1.inv
  simp only [] at ic
  have cfr : c.f.fr = p.f.fr.set i (downPin (p.f.fr[i]'hA.hi)) := by rw [cf]; rfl
  have clen : c.f.fr.length = p.f.fr.length := by rw [cfr, List.length_set]
  have cat : ∀ j (hj : j < c.f.fr.length), c.f.fr[j] = if i = j then downPin (p.f.fr[i]'hA.hi) else p.f.fr[j]'(by omega) := fun j hj => by
    simp only [cfr]
    rw [List.getElem_set]
  have hno : ∀ j (hj : j < c.f.fr.length), c.f.fr[j].1 ≠ 0 := fun j hj => by
    rw [cat j hj]
    split
    · show (p.f.fr[i]).1 ≠ 0
      rw [hA.fr]; omega
    · exact fun g => hall j (by omega) (h.loose0 (by omega) g)
  have hA2 : AtF c.f (k : Int) i := atF_of ic.pj.fm (by omega) (by omega) (by rw [cat i (by omega), if_pos rfl]; exact hA.fr)
  have hne2 : ∀ j (hj : j < c.f.fr.length), j ≠ i → c.f.fr[j].2.1 ≠ 0 := fun j hj hji => by
    rw [cat j hj, if_neg (fun g => hji g.symm)]
    exact hall j (by omega)
  have h00 : (c.f.fr[i]'hA2.hi).2.1 = 0 := by
    rw [cat i hA2.hi, if_pos rfl]
    show (p.f.fr[i]).2.1 - 1 = 0
    omega
  have hd2 : 0 ≤ Dt.placeG c.f.dt (k : Int) 0 := by
    rw [cf]
    exact Dt.placeG_mem.2 hkd
  obtain ⟨f', em, m1, m2, ⟨hz1, hz2⟩, m4, m5, m6⟩ := make_one ic.pj.fm hA2 hno hne2 h00 hd2 ic.pj.rest ic.pj.ca
  -- create
  have hnid : ∀ j (hj : j < c.f.fr.length), c.f.fr[j].1 ≠ (id : Int) := fun j hj g => by
    have hB := atF_of ic.pj.fm (by omega) hj g
    have := ic.wat hB
    rw [ud_ne _ _ hne, hWid] at this
    by_cases e : j = i
    · subst e
      have := hA2.fr.symm.trans g
      omega
    · exact hne2 j hj e this.symm
  have hbusy : ¬ bn (ud W k 0) 16 = c.f.fr.length := fun g => ic.busy.1 g i hA2.hi h00
  have hdoc2 : docM P (ud W k 0) c.f.fr.length (2, (id : Int), b') = (ud P id (newP id), ud (ud W k 0) id 1, newP id, 0) := by
    rw [docM, if_neg (by simp only []; omega), if_neg (show ¬ (2 : Int) = 8 by decide)]
    simp only [Int.toNat_natCast]
    rw [if_neg (fun g => absurd g.1 (by decide)), if_neg (show ¬ (2 : Int) = 3 by decide), if_neg (show ¬ (2 : Int) = 4 by decide), if_neg (show ¬ (2 : Int) = 5 by decide), if_neg (show ¬ (2 : Int) = 6 by decide), if_neg (show ¬ (2 : Int) = 7 by decide)]
    rw [thereM, if_neg (fun g => absurd g.1 (by decide)), if_neg (fun g => g.2 hPid), if_neg (fun g => hbusy g.2), if_pos rfl, ud_ne _ _ hne, hWid]
    rfl
  have d2 := do_did ic (show 1 ≤ v + 1 by omega) (by omega) (show 0 ≤ u + 1 by omega) (by omega) (2, (id : Int), b') rfl
  rw [hdoc2] at d2
  obtain ⟨e, l, ee, ie, en, elen, erun, _, _⟩ := d2.eq
  have hz3 : getR c.d.sec ((id : Int)).toNat = (zP, 3) := by
    rw [Int.toNat_natCast, ic.on.dsk id id1 id16 (ic.out id1 hnid), if_pos hPid]
  have e3 := create_step ic.pj (show 1 ≤ (id : Int) by omega) (by omega) hnid hz3
  obtain ⟨j, hj, hjz, e4, m7, m8⟩ := load_after (x := pg1' (id : Int)) em m1 (pg1_ok (by omega) (by omega)) ic.pj.n0 ic.pj.n1 true (fun j hj => by
    by_cases e : j = i
    · subst e; rw [hz2]; exact (show (0 : Int) ≠ (id : Int) by omega)
    · have hj : j < f'.fr.length := hj
      rw [(m4 j (by omega) hj e).1]
      exact hnid j (by omega)) ⟨i, hz1, hz2⟩ (fun x hx => ic.pj.dt x (m6 x hx))
  have el : l = planJ ((k : Int)).toNat (putB (c.f.pg[i]'hA2.hp)) := by
    have e5 : poolDo c (2, (id : Int), b') = _ := (do_create (show 1 ≤ (id : Int) by omega) (show (id : Int) ≤ 16 by omega)).trans (e3.trans e4)
    rw [ee] at e5
    exact congrArg (fun q : R4 => q.2.2.1) e5
  refine ⟨c, e, l, ec, ic.pj.fm, cn, ee, by rw [el]; rfl, ie.pj.fm, en.trans cn, ?_⟩
  have hkn : ∀ j (hj : j < e.f.fr.length), e.f.fr[j].1 ≠ (k : Int) := fun j hj g => by
    have hB := atF_of ie.pj.fm (by omega) hj g
    have := ie.wat hB
    rw [ud_ne _ _ (fun q => hne q.symm), ud_at] at this
    exact ie.busy.1 (by rw [hc, elen, clen]) j hj this.symm
  have := ie.on.dsk k k1 k16 (ie.out k1 hkn)
  rw [ud_ne _ _ (fun q => hne q.symm), if_neg hPk] at this
  rw [ie.pj.get k1 k16]; exact this
end Go.Lk

namespace Go.Lk
open Go Go.Proofs Go.RowKit

theorem create_free {p : PS} (h : FM p.f) (hf : ∃ i, ∃ hi : i < p.f.fr.length, p.f.fr[i].1 = 0) (id : Int) : (poolCreate p id).2.2.1 = [] := by
  have hm := make_free h hf
  rw [poolCreate]
  split
  · rfl
  split
  · rw [poolLoad, hm]
    split
    · rfl
    split <;> rfl
  split <;> rfl
theorem do2_free {p : PS} (h : FM p.f) (hf : ∃ i, ∃ hi : i < p.f.fr.length, p.f.fr[i].1 = 0) {id : Int} (h1 : 1 ≤ id) (h16 : id ≤ 16) (b : ByteArray) : (poolDo p (2, id, b)).2.2.1 = [] := by
  rw [do_create h1 h16]; exact create_free h hf id
theorem do345 {p : PS} {k id : Int} {b : ByteArray} (h1 : 1 ≤ id) (h16 : id ≤ 16) (hk : k = 3 ∨ k = 4 ∨ k = 5) : (poolDo p (k, id, b)).2.2.1 = [] := by
  rw [do_pinned h1 h16 hk]
theorem PJ.tl {p : PS} (h : PJ p) : p.now ≤ 2147483647 := h.n1
def bx : ByteArray := { data := #[120] }
theorem awake_run : ∃ (a b c e : PS) (l : List Jo), poolDo (p0 1) (2, 3, ByteArray.empty) = (a, (3, 1, ByteArray.empty), [], 0) ∧ PJ a ∧ poolDo a (4, 3, bx) = (b, (3, 2, bx), [], 0) ∧ PJ b ∧ poolDo b (2, 4, ByteArray.empty) = (b, zP, [], 6) ∧
    poolDo b (5, 3, ByteArray.empty) = (c, zP, [], 0) ∧ FM c.f ∧ c.now = b.now ∧ poolDo c (2, 4, ByteArray.empty) = (e, (4, 1, ByteArray.empty), l, 0) ∧ l.length = 10 ∧ getS e.d 3 = ((3, 2, bx), 0) := by
  have h0 := p0_inv (n := 1) (by decide) (by decide)
  have d1 := do_did h0 (by decide) (by decide) (by decide) (by decide) (2, 3, ByteArray.empty) (n := 1) rfl
  rw [show docM (fun _ => zP) (fun _ => 0) 1 (2, 3, ByteArray.empty) = (ud (fun _ => zP) 3 (newP 3), ud (fun _ => 0) 3 1, newP 3, 0) from rfl] at d1
  obtain ⟨a, l1, e1, i1, n1, len1, run1, _, _⟩ := d1.eq
  have hl1 : l1 = [] := by
    have := do2_free (p := p0 1) h0.pj.fm ⟨0, by decide, rfl⟩ (id := 3) (by decide) (by decide) ByteArray.empty
    rw [e1] at this; exact this
  subst hl1
  have d2 := do_did i1 (by decide) (by decide) (by decide) (by decide) (4, 3, bx) (n := 1) (by rw [len1]; rfl)
  rw [show docM (ud (fun _ => zP) 3 (newP 3)) (ud (fun _ => 0) 3 1) 1 (4, 3, bx) = (ud (ud (fun _ => zP) 3 (newP 3)) 3 (3, 2, bx), ud (fun _ => 0) 3 1, (3, 2, bx), 0) from rfl] at d2
  obtain ⟨b, l2, e2, i2, n2, len2, run2, _, _⟩ := d2.eq
  have hl2 : l2 = [] := by
    have := do345 (p := a) (k := 4) (id := 3) (b := bx) (by decide) (by decide) (.inr (.inl rfl))
    rw [e2] at this; exact this
  subst hl2
  have hlen : b.f.fr.length = 1 := by rw [len2, len1]; rfl
  have hall : ∀ i (hi : i < b.f.fr.length), b.f.fr[i].2.1 ≠ 0 := i2.busy.1 (by rw [hlen]; rfl)
  have hsec : b.d = newDS := run2.symm.trans ((show runL a.d [] = a.d from rfl).trans run1.symm)
  have hn4 : ∀ i (hi : i < b.f.fr.length), b.f.fr[i].1 ≠ (4 : Int) := fun i hi g => by
    have hA := atF_of i2.pj.fm (p := ((4 : Nat) : Int)) (by decide) hi g
    have := i2.wat hA
    exact hall i hi (this.symm.trans rfl)
  have e3 : poolDo b (2, 4, ByteArray.empty) = (b, zP, [], 6) := by
    have hz : getR b.d.sec (4 : Int).toNat = (zP, 3) := by
      have := i2.on.dsk 4 (by decide) (by decide) (i2.out (by decide) hn4)
      exact this
    rw [do_create (by decide) (by decide), create_step i2.pj (by decide) (by decide) hn4 hz, poolLoad, make_busy i2.pj.fm (fun i hi g => hall i hi (i2.loose0 hi g)) hall, if_pos (show (6 : Int) ≠ 0 by decide)]
  obtain ⟨c, e, l, e4, f4, n4, e5, l5, _, _, g5⟩ := ten i2 (by decide) (by decide) (by decide) (by decide) (k := 3) (id := 4) (by decide) (by decide) (by decide) (by decide) (by decide) hall rfl rfl rfl (show (3 : Int) ≠ 0 by decide)
    (by rw [hsec]; exact get_new (by decide)) (by rw [hlen]; rfl) ByteArray.empty ByteArray.empty
  exact ⟨a, b, c, e, l, e1, i1.pj, e2, i2.pj, e3, e4, f4, n4, e5, l5, g5⟩
theorem open_rest {s : List ByteArray} (hs : Rest s) (hz : s[0]?.getD ByteArray.empty = nul16) {n : Int} (h1 : 1 ≤ n) (h8 : n ≤ 8) : openM ⟨s, []⟩ n = (⟨newFS n.toNat, ⟨s, []⟩, 0⟩, 0) := by
  rw [openM, if_neg, if_neg (by omega), rec_rest hs hz]
  rintro (g | g)
  · refine g ?_
    rw [getJ, if_pos ⟨hs.us, by decide, by decide⟩]
  · exact absurd g (show ¬ 0 < ([] : List Wt).length by decide)
theorem awake16_ok : ACall Tryz.prog 16 [] (.bool true) := by
  obtain ⟨a, b, c, e, l, e1, j1, e2, j2, e3, e4, f4, n4, e5, l5, g5⟩ := awake_run
  have hml : (l.map encJ).length = l.length := List.length_map ..
  have hop : openM newDS 1 = (p0 1, 0) := open_rest new_rest z_new (by decide) (by decide)
  refine acall_of Tryz.func16 0 rfl (by kernel_rfl) ?_
  conv => whnf
  repeat ((first | refine bF ?_ | refine bT ?_ | refine dK ?_ | refine cR ?_ | refine cK ?_ | refine wK ?_); conv => whnf)
  refine callX_pure dnew_ok ?_
  conv => whnf
  repeat ((first | refine bF ?_ | refine bT ?_ | refine dK ?_ | refine cR ?_ | refine cK ?_ | refine wK ?_); conv => whnf)
  refine callX_pure (open_ok newDS 1) ?_
  conv => whnf
  repeat ((first | refine bF ?_ | refine bT ?_ | refine dK ?_ | refine cR ?_ | refine cK ?_ | refine wK ?_); conv => whnf)
  rw [hop]
  repeat ((first | refine bF ?_ | refine bT ?_ | refine dK ?_ | refine cR ?_ | refine cK ?_ | refine wK ?_); conv => whnf)
  refine callX_pure (poolDo_ok (p0 1) (2, 3, ByteArray.empty) (p0_inv (by decide) (by decide)).pj.fm (by decide)) ?_
  conv => whnf
  repeat ((first | refine bF ?_ | refine bT ?_ | refine dK ?_ | refine cR ?_ | refine cK ?_ | refine wK ?_); conv => whnf)
  rw [e1]
  repeat ((first | refine bF ?_ | refine bT ?_ | refine dK ?_ | refine cR ?_ | refine cK ?_ | refine wK ?_); conv => whnf)
  refine callX_pure (poolDo_ok a (4, 3, bx) j1.fm j1.n1) ?_
  conv => whnf
  repeat ((first | refine bF ?_ | refine bT ?_ | refine dK ?_ | refine cR ?_ | refine cK ?_ | refine wK ?_); conv => whnf)
  rw [e2]
  repeat ((first | refine bF ?_ | refine bT ?_ | refine dK ?_ | refine cR ?_ | refine cK ?_ | refine wK ?_); conv => whnf)
  refine callX_pure (poolDo_ok b (2, 4, ByteArray.empty) j2.fm j2.n1) ?_
  conv => whnf
  repeat ((first | refine bF ?_ | refine bT ?_ | refine dK ?_ | refine cR ?_ | refine cK ?_ | refine wK ?_); conv => whnf)
  rw [e3]
  repeat ((first | refine bF ?_ | refine bT ?_ | refine dK ?_ | refine cR ?_ | refine cK ?_ | refine wK ?_); conv => whnf)
  refine callX_pure (poolDo_ok b (5, 3, ByteArray.empty) j2.fm j2.n1) ?_
  conv => whnf
  repeat ((first | refine bF ?_ | refine bT ?_ | refine dK ?_ | refine cR ?_ | refine cK ?_ | refine wK ?_); conv => whnf)
  rw [e4]
  repeat ((first | refine bF ?_ | refine bT ?_ | refine dK ?_ | refine cR ?_ | refine cK ?_ | refine wK ?_); conv => whnf)
  refine callX_pure (poolDo_ok c (2, 4, ByteArray.empty) f4 (by have := j2.n1; omega)) ?_
  conv => whnf
  repeat ((first | refine bF ?_ | refine bT ?_ | refine dK ?_ | refine cR ?_ | refine cK ?_ | refine wK ?_); conv => whnf)
  rw [e5]
  repeat ((first | refine bF ?_ | refine bT ?_ | refine dK ?_ | refine cR ?_ | refine cK ?_ | refine wK ?_); conv => whnf)
  refine callX_pure (rgetS_ok e.d 3) ?_
  conv => whnf
  repeat ((first | refine bF ?_ | refine bT ?_ | refine dK ?_ | refine cR ?_ | refine cK ?_ | refine wK ?_); conv => whnf)
  rw [g5]
  repeat ((first | refine bF ?_ | refine bT ?_ | refine dK ?_ | refine cR ?_ | refine cK ?_ | refine wK ?_); conv => whnf)
  refine bcase_t (decide_eq_true (by simp only [List.length_map, l5]; rfl)) ?_
  conv => whnf
  repeat ((first | refine bF ?_ | refine bT ?_ | refine dK ?_ | refine cR ?_ | refine cK ?_ | refine wK ?_); conv => whnf)
  exact ret_of rfl rfl
end Go.Lk

namespace Go.Lk
open Go Go.Proofs Go.RowKit

/-! ### the document's journal -/
theorem at_ok (n : Int) (s : ByteArray) : ACall Tryz.prog 55 [.int .i64 n, .str s] (.agg (encJ (wJ n s))) := by
  refine acall_of Tryz.func55 2 rfl (by kernel_rfl) ?_
  conv => whnf
  repeat ((first | refine bF ?_ | refine bT ?_ | refine dK ?_ | refine cR ?_ | refine cK ?_ | refine wK ?_); conv => whnf)
  exact ret_of rfl rfl
theorem filled_ok (s : ByteArray) (hs : s.size ≤ 16) : ACall Tryz.prog 54 [.str s] (.str (s ++ nulB (16 - s.size))) := by
  refine acall_of Tryz.func54 1 rfl (by kernel_rfl) ?_
  conv => whnf
  refine aloop (ι := Nat) (fun k => [(0, .d (.str (s ++ nulB k)))]) (fun _ => [])
    (fun k => s.size + k ≤ 16) (fun k => 16 - k) 0 (by omega) (le0 (le_of_cov ⟨?_, trivial⟩ trivial ⟨rfl, rfl, rfl, rfl⟩)) ?_
  · show AV.d (.str s) = _
    rw [nul_0]
    congr 2
    apply bl_ext
    rw [bl_app]
    exact (List.append_nil _).symm
  intro k hk
  have hsz : (s ++ nulB k).size = s.size + k := by rw [ByteArray.size_append, nulB_size]
  conv => whnf
  refine bcase_p (fun h5 => ?_) (fun h5 => ?_) <;> conv => whnf
  · have hk2 : s.size + k < 16 := by omega
    repeat ((first | refine bF ?_ | refine bT ?_ | refine dK ?_ | refine cR ?_ | refine cK ?_ | refine wK ?_); conv => whnf)
    refine condK_of (by rw [hsz, bstr_size]; simp; omega) ?_
    conv => whnf
    repeat ((first | refine bF ?_ | refine bT ?_ | refine dK ?_ | refine cR ?_ | refine cK ?_ | refine wK ?_); conv => whnf)
    have e : s ++ nulB k ++ bstr [0] = s ++ nulB (k + 1) := by
      rw [← nul_snoc]
      apply bl_ext
      simp only [bl_app, List.append_assoc]
    rw [e]
    exact ⟨k + 1, by omega, by omega, (le0 (le_of_cov ⟨rfl, trivial⟩ trivial ⟨rfl, rfl, rfl, rfl⟩))⟩
  · repeat ((first | refine bF ?_ | refine bT ?_ | refine dK ?_ | refine cR ?_ | refine cK ?_ | refine wK ?_); conv => whnf)
    have ek : k = 16 - s.size := by omega
    subst ek
    exact ret_of rfl rfl
theorem rnoughts_ok : ACall Tryz.prog 74 [] (.str (nulB 32)) := by
  refine acall_of Tryz.func74 0 rfl (by kernel_rfl) ?_
  conv => whnf
  repeat ((first | refine bF ?_ | refine bT ?_ | refine dK ?_ | refine cR ?_ | refine cK ?_ | refine wK ?_); conv => whnf)
  refine aloop (ι := Nat) (fun k => [(1, .d (.str (nulB k))), (2, .d (.int .i64 k))]) (fun _ => [])
    (fun k => k ≤ 32) (fun k => 32 - k) 0 (by omega) (le0 (le_of_cov ⟨?_, rfl, trivial⟩ trivial ⟨rfl, rfl, rfl, rfl⟩)) ?_
  · show AV.d (.str ByteArray.empty) = _
    rw [nul_0]
  intro k hk
  conv => whnf
  refine bcase_p (fun h5 => ?_) (fun h5 => ?_) <;> conv => whnf
  · repeat ((first | refine bF ?_ | refine bT ?_ | refine dK ?_ | refine cR ?_ | refine cK ?_ | refine wK ?_); conv => whnf)
    refine condK_of (by rw [nulB_size, bstr_size]; simp; omega) ?_
    conv => whnf
    repeat ((first | refine bF ?_ | refine bT ?_ | refine dK ?_ | refine cR ?_ | refine cK ?_ | refine wK ?_); conv => whnf)
    rw [nul_snoc]
    exact ⟨k + 1, by omega, by omega, (le0 (le_of_cov ⟨rfl, rfl, trivial⟩ trivial ⟨rfl, rfl, rfl, rfl⟩))⟩
  · repeat ((first | refine bF ?_ | refine bT ?_ | refine dK ?_ | refine cR ?_ | refine cK ?_ | refine wK ?_); conv => whnf)
    have ek : k = 32 := by omega
    subst ek
    exact ret_of rfl rfl
theorem nul_app0 (s : ByteArray) : s ++ nulB 0 = s := by
  rw [nul_0]
  apply bl_ext
  rw [bl_app]
  exact List.append_nil _
theorem nul_0app (s : ByteArray) : ByteArray.empty ++ s = s := by
  apply bl_ext
  rw [bl_app]
  rfl
/-- it is enough to prove what holds of one closed value of which nothing else is known -/
theorem by_eps {α : Type} [Nonempty α] (P : α → Prop) (h : P (Classical.epsilon fun a => ¬ P a)) (a : α) : P a :=
  Classical.byContradiction fun g => (Classical.epsilon_spec (p := fun a => ¬ P a) ⟨a, g⟩) h
def PlanSaid (a : Nat × ByteArray) : Prop := a.1 ≤ 16 → a.2.size = 32 → OCall Tryz.prog 73 [.int .i64 a.1, .str a.2] ((planJ a.1 a.2).map encJ) 3
noncomputable def zP1 : Nat × ByteArray := Classical.epsilon fun a => ¬ PlanSaid a
noncomputable def zp : Nat := zP1.1
noncomputable def zs : ByteArray := zP1.2
noncomputable def zx : ByteArray := zs.extract 0 16
noncomputable def zy : ByteArray := zs.extract 16 32
noncomputable def zh : ByteArray := headJ zp
def zn : ByteArray := nul16
theorem rplan_z (hp : zp ≤ 16) (hs : zs.size = 32) : OCall Tryz.prog 73 [.int .i64 zp, .str zs] (([wJ 1 zx, wJ 2 zy, syJ] ++ [wJ 0 zh, syJ] ++ [wJ (2 * (zp : Int) + 1) zx, wJ (2 * (zp : Int) + 1 + 1) zy, syJ] ++ [wJ 0 zn, syJ]).map encJ) 3 := by
  refine ocall_of Tryz.func73 2 rfl (by kernel_rfl) ?_
  conv => whnf
  repeat ((first | refine bF ?_ | refine bT ?_ | refine dK ?_ | refine cR ?_ | refine cK ?_ | refine wK ?_); conv => whnf)
  refine sliceK_hi (h := 16) (by omega) ?_
  conv => whnf
  repeat ((first | refine bF ?_ | refine bT ?_ | refine dK ?_ | refine cR ?_ | refine cK ?_ | refine wK ?_); conv => whnf)
  refine sliceK_lo (l := 16) (by omega) ?_
  conv => whnf
  repeat ((first | refine bF ?_ | refine bT ?_ | refine dK ?_ | refine cR ?_ | refine cK ?_ | refine wK ?_); conv => whnf)
  rw [show zs.extract 0 16 = zx from rfl, show zs.extract 16 zs.size = zy from by rw [hs]; rfl]
  refine callX_pure (at_ok 1 zx) ?_
  conv => whnf
  repeat ((first | refine bF ?_ | refine bT ?_ | refine dK ?_ | refine cR ?_ | refine cK ?_ | refine wK ?_); conv => whnf)
  refine callX_pure (at_ok 2 zy) ?_
  conv => whnf
  repeat ((first | refine bF ?_ | refine bT ?_ | refine dK ?_ | refine cR ?_ | refine cK ?_ | refine wK ?_); conv => whnf)
  refine wrapK_in (u8in (by omega) (by omega)) ?_
  conv => whnf
  repeat ((first | refine bF ?_ | refine bT ?_ | refine dK ?_ | refine cR ?_ | refine cK ?_ | refine wK ?_); conv => whnf)
  refine callX_pure (filled_ok (bstr [74, (zp : Int)]) (by rw [bstr_size]; exact (show 2 ≤ 16 by decide))) ?_
  conv => whnf
  repeat ((first | refine bF ?_ | refine bT ?_ | refine dK ?_ | refine cR ?_ | refine cK ?_ | refine wK ?_); conv => whnf)
  rw [show bstr [74, (zp : Int)] ++ nulB (16 - (bstr [74, (zp : Int)]).size) = zh from by rw [bstr_size]; rfl]
  refine callX_pure (at_ok 0 zh) ?_
  conv => whnf
  repeat ((first | refine bF ?_ | refine bT ?_ | refine dK ?_ | refine cR ?_ | refine cK ?_ | refine wK ?_); conv => whnf)
  refine callX_pure (at_ok (2 * (zp : Int) + 1) zx) ?_
  conv => whnf
  repeat ((first | refine bF ?_ | refine bT ?_ | refine dK ?_ | refine cR ?_ | refine cK ?_ | refine wK ?_); conv => whnf)
  refine callX_pure (at_ok (2 * (zp : Int) + 1 + 1) zy) ?_
  conv => whnf
  repeat ((first | refine bF ?_ | refine bT ?_ | refine dK ?_ | refine cR ?_ | refine cK ?_ | refine wK ?_); conv => whnf)
  refine callX_pure (filled_ok ByteArray.empty (by decide)) ?_
  conv => whnf
  repeat ((first | refine bF ?_ | refine bT ?_ | refine dK ?_ | refine cR ?_ | refine cK ?_ | refine wK ?_); conv => whnf)
  rw [show ByteArray.empty ++ nulB (16 - ByteArray.empty.size) = zn from nul_0app _]
  refine callX_pure (at_ok 0 zn) ?_
  conv => whnf
  repeat ((first | refine bF ?_ | refine bT ?_ | refine dK ?_ | refine cR ?_ | refine cK ?_ | refine wK ?_); conv => whnf)
  exact ⟨4, rfl, .inl ⟨38, rfl, rfl⟩⟩
theorem rplan_ok (p : Nat) (s : ByteArray) (hp : p ≤ 16) (hs : s.size = 32) : OCall Tryz.prog 73 [.int .i64 p, .str s] ((planJ p s).map encJ) 3 :=
  by_eps PlanSaid (fun hp hs => rplan_z hp hs) (p, s) hp hs
open Classical in
/-- the operations that the document's store makes of a page -/
noncomputable def stepsR (d : DS) (x : Pg) : List Jo :=
  if ¬ (Us d ∧ 1 ≤ x.1 ∧ x.1 ≤ 16) then [] else if x.2.1 = 0 ∧ x.2.2 = ByteArray.empty then planJ x.1.toNat (nulB 32) else if pgR x = true then planJ x.1.toNat (putB x) else []
theorem rsteps_ok (d : DS) (x : Pg) : ACall Tryz.prog 40 [encDS d, .agg (encP x)] (.lst ((stepsR d x).map encJ)) := by
  refine acall_of Tryz.func40 2 rfl (by kernel_rfl) ?_
  conv => whnf
  repeat ((first | refine bF ?_ | refine bT ?_ | refine dK ?_ | refine cR ?_ | refine cK ?_ | refine wK ?_); conv => whnf)
  refine callX_pure (may_ok d) ?_
  conv => whnf
  repeat ((first | refine bF ?_ | refine bT ?_ | refine dK ?_ | refine cR ?_ | refine cK ?_ | refine wK ?_); conv => whnf)
  rw [stepsR]
  refine bcase_intro (fun h1 => ?_) (fun h1 => ?_) <;> conv => whnf
  · repeat ((first | refine bF ?_ | refine bT ?_ | refine dK ?_ | refine cR ?_ | refine cK ?_ | refine wK ?_); conv => whnf)
    rw [if_pos (fun q => by rw [usB_t.2 q.1] at h1; exact absurd h1 (by decide))]
    exact ret_of rfl rfl
  have hU : Us d := usB_t.1 (by simpa using h1)
  repeat ((first | refine bF ?_ | refine bT ?_ | refine dK ?_ | refine cR ?_ | refine cK ?_ | refine wK ?_); conv => whnf)
  refine bcase_p (fun h2 => ?_) (fun h2 => ?_) <;> conv => whnf
  · repeat ((first | refine bF ?_ | refine bT ?_ | refine dK ?_ | refine cR ?_ | refine cK ?_ | refine wK ?_); conv => whnf)
    rw [if_pos (fun q => by omega)]
    exact ret_of rfl rfl
  repeat ((first | refine bF ?_ | refine bT ?_ | refine dK ?_ | refine cR ?_ | refine cK ?_ | refine wK ?_); conv => whnf)
  refine bcase_p (fun h3 => ?_) (fun h3 => ?_) <;> conv => whnf
  · repeat ((first | refine bF ?_ | refine bT ?_ | refine dK ?_ | refine cR ?_ | refine cK ?_ | refine wK ?_); conv => whnf)
    rw [if_pos (fun q => by omega)]
    exact ret_of rfl rfl
  rw [if_neg (fun q => q ⟨hU, by omega, by omega⟩)]
  obtain ⟨a, v, b⟩ := x
  simp only at h2 h3 ⊢
  obtain ⟨k, rfl⟩ : ∃ k : Nat, a = k := ⟨a.toNat, by omega⟩
  rw [Int.toNat_natCast]
  repeat ((first | refine bF ?_ | refine bT ?_ | refine dK ?_ | refine cR ?_ | refine cK ?_ | refine wK ?_); conv => whnf)
  refine bcase_p (fun h4 => ?_) (fun h4 => ?_) <;> conv => whnf
  · repeat ((first | refine bF ?_ | refine bT ?_ | refine dK ?_ | refine cR ?_ | refine cK ?_ | refine wK ?_); conv => whnf)
    refine bcase_p (fun h5 => ?_) (fun h5 => ?_) <;> conv => whnf
    · rw [if_pos ⟨h4, h5⟩]
      repeat ((first | refine bF ?_ | refine bT ?_ | refine dK ?_ | refine cR ?_ | refine cK ?_ | refine wK ?_); conv => whnf)
      refine callX_pure rnoughts_ok ?_
      conv => whnf
      repeat ((first | refine bF ?_ | refine bT ?_ | refine dK ?_ | refine cR ?_ | refine cK ?_ | refine wK ?_); conv => whnf)
      refine callX_own (rplan_ok k (nulB 32) (by omega) (nulB_size 32)) ?_
      conv => whnf
      repeat ((first | refine bF ?_ | refine bT ?_ | refine dK ?_ | refine cR ?_ | refine cK ?_ | refine wK ?_); conv => whnf)
      exact ret_of rfl rfl
    rw [if_neg (fun q => h5 q.2)]
    repeat ((first | refine bF ?_ | refine bT ?_ | refine dK ?_ | refine cR ?_ | refine cK ?_ | refine wK ?_); conv => whnf)
    refine callX_pure (rright02_ok ((k : Int), v, b)) ?_
    conv => whnf
    repeat ((first | refine bF ?_ | refine bT ?_ | refine dK ?_ | refine cR ?_ | refine cK ?_ | refine wK ?_); conv => whnf)
    refine bcase_intro (fun h6 => ?_) (fun h6 => ?_) <;> conv => whnf
    · repeat ((first | refine bF ?_ | refine bT ?_ | refine dK ?_ | refine cR ?_ | refine cK ?_ | refine wK ?_); conv => whnf)
      rw [if_neg (fun q => by rw [q] at h6; cases h6)]
      exact ret_of rfl rfl
    have h6 : pgR ((k : Int), v, b) = true := by simpa using h6
    rw [if_pos h6]
    repeat ((first | refine bF ?_ | refine bT ?_ | refine dK ?_ | refine cR ?_ | refine cK ?_ | refine wK ?_); conv => whnf)
    refine callX_pure (rput_ok _ h6) ?_
    conv => whnf
    repeat ((first | refine bF ?_ | refine bT ?_ | refine dK ?_ | refine cR ?_ | refine cK ?_ | refine wK ?_); conv => whnf)
    refine callX_own (rplan_ok k (putB ((k : Int), v, b)) (by omega) (putB_size (pgR_out.1 h6).2.2.2.2)) ?_
    conv => whnf
    repeat ((first | refine bF ?_ | refine bT ?_ | refine dK ?_ | refine cR ?_ | refine cK ?_ | refine wK ?_); conv => whnf)
    exact ret_of rfl rfl
  rw [if_neg (fun q => h4 q.1)]
  repeat ((first | refine bF ?_ | refine bT ?_ | refine dK ?_ | refine cR ?_ | refine cK ?_ | refine wK ?_); conv => whnf)
  refine callX_pure (rright02_ok ((k : Int), v, b)) ?_
  conv => whnf
  repeat ((first | refine bF ?_ | refine bT ?_ | refine dK ?_ | refine cR ?_ | refine cK ?_ | refine wK ?_); conv => whnf)
  refine bcase_intro (fun h6 => ?_) (fun h6 => ?_) <;> conv => whnf
  · repeat ((first | refine bF ?_ | refine bT ?_ | refine dK ?_ | refine cR ?_ | refine cK ?_ | refine wK ?_); conv => whnf)
    rw [if_neg (fun q => by rw [q] at h6; cases h6)]
    exact ret_of rfl rfl
  have h6 : pgR ((k : Int), v, b) = true := by simpa using h6
  rw [if_pos h6]
  repeat ((first | refine bF ?_ | refine bT ?_ | refine dK ?_ | refine cR ?_ | refine cK ?_ | refine wK ?_); conv => whnf)
  refine callX_pure (rput_ok _ h6) ?_
  conv => whnf
  repeat ((first | refine bF ?_ | refine bT ?_ | refine dK ?_ | refine cR ?_ | refine cK ?_ | refine wK ?_); conv => whnf)
  refine callX_own (rplan_ok k (putB ((k : Int), v, b)) (by omega) (putB_size (pgR_out.1 h6).2.2.2.2)) ?_
  conv => whnf
  repeat ((first | refine bF ?_ | refine bT ?_ | refine dK ?_ | refine cR ?_ | refine cK ?_ | refine wK ?_); conv => whnf)
  exact ret_of rfl rfl
end Go.Lk

namespace Go.Lk
open Go

/-! ### boxes of data whose list stays folded -/
theorem forceL_d : ∀ (l : List D) (K : List AV → Prop), forceL (l.map AV.d) K = K (l.map AV.d)
  | [], _ => rfl
  | x :: r, K => by
    show (forceL (r.map AV.d) fun q => K (AV.d x :: q)) = _
    rw [forceL_d r]; rfl
theorem forceL_of {l : List D} {c : List AV} {K : List AV → Prop} (hc : c = l.map AV.d) (k : K (l.map AV.d)) : forceL c K := by
  subst hc; rw [forceL_d]; exact k
theorem killC_d (b : Nat) : ∀ l : List D, killB.cells b (l.map AV.d) = l.map AV.d
  | [] => rfl
  | x :: r => by rw [List.map_cons, killB.cells, killC_d b r]; rfl
theorem convC_d (hp : Nat → Option Blk) : ∀ l : List D, conv.cells hp (l.map AV.d) = some l
  | [] => rfl
  | x :: r => by rw [List.map_cons, conv.cells, convC_d hp r]; rfl
theorem pures_d : ∀ l : List D, conv.pures (l.map AV.d) = some l
  | [] => rfl
  | x :: r => by rw [List.map_cons, conv.pures, pures_d r]; rfl
theorem openC_d (hp : Nat → Option Blk) : ∀ l : List D, openNames.cells hp (l.map AV.d) = []
  | [] => rfl
  | x :: r => by rw [List.map_cons, openNames.cells, openC_d hp r]; rfl
theorem cells1_d (hp : Nat → Option Blk) : ∀ l : List D, (∀ x ∈ l, cell1.one x = true) → cells1 hp (l.map AV.d) = true
  | [], _ => rfl
  | x :: r, h => by
    show (bif cell1.one x then cells1 hp (r.map AV.d) else false) = true
    rw [h x (.head _), cells1_d hp r fun y hy => h y (.tail _ hy)]; rfl
theorem names_d (b : Nat) : ∀ l : List D, killV.names b (l.map AV.d) = false
  | [] => rfl
  | x :: r => names_d b r
theorem splice_d : ∀ (l2 l : List D) (j : Nat), splice (l.map AV.d) j (l2.map AV.d) = (splice l j l2).map AV.d
  | [], _, _ => rfl
  | x :: r, l, j => by
    show splice ((l.map AV.d).set j (.d x)) (j + 1) (r.map AV.d) = _
    rw [← List.map_set, splice_d r]; rfl
/-- a part of a box of data is loaded: a struct -/
theorem part_agg {l l2 : List D} {c : List AV} {j s : Nat} {K : List AV → Prop} (hc : c = l.map AV.d) (h1 : j + s ≤ l.length) (h2 : (l.drop j).take s = l2) (k : K (l2.map AV.d)) :
    bif Nat.ble (j + s) c.length then forceL ((c.drop j).take s) K else False := by
  subst hc
  rw [List.length_map, Nat.ble_eq_true_of_le h1]
  show forceL _ K
  rw [← List.map_drop, ← List.map_take, forceL_d, h2]; exact k
/-- all of it -/
theorem part_all {l : List D} {c : List AV} {s : Nat} {K : List AV → Prop} (hc : c = l.map AV.d) (h1 : l.length = s) (k : K (l.map AV.d)) :
    bif Nat.ble (0 + s) c.length then forceL ((c.drop 0).take s) K else False :=
  part_agg hc (by omega) (by rw [List.drop_zero, ← h1, List.take_length]) k
/-- one cell -/
theorem part_one {l : List D} {c : List AV} {j : Nat} {K : AV → Prop} (x : D) (hc : c = l.map AV.d) (h : l[j]? = some x) (k : K (.d x)) : getC c j K := by
  subst hc
  unfold getC
  rw [List.getElem?_map, h]; exact k
/-- a struct of data is stored -/
theorem store_d {l l2 l3 : List D} {hp : Nat → Option Blk} {c : List AV} {kn : Bool} {a j s : Nat} {K : List AV → Prop} (hk : kn = true) (ha : (l2.map AV.d).length = a) (hs : l2.length = s) (hok : ∀ x ∈ l2, cell1.one x = true) (hc : c = l.map AV.d) (h1 : j + s ≤ l.length)
    (hlt : s < l.length ∨ c.length = s) (h3 : splice l j l2 = l3) (k : K (l3.map AV.d)) :
    bif kn && Nat.beq a s then (bif cells1 hp (l2.map AV.d) then (bif Nat.ble (j + s) c.length then storeK c j (.agg (l2.map AV.d)) K else False) else False) else False := by
  subst hc hk
  have e1 : a = s := by rw [← ha, List.length_map, hs]
  rw [e1, Nat.beq_refl, cells1_d hp l2 hok, List.length_map, Nat.ble_eq_true_of_le h1]
  show bif Nat.beq (l2.map AV.d).length (l.map AV.d).length then forceL (l2.map AV.d) K else K (spliceF (l.map AV.d) j (l2.map AV.d))
  rw [spliceF_eq (by rw [List.length_map, List.length_map]; omega), splice_d, h3]
  rw [List.length_map, List.length_map, hs]
  by_cases e : s = l.length
  · rw [e, Nat.beq_refl]
    show forceL _ K
    rw [forceL_d]
    have : l2 = l3 := by
      rw [← h3]
      exact (splice_all (by omega) (by omega)).symm
    rw [this]; exact k
  · rw [show Nat.beq s l.length = false from Bool.eq_false_iff.2 fun h => e (Nat.eq_of_beq_eq_true h)]
    exact k
/-- a struct of data is stored within a box of data -/
theorem store_at {l l2 l3 : List D} {c c2 : List AV} {j s : Nat} {K : List AV → Prop} (hc : c = l.map AV.d) (hc2 : c2 = l2.map AV.d) (h1 : j + s ≤ l.length) (hlt : s < l.length) (h2 : l2.length = s) (h3 : splice l j l2 = l3) (k : K (l3.map AV.d)) :
    bif Nat.ble (j + s) c.length then storeK c j (.agg c2) K else False := by
  subst hc hc2
  rw [List.length_map, Nat.ble_eq_true_of_le h1]
  show bif Nat.beq (l2.map AV.d).length (l.map AV.d).length then forceL (l2.map AV.d) K else K (spliceF (l.map AV.d) j (l2.map AV.d))
  rw [spliceF_eq (by rw [List.length_map, List.length_map]; omega), splice_d, h3, List.length_map, List.length_map, h2, show Nat.beq s l.length = false from Bool.eq_false_iff.2 fun h => absurd (Nat.eq_of_beq_eq_true h) (by omega)]
  exact k
/-- a struct of data takes a whole box -/
theorem store_all {l2 : List D} {hp : Nat → Option Blk} {c : List AV} {kn : Bool} {s : Nat} {K : List AV → Prop} (hk : kn = true) (hs : l2.length = s) (hok : ∀ x ∈ l2, cell1.one x = true) (hc : c.length = s) (k : K (l2.map AV.d)) :
    bif kn && Nat.beq (cellsOf (.agg (l2.map AV.d))).length s then (bif cells1 hp (cellsOf (.agg (l2.map AV.d))) then (bif Nat.ble (0 + s) c.length then storeK c 0 (.agg (l2.map AV.d)) K else False) else False) else False := by
  subst hk
  show bif true && Nat.beq (l2.map AV.d).length s then (bif cells1 hp (l2.map AV.d) then _ else False) else False
  rw [List.length_map, hs, Nat.beq_refl, cells1_d hp l2 hok, hc, Nat.ble_eq_true_of_le (by omega)]
  show bif Nat.beq (l2.map AV.d).length c.length then forceL (l2.map AV.d) K else K (spliceF c 0 (l2.map AV.d))
  rw [List.length_map, hs, hc, Nat.beq_refl]
  show forceL _ K
  rw [forceL_d]; exact k
/-- a struct of data is handed on -/
theorem convs_d {l : List D} {hp : Nat → Option Blk} {ρ : Operand → AV} {x : Operand} {r : List Operand} {K : List D → List Nat → Prop} (hx : ρ x = .agg (l.map AV.d)) (k : convsK hp ρ r fun ds ns => K (.agg l :: ds) ns) : convsK hp ρ (x :: r) K := by
  have e1 : conv hp (ρ x) = some (.agg l) := by
    rw [hx]
    show (conv.cells hp (l.map AV.d)).map D.agg = _
    rw [convC_d]; rfl
  have e2 : openNames hp (ρ x) = [] := by
    rw [hx]; exact openC_d hp l
  unfold convsK
  rw [e1, e2]
  exact k
/-- a struct of data is boxed -/
theorem box_d {l : List D} {hp : Nat → Option Blk} {b : Nat} {K : List AV → Prop} (hok : ∀ x ∈ l, cell1.one x = true) (k : K (l.map AV.d)) :
    bif cells1 hp (l.map AV.d) then forceL (killB.cells b (l.map AV.d)) K else False := by
  rw [cells1_d hp l hok, killC_d]
  show forceL _ K
  rw [forceL_d]; exact k
/-- one cell of data is stored -/
theorem store_one {l l3 : List D} {x : D} {c : List AV} {j : Nat} {K : List AV → Prop} (hc : c = l.map AV.d) (h1 : j < l.length) (h3 : l.set j x = l3) (k : K (l3.map AV.d)) :
    bif Nat.ble (j + 1) c.length then storeK c j (.d x) K else False := by
  subst hc
  rw [List.length_map, Nat.ble_eq_true_of_le (by omega)]
  show K (splice (l.map AV.d) j [.d x])
  have : splice (l.map AV.d) j [AV.d x] = l3.map AV.d := by
    rw [← h3, List.map_set]; rfl
  rw [this]; exact k
/-- 'true' is stored in one cell -/
theorem store_tt {c c' : List AV} {j : Nat} {K : List AV → Prop} (h1 : j < c.length) (h3 : c.set j .tt = c') (k : K c') :
    bif Nat.ble (j + 1) c.length then storeK c j .tt K else False := by
  rw [Nat.ble_eq_true_of_le (show j + 1 ≤ c.length by omega)]
  subst h3
  exact k
end Go.Lk

namespace Go.Lk
open Go Go.Proofs Go.RowKit

/-! ### the document's map as data -/
def pL (P : Nat → Pg) : List D := (List.range 17).flatMap fun q => encP (P q)
def wL (W : Nat → Int) : List D := (List.range 17).map fun q => D.int .i64 (W q)
def mL (P : Nat → Pg) (W : Nat → Int) (n : Nat) : List D := pL P ++ (wL W ++ [.int .i64 n])
theorem mL_len {P W n} : (mL P W n).length = 69 := rfl
theorem mL_ok {P W n} : ∀ x ∈ mL P W n, cell1.one x = true := List.all_eq_true.1 (show (mL P W n).all cell1.one = true from rfl)
theorem mL_n {P W n} : (mL P W n)[68]? = some (.int .i64 n) := rfl
theorem mL_w {P W n} {q : Nat} (h : q < 17) : (mL P W n)[51 + q]? = some (.int .i64 (W q)) := by
  rw [mL, List.getElem?_append_right (by show 51 ≤ _; omega), List.getElem?_append_left (by show _ - 51 < 17; omega)]
  show (wL W)[51 + q - 51]? = _
  rw [Nat.add_sub_cancel_left, wL, List.getElem?_map, List.getElem?_range h]; rfl
theorem mL_p {P W n} {q : Nat} (h : q < 17) : ((mL P W n).drop (q * 3)).take 3 = encP (P q) := by
  match q, h with
  | 0, _ => rfl
  | 1, _ => rfl
  | 2, _ => rfl
  | 3, _ => rfl
  | 4, _ => rfl
  | 5, _ => rfl
  | 6, _ => rfl
  | 7, _ => rfl
  | 8, _ => rfl
  | 9, _ => rfl
  | 10, _ => rfl
  | 11, _ => rfl
  | 12, _ => rfl
  | 13, _ => rfl
  | 14, _ => rfl
  | 15, _ => rfl
  | 16, _ => rfl
  | q + 17, h => exact absurd h (by omega)
theorem mL_setP {P W n} {q : Nat} (h : q < 17) (x : Pg) : splice (mL P W n) (q * 3) (encP x) = mL (ud P q x) W n := by
  match q, h with
  | 0, _ => rfl
  | 1, _ => rfl
  | 2, _ => rfl
  | 3, _ => rfl
  | 4, _ => rfl
  | 5, _ => rfl
  | 6, _ => rfl
  | 7, _ => rfl
  | 8, _ => rfl
  | 9, _ => rfl
  | 10, _ => rfl
  | 11, _ => rfl
  | 12, _ => rfl
  | 13, _ => rfl
  | 14, _ => rfl
  | 15, _ => rfl
  | 16, _ => rfl
  | q + 17, h => exact absurd h (by omega)
theorem mL_setW {P W n} {q : Nat} (h : q < 17) (x : Int) : (mL P W n).set (51 + q) (.int .i64 x) = mL P (ud W q x) n := by
  match q, h with
  | 0, _ => rfl
  | 1, _ => rfl
  | 2, _ => rfl
  | 3, _ => rfl
  | 4, _ => rfl
  | 5, _ => rfl
  | 6, _ => rfl
  | 7, _ => rfl
  | 8, _ => rfl
  | 9, _ => rfl
  | 10, _ => rfl
  | 11, _ => rfl
  | 12, _ => rfl
  | 13, _ => rfl
  | 14, _ => rfl
  | 15, _ => rfl
  | 16, _ => rfl
  | q + 17, h => exact absurd h (by omega)
theorem szs : (T 3).size = 1 ∧ (T 42).size = 3 := ⟨rfl, rfl⟩
theorem bn_at {W : Nat → Int} {k : Nat} : bn W (k + 1) = bn W k + (if 0 < W (k + 1) then 1 else 0) := rfl
theorem bn_le {W : Nat → Int} : ∀ k, bn W k ≤ k
  | 0 => Nat.le_refl 0
  | k + 1 => by
    have := bn_le (W := W) k
    rw [bn_at]; split <;> omega
theorem busy_ok (P : Nat → Pg) (W : Nat → Int) (n q : Nat) (hq : q < 17) : ACall Tryz.prog 89 [.agg (mL P W n), .int .i64 q] (.bool (decide (W q = 0) && decide (bn W 16 = n))) := by
  obtain ⟨l, hl⟩ : ∃ l, mL P W n = l := ⟨_, rfl⟩
  have hlen : l.length = 69 := by rw [← hl]; exact mL_len
  have hok : ∀ x ∈ l, cell1.one x = true := by rw [← hl]; exact mL_ok
  have hn : l[68]? = some (.int .i64 n) := by rw [← hl]; exact mL_n
  have hw : ∀ {q : Nat}, q < 17 → l[51 + q]? = some (.int .i64 (W q)) := by rw [← hl]; exact fun h => mL_w h
  have hw' : ∀ {j q : Nat}, j = 51 + q → q < 17 → l[j]? = some (.int .i64 (W q)) := fun e h => by rw [e]; exact hw h
  rw [hl]
  refine acall_of Tryz.func89 2 rfl (by kernel_rfl) ?_
  conv => whnf
  refine box_d hok ?_
  conv => whnf
  repeat ((first | refine bF ?_ | refine bT ?_ | refine dK ?_ | refine cR ?_ | refine cK ?_ | refine wK ?_); conv => whnf)
  refine aloop (ι := Nat) (fun k => [(1, .d (.int .i64 q)), (2, .ptr 2 0 0), (5, .d (.int .i64 (bn W k))), (6, .d (.int .i64 ((k : Int) + 1)))]) (fun _ => [(2, .box (l.map AV.d) false)])
    (fun k => k ≤ 16) (fun k => 16 - k) 0 (by omega) (le0 (le_of_cov ⟨rfl, rfl, rfl, rfl, trivial⟩ ⟨rfl, trivial⟩ ⟨rfl, rfl, rfl, rfl⟩)) ?_
  intro k hk
  have hb := bn_le (W := W) k
  conv => whnf
  refine bcase_p (fun h5 => ?_) (fun h5 => ?_) <;> conv => whnf
  · repeat ((first | refine bF ?_ | refine bT ?_ | refine dK ?_ | refine cR ?_ | refine cK ?_ | refine wK ?_); conv => whnf)
    rw [show (k : Int) + 1 = (k + 1 : Nat) by omega]
    refine idxK_nat (by omega) ?_
    conv => whnf
    try (refine condK_of rfl ?_)
    refine (part_one (l := l) (.int .i64 (W (k + 1))) (by first | rfl | simp only [killC_d]) (hw' (by simp only [szs]; omega) (by omega)) ?_)
    conv => whnf
    repeat ((first | refine bF ?_ | refine bT ?_ | refine dK ?_ | refine cR ?_ | refine cK ?_ | refine wK ?_); conv => whnf)
    refine bcase_p (fun h6 => ?_) (fun h6 => ?_) <;> conv => whnf
    · repeat ((first | refine bF ?_ | refine bT ?_ | refine dK ?_ | refine cR ?_ | refine cK ?_ | refine wK ?_); conv => whnf)
      refine ⟨k + 1, by omega, by omega, le0 (le_of_cov ⟨rfl, rfl, by rw [bn_at, if_pos h6]; rfl, by rw [← Int.natCast_succ]; rfl, trivial⟩ ⟨rfl, trivial⟩ ⟨rfl, rfl, rfl, rfl⟩)⟩
    · repeat ((first | refine bF ?_ | refine bT ?_ | refine dK ?_ | refine cR ?_ | refine cK ?_ | refine wK ?_); conv => whnf)
      refine ⟨k + 1, by omega, by omega, le0 (le_of_cov ⟨rfl, rfl, by rw [bn_at, if_neg h6]; rfl, by rw [← Int.natCast_succ]; rfl, trivial⟩ ⟨rfl, trivial⟩ ⟨rfl, rfl, rfl, rfl⟩)⟩
  · repeat ((first | refine bF ?_ | refine bT ?_ | refine dK ?_ | refine cR ?_ | refine cK ?_ | refine wK ?_); conv => whnf)
    have ek : k = 16 := by omega
    subst ek
    refine idxK_nat (by omega) ?_
    conv => whnf
    try (refine condK_of rfl ?_)
    refine (part_one (l := l) (.int .i64 (W q)) (by first | rfl | simp only [killC_d]) (hw' (by simp only [szs]; omega) hq) ?_)
    conv => whnf
    repeat ((first | refine bF ?_ | refine bT ?_ | refine dK ?_ | refine cR ?_ | refine cK ?_ | refine wK ?_); conv => whnf)
    refine bcase_p (fun h6 => ?_) (fun h6 => ?_) <;> conv => whnf
    · try (refine condK_of rfl ?_)
      refine (part_one (l := l) (.int .i64 n) (by first | rfl | simp only [killC_d]) ((by rw [← hn])) ?_)
      conv => whnf
      repeat ((first | refine bF ?_ | refine bT ?_ | refine dK ?_ | refine cR ?_ | refine cK ?_ | refine wK ?_); conv => whnf)
      exact ret_of rfl (congrArg D.bool (by rw [h6]; simp; omega))
    · repeat ((first | refine bF ?_ | refine bT ?_ | refine dK ?_ | refine cR ?_ | refine cK ?_ | refine wK ?_); conv => whnf)
      exact ret_of rfl (congrArg D.bool (by simp [h6]))
end Go.Lk

namespace Go.Lk
open Go Go.Proofs Go.RowKit

/-- a list that stands for the map: what is needed of it -/
structure ML (l : List D) (P : Nat → Pg) (W : Nat → Int) (n : Nat) : Prop where
  eq : mL P W n = l
  len : l.length = 69
  ok : ∀ x ∈ l, cell1.one x = true
  n_ : l[68]? = some (.int .i64 n)
  w : ∀ {j q : Nat}, j = 51 + q → q < 17 → l[j]? = some (.int .i64 (W q))
  p : ∀ {j q : Nat}, j = q * 3 → q < 17 → (l.drop j).take 3 = encP (P q)
theorem ML.of (P : Nat → Pg) (W : Nat → Int) (n : Nat) : ML (mL P W n) P W n := ⟨rfl, mL_len, mL_ok, mL_n, fun e h => by rw [e]; exact mL_w h, fun e h => by rw [e]; exact mL_p h⟩
theorem ML.ex (P : Nat → Pg) (W : Nat → Int) (n : Nat) : ∃ l, mL P W n = l ∧ ML l P W n := ⟨_, rfl, ML.of P W n⟩
theorem ML.setP {P W n} {j q : Nat} (e : j = q * 3) (h : q < 17) (x : Pg) : splice (mL P W n) j (encP x) = mL (ud P q x) W n := by rw [e]; exact mL_setP h x
theorem ML.setW {P W n} {j q : Nat} (e : j = 51 + q) (h : q < 17) (x : Int) : (mL P W n).set j (.int .i64 x) = mL P (ud W q x) n := by rw [e]; exact mL_setW h x
set_option maxRecDepth 100000 in
theorem there_ok (P : Nat → Pg) (W : Nat → Int) (n q : Nat) (k : Int) (hq : q < 17) (hW : W q < 9223372036854775807) (hW0 : 0 ≤ W q) (hk : k = 1 ∨ k = 2) : ACall Tryz.prog 47 [.agg (mL P W n), .int .i64 k, .int .i64 q]
    (.tup [.agg (mL (thereM P W n k q).1 (thereM P W n k q).2.1 n), .agg (encP (thereM P W n k q).2.2.1), .int .i64 (thereM P W n k q).2.2.2]) := by
  have hM := ML.of P W n
  have hlen : (mL P W n).length = 69 := rfl
  have hbusy := busy_ok P W n q hq
  rcases hk with rfl | rfl
  · refine acall_of Tryz.func47 3 rfl (by kernel_rfl) ?_
    conv => whnf
    repeat ((first | refine bF ?_ | refine bT ?_ | refine dK ?_ | refine cR ?_ | refine cK ?_ | refine wK ?_); conv => whnf)
    refine idxK_nat (by omega) ?_
    conv => whnf
    try (refine condK_of rfl ?_)
    refine (part_agg (l := mL P W n) (l2 := encP (P q)) (by first | rfl | simp only [killC_d]) (by first | omega | (simp only [szs]; omega)) (hM.p (by simp only [szs]; omega) hq) ?_)
    conv => whnf
    repeat ((first | refine bF ?_ | refine bT ?_ | refine dK ?_ | refine cR ?_ | refine cK ?_ | refine wK ?_); conv => whnf)
    refine bcase_p (fun h2 => ?_) (fun h2 => ?_) <;> conv => whnf
    · repeat ((first | refine bF ?_ | refine bT ?_ | refine dK ?_ | refine cR ?_ | refine cK ?_ | refine wK ?_); conv => whnf)
      rw [thereM, if_pos ⟨rfl, h2⟩]
      exact ret_of rfl rfl
    repeat ((first | refine bF ?_ | refine bT ?_ | refine dK ?_ | refine cR ?_ | refine cK ?_ | refine wK ?_); conv => whnf)
    refine callX_pure hbusy ?_
    conv => whnf
    repeat ((first | refine bF ?_ | refine bT ?_ | refine dK ?_ | refine cR ?_ | refine cK ?_ | refine wK ?_); conv => whnf)
    refine bcase_intro (fun h3 => ?_) (fun h3 => ?_) <;> conv => whnf
    · repeat ((first | refine bF ?_ | refine bT ?_ | refine dK ?_ | refine cR ?_ | refine cK ?_ | refine wK ?_); conv => whnf)
      rw [thereM, if_neg (fun g => h2 g.2), if_neg (fun g => absurd g.1 (by decide)), if_pos (by simpa using h3)]
      exact ret_of rfl rfl
    repeat ((first | refine bF ?_ | refine bT ?_ | refine dK ?_ | refine cR ?_ | refine cK ?_ | refine wK ?_); conv => whnf)
    refine idxK_nat (by omega) ?_
    conv => whnf
    repeat ((first | refine bF ?_ | refine bT ?_ | refine dK ?_ | refine cR ?_ | refine cK ?_ | refine wK ?_); conv => whnf)
    try (refine condK_of rfl ?_)
    refine (store_at (l := mL P W n) (l2 := encP (P q)) (l3 := mL (ud P q (P q)) W n) (by first | rfl | simp only [killC_d]) rfl (by first | omega | (simp only [szs]; omega)) (by first | omega | (simp only [szs]; omega)) rfl (ML.setP (by simp only [szs]; omega) hq _) ?_)
    conv => whnf
    repeat ((first | refine bF ?_ | refine bT ?_ | refine dK ?_ | refine cR ?_ | refine cK ?_ | refine wK ?_); conv => whnf)
    refine idxK_nat (by omega) ?_
    conv => whnf
    have hM2 := ML.of (ud P q (P q)) W n
    have hlen2 : (mL (ud P q (P q)) W n).length = 69 := rfl
    try (refine condK_of rfl ?_)
    refine (part_one (l := mL (ud P q (P q)) W n) (.int .i64 (W q)) (by first | rfl | simp only [killC_d]) (hM2.w (by simp only [szs]; omega) hq) ?_)
    conv => whnf
    repeat ((first | refine bF ?_ | refine bT ?_ | refine dK ?_ | refine cR ?_ | refine cK ?_ | refine wK ?_); conv => whnf)
    refine idxK_nat (by omega) ?_
    conv => whnf
    repeat ((first | refine bF ?_ | refine bT ?_ | refine dK ?_ | refine cR ?_ | refine cK ?_ | refine wK ?_); conv => whnf)
    try (refine condK_of rfl ?_)
    refine (store_one (l := mL (ud P q (P q)) W n) (l3 := mL (ud P q (P q)) (ud W q (W q + 1)) n) (by first | rfl | simp only [killC_d]) (by first | omega | (simp only [szs]; omega)) (ML.setW (by simp only [szs]; omega) hq _) ?_)
    conv => whnf
    repeat ((first | refine bF ?_ | refine bT ?_ | refine dK ?_ | refine cR ?_ | refine cK ?_ | refine wK ?_); conv => whnf)
    rw [thereM, if_neg (fun g => h2 g.2), if_neg (fun g => absurd g.1 (by decide)), if_neg (by simpa using h3), if_neg (by decide)]
    exact ret_of rfl rfl
  refine acall_of Tryz.func47 3 rfl (by kernel_rfl) ?_
  conv => whnf
  repeat ((first | refine bF ?_ | refine bT ?_ | refine dK ?_ | refine cR ?_ | refine cK ?_ | refine wK ?_); conv => whnf)
  refine idxK_nat (by omega) ?_
  conv => whnf
  try (refine condK_of rfl ?_)
  refine (part_agg (l := mL P W n) (l2 := encP (P q)) (by first | rfl | simp only [killC_d]) (by first | omega | (simp only [szs]; omega)) (hM.p (by simp only [szs]; omega) hq) ?_)
  conv => whnf
  repeat ((first | refine bF ?_ | refine bT ?_ | refine dK ?_ | refine cR ?_ | refine cK ?_ | refine wK ?_); conv => whnf)
  refine bcase_n (fun h2 => ?_) (fun h2 => ?_) <;> conv => whnf
  · repeat ((first | refine bF ?_ | refine bT ?_ | refine dK ?_ | refine cR ?_ | refine cK ?_ | refine wK ?_); conv => whnf)
    rw [thereM, if_neg (fun g => absurd g.1 (by decide)), if_pos ⟨rfl, h2⟩]
    exact ret_of rfl rfl
  repeat ((first | refine bF ?_ | refine bT ?_ | refine dK ?_ | refine cR ?_ | refine cK ?_ | refine wK ?_); conv => whnf)
  refine callX_pure hbusy ?_
  conv => whnf
  repeat ((first | refine bF ?_ | refine bT ?_ | refine dK ?_ | refine cR ?_ | refine cK ?_ | refine wK ?_); conv => whnf)
  refine bcase_intro (fun h3 => ?_) (fun h3 => ?_) <;> conv => whnf
  · repeat ((first | refine bF ?_ | refine bT ?_ | refine dK ?_ | refine cR ?_ | refine cK ?_ | refine wK ?_); conv => whnf)
    rw [thereM, if_neg (fun g => absurd g.1 (by decide)), if_neg (fun g => g.2 h2), if_pos (by simpa using h3)]
    exact ret_of rfl rfl
  repeat ((first | refine bF ?_ | refine bT ?_ | refine dK ?_ | refine cR ?_ | refine cK ?_ | refine wK ?_); conv => whnf)
  refine idxK_nat (by omega) ?_
  conv => whnf
  repeat ((first | refine bF ?_ | refine bT ?_ | refine dK ?_ | refine cR ?_ | refine cK ?_ | refine wK ?_); conv => whnf)
  try (refine condK_of rfl ?_)
  refine (store_at (l := mL P W n) (l2 := encP (newP q)) (l3 := mL (ud P q (newP q)) W n) (by first | rfl | simp only [killC_d]) rfl (by first | omega | (simp only [szs]; omega)) (by first | omega | (simp only [szs]; omega)) rfl (ML.setP (by simp only [szs]; omega) hq _) ?_)
  conv => whnf
  repeat ((first | refine bF ?_ | refine bT ?_ | refine dK ?_ | refine cR ?_ | refine cK ?_ | refine wK ?_); conv => whnf)
  refine idxK_nat (by omega) ?_
  conv => whnf
  have hM2 := ML.of (ud P q (newP q)) W n
  have hlen2 : (mL (ud P q (newP q)) W n).length = 69 := rfl
  try (refine condK_of rfl ?_)
  refine (part_one (l := mL (ud P q (newP q)) W n) (.int .i64 (W q)) (by first | rfl | simp only [killC_d]) (hM2.w (by simp only [szs]; omega) hq) ?_)
  conv => whnf
  repeat ((first | refine bF ?_ | refine bT ?_ | refine dK ?_ | refine cR ?_ | refine cK ?_ | refine wK ?_); conv => whnf)
  refine idxK_nat (by omega) ?_
  conv => whnf
  repeat ((first | refine bF ?_ | refine bT ?_ | refine dK ?_ | refine cR ?_ | refine cK ?_ | refine wK ?_); conv => whnf)
  try (refine condK_of rfl ?_)
  refine (store_one (l := mL (ud P q (newP q)) W n) (l3 := mL (ud P q (newP q)) (ud W q (W q + 1)) n) (by first | rfl | simp only [killC_d]) (by first | omega | (simp only [szs]; omega)) (ML.setW (by simp only [szs]; omega) hq _) ?_)
  conv => whnf
  repeat ((first | refine bF ?_ | refine bT ?_ | refine dK ?_ | refine cR ?_ | refine cK ?_ | refine wK ?_); conv => whnf)
  rw [thereM, if_neg (fun g => absurd g.1 (by decide)), if_neg (fun g => g.2 h2), if_neg (by simpa using h3), if_pos rfl]
  exact ret_of rfl rfl
end Go.Lk

namespace Go.Lk
open Go Go.Proofs Go.RowKit

def DocOut (P : Nat → Pg) (W : Nat → Int) (n : Nat) (a : PAct) : D :=
  .tup [.agg (mL (docM P W n a).1 (docM P W n a).2.1 n), .agg (encP (docM P W n a).2.2.1), .int .i64 (docM P W n a).2.2.2]
set_option maxRecDepth 100000 in
theorem rdo_ok (P : Nat → Pg) (W : Nat → Int) (n : Nat) (a : PAct) (hv : ∀ q : Nat, 1 ≤ q → q ≤ 16 → 0 ≤ (P q).2.1 ∧ (P q).2.1 ≤ 2147483647) (hw : ∀ q : Nat, 1 ≤ q → q ≤ 16 → 0 ≤ W q ∧ W q ≤ 2147483647) :
    ACall Tryz.prog 19 [.agg (mL P W n), .int .i64 a.1, .int .i64 a.2.1, .str a.2.2] (DocOut P W n a) := by
  have hlen : (mL P W n).length = 69 := rfl
  have hM := ML.of P W n
  obtain ⟨k, id, b⟩ := a
  simp only []
  refine acall_of Tryz.func19 4 rfl (by kernel_rfl) ?_
  conv => whnf
  repeat ((first | refine bF ?_ | refine bT ?_ | refine dK ?_ | refine cR ?_ | refine cK ?_ | refine wK ?_); conv => whnf)
  refine bcase_p (fun h1 => ?_) (fun h1 => ?_) <;> conv => whnf
  · repeat ((first | refine bF ?_ | refine bT ?_ | refine dK ?_ | refine cR ?_ | refine cK ?_ | refine wK ?_); conv => whnf)
    rw [DocOut, docM, if_pos (.inl h1)]
    exact ret_of rfl rfl
  repeat ((first | refine bF ?_ | refine bT ?_ | refine dK ?_ | refine cR ?_ | refine cK ?_ | refine wK ?_); conv => whnf)
  refine bcase_p (fun h2 => ?_) (fun h2 => ?_) <;> conv => whnf
  · repeat ((first | refine bF ?_ | refine bT ?_ | refine dK ?_ | refine cR ?_ | refine cK ?_ | refine wK ?_); conv => whnf)
    rw [DocOut, docM, if_pos (.inr (.inl h2))]
    exact ret_of rfl rfl
  repeat ((first | refine bF ?_ | refine bT ?_ | refine dK ?_ | refine cR ?_ | refine cK ?_ | refine wK ?_); conv => whnf)
  by_cases h3 : k = 8
  · subst h3
    repeat ((first | refine bF ?_ | refine bT ?_ | refine dK ?_ | refine cR ?_ | refine cK ?_ | refine wK ?_); conv => whnf)
    rw [DocOut, docM, if_neg (by simp), if_pos rfl]
    exact ret_of rfl rfl
  refine bcase_t (by simp [h3]) ?_
  conv => whnf
  repeat ((first | refine bF ?_ | refine bT ?_ | refine dK ?_ | refine cR ?_ | refine cK ?_ | refine wK ?_); conv => whnf)
  refine bcase_p (fun h4 => ?_) (fun h4 => ?_) <;> conv => whnf
  · repeat ((first | refine bF ?_ | refine bT ?_ | refine dK ?_ | refine cR ?_ | refine cK ?_ | refine wK ?_); conv => whnf)
    rw [DocOut, docM, if_pos (.inr (.inr ⟨h3, .inl h4⟩))]
    exact ret_of rfl rfl
  repeat ((first | refine bF ?_ | refine bT ?_ | refine dK ?_ | refine cR ?_ | refine cK ?_ | refine wK ?_); conv => whnf)
  refine bcase_p (fun h5 => ?_) (fun h5 => ?_) <;> conv => whnf
  · repeat ((first | refine bF ?_ | refine bT ?_ | refine dK ?_ | refine cR ?_ | refine cK ?_ | refine wK ?_); conv => whnf)
    rw [DocOut, docM, if_pos (.inr (.inr ⟨h3, .inr h5⟩))]
    exact ret_of rfl rfl
  repeat ((first | refine bF ?_ | refine bT ?_ | refine dK ?_ | refine cR ?_ | refine cK ?_ | refine wK ?_); conv => whnf)
  refine bcase_f (by simp [h3]) ?_
  conv => whnf
  obtain ⟨q, rfl⟩ : ∃ q : Nat, id = q := ⟨id.toNat, by omega⟩
  have hq : q < 17 := by omega
  obtain ⟨v0, v1⟩ := hv q (by omega) (by omega)
  obtain ⟨w0, w1⟩ := hw q (by omega) (by omega)
  have hE : DocOut P W n (k, (q : Int), b) = DocOut P W n (k, (q : Int), b) := rfl
  have hdoc : docM P W n (k, (q : Int), b) = if 2 < k ∧ k < 6 ∧ W q = 0 then (P, W, zP, 12)
    else if k = 3 then (P, W, P q, 0)
    else if k = 4 then (if 16 < b.size then (P, W, zP, 5) else (ud P q (wrPg (P q) b), W, wrPg (P q) b, 0))
    else if k = 5 then (P, ud W q (W q - 1), zP, 0)
    else if k = 6 then (if 0 < W q then (P, W, zP, 6) else if (P q).1 = 0 then (P, W, zP, 3) else (ud P q zP, W, zP, 0))
    else if k = 7 then (if (P q).1 = 0 then (P, W, zP, 3) else (P, W, zP, 0))
    else thereM P W n k q := by
    rw [docM, if_neg (by simp only []; omega), if_neg h3]
    rfl
  repeat ((first | refine bF ?_ | refine bT ?_ | refine dK ?_ | refine cR ?_ | refine cK ?_ | refine wK ?_); conv => whnf)
  refine idxK_nat (by omega) ?_
  conv => whnf
  try (refine condK_of rfl ?_)
  refine (part_agg (l := mL P W n) (l2 := encP (P q)) (by first | rfl | simp only [killC_d]) (by first | omega | (simp only [szs]; omega)) (hM.p (by simp only [szs]; omega) hq) ?_)
  conv => whnf
  repeat ((first | refine bF ?_ | refine bT ?_ | refine dK ?_ | refine cR ?_ | refine cK ?_ | refine wK ?_); conv => whnf)
  have hk : k = 1 ∨ k = 2 ∨ k = 3 ∨ k = 4 ∨ k = 5 ∨ k = 6 ∨ k = 7 := by omega
  have thr (j : Int) (hj : j = 1 ∨ j = 2) := there_ok P W n q j hq (by omega) w0 hj
  rcases hk with rfl | rfl | rfl | rfl | rfl | rfl | rfl
  · repeat ((first | refine bF ?_ | refine bT ?_ | refine dK ?_ | refine cR ?_ | refine cK ?_ | refine wK ?_); conv => whnf)
    refine callX_pure (thr 1 (.inl rfl)) ?_
    conv => whnf
    repeat ((first | refine bF ?_ | refine bT ?_ | refine dK ?_ | refine cR ?_ | refine cK ?_ | refine wK ?_); conv => whnf)
    rw [DocOut, hdoc, if_neg (by omega), if_neg (by decide), if_neg (by decide), if_neg (by decide), if_neg (by decide), if_neg (by decide)]
    exact ret_of rfl rfl
  · repeat ((first | refine bF ?_ | refine bT ?_ | refine dK ?_ | refine cR ?_ | refine cK ?_ | refine wK ?_); conv => whnf)
    refine callX_pure (thr 2 (.inr rfl)) ?_
    conv => whnf
    repeat ((first | refine bF ?_ | refine bT ?_ | refine dK ?_ | refine cR ?_ | refine cK ?_ | refine wK ?_); conv => whnf)
    rw [DocOut, hdoc, if_neg (by omega), if_neg (by decide), if_neg (by decide), if_neg (by decide), if_neg (by decide), if_neg (by decide)]
    exact ret_of rfl rfl
  · repeat ((first | refine bF ?_ | refine bT ?_ | refine dK ?_ | refine cR ?_ | refine cK ?_ | refine wK ?_); conv => whnf)
    refine idxK_nat (by omega) ?_
    conv => whnf
    try (refine condK_of rfl ?_)
    refine (part_one (l := mL P W n) (.int .i64 (W q)) (by first | rfl | simp only [killC_d]) (hM.w (by simp only [szs]; omega) hq) ?_)
    conv => whnf
    repeat ((first | refine bF ?_ | refine bT ?_ | refine dK ?_ | refine cR ?_ | refine cK ?_ | refine wK ?_); conv => whnf)
    refine bcase_p (fun h6 => ?_) (fun h6 => ?_) <;> conv => whnf
    · repeat ((first | refine bF ?_ | refine bT ?_ | refine dK ?_ | refine cR ?_ | refine cK ?_ | refine wK ?_); conv => whnf)
      rw [DocOut, hdoc, if_pos ⟨by decide, by decide, h6⟩]
      exact ret_of rfl rfl
    repeat ((first | refine bF ?_ | refine bT ?_ | refine dK ?_ | refine cR ?_ | refine cK ?_ | refine wK ?_); conv => whnf)
    rw [DocOut, hdoc, if_neg (fun g => h6 g.2.2), if_pos rfl]
    exact ret_of rfl rfl
  · repeat ((first | refine bF ?_ | refine bT ?_ | refine dK ?_ | refine cR ?_ | refine cK ?_ | refine wK ?_); conv => whnf)
    refine idxK_nat (by omega) ?_
    conv => whnf
    try (refine condK_of rfl ?_)
    refine (part_one (l := mL P W n) (.int .i64 (W q)) (by first | rfl | simp only [killC_d]) (hM.w (by simp only [szs]; omega) hq) ?_)
    conv => whnf
    repeat ((first | refine bF ?_ | refine bT ?_ | refine dK ?_ | refine cR ?_ | refine cK ?_ | refine wK ?_); conv => whnf)
    refine bcase_p (fun h6 => ?_) (fun h6 => ?_) <;> conv => whnf
    · repeat ((first | refine bF ?_ | refine bT ?_ | refine dK ?_ | refine cR ?_ | refine cK ?_ | refine wK ?_); conv => whnf)
      rw [DocOut, hdoc, if_pos ⟨by decide, by decide, h6⟩]
      exact ret_of rfl rfl
    repeat ((first | refine bF ?_ | refine bT ?_ | refine dK ?_ | refine cR ?_ | refine cK ?_ | refine wK ?_); conv => whnf)
    refine bcase_p (fun h7 => ?_) (fun h7 => ?_) <;> conv => whnf
    · repeat ((first | refine bF ?_ | refine bT ?_ | refine dK ?_ | refine cR ?_ | refine cK ?_ | refine wK ?_); conv => whnf)
      have h7 : 16 < b.size := by omega
      rw [DocOut, hdoc, if_neg (fun g => h6 g.2.2), if_neg (by decide), if_pos rfl, if_pos h7]
      exact ret_of rfl rfl
    repeat ((first | refine bF ?_ | refine bT ?_ | refine dK ?_ | refine cR ?_ | refine cK ?_ | refine wK ?_); conv => whnf)
    refine idxK_nat (by omega) ?_
    conv => whnf
    repeat ((first | refine bF ?_ | refine bT ?_ | refine dK ?_ | refine cR ?_ | refine cK ?_ | refine wK ?_); conv => whnf)
    try (refine condK_of rfl ?_)
    refine (store_at (l := mL P W n) (l2 := encP (wrPg (P q) b)) (l3 := mL (ud P q (wrPg (P q) b)) W n) (by first | rfl | simp only [killC_d]) rfl (by first | omega | (simp only [szs]; omega)) (by first | omega | (simp only [szs]; omega)) rfl (ML.setP (by simp only [szs]; omega) hq _) ?_)
    conv => whnf
    repeat ((first | refine bF ?_ | refine bT ?_ | refine dK ?_ | refine cR ?_ | refine cK ?_ | refine wK ?_); conv => whnf)
    have h7 : ¬ 16 < b.size := by omega
    rw [DocOut, hdoc, if_neg (fun g => h6 g.2.2), if_neg (by decide), if_pos rfl, if_neg h7]
    exact ret_of rfl rfl
  · repeat ((first | refine bF ?_ | refine bT ?_ | refine dK ?_ | refine cR ?_ | refine cK ?_ | refine wK ?_); conv => whnf)
    refine idxK_nat (by omega) ?_
    conv => whnf
    try (refine condK_of rfl ?_)
    refine (part_one (l := mL P W n) (.int .i64 (W q)) (by first | rfl | simp only [killC_d]) (hM.w (by simp only [szs]; omega) hq) ?_)
    conv => whnf
    repeat ((first | refine bF ?_ | refine bT ?_ | refine dK ?_ | refine cR ?_ | refine cK ?_ | refine wK ?_); conv => whnf)
    refine bcase_p (fun h6 => ?_) (fun h6 => ?_) <;> conv => whnf
    · repeat ((first | refine bF ?_ | refine bT ?_ | refine dK ?_ | refine cR ?_ | refine cK ?_ | refine wK ?_); conv => whnf)
      rw [DocOut, hdoc, if_pos ⟨by decide, by decide, h6⟩]
      exact ret_of rfl rfl
    repeat ((first | refine bF ?_ | refine bT ?_ | refine dK ?_ | refine cR ?_ | refine cK ?_ | refine wK ?_); conv => whnf)
    refine idxK_nat (by omega) ?_
    conv => whnf
    try (refine condK_of rfl ?_)
    refine (part_one (l := mL P W n) (.int .i64 (W q)) (by first | rfl | simp only [killC_d]) (hM.w (by simp only [szs]; omega) hq) ?_)
    conv => whnf
    repeat ((first | refine bF ?_ | refine bT ?_ | refine dK ?_ | refine cR ?_ | refine cK ?_ | refine wK ?_); conv => whnf)
    refine idxK_nat (by omega) ?_
    conv => whnf
    repeat ((first | refine bF ?_ | refine bT ?_ | refine dK ?_ | refine cR ?_ | refine cK ?_ | refine wK ?_); conv => whnf)
    try (refine condK_of rfl ?_)
    refine (store_one (l := mL P W n) (l3 := mL P (ud W q (W q - 1)) n) (by first | rfl | simp only [killC_d]) (by first | omega | (simp only [szs]; omega)) (ML.setW (by simp only [szs]; omega) hq _) ?_)
    conv => whnf
    repeat ((first | refine bF ?_ | refine bT ?_ | refine dK ?_ | refine cR ?_ | refine cK ?_ | refine wK ?_); conv => whnf)
    rw [DocOut, hdoc, if_neg (fun g => h6 g.2.2), if_neg (by decide), if_neg (by decide), if_pos rfl]
    exact ret_of rfl rfl
  · repeat ((first | refine bF ?_ | refine bT ?_ | refine dK ?_ | refine cR ?_ | refine cK ?_ | refine wK ?_); conv => whnf)
    refine idxK_nat (by omega) ?_
    conv => whnf
    try (refine condK_of rfl ?_)
    refine (part_one (l := mL P W n) (.int .i64 (W q)) (by first | rfl | simp only [killC_d]) (hM.w (by simp only [szs]; omega) hq) ?_)
    conv => whnf
    repeat ((first | refine bF ?_ | refine bT ?_ | refine dK ?_ | refine cR ?_ | refine cK ?_ | refine wK ?_); conv => whnf)
    refine bcase_p (fun h6 => ?_) (fun h6 => ?_) <;> conv => whnf
    · repeat ((first | refine bF ?_ | refine bT ?_ | refine dK ?_ | refine cR ?_ | refine cK ?_ | refine wK ?_); conv => whnf)
      rw [DocOut, hdoc, if_neg (by omega), if_neg (by decide), if_neg (by decide), if_neg (by decide), if_pos rfl, if_pos h6]
      exact ret_of rfl rfl
    repeat ((first | refine bF ?_ | refine bT ?_ | refine dK ?_ | refine cR ?_ | refine cK ?_ | refine wK ?_); conv => whnf)
    refine bcase_p (fun h7 => ?_) (fun h7 => ?_) <;> conv => whnf
    · repeat ((first | refine bF ?_ | refine bT ?_ | refine dK ?_ | refine cR ?_ | refine cK ?_ | refine wK ?_); conv => whnf)
      rw [DocOut, hdoc, if_neg (by omega), if_neg (by decide), if_neg (by decide), if_neg (by decide), if_pos rfl, if_neg h6, if_pos h7]
      exact ret_of rfl rfl
    repeat ((first | refine bF ?_ | refine bT ?_ | refine dK ?_ | refine cR ?_ | refine cK ?_ | refine wK ?_); conv => whnf)
    refine idxK_nat (by omega) ?_
    conv => whnf
    repeat ((first | refine bF ?_ | refine bT ?_ | refine dK ?_ | refine cR ?_ | refine cK ?_ | refine wK ?_); conv => whnf)
    try (refine condK_of rfl ?_)
    refine (store_at (l := mL P W n) (l2 := encP zP) (l3 := mL (ud P q zP) W n) (by first | rfl | simp only [killC_d]) rfl (by first | omega | (simp only [szs]; omega)) (by first | omega | (simp only [szs]; omega)) rfl (ML.setP (by simp only [szs]; omega) hq _) ?_)
    conv => whnf
    repeat ((first | refine bF ?_ | refine bT ?_ | refine dK ?_ | refine cR ?_ | refine cK ?_ | refine wK ?_); conv => whnf)
    rw [DocOut, hdoc, if_neg (by omega), if_neg (by decide), if_neg (by decide), if_neg (by decide), if_pos rfl, if_neg h6, if_neg h7]
    exact ret_of rfl rfl
  · repeat ((first | refine bF ?_ | refine bT ?_ | refine dK ?_ | refine cR ?_ | refine cK ?_ | refine wK ?_); conv => whnf)
    refine bcase_p (fun h7 => ?_) (fun h7 => ?_) <;> conv => whnf
    · repeat ((first | refine bF ?_ | refine bT ?_ | refine dK ?_ | refine cR ?_ | refine cK ?_ | refine wK ?_); conv => whnf)
      rw [DocOut, hdoc, if_neg (by omega), if_neg (by decide), if_neg (by decide), if_neg (by decide), if_neg (by decide), if_pos rfl, if_pos h7]
      exact ret_of rfl rfl
    repeat ((first | refine bF ?_ | refine bT ?_ | refine dK ?_ | refine cR ?_ | refine cK ?_ | refine wK ?_); conv => whnf)
    rw [DocOut, hdoc, if_neg (by omega), if_neg (by decide), if_neg (by decide), if_neg (by decide), if_neg (by decide), if_pos rfl, if_neg h7]
    exact ret_of rfl rfl
end Go.Lk

namespace Go.Lk
open Go Go.Proofs Go.RowKit

theorem step_bad {e : DS} {o : Jo} (h : o.1 ≠ true) (h2 : ¬ (DR e ∧ okW e.sec.length o.2 = true ∧ e.ca.length < 200)) : stepJ e o = e := by
  rw [stepJ, if_neg h, putM]
  split
  · rename_i g
    have h3 : ¬ e.ca.length < 200 := fun q => h2 ⟨g.1, g.2, q⟩
    rw [if_pos (by omega)]
  · rfl
set_option maxRecDepth 100000 in
theorem rrun_ok (d : DS) (l : List Jo) (most : Int) (hl : l.length ≤ 1000000) : ACall Tryz.prog 24 [encDS d, .lst (l.map encJ), .int .i64 most] (encDS (runM d l most)) := by
  refine acall_of Tryz.func24 3 rfl (by kernel_rfl) ?_
  conv => whnf
  have hm : (l.map encJ).length = l.length := List.length_map ..
  repeat ((first | refine bF ?_ | refine bT ?_ | refine dK ?_ | refine cR ?_ | refine cK ?_ | refine wK ?_); conv => whnf)
  refine aloop (ι := Nat × DS) (fun k => [(1, .d (.lst (l.map encJ))), (2, .d (.int .i64 most)), (3, .ptr 3 0 0), (6, .ptr 6 0 0), (7, .d (.int .i64 k.1))])
    (fun k => [(3, .box [.d (.lst (k.2.sec.map encB)), .d (.lst (k.2.ca.map encW))] false), (6, .box [.nil, .nil] false)])
    (fun k => k.1 ≤ l.length ∧ ((k.1 : Int) ≤ most ∨ k.1 = 0) ∧ k.2 = (l.take k.1).foldl stepJ d) (fun k => l.length - k.1) (0, d) ⟨by omega, .inr rfl, rfl⟩ (le0 (le_of_cov ⟨rfl, rfl, rfl, rfl, rfl, trivial⟩ ⟨rfl, rfl, trivial⟩ ⟨rfl, rfl, rfl, rfl⟩)) ?_
  rintro ⟨k, e⟩ ⟨hk, hc, he⟩
  simp only at hk hc he ⊢
  have tk : ∀ j, most.toNat = j → (l.take j).foldl stepJ d = runM d l most := fun j h => by rw [runM, h]
  conv => whnf
  refine bcase_p (fun h5 => ?_) (fun h5 => ?_) <;> conv => whnf
  rotate_left
  · repeat ((first | refine bF ?_ | refine bT ?_ | refine dK ?_ | refine cR ?_ | refine cK ?_ | refine wK ?_); conv => whnf)
    have : e = runM d l most := by
      rw [he, runM]
      rcases hc with h | h
      · rw [List.take_of_length_le (by omega), List.take_of_length_le (by omega)]
      · have : l = [] := List.length_eq_zero_iff.1 (by omega)
        subst this
        simp
    rw [← this]
    exact ret_of rfl rfl
  have hk2 : k < l.length := by omega
  have en : ∀ x, stepJ e l[k] = x → (l.take (k + 1)).foldl stepJ d = x := fun x hx => by rw [take_snoc hk2, List.foldl_append, ← he]; exact hx
  refine bcase_p (fun h6 => ?_) (fun h6 => ?_) <;> conv => whnf
  rotate_left
  · repeat ((first | refine bF ?_ | refine bT ?_ | refine dK ?_ | refine cR ?_ | refine cK ?_ | refine wK ?_); conv => whnf)
    have : e = runM d l most := by
      rcases hc with h | h
      · rw [he]; exact tk k (by omega)
      · subst h; rw [he]; exact tk 0 (by omega)
    rw [← this]
    exact ret_of rfl rfl
  repeat ((first | refine bF ?_ | refine bT ?_ | refine dK ?_ | refine cR ?_ | refine cK ?_ | refine wK ?_); conv => whnf)
  refine idxK_nat (by omega) ?_
  conv => whnf
  refine getRow_of (x := encJ l[k]) (by simp [hk2]) ?_
  conv => whnf
  repeat ((first | refine bF ?_ | refine bT ?_ | refine dK ?_ | refine cR ?_ | refine cK ?_ | refine wK ?_); conv => whnf)
  repeat ((first | refine bF ?_ | refine bT ?_ | refine dK ?_ | refine cR ?_ | refine cK ?_ | refine wK ?_); conv => whnf)
  refine idxK_nat (by omega) ?_
  conv => whnf
  refine getRow_of (x := encJ l[k]) (by simp [hk2]) ?_
  conv => whnf
  repeat ((first | refine bF ?_ | refine bT ?_ | refine dK ?_ | refine cR ?_ | refine cK ?_ | refine wK ?_); conv => whnf)
  repeat ((first | refine bF ?_ | refine bT ?_ | refine dK ?_ | refine cR ?_ | refine cK ?_ | refine wK ?_); conv => whnf)
  refine bcase_intro (fun h7 => ?_) (fun h7 => ?_) <;> conv => whnf
  · repeat ((first | refine bF ?_ | refine bT ?_ | refine dK ?_ | refine cR ?_ | refine cK ?_ | refine wK ?_); conv => whnf)
    refine callX_pure (rdRight_ok e) ?_
    conv => whnf
    repeat ((first | refine bF ?_ | refine bT ?_ | refine dK ?_ | refine cR ?_ | refine cK ?_ | refine wK ?_); conv => whnf)
    refine bcase_intro (fun h8 => ?_) (fun h8 => ?_) <;> conv => whnf
    · have hR : DR e := drB_t.1 h8
      repeat ((first | refine bF ?_ | refine bT ?_ | refine dK ?_ | refine cR ?_ | refine cK ?_ | refine wK ?_); conv => whnf)
      refine callX_pure (rsync_ok e hR) ?_
      conv => whnf
      repeat ((first | refine bF ?_ | refine bT ?_ | refine dK ?_ | refine cR ?_ | refine cK ?_ | refine wK ?_); conv => whnf)
      have hs : stepJ e l[k] = ⟨wrS e.sec e.ca, []⟩ := by rw [stepJ, if_pos h7, syncM, if_pos hR]
      exact ⟨(k + 1, ⟨wrS e.sec e.ca, []⟩), ⟨by simp only []; omega, .inl (by simp only []; omega), (en _ hs).symm⟩, by simp only []; omega, (le0 (le_of_cov ⟨rfl, rfl, rfl, rfl, rfl, trivial⟩ ⟨rfl, rfl, trivial⟩ ⟨rfl, rfl, rfl, rfl⟩))⟩
    · have hR : ¬ DR e := drB_f.1 h8
      repeat ((first | refine bF ?_ | refine bT ?_ | refine dK ?_ | refine cR ?_ | refine cK ?_ | refine wK ?_); conv => whnf)
      have hs : stepJ e l[k] = e := by rw [stepJ, if_pos h7, syncM, if_neg hR]
      exact ⟨(k + 1, e), ⟨by simp only []; omega, .inl (by simp only []; omega), (en _ hs).symm⟩, by simp only []; omega, (le0 (le_of_cov ⟨rfl, rfl, rfl, rfl, rfl, trivial⟩ ⟨rfl, rfl, trivial⟩ ⟨rfl, rfl, rfl, rfl⟩))⟩
  have h7' : l[k].1 ≠ true := by rw [h7]; decide
  have bad : ¬ (DR e ∧ okW e.sec.length l[k].2 = true ∧ e.ca.length < 200) → (l.take (k + 1)).foldl stepJ d = e := fun g => en e (step_bad h7' g)
  have m1 : (e.sec.map encB).length = e.sec.length := List.length_map ..
  have m2 : (e.ca.map encW).length = e.ca.length := List.length_map ..
  repeat ((first | refine bF ?_ | refine bT ?_ | refine dK ?_ | refine cR ?_ | refine cK ?_ | refine wK ?_); conv => whnf)
  refine callX_pure (rdRight_ok e) ?_
  conv => whnf
  repeat ((first | refine bF ?_ | refine bT ?_ | refine dK ?_ | refine cR ?_ | refine cK ?_ | refine wK ?_); conv => whnf)
  refine bcase_intro (fun h8 => ?_) (fun h8 => ?_) <;> conv => whnf
  rotate_left
  · repeat ((first | refine bF ?_ | refine bT ?_ | refine dK ?_ | refine cR ?_ | refine cK ?_ | refine wK ?_); conv => whnf)
    exact ⟨(k + 1, e), ⟨by simp only []; omega, .inl (by simp only []; omega), (bad (fun g => drB_f.1 h8 g.1)).symm⟩, by simp only []; omega, (le0 (le_of_cov ⟨rfl, rfl, rfl, rfl, rfl, trivial⟩ ⟨rfl, rfl, trivial⟩ ⟨rfl, rfl, rfl, rfl⟩))⟩
  have hR : DR e := drB_t.1 h8
  repeat ((first | refine bF ?_ | refine bT ?_ | refine dK ?_ | refine cR ?_ | refine cK ?_ | refine wK ?_); conv => whnf)
  refine bcase_p (fun g1 => ?_) (fun g1 => ?_) <;> conv => whnf
  rotate_left
  · repeat ((first | refine bF ?_ | refine bT ?_ | refine dK ?_ | refine cR ?_ | refine cK ?_ | refine wK ?_); conv => whnf)
    exact ⟨(k + 1, e), ⟨by simp only []; omega, .inl (by simp only []; omega), (bad (fun g => g1 (okW_out.1 g.2.1).1)).symm⟩, by simp only []; omega, (le0 (le_of_cov ⟨rfl, rfl, rfl, rfl, rfl, trivial⟩ ⟨rfl, rfl, trivial⟩ ⟨rfl, rfl, rfl, rfl⟩))⟩
  repeat ((first | refine bF ?_ | refine bT ?_ | refine dK ?_ | refine cR ?_ | refine cK ?_ | refine wK ?_); conv => whnf)
  refine bcase_p (fun g2 => ?_) (fun g2 => ?_) <;> conv => whnf
  rotate_left
  · repeat ((first | refine bF ?_ | refine bT ?_ | refine dK ?_ | refine cR ?_ | refine cK ?_ | refine wK ?_); conv => whnf)
    exact ⟨(k + 1, e), ⟨by simp only []; omega, .inl (by simp only []; omega), (bad (fun g => g2 (by rw [m1]; exact (okW_out.1 g.2.1).2.1))).symm⟩, by simp only []; omega, (le0 (le_of_cov ⟨rfl, rfl, rfl, rfl, rfl, trivial⟩ ⟨rfl, rfl, trivial⟩ ⟨rfl, rfl, rfl, rfl⟩))⟩
  repeat ((first | refine bF ?_ | refine bT ?_ | refine dK ?_ | refine cR ?_ | refine cK ?_ | refine wK ?_); conv => whnf)
  refine bcase_p (fun g3 => ?_) (fun g3 => ?_) <;> conv => whnf
  rotate_left
  · repeat ((first | refine bF ?_ | refine bT ?_ | refine dK ?_ | refine cR ?_ | refine cK ?_ | refine wK ?_); conv => whnf)
    exact ⟨(k + 1, e), ⟨by simp only []; omega, .inl (by simp only []; omega), (bad (fun g => g3 (by rw [(okW_out.1 g.2.1).2.2]; rfl))).symm⟩, by simp only []; omega, (le0 (le_of_cov ⟨rfl, rfl, rfl, rfl, rfl, trivial⟩ ⟨rfl, rfl, trivial⟩ ⟨rfl, rfl, rfl, rfl⟩))⟩
  repeat ((first | refine bF ?_ | refine bT ?_ | refine dK ?_ | refine cR ?_ | refine cK ?_ | refine wK ?_); conv => whnf)
  refine bcase_p (fun g4 => ?_) (fun g4 => ?_) <;> conv => whnf
  rotate_left
  · repeat ((first | refine bF ?_ | refine bT ?_ | refine dK ?_ | refine cR ?_ | refine cK ?_ | refine wK ?_); conv => whnf)
    exact ⟨(k + 1, e), ⟨by simp only []; omega, .inl (by simp only []; omega), (bad (fun g => g4 (by rw [m2]; omega))).symm⟩, by simp only []; omega, (le0 (le_of_cov ⟨rfl, rfl, rfl, rfl, rfl, trivial⟩ ⟨rfl, rfl, trivial⟩ ⟨rfl, rfl, rfl, rfl⟩))⟩
  have hok : okW e.sec.length l[k].2 = true := okW_out.2 ⟨g1, by rw [← m1]; exact g2, by omega⟩
  have hs : stepJ e l[k] = ⟨e.sec, e.ca ++ [l[k].2]⟩ := by
    rw [stepJ, if_neg h7', putM, if_pos ⟨hR, hok⟩, if_neg (by omega)]
  repeat ((first | refine bF ?_ | refine bT ?_ | refine dK ?_ | refine cR ?_ | refine cK ?_ | refine wK ?_); conv => whnf)
  refine condK_of (okRows_map (fun _ => rfl) _) ?_
  conv => whnf
  repeat ((first | refine bF ?_ | refine bT ?_ | refine dK ?_ | refine cR ?_ | refine cK ?_ | refine wK ?_); conv => whnf)
  refine roomK_le 1000 1000 (by simp; omega) (by decide) (by decide) (by decide) ?_
  conv => whnf
  repeat ((first | refine bF ?_ | refine bT ?_ | refine dK ?_ | refine cR ?_ | refine cK ?_ | refine wK ?_); conv => whnf)
  refine roomK_le 1000 1000 (by show (e.ca.map encW).length + 1 ≤ 1000; omega) (by decide) (by decide) (by decide) ?_
  conv => whnf
  repeat ((first | refine bF ?_ | refine bT ?_ | refine dK ?_ | refine cR ?_ | refine cK ?_ | refine wK ?_); conv => whnf)
  exact ⟨(k + 1, ⟨e.sec, e.ca ++ [l[k].2]⟩), ⟨by simp only []; omega, .inl (by simp only []; omega), (en _ hs).symm⟩, by simp only []; omega,
    len [.frz 65 ((e.ca ++ [l[k].2]).map encW) 2, .cd 3 1 65 ((e.ca ++ [l[k].2]).map encW) 2] ⟨⟨false, by rw [List.map_append]; rfl⟩, ⟨rfl, rfl, rfl⟩, trivial⟩ (le_of_cov ⟨rfl, rfl, rfl, rfl, rfl, trivial⟩ ⟨rfl, rfl, trivial⟩ ⟨rfl, rfl, rfl, rfl⟩)⟩

end Go.Lk

namespace Go.Lk
open Go Go.Proofs Go.RowKit

/-! ### the document's repair -/
theorem bl_head (p : Nat) : bl (headJ p) = 74 :: UInt8.ofNat p :: List.replicate 14 0 := by
  rw [headJ, bl_app, show bl (bstr [74, (p : Int)]) = _ from bstr_list _, show bl (nulB 14) = _ from nulB_list 14]
  rfl
theorem bl_two {s : ByteArray} (h : s.size = 16) : bl (s.extract 0 2) = [s.data.getD 0 0, s.data.getD 1 0] := by
  rw [bl_extract, getD_bl, getD_bl]
  have h2 : (bl s).length = 16 := by rw [bl_len]; exact h
  generalize bl s = l at h2 ⊢
  match l, h2 with
  | a :: b :: r, _ => rfl
theorem headJ_of {s : ByteArray} (hsz : s.size = 16) (h0 : (s.data.getD 0 0).toNat = 74) (h : s = s.extract 0 2 ++ nulB 14) : s = headJ (s.data.getD 1 0).toNat := by
  refine h.trans ?_
  rw [headJ]
  congr 1
  apply bl_ext
  rw [bl_two hsz, show bl (bstr _) = _ from bstr_list _]
  have e0 : s.data.getD 0 0 = 74 := UInt8.toNat_inj.1 h0
  rw [e0]
  simp
theorem headJ_0 (p : Nat) : ((headJ p).data.getD 0 0).toNat = 74 := by rw [getD_bl, bl_head]; rfl
theorem headJ_1 {p : Nat} (h : p ≤ 16) : ((headJ p).data.getD 1 0).toNat = p := by
  rw [getD_bl, bl_head]
  show (UInt8.ofNat p).toNat = p
  rw [UInt8.toNat_ofNat']; omega
theorem headJ_2 (p : Nat) : headJ p = (headJ p).extract 0 2 ++ nulB 14 := by
  apply bl_ext
  rw [bl_app, bl_extract, bl_head, show bl (nulB 14) = _ from nulB_list 14]
  rfl
theorem headG_of {s : ByteArray} {p : Nat} (hs : s = headJ p) (h16 : p ≤ 16) : ∀ {n k : Nat}, k ≤ p → p < k + n → headG s n k = ((p : Int), true)
  | 0, k, h1, h2 => by omega
  | n + 1, k, h1, h2 => by
    rw [headG]
    split
    · rename_i e
      have : k = p := by
        have e2 : ((headJ k).data.getD 1 0).toNat = ((headJ p).data.getD 1 0).toNat := by rw [e.symm.trans hs]
        rw [headJ_1 (by omega), headJ_1 h16] at e2
        exact e2
      rw [this]
    · rename_i e
      exact headG_of hs h16 (by
        have : k ≠ p := fun q => e (q ▸ hs)
        omega) (by omega)
theorem headM_yes {s : ByteArray} {p : Nat} (hs : s = headJ p) (h1 : 1 ≤ p) (h16 : p ≤ 16) : headM s = ((p : Int), true) := headG_of hs h16 h1 (by omega)
theorem headM_no {s : ByteArray} (h : ∀ p, 1 ≤ p → p ≤ 16 → s ≠ headJ p) : (headM s).2 = false := by
  cases e : (headM s).2 with
  | false => rfl
  | true =>
    obtain ⟨q1, q2, q3⟩ := headG_at (show (headG s 16 1).2 = true from e)
    exact absurd q3 (h _ (by omega) (by omega))
theorem rrepair_ok (d : DS) (hU : Us d) : ACall Tryz.prog 25 [encDS d] (.lst ((repairM d).map encJ)) := by
  have hR := hU.dr
  have hn := hU.n
  have h200 := hR.c1
  obtain ⟨s, hs⟩ : ∃ s, rdS d 0 = s := ⟨_, rfl⟩
  have hsz : s.size = 16 := by rw [← hs]; exact rdS_size hR (by decide) (by omega)
  refine acall_of Tryz.func25 1 rfl (by kernel_rfl) ?_
  conv => whnf
  repeat ((first | refine bF ?_ | refine bT ?_ | refine dK ?_ | refine cR ?_ | refine cK ?_ | refine wK ?_); conv => whnf)
  refine callX_pure (rread_ok d 0 (by omega) (by decide) (by omega)) ?_
  conv => whnf
  repeat ((first | refine bF ?_ | refine bT ?_ | refine dK ?_ | refine cR ?_ | refine cK ?_ | refine wK ?_); conv => whnf)
  rw [hs]
  repeat ((first | refine bF ?_ | refine bT ?_ | refine dK ?_ | refine cR ?_ | refine cK ?_ | refine wK ?_); conv => whnf)
  refine callX_pure (filled_ok ByteArray.empty (by decide)) ?_
  conv => whnf
  repeat ((first | refine bF ?_ | refine bT ?_ | refine dK ?_ | refine cR ?_ | refine cK ?_ | refine wK ?_); conv => whnf)
  rw [show ByteArray.empty ++ nulB (16 - ByteArray.empty.size) = nul16 from nul_0app _]
  refine bcase_p (fun h2 => ?_) (fun h2 => ?_) <;> conv => whnf
  · repeat ((first | refine bF ?_ | refine bT ?_ | refine dK ?_ | refine cR ?_ | refine cK ?_ | refine wK ?_); conv => whnf)
    rw [repairM, if_pos hU, if_pos (hs.trans h2)]
    exact ret_of rfl rfl
  obtain ⟨p, hp⟩ : ∃ p, (s.data.getD 1 0).toNat = p := ⟨_, rfl⟩
  obtain ⟨z, hz⟩ : ∃ z, (s.data.getD 0 0).toNat = z := ⟨_, rfl⟩
  have hp256 : p < 256 := by rw [← hp]; exact UInt8.toNat_lt _
  have hj : ∀ q, q ≤ 16 → s = headJ q → z = 74 ∧ p = q ∧ s = s.extract 0 2 ++ nulB (16 - (s.extract 0 2).size) := fun q h16 e => by
    refine ⟨by rw [← hz, e, headJ_0], by rw [← hp, e, headJ_1 h16], ?_⟩
    rw [ByteArray.size_extract, hsz]
    rw [e]
    exact headJ_2 q
  repeat ((first | refine bF ?_ | refine bT ?_ | refine dK ?_ | refine cR ?_ | refine cK ?_ | refine wK ?_); conv => whnf)
  refine idxK_nat (i := 1) (by omega) ?_
  conv => whnf
  rw [hp]
  refine wrapK_in (w64 (by omega) (by omega)) ?_
  conv => whnf
  repeat ((first | refine bF ?_ | refine bT ?_ | refine dK ?_ | refine cR ?_ | refine cK ?_ | refine wK ?_); conv => whnf)
  refine idxK_nat (i := 0) (by omega) ?_
  conv => whnf
  rw [hz]
  refine bcase_p (fun g1 => ?_) (fun g1 => ?_) <;> conv => whnf
  rotate_left
  · repeat ((first | refine bF ?_ | refine bT ?_ | refine dK ?_ | refine cR ?_ | refine cK ?_ | refine wK ?_); conv => whnf)
    rw [repairM, if_pos hU, if_neg (by rw [hs]; exact h2), fixJ, if_neg (by
      rw [hs, headM_no fun q q1 q16 e => ?_]
      · decide
      · have := (hj q q16 e).1; omega)]
    refine callX_pure (filled_ok ByteArray.empty (by decide)) ?_
    conv => whnf
    repeat ((first | refine bF ?_ | refine bT ?_ | refine dK ?_ | refine cR ?_ | refine cK ?_ | refine wK ?_); conv => whnf)
    rw [show ByteArray.empty ++ nulB (16 - ByteArray.empty.size) = nul16 from nul_0app _]
    refine callX_pure (at_ok 0 nul16) ?_
    conv => whnf
    repeat ((first | refine bF ?_ | refine bT ?_ | refine dK ?_ | refine cR ?_ | refine cK ?_ | refine wK ?_); conv => whnf)
    refine roomK_le 1000 1000 (show (2 : Nat) ≤ 1000 by decide) (by decide) (by decide) (by decide) ?_
    conv => whnf
    exact ret_of rfl rfl
  repeat ((first | refine bF ?_ | refine bT ?_ | refine dK ?_ | refine cR ?_ | refine cK ?_ | refine wK ?_); conv => whnf)
  refine bcase_p (fun g2 => ?_) (fun g2 => ?_) <;> conv => whnf
  rotate_left
  · repeat ((first | refine bF ?_ | refine bT ?_ | refine dK ?_ | refine cR ?_ | refine cK ?_ | refine wK ?_); conv => whnf)
    rw [repairM, if_pos hU, if_neg (by rw [hs]; exact h2), fixJ, if_neg (by
      rw [hs, headM_no fun q q1 q16 e => ?_]
      · decide
      · have := (hj q q16 e).2.1; omega)]
    refine callX_pure (filled_ok ByteArray.empty (by decide)) ?_
    conv => whnf
    repeat ((first | refine bF ?_ | refine bT ?_ | refine dK ?_ | refine cR ?_ | refine cK ?_ | refine wK ?_); conv => whnf)
    rw [show ByteArray.empty ++ nulB (16 - ByteArray.empty.size) = nul16 from nul_0app _]
    refine callX_pure (at_ok 0 nul16) ?_
    conv => whnf
    repeat ((first | refine bF ?_ | refine bT ?_ | refine dK ?_ | refine cR ?_ | refine cK ?_ | refine wK ?_); conv => whnf)
    refine roomK_le 1000 1000 (show (2 : Nat) ≤ 1000 by decide) (by decide) (by decide) (by decide) ?_
    conv => whnf
    exact ret_of rfl rfl
  repeat ((first | refine bF ?_ | refine bT ?_ | refine dK ?_ | refine cR ?_ | refine cK ?_ | refine wK ?_); conv => whnf)
  refine bcase_p (fun g3 => ?_) (fun g3 => ?_) <;> conv => whnf
  rotate_left
  · repeat ((first | refine bF ?_ | refine bT ?_ | refine dK ?_ | refine cR ?_ | refine cK ?_ | refine wK ?_); conv => whnf)
    rw [repairM, if_pos hU, if_neg (by rw [hs]; exact h2), fixJ, if_neg (by
      rw [hs, headM_no fun q q1 q16 e => ?_]
      · decide
      · have := (hj q q16 e).2.1; omega)]
    refine callX_pure (filled_ok ByteArray.empty (by decide)) ?_
    conv => whnf
    repeat ((first | refine bF ?_ | refine bT ?_ | refine dK ?_ | refine cR ?_ | refine cK ?_ | refine wK ?_); conv => whnf)
    rw [show ByteArray.empty ++ nulB (16 - ByteArray.empty.size) = nul16 from nul_0app _]
    refine callX_pure (at_ok 0 nul16) ?_
    conv => whnf
    repeat ((first | refine bF ?_ | refine bT ?_ | refine dK ?_ | refine cR ?_ | refine cK ?_ | refine wK ?_); conv => whnf)
    refine roomK_le 1000 1000 (show (2 : Nat) ≤ 1000 by decide) (by decide) (by decide) (by decide) ?_
    conv => whnf
    exact ret_of rfl rfl
  repeat ((first | refine bF ?_ | refine bT ?_ | refine dK ?_ | refine cR ?_ | refine cK ?_ | refine wK ?_); conv => whnf)
  refine sliceK_hi (h := 2) (by omega) ?_
  conv => whnf
  repeat ((first | refine bF ?_ | refine bT ?_ | refine dK ?_ | refine cR ?_ | refine cK ?_ | refine wK ?_); conv => whnf)
  have hsz2 : (s.extract 0 2).size = 2 := by rw [ByteArray.size_extract, hsz]; rfl
  refine callX_pure (filled_ok (s.extract 0 2) (by omega)) ?_
  conv => whnf
  repeat ((first | refine bF ?_ | refine bT ?_ | refine dK ?_ | refine cR ?_ | refine cK ?_ | refine wK ?_); conv => whnf)
  refine bcase_p (fun g4 => ?_) (fun g4 => ?_) <;> conv => whnf
  rotate_left
  · repeat ((first | refine bF ?_ | refine bT ?_ | refine dK ?_ | refine cR ?_ | refine cK ?_ | refine wK ?_); conv => whnf)
    rw [repairM, if_pos hU, if_neg (by rw [hs]; exact h2), fixJ, if_neg (by
      rw [hs, headM_no fun q q1 q16 e => ?_]
      · decide
      · exact g4 (hj q q16 e).2.2)]
    refine callX_pure (filled_ok ByteArray.empty (by decide)) ?_
    conv => whnf
    repeat ((first | refine bF ?_ | refine bT ?_ | refine dK ?_ | refine cR ?_ | refine cK ?_ | refine wK ?_); conv => whnf)
    rw [show ByteArray.empty ++ nulB (16 - ByteArray.empty.size) = nul16 from nul_0app _]
    refine callX_pure (at_ok 0 nul16) ?_
    conv => whnf
    repeat ((first | refine bF ?_ | refine bT ?_ | refine dK ?_ | refine cR ?_ | refine cK ?_ | refine wK ?_); conv => whnf)
    refine roomK_le 1000 1000 (show (2 : Nat) ≤ 1000 by decide) (by decide) (by decide) (by decide) ?_
    conv => whnf
    exact ret_of rfl rfl
  have hJ : s = headJ p := by
    rw [hsz2] at g4
    rw [← hp]; exact headJ_of hsz (by omega) g4
  repeat ((first | refine bF ?_ | refine bT ?_ | refine dK ?_ | refine cR ?_ | refine cK ?_ | refine wK ?_); conv => whnf)
  refine callX_pure (rread_ok d 1 (by omega) (by decide) (by omega)) ?_
  conv => whnf
  repeat ((first | refine bF ?_ | refine bT ?_ | refine dK ?_ | refine cR ?_ | refine cK ?_ | refine wK ?_); conv => whnf)
  refine callX_pure (at_ok (2 * (p : Int) + 1) (rdS d 1)) ?_
  conv => whnf
  repeat ((first | refine bF ?_ | refine bT ?_ | refine dK ?_ | refine cR ?_ | refine cK ?_ | refine wK ?_); conv => whnf)
  refine callX_pure (rread_ok d 2 (by omega) (by decide) (by omega)) ?_
  conv => whnf
  repeat ((first | refine bF ?_ | refine bT ?_ | refine dK ?_ | refine cR ?_ | refine cK ?_ | refine wK ?_); conv => whnf)
  refine callX_pure (at_ok (2 * (p : Int) + 2) (rdS d 2)) ?_
  conv => whnf
  repeat ((first | refine bF ?_ | refine bT ?_ | refine dK ?_ | refine cR ?_ | refine cK ?_ | refine wK ?_); conv => whnf)
  refine roomK_le 1000 1000 (show (3 : Nat) ≤ 1000 by decide) (by decide) (by decide) (by decide) ?_
  conv => whnf
  repeat ((first | refine bF ?_ | refine bT ?_ | refine dK ?_ | refine cR ?_ | refine cK ?_ | refine wK ?_); conv => whnf)
  refine callX_pure (filled_ok ByteArray.empty (by decide)) ?_
  conv => whnf
  repeat ((first | refine bF ?_ | refine bT ?_ | refine dK ?_ | refine cR ?_ | refine cK ?_ | refine wK ?_); conv => whnf)
  rw [show ByteArray.empty ++ nulB (16 - ByteArray.empty.size) = nul16 from nul_0app _]
  refine callX_pure (at_ok 0 nul16) ?_
  conv => whnf
  repeat ((first | refine bF ?_ | refine bT ?_ | refine dK ?_ | refine cR ?_ | refine cK ?_ | refine wK ?_); conv => whnf)
  refine roomK_le 1000 1000 (show (5 : Nat) ≤ 1000 by decide) (by decide) (by decide) (by decide) ?_
  conv => whnf
  rw [repairM, if_pos hU, if_neg (by rw [hs]; exact h2), fixJ, hs, headM_yes hJ (by omega) (by omega), if_pos rfl]
  refine ret_of rfl ?_
  rw [Int.add_assoc (2 * (p : Int)) 1 1]
  rfl
end Go.Lk

namespace Go.Lk
open Go Go.Proofs Go.RowKit

/-! ### a pool of some pages -/
abbrev Nst := List ByteArray × (Nat → Pg)
open Classical in
noncomputable def newStep (st : Nst) (x : Pg) : Nst := if pgR x = true ∧ x.2.1 ≤ 1073741824 then (putD st.1 x, ud st.2 x.1.toNat x) else st
def new0 : Nst := (List.replicate 35 nul16, fun _ => zP)
noncomputable def newG (l : List Pg) : Nst := (l.take 16).foldl newStep new0
structure NI (st : Nst) : Prop where
  rest : Rest st.1
  len : st.1.length = 35
  z : st.1[0]?.getD ByteArray.empty = nul16
  on : OnD st.1 [] st.2 1073741824
theorem NI.new : NI new0 := ⟨new_rest, List.length_replicate .., z_new, OnD.new (by decide)⟩
theorem NI.put {st : Nst} (h : NI st) {x : Pg} (hx : pgR x = true) (hv : x.2.1 ≤ 1073741824) : NI (putD st.1 x, ud st.2 x.1.toNat x) := by
  obtain ⟨_, _, r1, r2⟩ := setS_rest h.rest hx
  obtain ⟨p, hp, p1, p16⟩ := pg_nat hx
  refine ⟨r1, r2.trans h.len, setD_0 h.rest, ⟨fun q q1 q16 _ => ?_, fun q q1 q16 => ?_, fun q => ?_⟩⟩
  · rw [get_put h.rest hx q1 q16]
    by_cases e : x.1 = (q : Int)
    · rw [if_pos e, show x.1.toNat = q by omega]
      simp only [ud_at]
      rw [if_neg (by omega)]
    · rw [if_neg e]
      simp only []
      rw [ud_ne _ _ (by omega)]
      exact h.on.dsk q q1 q16 (fun _ h => by cases h)
  · by_cases e : x.1 = (q : Int)
    · right
      rw [show x.1.toNat = q by omega]
      simp only [ud_at]
      exact ⟨hx, e⟩
    · simp only []
      rw [ud_ne _ _ (by omega)]
      exact h.on.okp q q1 q16
  · by_cases e : q = x.1.toNat
    · subst e
      simp only [ud_at]; exact hv
    · simp only []
      rw [ud_ne _ _ e]; exact h.on.vb q
theorem NI.step {st : Nst} (h : NI st) (x : Pg) : NI (newStep st x) := by
  rw [newStep]
  split
  · rename_i g; exact h.put g.1 g.2
  · exact h
theorem NI.fold : ∀ (l : List Pg) {st : Nst}, NI st → NI (l.foldl newStep st)
  | [], _, h => h
  | x :: r, _, h => NI.fold r (h.step x)
theorem NI.ofG (l : List Pg) : NI (newG l) := NI.fold _ NI.new
theorem NI.us {st : Nst} (h : NI st) : Us ⟨st.1, []⟩ := h.rest.us
/-- what the document's steps make of a disk at rest -/
theorem stepsR_run {st : Nst} (h : NI st) {x : Pg} (hx : pgR x = true) : stepsR ⟨st.1, []⟩ x = planJ x.1.toNat (putB x) ∧ runM ⟨st.1, []⟩ (planJ x.1.toNat (putB x)) 99 = ⟨putD st.1 x, []⟩ := by
  obtain ⟨p, hp, p1, p16⟩ := pg_nat hx
  have hr := pgR_out.1 hx
  refine ⟨?_, ?_⟩
  · rw [stepsR, if_neg (fun g => g ⟨h.us, by omega, by omega⟩), if_neg (fun g => by omega), if_pos hx]
  · rw [runM]
    show ((planJ x.1.toNat (putB x)).take 99).foldl stepJ _ = _
    rw [List.take_of_length_le (show 10 ≤ 99 by decide), plan_runs h.rest (by omega) (by omega) (putB_size (pgR_out.1 hx).2.2.2.2)]
    rfl
theorem stepsR_no {st : Nst} (h : NI st) {x : Pg} (hx : pgR x = false) (hv : x.2.1 ≠ 0) : stepsR ⟨st.1, []⟩ x = [] := by
  rw [stepsR]
  split
  · rfl
  · rw [if_neg (fun g => hv g.1), if_neg (by rw [hx]; decide)]
theorem new17_ok (many : Int) (m0 : 0 ≤ many) (m1 : many ≤ 255) (pages : List Pg) (n : Nat) (hn : 1 + many % 8 = (n : Int)) : ACall Tryz.prog 17 [.int .u8 many, .lst (pages.map encP)]
    (.tup [encPS ⟨newFS n, ⟨(newG pages).1, []⟩, 0⟩, .agg (mL (newG pages).2 (fun _ => 0) n), .bool true]) := by
  have hm : (pages.map encP).length = pages.length := List.length_map ..
  refine acall_of Tryz.func17 2 rfl (by kernel_rfl) ?_
  conv => whnf
  repeat ((first | refine bF ?_ | refine bT ?_ | refine dK ?_ | refine cR ?_ | refine cK ?_ | refine wK ?_); conv => whnf)
  refine callX_pure dnew_ok ?_
  conv => whnf
  repeat ((first | refine bF ?_ | refine bT ?_ | refine dK ?_ | refine cR ?_ | refine cK ?_ | refine wK ?_); conv => whnf)
  refine divK_rem (by decide) m0 ?_
  conv => whnf
  refine wrapK_in (w64 (by omega) (by omega)) ?_
  conv => whnf
  refine wrapK_in (w64 (by omega) (by omega)) ?_
  conv => whnf
  repeat ((first | refine bF ?_ | refine bT ?_ | refine dK ?_ | refine cR ?_ | refine cK ?_ | refine wK ?_); conv => whnf)
  rw [hn]
  refine aloop (ι := Nat × Nst) (fun k => [(1, .d (.lst (pages.map encP))), (4, .ptr 4 0 0), (5, .ptr 5 0 0), (7, .ptr 7 0 0), (9, .d (.int .i64 n)), (10, .ptr 10 0 0), (11, .d (.int .i64 k.1))])
    (fun k => [(4, .box ((T 40).zero.map zA) false), (5, .box ((T 46).zero.map zA) false), (7, .box [.d (.lst (k.2.1.map encB)), .d (.lst [])] false), (10, .box ((mL k.2.2 (fun _ => 0) n).map AV.d) false)])
    (fun k => k.1 ≤ pages.length ∧ k.1 ≤ 16 ∧ k.2 = (pages.take k.1).foldl newStep new0 ∧ NI k.2) (fun k => 16 - k.1) (0, new0) ⟨by omega, by decide, rfl, NI.new⟩ (le0 (le_of_cov ⟨rfl, rfl, rfl, rfl, rfl, rfl, rfl, trivial⟩ ⟨rfl, rfl, rfl, rfl, trivial⟩ ⟨rfl, rfl, rfl, rfl⟩)) ?_
  rintro ⟨k, st⟩ ⟨hk, hk16, hst, hI⟩
  simp only at hk hk16 hst hI ⊢
  have hfin : (¬ k < pages.length) ∨ (¬ k < 16) → st = newG pages := fun h => by
    rw [hst, newG]
    by_cases e : k = 16
    · subst e; rfl
    · have : k = pages.length := by omega
      rw [List.take_of_length_le (by omega), List.take_of_length_le (by omega)]
  have hop : openM ⟨st.1, []⟩ n = (⟨newFS n, ⟨st.1, []⟩, 0⟩, 0) := by
    have := open_rest hI.rest hI.z (n := n) (by omega) (by omega)
    rw [Int.toNat_natCast] at this; exact this
  have hfl : (newFS n).pg.length = n := List.length_replicate ..
  conv => whnf
  refine bcase_p (fun h5 => ?_) (fun h5 => ?_) <;> conv => whnf
  rotate_left
  · repeat ((first | refine bF ?_ | refine bT ?_ | refine dK ?_ | refine cR ?_ | refine cK ?_ | refine wK ?_); conv => whnf)
    refine callX_pure (open_ok ⟨st.1, []⟩ n) ?_
    conv => whnf
    repeat ((first | refine bF ?_ | refine bT ?_ | refine dK ?_ | refine cR ?_ | refine cK ?_ | refine wK ?_); conv => whnf)
    rw [hop]
    repeat ((first | refine bF ?_ | refine bT ?_ | refine dK ?_ | refine cR ?_ | refine cK ?_ | refine wK ?_); conv => whnf)
    have e := hfin (by omega)
    rw [← e]
    refine ret_of rfl ?_
    have hb : decide ((((newFS n).pg.map encP).length : Int) = (n : Int)) = true := decide_eq_true (by rw [List.length_map, hfl])
    show D.tup [_, _, D.bool (decide ((((newFS n).pg.map encP).length : Int) = (n : Int)))] = _
    rw [hb]
    rfl
  refine bcase_p (fun h6 => ?_) (fun h6 => ?_) <;> conv => whnf
  rotate_left
  · repeat ((first | refine bF ?_ | refine bT ?_ | refine dK ?_ | refine cR ?_ | refine cK ?_ | refine wK ?_); conv => whnf)
    refine callX_pure (open_ok ⟨st.1, []⟩ n) ?_
    conv => whnf
    repeat ((first | refine bF ?_ | refine bT ?_ | refine dK ?_ | refine cR ?_ | refine cK ?_ | refine wK ?_); conv => whnf)
    rw [hop]
    repeat ((first | refine bF ?_ | refine bT ?_ | refine dK ?_ | refine cR ?_ | refine cK ?_ | refine wK ?_); conv => whnf)
    have e := hfin (by omega)
    rw [← e]
    refine ret_of rfl ?_
    have hb : decide ((((newFS n).pg.map encP).length : Int) = (n : Int)) = true := decide_eq_true (by rw [List.length_map, hfl])
    show D.tup [_, _, D.bool (decide ((((newFS n).pg.map encP).length : Int) = (n : Int)))] = _
    rw [hb]
    rfl
  have hk2 : k < pages.length := by omega
  have en : (pages.take (k + 1)).foldl newStep new0 = newStep st pages[k] := by rw [take_snoc hk2, List.foldl_append, ← hst]; rfl
  repeat ((first | refine bF ?_ | refine bT ?_ | refine dK ?_ | refine cR ?_ | refine cK ?_ | refine wK ?_); conv => whnf)
  refine idxK_nat (by omega) ?_
  conv => whnf
  refine getRow_of (x := encP pages[k]) (by simp [hk2]) ?_
  conv => whnf
  repeat ((first | refine bF ?_ | refine bT ?_ | refine dK ?_ | refine cR ?_ | refine cK ?_ | refine wK ?_); conv => whnf)
  refine callX_pure (rsteps_ok ⟨st.1, []⟩ pages[k]) ?_
  conv => whnf
  repeat ((first | refine bF ?_ | refine bT ?_ | refine dK ?_ | refine cR ?_ | refine cK ?_ | refine wK ?_); conv => whnf)
  obtain ⟨x, hx⟩ : ∃ x, pages[k] = x := ⟨_, rfl⟩
  have hxs : (pages.map encP)[k]? = some (encP x) := by simp [hk2, hx]
  rw [hx] at en ⊢
  have skip : ¬ (pgR x = true ∧ x.2.1 ≤ 1073741824) → (pages.take (k + 1)).foldl newStep new0 = st := fun g => by rw [en, newStep, if_neg g]
  have hj : ((stepsR ⟨st.1, []⟩ x).map encJ).length = (stepsR ⟨st.1, []⟩ x).length := List.length_map ..
  refine bcase_p (fun h7 => ?_) (fun h7 => ?_) <;> conv => whnf
  · repeat ((first | refine bF ?_ | refine bT ?_ | refine dK ?_ | refine cR ?_ | refine cK ?_ | refine wK ?_); conv => whnf)
    exact ⟨(k + 1, st), ⟨by simp only []; omega, by simp only []; omega, (skip fun g => by
      rw [hj, (stepsR_run hI g.1).1] at h7
      exact absurd h7 (show ¬ ((10 : Nat) : Int) = 0 by decide)).symm, hI⟩, by simp only []; omega, (le0 (le_of_cov ⟨rfl, rfl, rfl, rfl, rfl, rfl, rfl, trivial⟩ ⟨rfl, rfl, rfl, rfl, trivial⟩ ⟨rfl, rfl, rfl, rfl⟩))⟩
  refine idxK_nat (by omega) ?_
  conv => whnf
  refine getRow_of hxs ?_
  conv => whnf
  repeat ((first | refine bF ?_ | refine bT ?_ | refine dK ?_ | refine cR ?_ | refine cK ?_ | refine wK ?_); conv => whnf)
  refine bcase_p (fun h8 => ?_) (fun h8 => ?_) <;> conv => whnf
  · repeat ((first | refine bF ?_ | refine bT ?_ | refine dK ?_ | refine cR ?_ | refine cK ?_ | refine wK ?_); conv => whnf)
    exact ⟨(k + 1, st), ⟨by simp only []; omega, by simp only []; omega, (skip fun g => by have := (pgR_out.1 g.1).2.2.1; omega).symm, hI⟩, by simp only []; omega, (le0 (le_of_cov ⟨rfl, rfl, rfl, rfl, rfl, rfl, rfl, trivial⟩ ⟨rfl, rfl, rfl, rfl, trivial⟩ ⟨rfl, rfl, rfl, rfl⟩))⟩
  refine idxK_nat (by omega) ?_
  conv => whnf
  refine getRow_of hxs ?_
  conv => whnf
  repeat ((first | refine bF ?_ | refine bT ?_ | refine dK ?_ | refine cR ?_ | refine cK ?_ | refine wK ?_); conv => whnf)
  refine bcase_p (fun h9 => ?_) (fun h9 => ?_) <;> conv => whnf
  · repeat ((first | refine bF ?_ | refine bT ?_ | refine dK ?_ | refine cR ?_ | refine cK ?_ | refine wK ?_); conv => whnf)
    exact ⟨(k + 1, st), ⟨by simp only []; omega, by simp only []; omega, (skip fun g => by omega).symm, hI⟩, by simp only []; omega, (le0 (le_of_cov ⟨rfl, rfl, rfl, rfl, rfl, rfl, rfl, trivial⟩ ⟨rfl, rfl, rfl, rfl, trivial⟩ ⟨rfl, rfl, rfl, rfl⟩))⟩
  have hR : pgR x = true := by
    cases e : pgR x with
    | true => rfl
    | false =>
      rw [hj, stepsR_no hI e h8] at h7
      exact absurd rfl h7
  obtain ⟨r1, r2⟩ := stepsR_run hI hR
  rw [r1]
  repeat ((first | refine bF ?_ | refine bT ?_ | refine dK ?_ | refine cR ?_ | refine cK ?_ | refine wK ?_); conv => whnf)
  refine callX_pure (rrun_ok ⟨st.1, []⟩ (planJ x.1.toNat (putB x)) 99 (show (10 : Nat) ≤ 1000000 by decide)) ?_
  conv => whnf
  repeat ((first | refine bF ?_ | refine bT ?_ | refine dK ?_ | refine cR ?_ | refine cK ?_ | refine wK ?_); conv => whnf)
  rw [r2]
  repeat ((first | refine bF ?_ | refine bT ?_ | refine dK ?_ | refine cR ?_ | refine cK ?_ | refine wK ?_); conv => whnf)
  obtain ⟨q, hq, q1, q16⟩ := pg_nat hR
  have hI2 := hI.put hR (by omega)
  have en2 := en
  rw [newStep, if_pos ⟨hR, by omega⟩] at en2
  have hlen : (mL st.2 (fun _ => 0) n).length = 69 := rfl
  refine idxK_nat (by omega) ?_
  conv => whnf
  refine getRow_of hxs ?_
  conv => whnf
  repeat ((first | refine bF ?_ | refine bT ?_ | refine dK ?_ | refine cR ?_ | refine cK ?_ | refine wK ?_); conv => whnf)
  refine idxK_nat (by omega) ?_
  conv => whnf
  refine getRow_of hxs ?_
  conv => whnf
  repeat ((first | refine bF ?_ | refine bT ?_ | refine dK ?_ | refine cR ?_ | refine cK ?_ | refine wK ?_); conv => whnf)
  refine idxK_int (by omega) (by omega) ?_
  conv => whnf
  try (refine condK_of rfl ?_)
  refine (store_at (l := mL st.2 (fun _ => 0) n) (l2 := encP x) (l3 := mL (ud st.2 x.1.toNat x) (fun _ => 0) n) (by first | rfl | simp only [killC_d]) rfl (by first | omega | (simp only [szs]; omega)) (by first | omega | (simp only [szs]; omega)) rfl (ML.setP (by simp only [szs]; omega) (by omega) _) ?_)
  conv => whnf
  repeat ((first | refine bF ?_ | refine bT ?_ | refine dK ?_ | refine cR ?_ | refine cK ?_ | refine wK ?_); conv => whnf)
  exact ⟨(k + 1, (putD st.1 x, ud st.2 x.1.toNat x)), ⟨by simp only []; omega, by simp only []; omega, en2.symm, hI2⟩, by simp only []; omega, (le0 (le_of_cov ⟨rfl, rfl, rfl, rfl, rfl, rfl, rfl, trivial⟩ ⟨rfl, rfl, rfl, rfl, trivial⟩ ⟨rfl, rfl, rfl, rfl⟩))⟩
end Go.Lk

namespace Go.Lk
open Go Go.Proofs Go.RowKit

theorem fmRight_ok {f : FX} (h : FM f) : ACall Tryz.prog 28 [encFS f] (.bool true) := by
  have h1 := fright_ok f h.tl h.dl
  rw [frightB_t.2 (fm_iff.2 h)] at h1; exact h1
def smallB (l : List PAct) : Bool := (l.take 80).all fun a => decide (a.2.2.size ≤ 100)
theorem small_ok (l : List PAct) : ACall Tryz.prog 15 [.lst (l.map encPA)] (.bool (smallB l)) := by
  have hm : (l.map encPA).length = l.length := List.length_map ..
  refine acall_of Tryz.func15 1 rfl (by kernel_rfl) ?_
  conv => whnf
  repeat ((first | refine bF ?_ | refine bT ?_ | refine dK ?_ | refine cR ?_ | refine cK ?_ | refine wK ?_); conv => whnf)
  refine aloop (ι := Nat) (fun k => [(0, .d (.lst (l.map encPA))), (3, .d (.int .i64 k))]) (fun _ => [])
    (fun k => k ≤ l.length ∧ k ≤ 80 ∧ (l.take k).all (fun a => decide (a.2.2.size ≤ 100)) = true) (fun k => 80 - k) 0 ⟨by omega, by decide, rfl⟩ (le0 (le_of_cov ⟨rfl, rfl, trivial⟩ trivial ⟨rfl, rfl, rfl, rfl⟩)) ?_
  rintro k ⟨hk, hk80, hall⟩
  have hfin : (¬ k < l.length) ∨ (¬ k < 80) → smallB l = true := fun h => by
    rw [smallB]
    by_cases e : k = 80
    · subst e; exact hall
    · rw [List.take_of_length_le (by omega)]
      rw [List.take_of_length_le (by omega)] at hall
      exact hall
  conv => whnf
  refine bcase_p (fun h5 => ?_) (fun h5 => ?_) <;> conv => whnf
  rotate_left
  · repeat ((first | refine bF ?_ | refine bT ?_ | refine dK ?_ | refine cR ?_ | refine cK ?_ | refine wK ?_); conv => whnf)
    rw [hfin (by omega)]
    exact ret_of rfl rfl
  refine bcase_p (fun h6 => ?_) (fun h6 => ?_) <;> conv => whnf
  rotate_left
  · repeat ((first | refine bF ?_ | refine bT ?_ | refine dK ?_ | refine cR ?_ | refine cK ?_ | refine wK ?_); conv => whnf)
    rw [hfin (by omega)]
    exact ret_of rfl rfl
  have hk2 : k < l.length := by omega
  repeat ((first | refine bF ?_ | refine bT ?_ | refine dK ?_ | refine cR ?_ | refine cK ?_ | refine wK ?_); conv => whnf)
  refine idxK_nat (by omega) ?_
  conv => whnf
  refine getRow_of (x := encPA l[k]) (by simp [hk2]) ?_
  conv => whnf
  repeat ((first | refine bF ?_ | refine bT ?_ | refine dK ?_ | refine cR ?_ | refine cK ?_ | refine wK ?_); conv => whnf)
  refine bcase_p (fun h7 => ?_) (fun h7 => ?_) <;> conv => whnf
  · repeat ((first | refine bF ?_ | refine bT ?_ | refine dK ?_ | refine cR ?_ | refine cK ?_ | refine wK ?_); conv => whnf)
    have : smallB l = false := by
      rw [smallB, Bool.eq_false_iff]
      intro g
      rw [List.all_eq_true] at g
      have := g l[k] (List.mem_take_iff_getElem.2 ⟨k, by omega, rfl⟩)
      have h8 : l[k].2.2.size ≤ 100 := by simpa using this
      have h7 : (100 : Int) < (l[k].2.2.size : Nat) := h7
      omega
    rw [this]
    exact ret_of rfl rfl
  · repeat ((first | refine bF ?_ | refine bT ?_ | refine dK ?_ | refine cR ?_ | refine cK ?_ | refine wK ?_); conv => whnf)
    exact ⟨k + 1, ⟨by omega, by omega, by
      rw [take_snoc hk2, List.all_append, hall]
      have h7 : ¬ (100 : Int) < (l[k].2.2.size : Nat) := h7
      simp; omega⟩, by omega, (le0 (le_of_cov ⟨rfl, rfl, trivial⟩ trivial ⟨rfl, rfl, rfl, rfl⟩))⟩
theorem Inv.tick {p P W v u} (h : Inv p P W v u) {n : Int} (h0 : p.now ≤ n) (h1 : n ≤ 2147483647) : Inv ⟨p.f, p.d, n⟩ P W v u :=
  ⟨⟨h.pj.fm, h.pj.rest, h.pj.ca, h.pj.z0, by have := h.pj.n0; show 0 ≤ n; omega, h1, fun x hx => by have := h.pj.dt x hx; show x.2 ≤ n; omega⟩, h.pins, h.at_, h.on, h.ub⟩
theorem Inv.vs {p P W v u} (h : Inv p P W v u) (q : Nat) (q1 : 1 ≤ q) (q16 : q ≤ 16) : 0 ≤ (P q).2.1 ∧ (P q).2.1 ≤ 2147483647 := by
  rcases h.on.okp q q1 q16 with e | ⟨e, _⟩
  · rw [e]; exact ⟨by decide, by decide⟩
  · have := pgR_out.1 e; omega
theorem Inv.ws {p P W v u} (h : Inv p P W v u) (q : Nat) (q1 : 1 ≤ q) (q16 : q ≤ 16) : 0 ≤ W q ∧ W q ≤ 2147483647 := by
  rcases h.pins q q1 q16 with ⟨i, hi, e1, e2⟩ | ⟨_, e⟩
  · have := frOk_out.1 (h.pj.fm.ck.all i hi)
    omega
  · omega
/-- one act: what the pool does, and what the map tells -/
theorem act_facts {p P W v u} (h : Inv p P W v u) (hv1 : 1 ≤ v) (hv : v < 2147483647) (hu0 : 0 ≤ u) (hu : u < 2147483647) (a : PAct) {n : Nat} (hl : p.f.fr.length = n) :
    ∃ q P' W' x l e, poolDo p a = (q, x, l, e) ∧ Inv q P' W' (v + 1) (u + 1) ∧ q.now = p.now ∧ q.f.fr.length = n ∧ runL p.d l = q.d ∧ l.length ≤ 170 ∧ (e ≠ 0 → l = []) ∧ docM P W n a = (P', W', x, e) ∧
      ACall Tryz.prog 18 [encPS p, .agg (encPA a)] (encR4 (q, x, l, e)) ∧ ACall Tryz.prog 19 [.agg (mL P W n), .int .i64 a.1, .int .i64 a.2.1, .str a.2.2] (.tup [.agg (mL P' W' n), .agg (encP x), .int .i64 e]) := by
  have d := do_did h hv1 hv hu0 hu a hl
  obtain ⟨P', W', x, e, hdoc⟩ : ∃ P' W' x e, docM P W n a = (P', W', x, e) := ⟨_, _, _, _, rfl⟩
  rw [hdoc] at d
  obtain ⟨q, l, e1, iq, qn, qlen, run, few, none⟩ := d.eq
  have h1 := poolDo_ok p a h.pj.fm h.pj.n1
  rw [e1] at h1
  have h2 := rdo_ok P W n a h.vs h.ws
  rw [DocOut, hdoc] at h2
  exact ⟨q, P', W', x, l, e, e1, iq, qn, qlen.trans hl, run, few, none, hdoc, h1, h2⟩
/-- how it begins -/
theorem start_inv (pages : List Pg) {n : Nat} (h1 : 1 ≤ n) (h8 : n ≤ 8) : Inv ⟨newFS n, ⟨(newG pages).1, []⟩, 0⟩ (newG pages).2 (fun _ => 0) 1073741824 0 :=
  have h := NI.ofG pages
  Inv.new h1 h8 h.rest h.z h.on (by decide)
theorem tickP_3 {p : PS} {n : Int} (h : n ≤ 2147483647) (h2 : p.now + 3 = n) : tickP p 3 = ⟨p.f, p.d, n⟩ := by
  rw [tickP, if_neg (by decide), if_neg (by omega), h2]
end Go.Lk

namespace Go.Lk
open Go Go.Proofs Go.RowKit

theorem kids : Kids Tryz.prog (· < Tryz.prog.types.size) := kids_rows (by kernel_rfl) (by kernel_rfl)
theorem sizes : ∀ t e, t < Tryz.prog.types.size → Tryz.prog.underlying t = some (.slice e) → 0 < Tryz.prog.cellsOf e := sliceSize_out (by kernel_rfl)
theorem own : ownKnob Tryz.prog.godebug = none := by kernel_rfl

theorem fit_pg {m : Nat} {ds : List D} (h : Fit T m 42 ds) : ∃ x : Pg, ds = encP x ∧ True := by
  obtain ⟨k, a, r, rfl, ha, b, r2, rfl, hb, c, r3, rfl, hc, rfl⟩ := fit_struct (fs := [(0, 3), (1, 3), (2, 9)]) rfl h
  obtain ⟨x, rfl, _⟩ := fit_int (k := .i64) rfl ha
  obtain ⟨y, rfl, _⟩ := fit_int (k := .i64) rfl hb
  obtain ⟨z, rfl, _⟩ := fit_str rfl hc
  exact ⟨(x, y, z), rfl, trivial⟩
theorem fit_act {m : Nat} {ds : List D} (h : Fit T m 54 ds) : ∃ x : PAct, ds = encPA x ∧ True := by
  obtain ⟨k, a, r, rfl, ha, b, r2, rfl, hb, c, r3, rfl, hc, rfl⟩ := fit_struct (fs := [(0, 3), (1, 3), (2, 9)]) rfl h
  obtain ⟨x, rfl, _⟩ := fit_int (k := .i64) rfl ha
  obtain ⟨y, rfl, _⟩ := fit_int (k := .i64) rfl hb
  obtain ⟨z, rfl, _⟩ := fit_str rfl hc
  exact ⟨(x, y, z), rfl, trivial⟩
theorem fit_bytes {m : Nat} {ds : List D} (h : Fit T m 9 ds) : ∃ s : ByteArray, ds = encB s ∧ True := by
  obtain ⟨z, rfl, _⟩ := fit_str rfl h
  exact ⟨z, rfl, trivial⟩
theorem fit_wt {m : Nat} {ds : List D} (h : Fit T m 117 ds) : ∃ w : Wt, ds = encW w ∧ True := by
  obtain ⟨k, a, r, rfl, ha, b, r2, rfl, hb, rfl⟩ := fit_struct (fs := [(0, 3), (1, 9)]) rfl h
  obtain ⟨x, rfl, _⟩ := fit_int (k := .i64) rfl ha
  obtain ⟨z, rfl, _⟩ := fit_str rfl hb
  exact ⟨(x, z), rfl, trivial⟩
theorem pages_arg {n : Nat} {d : D} (h : FitV T n 31 d) : ∃ l : List Pg, d = .lst (l.map encP) := by
  obtain ⟨l, rfl, _, _⟩ := fitV_rows (f := encP) (Q := fun _ => True) (e := 42) rfl h fun m x h => fit_pg h
  exact ⟨l, rfl⟩
theorem acts_arg {n : Nat} {d : D} (h : FitV T n 22 d) : ∃ l : List PAct, d = .lst (l.map encPA) := by
  obtain ⟨l, rfl, _, _⟩ := fitV_rows (f := encPA) (Q := fun _ => True) (e := 54) rfl h fun m x h => fit_act h
  exact ⟨l, rfl⟩
theorem disk_arg {n : Nat} {d : D} (h : FitV T n 38 d) : ∃ x : DS, d = encDS x := by
  obtain ⟨ds, e0, h'⟩ := fitV_agg (T := T) (t := 38) rfl h
  subst e0
  obtain ⟨m, c, r, rfl, hc, t, r2, rfl, ht, rfl⟩ := fit_struct (fs := [(0, 35), (1, 36)]) rfl h'
  obtain ⟨s, rfl, _⟩ := fit_rows (f := encB) (Q := fun _ => True) (e := 9) rfl hc fun m x h => fit_bytes h
  obtain ⟨w, rfl, _⟩ := fit_rows (f := encW) (Q := fun _ => True) (e := 117) rfl ht fun m x h => fit_wt h
  exact ⟨⟨s, w⟩, rfl⟩
theorem u8_arg {n : Nat} {d : D} (h : FitV T n 5 d) : ∃ a : Int, d = .int .u8 a ∧ 0 ≤ a ∧ a ≤ 255 := by
  obtain ⟨a, rfl, w⟩ := fitV_int (k := .u8) rfl h
  exact ⟨a, rfl, (wf_u8 w).1, (wf_u8 w).2⟩
end Go.Lk

namespace Go.Lk
open Go Go.Proofs Go.RowKit

structure SmallD (d : DS) : Prop where
  s : d.sec.length ≤ 80
  c : d.ca.length ≤ 220
  sb : ∀ i, (h : i < d.sec.length) → d.sec[i].size ≤ 40
  cb : ∀ i, (h : i < d.ca.length) → d.ca[i].2.size ≤ 40
open Classical in
noncomputable def smallDB (d : DS) : Bool := decide (SmallD d)
theorem smallDB_t {d : DS} : smallDB d = true ↔ SmallD d := by simp [smallDB]
theorem smallDB_f {d : DS} : smallDB d = false ↔ ¬ SmallD d := by simp [smallDB]
theorem smallD_ok (d : DS) : ACall Tryz.prog 21 [encDS d] (.bool (smallDB d)) := by
  have m1 : (d.sec.map encB).length = d.sec.length := List.length_map ..
  have m2 : (d.ca.map encW).length = d.ca.length := List.length_map ..
  refine acall_of Tryz.func21 1 rfl (by kernel_rfl) ?_
  conv => whnf
  repeat ((first | refine bF ?_ | refine bT ?_ | refine dK ?_ | refine cR ?_ | refine cK ?_ | refine wK ?_); conv => whnf)
  refine bcase_p (fun h1 => ?_) (fun h1 => ?_) <;> conv => whnf
  · repeat ((first | refine bF ?_ | refine bT ?_ | refine dK ?_ | refine cR ?_ | refine cK ?_ | refine wK ?_); conv => whnf)
    exact ret_of rfl (congrArg D.bool (smallDB_f.2 fun g => by have := g.s; omega).symm)
  repeat ((first | refine bF ?_ | refine bT ?_ | refine dK ?_ | refine cR ?_ | refine cK ?_ | refine wK ?_); conv => whnf)
  refine bcase_p (fun h2 => ?_) (fun h2 => ?_) <;> conv => whnf
  · repeat ((first | refine bF ?_ | refine bT ?_ | refine dK ?_ | refine cR ?_ | refine cK ?_ | refine wK ?_); conv => whnf)
    exact ret_of rfl (congrArg D.bool (smallDB_f.2 fun g => by have := g.c; omega).symm)
  repeat ((first | refine bF ?_ | refine bT ?_ | refine dK ?_ | refine cR ?_ | refine cK ?_ | refine wK ?_); conv => whnf)
  refine aloop (ι := Nat) (fun k => [(1, .ptr 1 0 0), (3, .d (.int .i64 k))]) (fun _ => [(1, .box [.d (.lst (d.sec.map encB)), .d (.lst (d.ca.map encW))] false)])
    (fun k => k ≤ d.sec.length ∧ ∀ i, i < k → (h : i < d.sec.length) → d.sec[i].size ≤ 40) (fun k => d.sec.length - k) 0 ⟨by omega, by omega⟩ (le0 (le_of_cov ⟨rfl, rfl, trivial⟩ ⟨rfl, trivial⟩ ⟨rfl, rfl, rfl, rfl⟩)) ?_
  rintro k ⟨hk, hR⟩
  conv => whnf
  repeat ((first | refine bF ?_ | refine bT ?_ | refine dK ?_ | refine cR ?_ | refine cK ?_ | refine wK ?_); conv => whnf)
  refine bcase_p (fun h5 => ?_) (fun h5 => ?_) <;> conv => whnf
  · have hk2 : k < d.sec.length := by omega
    repeat ((first | refine bF ?_ | refine bT ?_ | refine dK ?_ | refine cR ?_ | refine cK ?_ | refine wK ?_); conv => whnf)
    refine idxK_nat (by omega) ?_
    conv => whnf
    refine getRow_of (x := encB d.sec[k]) (by simp [hk2]) ?_
    conv => whnf
    repeat ((first | refine bF ?_ | refine bT ?_ | refine dK ?_ | refine cR ?_ | refine cK ?_ | refine wK ?_); conv => whnf)
    refine bcase_p (fun h6 => ?_) (fun h6 => ?_) <;> conv => whnf
    · repeat ((first | refine bF ?_ | refine bT ?_ | refine dK ?_ | refine cR ?_ | refine cK ?_ | refine wK ?_); conv => whnf)
      exact ret_of rfl (congrArg D.bool (smallDB_f.2 fun g => by have := g.sb k hk2; have h6 : (40 : Int) < (d.sec[k].size : Nat) := h6; omega).symm)
    · repeat ((first | refine bF ?_ | refine bT ?_ | refine dK ?_ | refine cR ?_ | refine cK ?_ | refine wK ?_); conv => whnf)
      exact ⟨k + 1, ⟨by omega, fun i hi h => by
        by_cases e : i = k
        · subst e
          have h6 : ¬ (40 : Int) < (d.sec[i].size : Nat) := h6
          omega
        · exact hR i (by omega) h⟩, by omega, (le0 (le_of_cov ⟨rfl, rfl, trivial⟩ ⟨rfl, trivial⟩ ⟨rfl, rfl, rfl, rfl⟩))⟩
  repeat ((first | refine bF ?_ | refine bT ?_ | refine dK ?_ | refine cR ?_ | refine cK ?_ | refine wK ?_); conv => whnf)
  refine aloop (ι := Nat) (fun k => [(1, .ptr 1 0 0), (4, .d (.int .i64 k))]) (fun _ => [(1, .box [.d (.lst (d.sec.map encB)), .d (.lst (d.ca.map encW))] false)])
    (fun k => k ≤ d.ca.length ∧ ∀ i, i < k → (h : i < d.ca.length) → d.ca[i].2.size ≤ 40) (fun k => d.ca.length - k) 0 ⟨by omega, by omega⟩ (le0 (le_of_cov ⟨rfl, rfl, trivial⟩ ⟨rfl, trivial⟩ ⟨rfl, rfl, rfl, rfl⟩)) ?_
  rintro j ⟨hj, hQ⟩
  conv => whnf
  repeat ((first | refine bF ?_ | refine bT ?_ | refine dK ?_ | refine cR ?_ | refine cK ?_ | refine wK ?_); conv => whnf)
  refine bcase_p (fun h7 => ?_) (fun h7 => ?_) <;> conv => whnf
  · have hk2 : j < d.ca.length := by omega
    repeat ((first | refine bF ?_ | refine bT ?_ | refine dK ?_ | refine cR ?_ | refine cK ?_ | refine wK ?_); conv => whnf)
    refine idxK_nat (by omega) ?_
    conv => whnf
    refine getRow_of (x := encW d.ca[j]) (by simp [hk2]) ?_
    conv => whnf
    repeat ((first | refine bF ?_ | refine bT ?_ | refine dK ?_ | refine cR ?_ | refine cK ?_ | refine wK ?_); conv => whnf)
    refine bcase_p (fun h8 => ?_) (fun h8 => ?_) <;> conv => whnf
    · repeat ((first | refine bF ?_ | refine bT ?_ | refine dK ?_ | refine cR ?_ | refine cK ?_ | refine wK ?_); conv => whnf)
      exact ret_of rfl (congrArg D.bool (smallDB_f.2 fun g => by have := g.cb j hk2; have h8 : (40 : Int) < (d.ca[j].2.size : Nat) := h8; omega).symm)
    · repeat ((first | refine bF ?_ | refine bT ?_ | refine dK ?_ | refine cR ?_ | refine cK ?_ | refine wK ?_); conv => whnf)
      exact ⟨j + 1, ⟨by omega, fun i hi h => by
        by_cases e : i = j
        · subst e
          have h8 : ¬ (40 : Int) < (d.ca[i].2.size : Nat) := h8
          omega
        · exact hQ i (by omega) h⟩, by omega, (le0 (le_of_cov ⟨rfl, rfl, trivial⟩ ⟨rfl, trivial⟩ ⟨rfl, rfl, rfl, rfl⟩))⟩
  · repeat ((first | refine bF ?_ | refine bT ?_ | refine dK ?_ | refine cR ?_ | refine cK ?_ | refine wK ?_); conv => whnf)
    exact ret_of rfl (congrArg D.bool (smallDB_t.2 ⟨by omega, by omega, fun i h => hR i (by omega) h, fun i h => hQ i (by omega) h⟩).symm)
theorem open_no {d : DS} {n : Int} (h : ¬ Us d ∨ 0 < d.ca.length ∨ n < 1 ∨ 8 < n) : openM d n = (noPS, 1) := by
  rw [openM]
  by_cases g : (getJ d 1).2 ≠ 0 ∨ 0 < d.ca.length
  · rw [if_pos g]
  · rw [if_neg g, if_pos]
    rcases h with h | h | h
    · exact absurd (.inl (by rw [getJ, if_neg (fun q => h q.1)]; decide)) g
    · exact absurd (.inr h) g
    · exact h
theorem open_yes {d : DS} {n : Int} (hU : Us d) (hc : d.ca.length = 0) (h1 : 1 ≤ n) (h8 : n ≤ 8) : openM d n = (⟨newFS n.toNat, recM d, 0⟩, 0) := by
  rw [openM, if_neg, if_neg (by omega)]
  rintro (g | g)
  · exact g (by rw [getJ, if_pos ⟨hU, by decide, by decide⟩])
  · omega
theorem recM_99 (d : DS) : runM d (repairM d) 99 = recM d := by
  have := repairM_len d
  rw [recM, runM, runM, List.take_of_length_le (by omega), List.take_of_length_le (by omega)]
theorem stepJ_len (d : DS) (o : Jo) : (stepJ d o).sec.length = d.sec.length := by
  rw [stepJ]
  split
  · rw [syncM]; split
    · exact wrS_len ..
    · rfl
  · rw [putM]; split
    · split <;> rfl
    · rfl
theorem foldJ_len : ∀ (l : List Jo) (d : DS), (l.foldl stepJ d).sec.length = d.sec.length
  | [], _ => rfl
  | o :: r, d => (foldJ_len r (stepJ d o)).trans (stepJ_len d o)
theorem stepJ_ca (d : DS) (o : Jo) : (stepJ d o).ca.length ≤ d.ca.length + 1 := by
  rw [stepJ]
  split
  · rw [syncM]; split
    · exact Nat.zero_le _
    · omega
  · rw [putM]; split
    · split
      · show d.ca.length ≤ _; omega
      · show (d.ca ++ [o.2]).length ≤ _; simp
    · show d.ca.length ≤ _; omega
theorem foldJ_ca : ∀ (l : List Jo) (d : DS), (l.foldl stepJ d).ca.length ≤ d.ca.length + l.length
  | [], _ => Nat.le_refl _
  | o :: r, d => by
    have h1 := foldJ_ca r (stepJ d o)
    have h2 := stepJ_ca d o
    show (r.foldl stepJ (stepJ d o)).ca.length ≤ d.ca.length + (r.length + 1)
    omega
set_option maxRecDepth 100000 in
theorem poolOpens_ok (d : DS) (n : Int) : ACall Tryz.prog 4 [encDS d, .int .i64 n] (.bool true) := by
  have m2 : (d.ca.map encW).length = d.ca.length := List.length_map ..
  refine acall_of Tryz.func4 2 rfl (by kernel_rfl) ?_
  conv => whnf
  repeat ((first | refine bF ?_ | refine bT ?_ | refine dK ?_ | refine cR ?_ | refine cK ?_ | refine wK ?_); conv => whnf)
  refine callX_pure (smallD_ok d) ?_
  conv => whnf
  repeat ((first | refine bF ?_ | refine bT ?_ | refine dK ?_ | refine cR ?_ | refine cK ?_ | refine wK ?_); conv => whnf)
  refine bcase_intro (fun h1 => ?_) (fun h1 => ?_) <;> conv => whnf
  · refine callX_pure awake16_ok ?_
    conv => whnf
    repeat ((first | refine bF ?_ | refine bT ?_ | refine dK ?_ | refine cR ?_ | refine cK ?_ | refine wK ?_); conv => whnf)
    exact ret_of rfl rfl
  have hS : SmallD d := smallDB_t.1 (by simpa using h1)
  have hs1 := hS.s
  repeat ((first | refine bF ?_ | refine bT ?_ | refine dK ?_ | refine cR ?_ | refine cK ?_ | refine wK ?_); conv => whnf)
  refine callX_pure (open_ok d n) ?_
  conv => whnf
  repeat ((first | refine bF ?_ | refine bT ?_ | refine dK ?_ | refine cR ?_ | refine cK ?_ | refine wK ?_); conv => whnf)
  refine callX_pure (may_ok d) ?_
  conv => whnf
  repeat ((first | refine bF ?_ | refine bT ?_ | refine dK ?_ | refine cR ?_ | refine cK ?_ | refine wK ?_); conv => whnf)
  refine bcase_intro (fun h2 => ?_) (fun h2 => ?_) <;> conv => whnf
  · have hn : ¬ Us d := usB_f.1 (by simpa using h2)
    have e := open_no (d := d) (n := n) (.inl hn)
    rw [e]
    repeat ((first | refine bF ?_ | refine bT ?_ | refine dK ?_ | refine cR ?_ | refine cK ?_ | refine wK ?_); conv => whnf)
    refine callX_pure awake16_ok ?_
    conv => whnf
    repeat ((first | refine bF ?_ | refine bT ?_ | refine dK ?_ | refine cR ?_ | refine cK ?_ | refine wK ?_); conv => whnf)
    exact ret_of rfl rfl
  have hU : Us d := usB_t.1 (by simpa using h2)
  repeat ((first | refine bF ?_ | refine bT ?_ | refine dK ?_ | refine cR ?_ | refine cK ?_ | refine wK ?_); conv => whnf)
  refine bcase_p (fun h3 => ?_) (fun h3 => ?_) <;> conv => whnf
  · have e := open_no (d := d) (n := n) (.inr (.inl (by omega)))
    rw [e]
    repeat ((first | refine bF ?_ | refine bT ?_ | refine dK ?_ | refine cR ?_ | refine cK ?_ | refine wK ?_); conv => whnf)
    refine callX_pure awake16_ok ?_
    conv => whnf
    repeat ((first | refine bF ?_ | refine bT ?_ | refine dK ?_ | refine cR ?_ | refine cK ?_ | refine wK ?_); conv => whnf)
    exact ret_of rfl rfl
  repeat ((first | refine bF ?_ | refine bT ?_ | refine dK ?_ | refine cR ?_ | refine cK ?_ | refine wK ?_); conv => whnf)
  refine bcase_p (fun h4 => ?_) (fun h4 => ?_) <;> conv => whnf
  · have e := open_no (d := d) (n := n) (.inr (.inr (.inl h4)))
    rw [e]
    repeat ((first | refine bF ?_ | refine bT ?_ | refine dK ?_ | refine cR ?_ | refine cK ?_ | refine wK ?_); conv => whnf)
    refine callX_pure awake16_ok ?_
    conv => whnf
    repeat ((first | refine bF ?_ | refine bT ?_ | refine dK ?_ | refine cR ?_ | refine cK ?_ | refine wK ?_); conv => whnf)
    exact ret_of rfl rfl
  repeat ((first | refine bF ?_ | refine bT ?_ | refine dK ?_ | refine cR ?_ | refine cK ?_ | refine wK ?_); conv => whnf)
  refine bcase_p (fun h5 => ?_) (fun h5 => ?_) <;> conv => whnf
  · have e := open_no (d := d) (n := n) (.inr (.inr (.inr h5)))
    rw [e]
    repeat ((first | refine bF ?_ | refine bT ?_ | refine dK ?_ | refine cR ?_ | refine cK ?_ | refine wK ?_); conv => whnf)
    refine callX_pure awake16_ok ?_
    conv => whnf
    repeat ((first | refine bF ?_ | refine bT ?_ | refine dK ?_ | refine cR ?_ | refine cK ?_ | refine wK ?_); conv => whnf)
    exact ret_of rfl rfl
  repeat ((first | refine bF ?_ | refine bT ?_ | refine dK ?_ | refine cR ?_ | refine cK ?_ | refine wK ?_); conv => whnf)
  have e := open_yes (n := n) hU (by omega) (by omega) (by omega)
  obtain ⟨k, rfl⟩ : ∃ k : Nat, n = k := ⟨n.toNat, by omega⟩
  rw [Int.toNat_natCast] at e
  have hfl : ((newFS k).pg.map encP).length = k := by rw [List.length_map]; exact List.length_replicate ..
  have hrl := repairM_len d
  have l1 : (recM d).sec.length = d.sec.length := foldJ_len _ _
  have l2 : (recM d).ca.length ≤ 1000 := by
    have := foldJ_ca ((repairM d).take ((repairM d).length : Int).toNat) d
    have h2 : (recM d).ca.length ≤ _ := this
    rw [List.length_take] at h2
    omega
  rw [e]
  refine bcase_t rfl ?_
  conv => whnf
  repeat ((first | refine bF ?_ | refine bT ?_ | refine dK ?_ | refine cR ?_ | refine cK ?_ | refine wK ?_); conv => whnf)
  refine bcase_t (by simp only [hfl]; simp) ?_
  conv => whnf
  repeat ((first | refine bF ?_ | refine bT ?_ | refine dK ?_ | refine cR ?_ | refine cK ?_ | refine wK ?_); conv => whnf)
  refine callX_pure (rrepair_ok d hU) ?_
  conv => whnf
  repeat ((first | refine bF ?_ | refine bT ?_ | refine dK ?_ | refine cR ?_ | refine cK ?_ | refine wK ?_); conv => whnf)
  refine callX_pure (rrun_ok d (repairM d) 99 (by omega)) ?_
  conv => whnf
  repeat ((first | refine bF ?_ | refine bT ?_ | refine dK ?_ | refine cR ?_ | refine cK ?_ | refine wK ?_); conv => whnf)
  rw [recM_99]
  refine callX_pure (rsameD_ok (recM d) (recM d) (by omega) l2) ?_
  conv => whnf
  repeat ((first | refine bF ?_ | refine bT ?_ | refine dK ?_ | refine cR ?_ | refine cK ?_ | refine wK ?_); conv => whnf)
  refine bcase_t (by simp) ?_
  conv => whnf
  repeat ((first | refine bF ?_ | refine bT ?_ | refine dK ?_ | refine cR ?_ | refine cK ?_ | refine wK ?_); conv => whnf)
  refine callX_pure awake16_ok ?_
  conv => whnf
  repeat ((first | refine bF ?_ | refine bT ?_ | refine dK ?_ | refine cR ?_ | refine cK ?_ | refine wK ?_); conv => whnf)
  exact ret_of rfl rfl
end Go.Lk

namespace Go.Lk
open Go Go.Proofs Go.RowKit

/-! ### a pool over any disk that may have a journal -/
theorem wrS_sz {n : Nat} : ∀ (l : List Wt) (s : List ByteArray), (∀ i, (h : i < s.length) → s[i].size = 16) → (∀ w ∈ l, w.2.size = 16) → ∀ i, (h : i < (wrS s l).length) → (wrS s l)[i].size = 16
  | [], s, hs, _ => hs
  | w :: r, s, hs, hw => wrS_sz (n := n) r (s.set w.1.toNat w.2) (fun i h => by
      rw [List.getElem_set]
      split
      · exact hw w (.head _)
      · exact hs i (by rw [List.length_set] at h; exact h)) fun x hx => hw x (.tail _ hx)
theorem DR.sync {d : DS} (h : DR d) : DR ⟨wrS d.sec d.ca, []⟩ := by
  refine ⟨by show 1 ≤ (wrS d.sec d.ca).length; rw [wrS_len]; exact h.s1, by show (wrS d.sec d.ca).length ≤ 64; rw [wrS_len]; exact h.s2, Nat.zero_le _, wrS_sz (n := 0) _ _ h.s fun w hw => ?_, fun i hi => absurd hi (Nat.not_lt_zero _)⟩
  obtain ⟨i, hi, rfl⟩ := List.mem_iff_getElem.1 hw
  exact (okW_out.1 (h.c i hi)).2.2
theorem stepJ_dr {d : DS} (h : DR d) (o : Jo) : DR (stepJ d o) := by
  rw [stepJ]
  split
  · rw [syncM, if_pos h]; exact h.sync
  · rw [putM]
    split
    · rename_i g
      split
      · exact h
      · refine ⟨h.s1, h.s2, by show (d.ca ++ [o.2]).length ≤ 200; rw [List.length_append]; show d.ca.length + 1 ≤ 200; omega, h.s, fun i hi => ?_⟩
        show okW d.sec.length (d.ca ++ [o.2])[i] = true
        by_cases e : i < d.ca.length
        · rw [List.getElem_append_left e]; exact h.c i e
        · have hi2 : i < (d.ca ++ [o.2]).length := hi
          rw [List.length_append] at hi2
          have : i = d.ca.length := by simp at hi2; omega
          subst this
          simp [g.2]
    · exact h
theorem stepJ_us {d : DS} (h : Us d) (o : Jo) : Us (stepJ d o) := ⟨stepJ_dr h.dr o, by rw [stepJ_len]; exact h.n⟩
theorem foldJ_us : ∀ (l : List Jo) {d : DS}, Us d → Us (l.foldl stepJ d)
  | [], _, h => h
  | o :: r, _, h => foldJ_us r (stepJ_us h o)
theorem runM_us {d : DS} (h : Us d) (l : List Jo) (n : Int) : Us (runM d l n) := foldJ_us _ h
theorem commit_us {d : DS} (h : Us d) (p : Int) (s : ByteArray) : Us (commitM d p s).1 := by
  rw [commitM]; split
  · exact runM_us h _ _
  · exact h
theorem setS_us {d : DS} (h : Us d) (x : Pg) : Us (setS d x).1 := by
  rw [setS]; split
  · exact commit_us h _ _
  · exact h
theorem rec_us {d : DS} (h : Us d) : Us (recM d) := runM_us h _ _
/-- pins of frames that are right, as a function -/
theorem pins_ex {f : FX} (h : FM f) : ∃ w, PinsL f.fr w := by
  refine ⟨fun q => if e : ∃ i, ∃ hi : i < f.fr.length, f.fr[i].1 = (q : Int) then (f.fr[e.choose]'e.choose_spec.choose).2.1 else 0, fun q h1 h16 => ?_⟩
  by_cases e : ∃ i, ∃ hi : i < f.fr.length, f.fr[i].1 = (q : Int)
  · left
    refine ⟨e.choose, e.choose_spec.choose, e.choose_spec.choose_spec, ?_⟩
    simp only [dif_pos e]
  · right
    refine ⟨fun i hi g => e ⟨i, hi, g⟩, ?_⟩
    simp only [dif_neg e]
theorem pin_fm {f : FX} (h : FM f) (id : Int) : FM (pinS f id).1 := by
  obtain ⟨w, hw⟩ := pins_ex h
  exact (Kept.pin (a := ⟨1, id, 0, ByteArray.empty, zP⟩) h hw rfl).fm
theorem unpin_fm {f : FX} (h : FM f) (id : Int) : FM (unpinS f id).1 := by
  obtain ⟨w, hw⟩ := pins_ex h
  exact (Kept.unpin (a := ⟨2, id, 0, ByteArray.empty, zP⟩) h hw rfl).fm
theorem write_fm {f : FX} (h : FM f) (id : Int) (b : ByteArray) (n : Int) : FM (writeS f id b n).1 := by
  obtain ⟨w, hw⟩ := pins_ex h
  exact (Kept.write (a := ⟨3, id, n, b, zP⟩) h hw rfl).fm
theorem drop_fm {f : FX} (h : FM f) (id : Int) : FM (dropS f id).1 := by
  obtain ⟨w, hw⟩ := pins_ex h
  exact (Kept.drop (a := ⟨5, id, 0, ByteArray.empty, zP⟩) h hw rfl).fm
theorem load_fm {f : FX} (h : FM f) (x : Pg) (n : Int) (fresh : Bool) : FM (loadS f x n fresh).1 := by
  obtain ⟨w, hw⟩ := pins_ex h
  exact (Kept.load (a := ⟨6, 0, n, ByteArray.empty, x⟩) fresh h hw rfl).fm
structure Gd (m : Int) (p : PS) : Prop where
  fm : FM p.f
  us : Us p.d
  now : p.now = m
theorem Gd.wb {m p} (h : Gd m p) (id : Int) : Gd m (wbM p id).1 := by
  refine ⟨wb_fm h.fm id, ?_, ?_⟩
  · rw [wbM]
    repeat' split
    all_goals first | exact h.us | exact setS_us h.us _
  · rw [wbM]
    repeat' split
    all_goals exact h.now
theorem Gd.room {m p} (h : Gd m p) : Gd m ⟨(roomS p.f).1, p.d, p.now⟩ := ⟨room_fm h.fm, h.us, h.now⟩
theorem Gd.mr {m} : ∀ (n : Nat) (p : PS) (l : List Jo), Gd m p → Gd m (mrM n p l).1 ∧ (mrM n p l).2.1.length ≤ l.length + 10 * n
  | 0, p, l, h => ⟨h, by show l.length ≤ _; omega⟩
  | n + 1, p, l, h => by
    rw [mrM]
    split
    · exact ⟨h, by show l.length ≤ _; omega⟩
    split
    · exact ⟨h.room, by show l.length ≤ _; omega⟩
    split
    · exact ⟨h.room, by show l.length ≤ _; omega⟩
    · have ih := Gd.mr n _ (l ++ (wbM ⟨(roomS p.f).1, p.d, p.now⟩ (roomS p.f).2.1.1).2.1) (h.room.wb (roomS p.f).2.1.1)
      refine ⟨ih.1, ?_⟩
      have h2 := ih.2
      have h3 := wb_len ⟨(roomS p.f).1, p.d, p.now⟩ (roomS p.f).2.1.1
      rw [List.length_append] at h2
      omega
theorem Gd.make {m p} (h : Gd m p) : Gd m (makeM p).1 ∧ (makeM p).2.1.length ≤ 170 := by
  have := Gd.mr 17 p [] h
  exact ⟨this.1, by have h2 := this.2; show (mrM 17 p []).2.1.length ≤ 170; simpa using h2⟩
def GdR (m : Int) (r : R4) : Prop := Gd m r.1 ∧ r.2.2.1.length ≤ 170
theorem Gd.same {m p} (h : Gd m p) (x : Pg) (e : Int) : GdR m (p, x, [], e) := ⟨h, Nat.zero_le _⟩
theorem Gd.load {m p} (h : Gd m p) (x : Pg) (fresh : Bool) : GdR m (poolLoad p x fresh) := by
  obtain ⟨h1, h2⟩ := h.make
  rw [poolLoad]
  split
  · exact h1.same _ _
  split
  · exact h1.same _ _
  · exact ⟨⟨load_fm h1.fm _ _ _, h1.us, h1.now⟩, h2⟩
theorem Gd.fetch {m p} (h : Gd m p) (id : Int) : GdR m (poolFetch p id) := by
  rw [poolFetch]
  split
  · split
    · exact h.same _ _
    · exact Gd.same (p := ⟨(pinS p.f id).1, p.d, p.now⟩) ⟨pin_fm h.fm _, h.us, h.now⟩ _ _
  split
  · exact h.same _ _
  · exact h.load _ _
theorem Gd.create {m p} (h : Gd m p) (id : Int) : GdR m (poolCreate p id) := by
  rw [poolCreate]
  split
  · exact h.same _ _
  split
  · exact h.load _ _
  split <;> exact h.same _ _
theorem Gd.tail {m p q} (h : Gd m p) (hq : Gd m q) (id : Int) : GdR m (delTail p q id) := by
  rw [delTail]
  split
  · exact hq.same _ _
  split
  · exact h.same _ _
  · exact ⟨⟨hq.fm, commit_us h.us _ _, hq.now⟩, by
      show (stepsS p.d (id, 0, ByteArray.empty)).length ≤ 170
      have := stepsS_len p.d (id, 0, ByteArray.empty)
      omega⟩
theorem Gd.remove {m p} (h : Gd m p) (id : Int) : GdR m (poolRemove p id) := by
  rw [poolRemove]
  split
  · split
    · exact h.same _ _
    split
    · exact h.same _ _
    · exact h.tail (q := ⟨(dropS p.f id).1, p.d, p.now⟩) ⟨drop_fm h.fm _, h.us, h.now⟩ _
  split
  · exact h.same _ _
  · exact h.tail h _
theorem Gd.flush {m p} (h : Gd m p) (id : Int) : GdR m (poolFlush p id) := by
  rw [poolFlush]
  split
  · split <;> exact h.same _ _
  split
  · exact h.same _ _
  split
  · exact h.same _ _
  · exact ⟨h.wb id, Nat.le_trans (wb_len p id) (by decide)⟩
theorem Gd.ageL {m p} (h : Gd m p) : ∀ (ids : List Int) {q : PS} (l : List Jo), Gd m q → Gd m (ageL p ids q l).1 ∧ (ageL p ids q l).2.2.1.length ≤ l.length + 10 * ids.length
  | [], q, l, hq => ⟨hq, by show l.length ≤ _; omega⟩
  | id :: r, q, l, hq => by
    rw [Lk.ageL]
    split
    · exact ⟨h, Nat.zero_le _⟩
    · have ih := Gd.ageL h r (l ++ (wbM q id).2.1) (hq.wb id)
      refine ⟨ih.1, ?_⟩
      have h2 := ih.2
      have h3 := wb_len q id
      rw [List.length_append] at h2
      show _ ≤ l.length + 10 * (r.length + 1)
      omega
theorem Gd.age {m p} (h : Gd m p) (n : Int) : GdR m (poolAge p n) := by
  have h1 := h.ageL (Dt.dueG p.f.dt p.now n) [] h
  have h2 := due_len (now := p.now) (age := n) h.fm.dt
  refine ⟨h1.1, ?_⟩
  have h3 := h1.2
  rw [poolAge]
  simp only [List.length_nil] at h3
  omega
theorem Gd.pinned {m p} (h : Gd m p) (a : PAct) : Gd m (pinnedM p a).1 := by
  rw [pinnedM]
  split
  · exact h
  split
  · split
    · exact h
    · exact ⟨write_fm h.fm _ _ _, h.us, h.now⟩
  split
  · split
    · exact h
    · exact ⟨unpin_fm h.fm _, h.us, h.now⟩
  · exact h
theorem Gd.act {m p} (h : Gd m p) (a : PAct) : GdR m (poolDo p a) := by
  rw [poolDo]
  repeat' split
  · exact h.same _ _
  · exact h.same _ _
  · exact h.fetch _
  · exact h.create _
  · exact h.remove _
  · exact h.flush _
  · exact h.age _
  · exact ⟨h.pinned a, Nat.zero_le _⟩
theorem FM.fl {f : FX} (h : FM f) : 1 ≤ f.fr.length ∧ f.fr.length ≤ 8 := ⟨h.ck.one, h.ck.most⟩
end Go.Lk


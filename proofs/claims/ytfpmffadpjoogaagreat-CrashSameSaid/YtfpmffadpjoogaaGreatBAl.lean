/-
  What is proved here: what functions of the program compute, and what follows; no condition beyond each theorem's own.
-/
import Derived.Test.YtfpmffadpjoogaaGreatBAk
set_option linter.unusedSimpArgs false
set_option linter.unusedVariables false
set_option linter.unnecessarySimpa false
set_option linter.unusedSectionVars false
namespace Go.Lk
open Go Go.Proofs Go.RowKit

theorem fmRight_ok {f : FX} (h : FM f) : ACall Tryz.prog 28 [encFS f] (.bool true) := by
  have h1 := fright_ok f h.tl h.dl
  rw [frightB_t.2 (fm_iff.2 h)] at h1; exact h1
def smallB (l : List PAct) : Bool := (l.take 80).all fun a => decide (a.2.2.size ≤ 100)
theorem small_ok (l : List PAct) : ACall Tryz.prog 15 [.lst (l.map encPA)] (.bool (smallB l)) := by
  have hm : (l.map encPA).length = l.length := List.length_map ..
  refine acall_of Tryz.func15 1 rfl (by kernel_rfl) ?_
  conv => whnf
  repeat ((first | refine bF ?_ | refine bT ?_ | refine dK (by kernel_rfl) ?_ | refine cK rfl ?_ | refine cK (by first | decide | omega) ?_ | refine wK (by omega) (by omega) ?_); conv => whnf)
  refine aloop (ι := Nat) (fun k => [(0, .d (.lst (l.map encPA))), (3, .d (.int .i64 k))]) (fun _ => [])
    (fun k => k ≤ l.length ∧ k ≤ 80 ∧ (l.take k).all (fun a => decide (a.2.2.size ≤ 100)) = true) (fun k => 80 - k) 0 ⟨by omega, by decide, rfl⟩ (le0 (le_of_cov ⟨rfl, rfl, trivial⟩ trivial ⟨rfl, rfl, rfl, rfl⟩)) ?_
  rintro k ⟨hk, hk80, hall⟩
  have hfin : (¬ k < l.length) ∨ (¬ k < 80) → smallB l = true := fun h => by
    rw [smallB]
    by_cases e : k = 80
    · subst e; exact hall
    · rw [List.take_of_length_le (by omega)]
      rw [List.take_of_length_le (by omega)] at hall
      exact hall
  conv => whnf
  refine bcase_p (fun h5 => ?_) (fun h5 => ?_) <;> conv => whnf
  rotate_left
  · repeat ((first | refine bF ?_ | refine bT ?_ | refine dK (by kernel_rfl) ?_ | refine cK rfl ?_ | refine cK (by first | decide | omega) ?_ | refine wK (by omega) (by omega) ?_); conv => whnf)
    rw [hfin (by omega)]
    exact ret_of rfl rfl
  refine bcase_p (fun h6 => ?_) (fun h6 => ?_) <;> conv => whnf
  rotate_left
  · repeat ((first | refine bF ?_ | refine bT ?_ | refine dK (by kernel_rfl) ?_ | refine cK rfl ?_ | refine cK (by first | decide | omega) ?_ | refine wK (by omega) (by omega) ?_); conv => whnf)
    rw [hfin (by omega)]
    exact ret_of rfl rfl
  have hk2 : k < l.length := by omega
  repeat ((first | refine bF ?_ | refine bT ?_ | refine dK (by kernel_rfl) ?_ | refine cK rfl ?_ | refine cK (by first | decide | omega) ?_ | refine wK (by omega) (by omega) ?_); conv => whnf)
  refine idxK_nat (by omega) ?_
  conv => whnf
  refine getRow_of (x := encPA l[k]) (by simp [hk2]) ?_
  conv => whnf
  repeat ((first | refine bF ?_ | refine bT ?_ | refine dK (by kernel_rfl) ?_ | refine cK rfl ?_ | refine cK (by first | decide | omega) ?_ | refine wK (by omega) (by omega) ?_); conv => whnf)
  refine bcase_p (fun h7 => ?_) (fun h7 => ?_) <;> conv => whnf
  · repeat ((first | refine bF ?_ | refine bT ?_ | refine dK (by kernel_rfl) ?_ | refine cK rfl ?_ | refine cK (by first | decide | omega) ?_ | refine wK (by omega) (by omega) ?_); conv => whnf)
    have : smallB l = false := by
      rw [smallB, Bool.eq_false_iff]
      intro g
      rw [List.all_eq_true] at g
      have := g l[k] (List.mem_take_iff_getElem.2 ⟨k, by omega, rfl⟩)
      have h8 : l[k].2.2.size ≤ 100 := by simpa using this
      have h7 : (100 : Int) < (l[k].2.2.size : Nat) := h7
      omega
    rw [this]
    exact ret_of rfl rfl
  · repeat ((first | refine bF ?_ | refine bT ?_ | refine dK (by kernel_rfl) ?_ | refine cK rfl ?_ | refine cK (by first | decide | omega) ?_ | refine wK (by omega) (by omega) ?_); conv => whnf)
    exact ⟨k + 1, ⟨by omega, by omega, by
      rw [take_snoc hk2, List.all_append, hall]
      have h7 : ¬ (100 : Int) < (l[k].2.2.size : Nat) := h7
      simp; omega⟩, by omega, (le0 (le_of_cov ⟨rfl, rfl, trivial⟩ trivial ⟨rfl, rfl, rfl, rfl⟩))⟩
theorem Inv.tick {p P W v u} (h : Inv p P W v u) {n : Int} (h0 : p.now ≤ n) (h1 : n ≤ 2147483647) : Inv ⟨p.f, p.d, n⟩ P W v u :=
  ⟨⟨h.pj.fm, h.pj.rest, h.pj.ca, h.pj.z0, by have := h.pj.n0; show 0 ≤ n; omega, h1, fun x hx => by have := h.pj.dt x hx; show x.2 ≤ n; omega⟩, h.pins, h.at_, h.on, h.ub⟩
theorem Inv.vs {p P W v u} (h : Inv p P W v u) (q : Nat) (q1 : 1 ≤ q) (q16 : q ≤ 16) : 0 ≤ (P q).2.1 ∧ (P q).2.1 ≤ 2147483647 := by
  rcases h.on.okp q q1 q16 with e | ⟨e, _⟩
  · rw [e]; exact ⟨by decide, by decide⟩
  · have := pgR_out.1 e; omega
theorem Inv.ws {p P W v u} (h : Inv p P W v u) (q : Nat) (q1 : 1 ≤ q) (q16 : q ≤ 16) : 0 ≤ W q ∧ W q ≤ 2147483647 := by
  rcases h.pins q q1 q16 with ⟨i, hi, e1, e2⟩ | ⟨_, e⟩
  · have := frOk_out.1 (h.pj.fm.ck.all i hi)
    omega
  · omega
/-- one act: what the pool does, and what the map tells -/
theorem act_facts {p P W v u} (h : Inv p P W v u) (hv1 : 1 ≤ v) (hv : v < 2147483647) (hu0 : 0 ≤ u) (hu : u < 2147483647) (a : PAct) {n : Nat} (hl : p.f.fr.length = n) :
    ∃ q P' W' x l e, poolDo p a = (q, x, l, e) ∧ Inv q P' W' (v + 1) (u + 1) ∧ q.now = p.now ∧ q.f.fr.length = n ∧ runL p.d l = q.d ∧ l.length ≤ 170 ∧ (e ≠ 0 → l = []) ∧ docM P W n a = (P', W', x, e) ∧
      ACall Tryz.prog 18 [encPS p, .agg (encPA a)] (encR4 (q, x, l, e)) ∧ ACall Tryz.prog 19 [.agg (mL P W n), .int .i64 a.1, .int .i64 a.2.1, .str a.2.2] (.tup [.agg (mL P' W' n), .agg (encP x), .int .i64 e]) := by
  have d := do_did h hv1 hv hu0 hu a hl
  obtain ⟨P', W', x, e, hdoc⟩ : ∃ P' W' x e, docM P W n a = (P', W', x, e) := ⟨_, _, _, _, rfl⟩
  rw [hdoc] at d
  obtain ⟨q, l, e1, iq, qn, qlen, run, few, none⟩ := d.eq
  have h1 := poolDo_ok p a h.pj.fm h.pj.n1
  rw [e1] at h1
  have h2 := rdo_ok P W n a h.vs h.ws
  rw [DocOut, hdoc] at h2
  exact ⟨q, P', W', x, l, e, e1, iq, qn, qlen.trans hl, run, few, none, hdoc, h1, h2⟩
/-- how it begins -/
theorem start_inv (pages : List Pg) {n : Nat} (h1 : 1 ≤ n) (h8 : n ≤ 8) : Inv ⟨newFS n, ⟨(newG pages).1, []⟩, 0⟩ (newG pages).2 (fun _ => 0) 1073741824 0 :=
  have h := NI.ofG pages
  Inv.new h1 h8 h.rest h.z h.on (by decide)
theorem tickP_3 {p : PS} {n : Int} (h : n ≤ 2147483647) (h2 : p.now + 3 = n) : tickP p 3 = ⟨p.f, p.d, n⟩ := by
  rw [tickP, if_neg (by decide), if_neg (by omega), h2]
end Go.Lk

namespace Go.Lk
open Go Go.Proofs Go.RowKit

theorem kids : Kids Tryz.prog (· < Tryz.prog.types.size) := kids_rows (by kernel_rfl) (by kernel_rfl)
theorem sizes : ∀ t e, t < Tryz.prog.types.size → Tryz.prog.underlying t = some (.slice e) → 0 < Tryz.prog.cellsOf e := sliceSize_out (by kernel_rfl)
theorem own : ownKnob Tryz.prog.godebug = none := by kernel_rfl

theorem fit_pg {m : Nat} {ds : List D} (h : Fit T m 42 ds) : ∃ x : Pg, ds = encP x ∧ True := by
  obtain ⟨k, a, r, rfl, ha, b, r2, rfl, hb, c, r3, rfl, hc, rfl⟩ := fit_struct (fs := [(0, 3), (1, 3), (2, 9)]) rfl h
  obtain ⟨x, rfl, _⟩ := fit_int (k := .i64) rfl ha
  obtain ⟨y, rfl, _⟩ := fit_int (k := .i64) rfl hb
  obtain ⟨z, rfl, _⟩ := fit_str rfl hc
  exact ⟨(x, y, z), rfl, trivial⟩
theorem fit_act {m : Nat} {ds : List D} (h : Fit T m 54 ds) : ∃ x : PAct, ds = encPA x ∧ True := by
  obtain ⟨k, a, r, rfl, ha, b, r2, rfl, hb, c, r3, rfl, hc, rfl⟩ := fit_struct (fs := [(0, 3), (1, 3), (2, 9)]) rfl h
  obtain ⟨x, rfl, _⟩ := fit_int (k := .i64) rfl ha
  obtain ⟨y, rfl, _⟩ := fit_int (k := .i64) rfl hb
  obtain ⟨z, rfl, _⟩ := fit_str rfl hc
  exact ⟨(x, y, z), rfl, trivial⟩
theorem fit_bytes {m : Nat} {ds : List D} (h : Fit T m 9 ds) : ∃ s : ByteArray, ds = encB s ∧ True := by
  obtain ⟨z, rfl, _⟩ := fit_str rfl h
  exact ⟨z, rfl, trivial⟩
theorem fit_wt {m : Nat} {ds : List D} (h : Fit T m 117 ds) : ∃ w : Wt, ds = encW w ∧ True := by
  obtain ⟨k, a, r, rfl, ha, b, r2, rfl, hb, rfl⟩ := fit_struct (fs := [(0, 3), (1, 9)]) rfl h
  obtain ⟨x, rfl, _⟩ := fit_int (k := .i64) rfl ha
  obtain ⟨z, rfl, _⟩ := fit_str rfl hb
  exact ⟨(x, z), rfl, trivial⟩
theorem pages_arg {n : Nat} {d : D} (h : FitV T n 31 d) : ∃ l : List Pg, d = .lst (l.map encP) := by
  obtain ⟨l, rfl, _, _⟩ := fitV_rows (f := encP) (Q := fun _ => True) (e := 42) rfl h fun m x h => fit_pg h
  exact ⟨l, rfl⟩
theorem acts_arg {n : Nat} {d : D} (h : FitV T n 22 d) : ∃ l : List PAct, d = .lst (l.map encPA) := by
  obtain ⟨l, rfl, _, _⟩ := fitV_rows (f := encPA) (Q := fun _ => True) (e := 54) rfl h fun m x h => fit_act h
  exact ⟨l, rfl⟩
theorem disk_arg {n : Nat} {d : D} (h : FitV T n 38 d) : ∃ x : DS, d = encDS x := by
  obtain ⟨ds, e0, h'⟩ := fitV_agg (T := T) (t := 38) rfl h
  subst e0
  obtain ⟨m, c, r, rfl, hc, t, r2, rfl, ht, rfl⟩ := fit_struct (fs := [(0, 35), (1, 36)]) rfl h'
  obtain ⟨s, rfl, _⟩ := fit_rows (f := encB) (Q := fun _ => True) (e := 9) rfl hc fun m x h => fit_bytes h
  obtain ⟨w, rfl, _⟩ := fit_rows (f := encW) (Q := fun _ => True) (e := 117) rfl ht fun m x h => fit_wt h
  exact ⟨⟨s, w⟩, rfl⟩
theorem u8_arg {n : Nat} {d : D} (h : FitV T n 5 d) : ∃ a : Int, d = .int .u8 a ∧ 0 ≤ a ∧ a ≤ 255 := by
  obtain ⟨a, rfl, w⟩ := fitV_int (k := .u8) rfl h
  exact ⟨a, rfl, (wf_u8 w).1, (wf_u8 w).2⟩
end Go.Lk

namespace Go.Lk
open Go Go.Proofs Go.RowKit

structure SmallD (d : DS) : Prop where
  s : d.sec.length ≤ 80
  c : d.ca.length ≤ 220
  sb : ∀ i, (h : i < d.sec.length) → d.sec[i].size ≤ 40
  cb : ∀ i, (h : i < d.ca.length) → d.ca[i].2.size ≤ 40
open Classical in
noncomputable def smallDB (d : DS) : Bool := decide (SmallD d)
theorem smallDB_t {d : DS} : smallDB d = true ↔ SmallD d := by simp [smallDB]
theorem smallDB_f {d : DS} : smallDB d = false ↔ ¬ SmallD d := by simp [smallDB]
theorem smallD_ok (d : DS) : ACall Tryz.prog 21 [encDS d] (.bool (smallDB d)) := by
  have m1 : (d.sec.map encB).length = d.sec.length := List.length_map ..
  have m2 : (d.ca.map encW).length = d.ca.length := List.length_map ..
  refine acall_of Tryz.func21 1 rfl (by kernel_rfl) ?_
  conv => whnf
  repeat ((first | refine bF ?_ | refine bT ?_ | refine dK (by kernel_rfl) ?_ | refine cK rfl ?_ | refine cK (by first | decide | omega) ?_ | refine wK (by omega) (by omega) ?_); conv => whnf)
  refine bcase_p (fun h1 => ?_) (fun h1 => ?_) <;> conv => whnf
  · repeat ((first | refine bF ?_ | refine bT ?_ | refine dK (by kernel_rfl) ?_ | refine cK rfl ?_ | refine cK (by first | decide | omega) ?_ | refine wK (by omega) (by omega) ?_); conv => whnf)
    exact ret_of rfl (congrArg D.bool (smallDB_f.2 fun g => by have := g.s; omega).symm)
  repeat ((first | refine bF ?_ | refine bT ?_ | refine dK (by kernel_rfl) ?_ | refine cK rfl ?_ | refine cK (by first | decide | omega) ?_ | refine wK (by omega) (by omega) ?_); conv => whnf)
  refine bcase_p (fun h2 => ?_) (fun h2 => ?_) <;> conv => whnf
  · repeat ((first | refine bF ?_ | refine bT ?_ | refine dK (by kernel_rfl) ?_ | refine cK rfl ?_ | refine cK (by first | decide | omega) ?_ | refine wK (by omega) (by omega) ?_); conv => whnf)
    exact ret_of rfl (congrArg D.bool (smallDB_f.2 fun g => by have := g.c; omega).symm)
  repeat ((first | refine bF ?_ | refine bT ?_ | refine dK (by kernel_rfl) ?_ | refine cK rfl ?_ | refine cK (by first | decide | omega) ?_ | refine wK (by omega) (by omega) ?_); conv => whnf)
  refine aloop (ι := Nat) (fun k => [(1, .ptr 1 0 0), (3, .d (.int .i64 k))]) (fun _ => [(1, .box [.d (.lst (d.sec.map encB)), .d (.lst (d.ca.map encW))] false)])
    (fun k => k ≤ d.sec.length ∧ ∀ i, i < k → (h : i < d.sec.length) → d.sec[i].size ≤ 40) (fun k => d.sec.length - k) 0 ⟨by omega, by omega⟩ (le0 (le_of_cov ⟨rfl, rfl, trivial⟩ ⟨rfl, trivial⟩ ⟨rfl, rfl, rfl, rfl⟩)) ?_
  rintro k ⟨hk, hR⟩
  conv => whnf
  repeat ((first | refine bF ?_ | refine bT ?_ | refine dK (by kernel_rfl) ?_ | refine cK rfl ?_ | refine cK (by first | decide | omega) ?_ | refine wK (by omega) (by omega) ?_); conv => whnf)
  refine bcase_p (fun h5 => ?_) (fun h5 => ?_) <;> conv => whnf
  · have hk2 : k < d.sec.length := by omega
    repeat ((first | refine bF ?_ | refine bT ?_ | refine dK (by kernel_rfl) ?_ | refine cK rfl ?_ | refine cK (by first | decide | omega) ?_ | refine wK (by omega) (by omega) ?_); conv => whnf)
    refine idxK_nat (by omega) ?_
    conv => whnf
    refine getRow_of (x := encB d.sec[k]) (by simp [hk2]) ?_
    conv => whnf
    repeat ((first | refine bF ?_ | refine bT ?_ | refine dK (by kernel_rfl) ?_ | refine cK rfl ?_ | refine cK (by first | decide | omega) ?_ | refine wK (by omega) (by omega) ?_); conv => whnf)
    refine bcase_p (fun h6 => ?_) (fun h6 => ?_) <;> conv => whnf
    · repeat ((first | refine bF ?_ | refine bT ?_ | refine dK (by kernel_rfl) ?_ | refine cK rfl ?_ | refine cK (by first | decide | omega) ?_ | refine wK (by omega) (by omega) ?_); conv => whnf)
      exact ret_of rfl (congrArg D.bool (smallDB_f.2 fun g => by have := g.sb k hk2; have h6 : (40 : Int) < (d.sec[k].size : Nat) := h6; omega).symm)
    · repeat ((first | refine bF ?_ | refine bT ?_ | refine dK (by kernel_rfl) ?_ | refine cK rfl ?_ | refine cK (by first | decide | omega) ?_ | refine wK (by omega) (by omega) ?_); conv => whnf)
      exact ⟨k + 1, ⟨by omega, fun i hi h => by
        by_cases e : i = k
        · subst e
          have h6 : ¬ (40 : Int) < (d.sec[i].size : Nat) := h6
          omega
        · exact hR i (by omega) h⟩, by omega, (le0 (le_of_cov ⟨rfl, rfl, trivial⟩ ⟨rfl, trivial⟩ ⟨rfl, rfl, rfl, rfl⟩))⟩
  repeat ((first | refine bF ?_ | refine bT ?_ | refine dK (by kernel_rfl) ?_ | refine cK rfl ?_ | refine cK (by first | decide | omega) ?_ | refine wK (by omega) (by omega) ?_); conv => whnf)
  refine aloop (ι := Nat) (fun k => [(1, .ptr 1 0 0), (4, .d (.int .i64 k))]) (fun _ => [(1, .box [.d (.lst (d.sec.map encB)), .d (.lst (d.ca.map encW))] false)])
    (fun k => k ≤ d.ca.length ∧ ∀ i, i < k → (h : i < d.ca.length) → d.ca[i].2.size ≤ 40) (fun k => d.ca.length - k) 0 ⟨by omega, by omega⟩ (le0 (le_of_cov ⟨rfl, rfl, trivial⟩ ⟨rfl, trivial⟩ ⟨rfl, rfl, rfl, rfl⟩)) ?_
  rintro j ⟨hj, hQ⟩
  conv => whnf
  repeat ((first | refine bF ?_ | refine bT ?_ | refine dK (by kernel_rfl) ?_ | refine cK rfl ?_ | refine cK (by first | decide | omega) ?_ | refine wK (by omega) (by omega) ?_); conv => whnf)
  refine bcase_p (fun h7 => ?_) (fun h7 => ?_) <;> conv => whnf
  · have hk2 : j < d.ca.length := by omega
    repeat ((first | refine bF ?_ | refine bT ?_ | refine dK (by kernel_rfl) ?_ | refine cK rfl ?_ | refine cK (by first | decide | omega) ?_ | refine wK (by omega) (by omega) ?_); conv => whnf)
    refine idxK_nat (by omega) ?_
    conv => whnf
    refine getRow_of (x := encW d.ca[j]) (by simp [hk2]) ?_
    conv => whnf
    repeat ((first | refine bF ?_ | refine bT ?_ | refine dK (by kernel_rfl) ?_ | refine cK rfl ?_ | refine cK (by first | decide | omega) ?_ | refine wK (by omega) (by omega) ?_); conv => whnf)
    refine bcase_p (fun h8 => ?_) (fun h8 => ?_) <;> conv => whnf
    · repeat ((first | refine bF ?_ | refine bT ?_ | refine dK (by kernel_rfl) ?_ | refine cK rfl ?_ | refine cK (by first | decide | omega) ?_ | refine wK (by omega) (by omega) ?_); conv => whnf)
      exact ret_of rfl (congrArg D.bool (smallDB_f.2 fun g => by have := g.cb j hk2; have h8 : (40 : Int) < (d.ca[j].2.size : Nat) := h8; omega).symm)
    · repeat ((first | refine bF ?_ | refine bT ?_ | refine dK (by kernel_rfl) ?_ | refine cK rfl ?_ | refine cK (by first | decide | omega) ?_ | refine wK (by omega) (by omega) ?_); conv => whnf)
      exact ⟨j + 1, ⟨by omega, fun i hi h => by
        by_cases e : i = j
        · subst e
          have h8 : ¬ (40 : Int) < (d.ca[i].2.size : Nat) := h8
          omega
        · exact hQ i (by omega) h⟩, by omega, (le0 (le_of_cov ⟨rfl, rfl, trivial⟩ ⟨rfl, trivial⟩ ⟨rfl, rfl, rfl, rfl⟩))⟩
  · repeat ((first | refine bF ?_ | refine bT ?_ | refine dK (by kernel_rfl) ?_ | refine cK rfl ?_ | refine cK (by first | decide | omega) ?_ | refine wK (by omega) (by omega) ?_); conv => whnf)
    exact ret_of rfl (congrArg D.bool (smallDB_t.2 ⟨by omega, by omega, fun i h => hR i (by omega) h, fun i h => hQ i (by omega) h⟩).symm)
theorem open_no {d : DS} {n : Int} (h : ¬ Us d ∨ 0 < d.ca.length ∨ n < 1 ∨ 8 < n) : openM d n = (noPS, 1) := by
  rw [openM]
  by_cases g : (getJ d 1).2 ≠ 0 ∨ 0 < d.ca.length
  · rw [if_pos g]
  · rw [if_neg g, if_pos]
    rcases h with h | h | h
    · exact absurd (.inl (by rw [getJ, if_neg (fun q => h q.1)]; decide)) g
    · exact absurd (.inr h) g
    · exact h
theorem open_yes {d : DS} {n : Int} (hU : Us d) (hc : d.ca.length = 0) (h1 : 1 ≤ n) (h8 : n ≤ 8) : openM d n = (⟨newFS n.toNat, recM d, 0⟩, 0) := by
  rw [openM, if_neg, if_neg (by omega)]
  rintro (g | g)
  · exact g (by rw [getJ, if_pos ⟨hU, by decide, by decide⟩])
  · omega
theorem recM_99 (d : DS) : runM d (repairM d) 99 = recM d := by
  have := repairM_len d
  rw [recM, runM, runM, List.take_of_length_le (by omega), List.take_of_length_le (by omega)]
theorem stepJ_len (d : DS) (o : Jo) : (stepJ d o).sec.length = d.sec.length := by
  rw [stepJ]
  split
  · rw [syncM]; split
    · exact wrS_len ..
    · rfl
  · rw [putM]; split
    · split <;> rfl
    · rfl
theorem foldJ_len : ∀ (l : List Jo) (d : DS), (l.foldl stepJ d).sec.length = d.sec.length
  | [], _ => rfl
  | o :: r, d => (foldJ_len r (stepJ d o)).trans (stepJ_len d o)
theorem stepJ_ca (d : DS) (o : Jo) : (stepJ d o).ca.length ≤ d.ca.length + 1 := by
  rw [stepJ]
  split
  · rw [syncM]; split
    · exact Nat.zero_le _
    · omega
  · rw [putM]; split
    · split
      · show d.ca.length ≤ _; omega
      · show (d.ca ++ [o.2]).length ≤ _; simp
    · show d.ca.length ≤ _; omega
theorem foldJ_ca : ∀ (l : List Jo) (d : DS), (l.foldl stepJ d).ca.length ≤ d.ca.length + l.length
  | [], _ => Nat.le_refl _
  | o :: r, d => by
    have h1 := foldJ_ca r (stepJ d o)
    have h2 := stepJ_ca d o
    show (r.foldl stepJ (stepJ d o)).ca.length ≤ d.ca.length + (r.length + 1)
    omega
set_option maxRecDepth 100000 in
theorem poolOpens_ok (d : DS) (n : Int) : ACall Tryz.prog 4 [encDS d, .int .i64 n] (.bool true) := by
  have m2 : (d.ca.map encW).length = d.ca.length := List.length_map ..
  refine acall_of Tryz.func4 2 rfl (by kernel_rfl) ?_
  conv => whnf
  repeat ((first | refine bF ?_ | refine bT ?_ | refine dK (by kernel_rfl) ?_ | refine cK rfl ?_ | refine cK (by first | decide | omega) ?_ | refine wK (by omega) (by omega) ?_); conv => whnf)
  refine callX_pure (smallD_ok d) ?_
  conv => whnf
  repeat ((first | refine bF ?_ | refine bT ?_ | refine dK (by kernel_rfl) ?_ | refine cK rfl ?_ | refine cK (by first | decide | omega) ?_ | refine wK (by omega) (by omega) ?_); conv => whnf)
  refine bcase_intro (fun h1 => ?_) (fun h1 => ?_) <;> conv => whnf
  · refine callX_pure awake16_ok ?_
    conv => whnf
    repeat ((first | refine bF ?_ | refine bT ?_ | refine dK (by kernel_rfl) ?_ | refine cK rfl ?_ | refine cK (by first | decide | omega) ?_ | refine wK (by omega) (by omega) ?_); conv => whnf)
    exact ret_of rfl rfl
  have hS : SmallD d := smallDB_t.1 (by simpa using h1)
  have hs1 := hS.s
  repeat ((first | refine bF ?_ | refine bT ?_ | refine dK (by kernel_rfl) ?_ | refine cK rfl ?_ | refine cK (by first | decide | omega) ?_ | refine wK (by omega) (by omega) ?_); conv => whnf)
  refine callX_pure (open_ok d n) ?_
  conv => whnf
  repeat ((first | refine bF ?_ | refine bT ?_ | refine dK (by kernel_rfl) ?_ | refine cK rfl ?_ | refine cK (by first | decide | omega) ?_ | refine wK (by omega) (by omega) ?_); conv => whnf)
  refine callX_pure (may_ok d) ?_
  conv => whnf
  repeat ((first | refine bF ?_ | refine bT ?_ | refine dK (by kernel_rfl) ?_ | refine cK rfl ?_ | refine cK (by first | decide | omega) ?_ | refine wK (by omega) (by omega) ?_); conv => whnf)
  refine bcase_intro (fun h2 => ?_) (fun h2 => ?_) <;> conv => whnf
  · have hn : ¬ Us d := usB_f.1 (by simpa using h2)
    have e := open_no (d := d) (n := n) (.inl hn)
    rw [e]
    repeat ((first | refine bF ?_ | refine bT ?_ | refine dK (by kernel_rfl) ?_ | refine cK rfl ?_ | refine cK (by first | decide | omega) ?_ | refine wK (by omega) (by omega) ?_); conv => whnf)
    refine callX_pure awake16_ok ?_
    conv => whnf
    repeat ((first | refine bF ?_ | refine bT ?_ | refine dK (by kernel_rfl) ?_ | refine cK rfl ?_ | refine cK (by first | decide | omega) ?_ | refine wK (by omega) (by omega) ?_); conv => whnf)
    exact ret_of rfl rfl
  have hU : Us d := usB_t.1 (by simpa using h2)
  repeat ((first | refine bF ?_ | refine bT ?_ | refine dK (by kernel_rfl) ?_ | refine cK rfl ?_ | refine cK (by first | decide | omega) ?_ | refine wK (by omega) (by omega) ?_); conv => whnf)
  refine bcase_p (fun h3 => ?_) (fun h3 => ?_) <;> conv => whnf
  · have e := open_no (d := d) (n := n) (.inr (.inl (by omega)))
    rw [e]
    repeat ((first | refine bF ?_ | refine bT ?_ | refine dK (by kernel_rfl) ?_ | refine cK rfl ?_ | refine cK (by first | decide | omega) ?_ | refine wK (by omega) (by omega) ?_); conv => whnf)
    refine callX_pure awake16_ok ?_
    conv => whnf
    repeat ((first | refine bF ?_ | refine bT ?_ | refine dK (by kernel_rfl) ?_ | refine cK rfl ?_ | refine cK (by first | decide | omega) ?_ | refine wK (by omega) (by omega) ?_); conv => whnf)
    exact ret_of rfl rfl
  repeat ((first | refine bF ?_ | refine bT ?_ | refine dK (by kernel_rfl) ?_ | refine cK rfl ?_ | refine cK (by first | decide | omega) ?_ | refine wK (by omega) (by omega) ?_); conv => whnf)
  refine bcase_p (fun h4 => ?_) (fun h4 => ?_) <;> conv => whnf
  · have e := open_no (d := d) (n := n) (.inr (.inr (.inl h4)))
    rw [e]
    repeat ((first | refine bF ?_ | refine bT ?_ | refine dK (by kernel_rfl) ?_ | refine cK rfl ?_ | refine cK (by first | decide | omega) ?_ | refine wK (by omega) (by omega) ?_); conv => whnf)
    refine callX_pure awake16_ok ?_
    conv => whnf
    repeat ((first | refine bF ?_ | refine bT ?_ | refine dK (by kernel_rfl) ?_ | refine cK rfl ?_ | refine cK (by first | decide | omega) ?_ | refine wK (by omega) (by omega) ?_); conv => whnf)
    exact ret_of rfl rfl
  repeat ((first | refine bF ?_ | refine bT ?_ | refine dK (by kernel_rfl) ?_ | refine cK rfl ?_ | refine cK (by first | decide | omega) ?_ | refine wK (by omega) (by omega) ?_); conv => whnf)
  refine bcase_p (fun h5 => ?_) (fun h5 => ?_) <;> conv => whnf
  · have e := open_no (d := d) (n := n) (.inr (.inr (.inr h5)))
    rw [e]
    repeat ((first | refine bF ?_ | refine bT ?_ | refine dK (by kernel_rfl) ?_ | refine cK rfl ?_ | refine cK (by first | decide | omega) ?_ | refine wK (by omega) (by omega) ?_); conv => whnf)
    refine callX_pure awake16_ok ?_
    conv => whnf
    repeat ((first | refine bF ?_ | refine bT ?_ | refine dK (by kernel_rfl) ?_ | refine cK rfl ?_ | refine cK (by first | decide | omega) ?_ | refine wK (by omega) (by omega) ?_); conv => whnf)
    exact ret_of rfl rfl
  repeat ((first | refine bF ?_ | refine bT ?_ | refine dK (by kernel_rfl) ?_ | refine cK rfl ?_ | refine cK (by first | decide | omega) ?_ | refine wK (by omega) (by omega) ?_); conv => whnf)
  have e := open_yes (n := n) hU (by omega) (by omega) (by omega)
  obtain ⟨k, rfl⟩ : ∃ k : Nat, n = k := ⟨n.toNat, by omega⟩
  rw [Int.toNat_natCast] at e
  have hfl : ((newFS k).pg.map encP).length = k := by rw [List.length_map]; exact List.length_replicate ..
  have hrl := repairM_len d
  have l1 : (recM d).sec.length = d.sec.length := foldJ_len _ _
  have l2 : (recM d).ca.length ≤ 1000 := by
    have := foldJ_ca ((repairM d).take ((repairM d).length : Int).toNat) d
    have h2 : (recM d).ca.length ≤ _ := this
    rw [List.length_take] at h2
    omega
  rw [e]
  refine bcase_t rfl ?_
  conv => whnf
  repeat ((first | refine bF ?_ | refine bT ?_ | refine dK (by kernel_rfl) ?_ | refine cK rfl ?_ | refine cK (by first | decide | omega) ?_ | refine wK (by omega) (by omega) ?_); conv => whnf)
  refine bcase_t (by simp only [hfl]; simp) ?_
  conv => whnf
  repeat ((first | refine bF ?_ | refine bT ?_ | refine dK (by kernel_rfl) ?_ | refine cK rfl ?_ | refine cK (by first | decide | omega) ?_ | refine wK (by omega) (by omega) ?_); conv => whnf)
  refine callX_pure (rrepair_ok d hU) ?_
  conv => whnf
  repeat ((first | refine bF ?_ | refine bT ?_ | refine dK (by kernel_rfl) ?_ | refine cK rfl ?_ | refine cK (by first | decide | omega) ?_ | refine wK (by omega) (by omega) ?_); conv => whnf)
  refine callX_pure (rrun_ok d (repairM d) 99 (by omega)) ?_
  conv => whnf
  repeat ((first | refine bF ?_ | refine bT ?_ | refine dK (by kernel_rfl) ?_ | refine cK rfl ?_ | refine cK (by first | decide | omega) ?_ | refine wK (by omega) (by omega) ?_); conv => whnf)
  rw [recM_99]
  refine callX_pure (rsameD_ok (recM d) (recM d) (by omega) l2) ?_
  conv => whnf
  repeat ((first | refine bF ?_ | refine bT ?_ | refine dK (by kernel_rfl) ?_ | refine cK rfl ?_ | refine cK (by first | decide | omega) ?_ | refine wK (by omega) (by omega) ?_); conv => whnf)
  refine bcase_t (by simp) ?_
  conv => whnf
  repeat ((first | refine bF ?_ | refine bT ?_ | refine dK (by kernel_rfl) ?_ | refine cK rfl ?_ | refine cK (by first | decide | omega) ?_ | refine wK (by omega) (by omega) ?_); conv => whnf)
  refine callX_pure awake16_ok ?_
  conv => whnf
  repeat ((first | refine bF ?_ | refine bT ?_ | refine dK (by kernel_rfl) ?_ | refine cK rfl ?_ | refine cK (by first | decide | omega) ?_ | refine wK (by omega) (by omega) ?_); conv => whnf)
  exact ret_of rfl rfl
end Go.Lk

namespace Go.Lk
open Go Go.Proofs Go.RowKit

/-! ### a pool over any disk that may have a journal -/
theorem wrS_sz {n : Nat} : ∀ (l : List Wt) (s : List ByteArray), (∀ i, (h : i < s.length) → s[i].size = 16) → (∀ w ∈ l, w.2.size = 16) → ∀ i, (h : i < (wrS s l).length) → (wrS s l)[i].size = 16
  | [], s, hs, _ => hs
  | w :: r, s, hs, hw => wrS_sz (n := n) r (s.set w.1.toNat w.2) (fun i h => by
      rw [List.getElem_set]
      split
      · exact hw w (.head _)
      · exact hs i (by rw [List.length_set] at h; exact h)) fun x hx => hw x (.tail _ hx)
theorem DR.sync {d : DS} (h : DR d) : DR ⟨wrS d.sec d.ca, []⟩ := by
  refine ⟨by show 1 ≤ (wrS d.sec d.ca).length; rw [wrS_len]; exact h.s1, by show (wrS d.sec d.ca).length ≤ 64; rw [wrS_len]; exact h.s2, Nat.zero_le _, wrS_sz (n := 0) _ _ h.s fun w hw => ?_, fun i hi => absurd hi (Nat.not_lt_zero _)⟩
  obtain ⟨i, hi, rfl⟩ := List.mem_iff_getElem.1 hw
  exact (okW_out.1 (h.c i hi)).2.2
theorem stepJ_dr {d : DS} (h : DR d) (o : Jo) : DR (stepJ d o) := by
  rw [stepJ]
  split
  · rw [syncM, if_pos h]; exact h.sync
  · rw [putM]
    split
    · rename_i g
      split
      · exact h
      · refine ⟨h.s1, h.s2, by show (d.ca ++ [o.2]).length ≤ 200; rw [List.length_append]; show d.ca.length + 1 ≤ 200; omega, h.s, fun i hi => ?_⟩
        show okW d.sec.length (d.ca ++ [o.2])[i] = true
        by_cases e : i < d.ca.length
        · rw [List.getElem_append_left e]; exact h.c i e
        · have hi2 : i < (d.ca ++ [o.2]).length := hi
          rw [List.length_append] at hi2
          have : i = d.ca.length := by simp at hi2; omega
          subst this
          simp [g.2]
    · exact h
theorem stepJ_us {d : DS} (h : Us d) (o : Jo) : Us (stepJ d o) := ⟨stepJ_dr h.dr o, by rw [stepJ_len]; exact h.n⟩
theorem foldJ_us : ∀ (l : List Jo) {d : DS}, Us d → Us (l.foldl stepJ d)
  | [], _, h => h
  | o :: r, _, h => foldJ_us r (stepJ_us h o)
theorem runM_us {d : DS} (h : Us d) (l : List Jo) (n : Int) : Us (runM d l n) := foldJ_us _ h
theorem commit_us {d : DS} (h : Us d) (p : Int) (s : ByteArray) : Us (commitM d p s).1 := by
  rw [commitM]; split
  · exact runM_us h _ _
  · exact h
theorem setS_us {d : DS} (h : Us d) (x : Pg) : Us (setS d x).1 := by
  rw [setS]; split
  · exact commit_us h _ _
  · exact h
theorem rec_us {d : DS} (h : Us d) : Us (recM d) := runM_us h _ _
/-- pins of frames that are right, as a function -/
theorem pins_ex {f : FX} (h : FM f) : ∃ w, PinsL f.fr w := by
  refine ⟨fun q => if e : ∃ i, ∃ hi : i < f.fr.length, f.fr[i].1 = (q : Int) then (f.fr[e.choose]'e.choose_spec.choose).2.1 else 0, fun q h1 h16 => ?_⟩
  by_cases e : ∃ i, ∃ hi : i < f.fr.length, f.fr[i].1 = (q : Int)
  · left
    refine ⟨e.choose, e.choose_spec.choose, e.choose_spec.choose_spec, ?_⟩
    simp only [dif_pos e]
  · right
    refine ⟨fun i hi g => e ⟨i, hi, g⟩, ?_⟩
    simp only [dif_neg e]
theorem pin_fm {f : FX} (h : FM f) (id : Int) : FM (pinS f id).1 := by
  obtain ⟨w, hw⟩ := pins_ex h
  exact (Kept.pin (a := ⟨1, id, 0, ByteArray.empty, zP⟩) h hw rfl).fm
theorem unpin_fm {f : FX} (h : FM f) (id : Int) : FM (unpinS f id).1 := by
  obtain ⟨w, hw⟩ := pins_ex h
  exact (Kept.unpin (a := ⟨2, id, 0, ByteArray.empty, zP⟩) h hw rfl).fm
theorem write_fm {f : FX} (h : FM f) (id : Int) (b : ByteArray) (n : Int) : FM (writeS f id b n).1 := by
  obtain ⟨w, hw⟩ := pins_ex h
  exact (Kept.write (a := ⟨3, id, n, b, zP⟩) h hw rfl).fm
theorem drop_fm {f : FX} (h : FM f) (id : Int) : FM (dropS f id).1 := by
  obtain ⟨w, hw⟩ := pins_ex h
  exact (Kept.drop (a := ⟨5, id, 0, ByteArray.empty, zP⟩) h hw rfl).fm
theorem load_fm {f : FX} (h : FM f) (x : Pg) (n : Int) (fresh : Bool) : FM (loadS f x n fresh).1 := by
  obtain ⟨w, hw⟩ := pins_ex h
  exact (Kept.load (a := ⟨6, 0, n, ByteArray.empty, x⟩) fresh h hw rfl).fm
structure Gd (m : Int) (p : PS) : Prop where
  fm : FM p.f
  us : Us p.d
  now : p.now = m
theorem Gd.wb {m p} (h : Gd m p) (id : Int) : Gd m (wbM p id).1 := by
  refine ⟨wb_fm h.fm id, ?_, ?_⟩
  · rw [wbM]
    repeat' split
    all_goals first | exact h.us | exact setS_us h.us _
  · rw [wbM]
    repeat' split
    all_goals exact h.now
theorem Gd.room {m p} (h : Gd m p) : Gd m ⟨(roomS p.f).1, p.d, p.now⟩ := ⟨room_fm h.fm, h.us, h.now⟩
theorem Gd.mr {m} : ∀ (n : Nat) (p : PS) (l : List Jo), Gd m p → Gd m (mrM n p l).1 ∧ (mrM n p l).2.1.length ≤ l.length + 10 * n
  | 0, p, l, h => ⟨h, by show l.length ≤ _; omega⟩
  | n + 1, p, l, h => by
    rw [mrM]
    split
    · exact ⟨h, by show l.length ≤ _; omega⟩
    split
    · exact ⟨h.room, by show l.length ≤ _; omega⟩
    split
    · exact ⟨h.room, by show l.length ≤ _; omega⟩
    · have ih := Gd.mr n _ (l ++ (wbM ⟨(roomS p.f).1, p.d, p.now⟩ (roomS p.f).2.1.1).2.1) (h.room.wb (roomS p.f).2.1.1)
      refine ⟨ih.1, ?_⟩
      have h2 := ih.2
      have h3 := wb_len ⟨(roomS p.f).1, p.d, p.now⟩ (roomS p.f).2.1.1
      rw [List.length_append] at h2
      omega
theorem Gd.make {m p} (h : Gd m p) : Gd m (makeM p).1 ∧ (makeM p).2.1.length ≤ 170 := by
  have := Gd.mr 17 p [] h
  exact ⟨this.1, by have h2 := this.2; show (mrM 17 p []).2.1.length ≤ 170; simpa using h2⟩
def GdR (m : Int) (r : R4) : Prop := Gd m r.1 ∧ r.2.2.1.length ≤ 170
theorem Gd.same {m p} (h : Gd m p) (x : Pg) (e : Int) : GdR m (p, x, [], e) := ⟨h, Nat.zero_le _⟩
theorem Gd.load {m p} (h : Gd m p) (x : Pg) (fresh : Bool) : GdR m (poolLoad p x fresh) := by
  obtain ⟨h1, h2⟩ := h.make
  rw [poolLoad]
  split
  · exact h1.same _ _
  split
  · exact h1.same _ _
  · exact ⟨⟨load_fm h1.fm _ _ _, h1.us, h1.now⟩, h2⟩
theorem Gd.fetch {m p} (h : Gd m p) (id : Int) : GdR m (poolFetch p id) := by
  rw [poolFetch]
  split
  · split
    · exact h.same _ _
    · exact Gd.same (p := ⟨(pinS p.f id).1, p.d, p.now⟩) ⟨pin_fm h.fm _, h.us, h.now⟩ _ _
  split
  · exact h.same _ _
  · exact h.load _ _
theorem Gd.create {m p} (h : Gd m p) (id : Int) : GdR m (poolCreate p id) := by
  rw [poolCreate]
  split
  · exact h.same _ _
  split
  · exact h.load _ _
  split <;> exact h.same _ _
theorem Gd.tail {m p q} (h : Gd m p) (hq : Gd m q) (id : Int) : GdR m (delTail p q id) := by
  rw [delTail]
  split
  · exact hq.same _ _
  split
  · exact h.same _ _
  · exact ⟨⟨hq.fm, commit_us h.us _ _, hq.now⟩, by
      show (stepsS p.d (id, 0, ByteArray.empty)).length ≤ 170
      have := stepsS_len p.d (id, 0, ByteArray.empty)
      omega⟩
theorem Gd.remove {m p} (h : Gd m p) (id : Int) : GdR m (poolRemove p id) := by
  rw [poolRemove]
  split
  · split
    · exact h.same _ _
    split
    · exact h.same _ _
    · exact h.tail (q := ⟨(dropS p.f id).1, p.d, p.now⟩) ⟨drop_fm h.fm _, h.us, h.now⟩ _
  split
  · exact h.same _ _
  · exact h.tail h _
theorem Gd.flush {m p} (h : Gd m p) (id : Int) : GdR m (poolFlush p id) := by
  rw [poolFlush]
  split
  · split <;> exact h.same _ _
  split
  · exact h.same _ _
  split
  · exact h.same _ _
  · exact ⟨h.wb id, Nat.le_trans (wb_len p id) (by decide)⟩
theorem Gd.ageL {m p} (h : Gd m p) : ∀ (ids : List Int) {q : PS} (l : List Jo), Gd m q → Gd m (ageL p ids q l).1 ∧ (ageL p ids q l).2.2.1.length ≤ l.length + 10 * ids.length
  | [], q, l, hq => ⟨hq, by show l.length ≤ _; omega⟩
  | id :: r, q, l, hq => by
    rw [Lk.ageL]
    split
    · exact ⟨h, Nat.zero_le _⟩
    · have ih := Gd.ageL h r (l ++ (wbM q id).2.1) (hq.wb id)
      refine ⟨ih.1, ?_⟩
      have h2 := ih.2
      have h3 := wb_len q id
      rw [List.length_append] at h2
      show _ ≤ l.length + 10 * (r.length + 1)
      omega
theorem Gd.age {m p} (h : Gd m p) (n : Int) : GdR m (poolAge p n) := by
  have h1 := h.ageL (Dt.dueG p.f.dt p.now n) [] h
  have h2 := due_len (now := p.now) (age := n) h.fm.dt
  refine ⟨h1.1, ?_⟩
  have h3 := h1.2
  rw [poolAge]
  simp only [List.length_nil] at h3
  omega
theorem Gd.pinned {m p} (h : Gd m p) (a : PAct) : Gd m (pinnedM p a).1 := by
  rw [pinnedM]
  split
  · exact h
  split
  · split
    · exact h
    · exact ⟨write_fm h.fm _ _ _, h.us, h.now⟩
  split
  · split
    · exact h
    · exact ⟨unpin_fm h.fm _, h.us, h.now⟩
  · exact h
theorem Gd.act {m p} (h : Gd m p) (a : PAct) : GdR m (poolDo p a) := by
  rw [poolDo]
  repeat' split
  · exact h.same _ _
  · exact h.same _ _
  · exact h.fetch _
  · exact h.create _
  · exact h.remove _
  · exact h.flush _
  · exact h.age _
  · exact ⟨h.pinned a, Nat.zero_le _⟩
theorem FM.fl {f : FX} (h : FM f) : 1 ≤ f.fr.length ∧ f.fr.length ≤ 8 := ⟨h.ck.one, h.ck.most⟩
end Go.Lk

namespace Go.Lk
open Go Go.Proofs Go.RowKit

/-! ### what a crash keeps -/
def encN (n : Int) : List D := [.int .i64 n]
def keepB (keep : List Int) (i : Nat) : Bool := keep.any fun k => decide (k = (i : Int))
def kptL (keep : List Int) : List Wt → Nat → List Wt
  | [], _ => []
  | w :: r, i => if keepB keep i = true then w :: kptL keep r (i + 1) else kptL keep r (i + 1)
theorem kptL_snoc (keep : List Int) (w : Wt) : ∀ (l : List Wt) (i : Nat), kptL keep (l ++ [w]) i = kptL keep l i ++ (if keepB keep (i + l.length) = true then [w] else [])
  | [], i => by
    show kptL keep [w] i = _
    rw [kptL, kptL]
    simp [kptL]
  | x :: r, i => by
    show kptL keep (x :: (r ++ [w])) i = _
    rw [kptL, kptL, kptL_snoc keep w r (i + 1)]
    rw [show i + 1 + r.length = i + (x :: r).length by simp; omega]
    split <;> simp
theorem kptL_mem {keep : List Int} {w : Wt} : ∀ {l : List Wt} {i : Nat}, w ∈ kptL keep l i → w ∈ l
  | [], _, h => by cases h
  | x :: r, i, h => by
    rw [kptL] at h
    split at h
    · cases h with
      | head => exact .head _
      | tail _ h => exact .tail _ (kptL_mem h)
    · exact .tail _ (kptL_mem h)
theorem kptL_len (keep : List Int) : ∀ (l : List Wt) (i : Nat), (kptL keep l i).length ≤ l.length
  | [], _ => Nat.le_refl _
  | x :: r, i => by
    have := kptL_len keep r (i + 1)
    rw [kptL]
    split <;> simp only [List.length_cons] <;> omega
open Classical in
noncomputable def crashD (d : DS) (keep : List Int) : DS := if DR d then ⟨wrS d.sec (kptL keep d.ca 0), []⟩ else d
theorem crashD_us {d : DS} (h : Us d) (keep : List Int) : Us (crashD d keep) ∧ (crashD d keep).ca = [] := by
  rw [crashD, if_pos h.dr]
  refine ⟨⟨⟨?_, ?_, Nat.zero_le _, wrS_sz (n := 0) _ _ h.dr.s fun w hw => ?_, fun i hi => absurd hi (Nat.not_lt_zero _)⟩, ?_⟩, rfl⟩
  · show 1 ≤ (wrS d.sec _).length; rw [wrS_len]; exact h.dr.s1
  · show (wrS d.sec _).length ≤ 64; rw [wrS_len]; exact h.dr.s2
  · obtain ⟨i, hi, rfl⟩ := List.mem_iff_getElem.1 (kptL_mem hw)
    exact (okW_out.1 (h.dr.c i hi)).2.2
  · show 35 ≤ (wrS d.sec _).length; rw [wrS_len]; exact h.n
def kpR (keep : List Int) (n : Nat) : List (List D) := (List.range n).map fun i => [.bool (keepB keep i)]
theorem kpR_0 (n : Nat) : List.replicate n [D.bool false] = kpR [] n := by
  apply List.ext_getElem
  · simp [kpR]
  · intro i h1 h2
    rw [List.getElem_replicate]
    simp [kpR, keepB]
theorem kpR_at {keep : List Int} {n i : Nat} (h : i < n) : (kpR keep n)[i]? = some [.bool (keepB keep i)] := by
  rw [kpR, List.getElem?_map, List.getElem?_range h]; rfl
theorem kpR_len {keep : List Int} {n : Nat} : (kpR keep n).length = n := by simp [kpR]
theorem kpR_set {keep : List Int} {n : Nat} {k : Int} (h0 : 0 ≤ k) (h : k.toNat < n) : (kpR keep n).set k.toNat [.bool true] = kpR (keep ++ [k]) n := by
  apply List.ext_getElem
  · simp [kpR]
  · intro i h1 h2
    rw [List.getElem_set]
    simp only [kpR, List.getElem_map, List.getElem_range, keepB, List.any_append, List.any_cons, List.any_nil, Bool.or_false]
    by_cases e : k.toNat = i
    · rw [if_pos e, decide_eq_true (by omega), Bool.or_true]
    · rw [if_neg e, decide_eq_false (by omega), Bool.or_false]
theorem kpR_no {keep : List Int} {n : Nat} {k : Int} (h : k < 0 ∨ (n : Int) ≤ k) : kpR (keep ++ [k]) n = kpR keep n := by
  apply List.ext_getElem
  · simp [kpR]
  · intro i h1 h2
    have hi : i < n := by simpa [kpR] using h2
    simp only [kpR, List.getElem_map, List.getElem_range, keepB, List.any_append, List.any_cons, List.any_nil, Bool.or_false]
    rw [decide_eq_false (by omega), Bool.or_false]
theorem dcrash_ok (d : DS) (keep : List Int) (hk : keep.length ≤ 1000000) : ACall Tryz.prog 70 [encDS d, .lst (keep.map encN)] (encDS (crashD d keep)) := by
  have m2 : (d.ca.map encW).length = d.ca.length := List.length_map ..
  have m3 : (keep.map encN).length = keep.length := List.length_map ..
  refine acall_of Tryz.func70 2 rfl (by kernel_rfl) ?_
  conv => whnf
  repeat ((first | refine bF ?_ | refine bT ?_ | refine dK (by kernel_rfl) ?_ | refine cK rfl ?_ | refine cK (by first | decide | omega) ?_ | refine wK (by omega) (by omega) ?_); conv => whnf)
  refine callX_pure (dRight_ok d) ?_
  conv => whnf
  repeat ((first | refine bF ?_ | refine bT ?_ | refine dK (by kernel_rfl) ?_ | refine cK rfl ?_ | refine cK (by first | decide | omega) ?_ | refine wK (by omega) (by omega) ?_); conv => whnf)
  refine bcase_intro (fun h1 => ?_) (fun h1 => ?_) <;> conv => whnf
  · repeat ((first | refine bF ?_ | refine bT ?_ | refine dK (by kernel_rfl) ?_ | refine cK rfl ?_ | refine cK (by first | decide | omega) ?_ | refine wK (by omega) (by omega) ?_); conv => whnf)
    have hn : ¬ DR d := drB_f.1 (by simpa using h1)
    rw [crashD, if_neg hn]
    exact ret_of rfl rfl
  have hR : DR d := drB_t.1 (by simpa using h1)
  have a1 := hR.s2; have a2 := hR.c1
  rw [crashD, if_pos hR]
  repeat ((first | refine bF ?_ | refine bT ?_ | refine dK (by kernel_rfl) ?_ | refine cK rfl ?_ | refine cK (by first | decide | omega) ?_ | refine wK (by omega) (by omega) ?_); conv => whnf)
  refine roomK_le 1000 1000 (by simp; omega) (by decide) (by decide) (by decide) ?_
  conv => whnf
  rw [show List.replicate (((d.ca.map encW).length : Int)).toNat (T 4).zero = kpR [] d.ca.length by
    rw [m2, Int.toNat_natCast]; exact kpR_0 _]
  refine aloop (ι := Nat) (fun j => [(2, .ptr 2 0 0), (4, .ptr 4 0 0), (5, .own 18), (19, .d (.lst (keep.map encN))), (20, .d (.int .i64 (keep.map encN).length)), (21, .d (.int .i64 j))])
    (fun j => [(2, .box [.d (.lst (d.sec.map encB)), .d (.lst (d.ca.map encW))] false), (4, .box [.nil, .nil] false), (18, .row (kpR (keep.take j) d.ca.length) 1 false)])
    (fun j => j ≤ keep.length) (fun j => keep.length - j) 0 (Nat.zero_le _) (le0 (le_of_cov ⟨rfl, rfl, rfl, rfl, rfl, rfl, trivial⟩ ⟨rfl, rfl, rfl, trivial⟩ ⟨rfl, rfl, rfl, rfl⟩)) ?_
  intro j hj
  have hkl : (kpR (keep.take j) d.ca.length).length = d.ca.length := kpR_len
  conv => whnf
  refine bcase_p (fun h5 => ?_) (fun h5 => ?_) <;> conv => whnf
  · have hj2 : j < keep.length := by omega
    have en : kpR (keep.take (j + 1)) d.ca.length = kpR (keep.take j ++ [keep[j]]) d.ca.length := by rw [take_snoc hj2]
    refine idxK_nat (by omega) ?_
    conv => whnf
    refine getRow_of (x := encN keep[j]) (by simp [hj2]) ?_
    conv => whnf
    repeat ((first | refine bF ?_ | refine bT ?_ | refine dK (by kernel_rfl) ?_ | refine cK rfl ?_ | refine cK (by first | decide | omega) ?_ | refine wK (by omega) (by omega) ?_); conv => whnf)
    refine bcase_p (fun h6 => ?_) (fun h6 => ?_) <;> conv => whnf
    rotate_left
    · repeat ((first | refine bF ?_ | refine bT ?_ | refine dK (by kernel_rfl) ?_ | refine cK rfl ?_ | refine cK (by first | decide | omega) ?_ | refine wK (by omega) (by omega) ?_); conv => whnf)
      rw [← kpR_no (k := keep[j]) (.inl (by omega)), ← en]
      exact ⟨j + 1, by omega, by omega, (le0 (le_of_cov ⟨rfl, rfl, rfl, rfl, rfl, rfl, trivial⟩ ⟨rfl, rfl, rfl, trivial⟩ ⟨rfl, rfl, rfl, rfl⟩))⟩
    repeat ((first | refine bF ?_ | refine bT ?_ | refine dK (by kernel_rfl) ?_ | refine cK rfl ?_ | refine cK (by first | decide | omega) ?_ | refine wK (by omega) (by omega) ?_); conv => whnf)
    refine bcase_p (fun h7 => ?_) (fun h7 => ?_) <;> conv => whnf
    rotate_left
    · repeat ((first | refine bF ?_ | refine bT ?_ | refine dK (by kernel_rfl) ?_ | refine cK rfl ?_ | refine cK (by first | decide | omega) ?_ | refine wK (by omega) (by omega) ?_); conv => whnf)
      rw [← kpR_no (k := keep[j]) (.inr (by rw [hkl] at h7; omega)), ← en]
      exact ⟨j + 1, by omega, by omega, (le0 (le_of_cov ⟨rfl, rfl, rfl, rfl, rfl, rfl, trivial⟩ ⟨rfl, rfl, rfl, trivial⟩ ⟨rfl, rfl, rfl, rfl⟩))⟩
    rw [hkl] at h7
    repeat ((first | refine bF ?_ | refine bT ?_ | refine dK (by kernel_rfl) ?_ | refine cK rfl ?_ | refine cK (by first | decide | omega) ?_ | refine wK (by omega) (by omega) ?_); conv => whnf)
    refine idxK_int (by omega) (by rw [hkl]; omega) ?_
    conv => whnf
    refine getRow_of (kpR_at (by omega)) ?_
    conv => whnf
    repeat ((first | refine bF ?_ | refine bT ?_ | refine dK (by kernel_rfl) ?_ | refine cK rfl ?_ | refine cK (by first | decide | omega) ?_ | refine wK (by omega) (by omega) ?_); conv => whnf)
    exact ⟨j + 1, by omega, by omega, le0 (le_of_cov ⟨rfl, rfl, rfl, rfl, rfl, rfl, trivial⟩ ⟨rfl, rfl, by rw [en, ← kpR_set h6 (by omega)]; rfl, trivial⟩ ⟨rfl, rfl, rfl, rfl⟩)⟩
  have ej : j = keep.length := by omega
  subst ej
  rw [List.take_length] at hkl ⊢
  repeat ((first | refine bF ?_ | refine bT ?_ | refine dK (by kernel_rfl) ?_ | refine cK rfl ?_ | refine cK (by first | decide | omega) ?_ | refine wK (by omega) (by omega) ?_); conv => whnf)
  refine aloop (ι := Nat) (fun i => [(2, .ptr 2 0 0), (4, .ptr 4 0 0), (5, .own 18), (8, .own 52), (38, .d (.lst (d.ca.map encW))), (39, .d (.int .i64 (d.ca.map encW).length)), (40, .d (.int .i64 i))])
    (fun i => [(2, .box [.d (.lst (d.sec.map encB)), .d (.lst (d.ca.map encW))] false), (4, .box [.nil, .nil] false), (18, .row (kpR keep d.ca.length) 1 false), (52, .row ((kptL keep (d.ca.take i) 0).map encW) 2 false)])
    (fun i => i ≤ d.ca.length) (fun i => d.ca.length - i) 0 (Nat.zero_le _) (le1 (.row 8 52 2) ⟨rfl, rfl⟩ (le_of_cov ⟨rfl, rfl, rfl, rfl, rfl, rfl, rfl, trivial⟩ ⟨rfl, rfl, rfl, rfl, trivial⟩ ⟨rfl, rfl, rfl, rfl⟩)) ?_
  intro i hi
  conv => whnf
  refine bcase_p (fun h8 => ?_) (fun h8 => ?_) <;> conv => whnf
  · have hi2 : i < d.ca.length := by omega
    have es := kptL_snoc keep d.ca[i] (d.ca.take i) 0
    rw [← take_snoc hi2, List.length_take, Nat.min_eq_left (by omega), Nat.zero_add] at es
    have hln := kptL_len keep (d.ca.take i) 0
    rw [List.length_take] at hln
    refine idxK_nat (by omega) ?_
    conv => whnf
    refine getRow_of (x := encW d.ca[i]) (by simp [hi2]) ?_
    conv => whnf
    repeat ((first | refine bF ?_ | refine bT ?_ | refine dK (by kernel_rfl) ?_ | refine cK rfl ?_ | refine cK (by first | decide | omega) ?_ | refine wK (by omega) (by omega) ?_); conv => whnf)
    refine idxK_nat (by omega) ?_
    conv => whnf
    refine getRow_of (kpR_at hi2) ?_
    conv => whnf
    repeat ((first | refine bF ?_ | refine bT ?_ | refine dK (by kernel_rfl) ?_ | refine cK rfl ?_ | refine cK (by first | decide | omega) ?_ | refine wK (by omega) (by omega) ?_); conv => whnf)
    refine bcase_intro (fun h9 => ?_) (fun h9 => ?_) <;> conv => whnf
    · repeat ((first | refine bF ?_ | refine bT ?_ | refine dK (by kernel_rfl) ?_ | refine cK rfl ?_ | refine cK (by first | decide | omega) ?_ | refine wK (by omega) (by omega) ?_); conv => whnf)
      refine roomK_le 1000 1000 (by show (List.map encW _).length + 1 ≤ 1000; rw [List.length_map]; omega) (by decide) (by decide) (by decide) ?_
      conv => whnf
      repeat ((first | refine bF ?_ | refine bT ?_ | refine dK (by kernel_rfl) ?_ | refine cK rfl ?_ | refine cK (by first | decide | omega) ?_ | refine wK (by omega) (by omega) ?_); conv => whnf)
      rw [if_pos h9] at es
      exact ⟨i + 1, by omega, by omega, le0 (le_of_cov ⟨rfl, rfl, rfl, rfl, rfl, rfl, rfl, trivial⟩ ⟨rfl, rfl, rfl, by rw [es, List.map_append]; rfl, trivial⟩ ⟨rfl, rfl, rfl, rfl⟩)⟩
    · repeat ((first | refine bF ?_ | refine bT ?_ | refine dK (by kernel_rfl) ?_ | refine cK rfl ?_ | refine cK (by first | decide | omega) ?_ | refine wK (by omega) (by omega) ?_); conv => whnf)
      rw [if_neg (by rw [h9]; decide), List.append_nil] at es
      exact ⟨i + 1, by omega, by omega, le0 (le_of_cov ⟨rfl, rfl, rfl, rfl, rfl, rfl, rfl, trivial⟩ ⟨rfl, rfl, rfl, by rw [es]; rfl, trivial⟩ ⟨rfl, rfl, rfl, rfl⟩)⟩
  have ei : i = d.ca.length := by omega
  subst ei
  rw [List.take_length]
  have hln := kptL_len keep d.ca 0
  have hkw : ∀ i, (hi : i < (kptL keep d.ca 0).length) → okW d.sec.length (kptL keep d.ca 0)[i] = true := fun i hi => by
    obtain ⟨j, hj, e⟩ := List.mem_iff_getElem.1 (kptL_mem (List.getElem_mem hi))
    rw [← e]; exact hR.c j hj
  repeat ((first | refine bF ?_ | refine bT ?_ | refine dK (by kernel_rfl) ?_ | refine cK rfl ?_ | refine cK (by first | decide | omega) ?_ | refine wK (by omega) (by omega) ?_); conv => whnf)
  refine callX_pure (written_ok d (kptL keep d.ca 0) (by omega) (by omega) hkw) ?_
  conv => whnf
  repeat ((first | refine bF ?_ | refine bT ?_ | refine dK (by kernel_rfl) ?_ | refine cK rfl ?_ | refine cK (by first | decide | omega) ?_ | refine wK (by omega) (by omega) ?_); conv => whnf)
  exact ret_of rfl rfl
end Go.Lk

namespace Go.Lk
open Go Go.Proofs Go.RowKit

/-! ### trials -/
structure TS where
  p : PS
  left : Int
  armed : Bool
  down : Bool
def TS.cells (t : TS) : List D := [.lst (t.p.f.fr.map encF), .int .i64 t.p.f.hand, encIs t.p.f.tb, .lst (t.p.f.pg.map encP), encIs t.p.f.dt, .lst (t.p.d.sec.map encB), .lst (t.p.d.ca.map encW), .int .i64 t.p.now, .int .i64 t.left, .bool t.armed, .bool t.down]
def encTS (t : TS) : D := .agg t.cells
def noTS : TS := ⟨noPS, 0, false, false⟩
noncomputable def newT (d : DS) (n : Int) : TS × Int := if (openM d n).2 ≠ 0 then (noTS, (openM d n).2) else (⟨(openM d n).1, 0, false, false⟩, 0)
theorem newT_ok (d : DS) (n : Int) : ACall Tryz.prog 30 [encDS d, .int .i64 n] (.tup [encTS (newT d n).1, .int .i64 (newT d n).2]) := by
  refine acall_of Tryz.func30 2 rfl (by kernel_rfl) ?_
  conv => whnf
  repeat ((first | refine bF ?_ | refine bT ?_ | refine dK (by kernel_rfl) ?_ | refine cK rfl ?_ | refine cK (by first | decide | omega) ?_ | refine wK (by omega) (by omega) ?_); conv => whnf)
  refine callX_pure (open_ok d n) ?_
  conv => whnf
  repeat ((first | refine bF ?_ | refine bT ?_ | refine dK (by kernel_rfl) ?_ | refine cK rfl ?_ | refine cK (by first | decide | omega) ?_ | refine wK (by omega) (by omega) ?_); conv => whnf)
  refine bcase_n (fun h1 => ?_) (fun h1 => ?_) <;> conv => whnf
  · repeat ((first | refine bF ?_ | refine bT ?_ | refine dK (by kernel_rfl) ?_ | refine cK rfl ?_ | refine cK (by first | decide | omega) ?_ | refine wK (by omega) (by omega) ?_); conv => whnf)
    rw [newT, if_pos h1]
    exact ret_of rfl rfl
  repeat ((first | refine bF ?_ | refine bT ?_ | refine dK (by kernel_rfl) ?_ | refine cK rfl ?_ | refine cK (by first | decide | omega) ?_ | refine wK (by omega) (by omega) ?_); conv => whnf)
  rw [newT, if_neg (by simpa using h1)]
  exact ret_of rfl rfl
noncomputable def doT (t : TS) (a : PAct) : TS × Pg × Int :=
  if t.down = true then (t, zP, 13)
  else if t.armed = true ∧ t.left < ((poolDo t.p a).2.2.1.length : Nat) then (⟨⟨t.p.f, runM t.p.d (poolDo t.p a).2.2.1 t.left, t.p.now⟩, 0, t.armed, true⟩, zP, 13)
  else (⟨(poolDo t.p a).1, if t.armed = true then t.left - ((poolDo t.p a).2.2.1.length : Nat) else t.left, t.armed, t.down⟩, (poolDo t.p a).2.1, (poolDo t.p a).2.2.2)
theorem doT_ok (t : TS) (a : PAct) (hF : FM t.p.f) (hn : t.p.now ≤ 2147483647) (h0 : 0 ≤ t.left) (h1 : t.left ≤ 1000000000) (hl : (poolDo t.p a).2.2.1.length ≤ 1000000) :
    ACall Tryz.prog 32 [encTS t, .agg (encPA a)] (.tup [encTS (doT t a).1, .agg (encP (doT t a).2.1), .int .i64 (doT t a).2.2]) := by
  have hm : ((poolDo t.p a).2.2.1.map encJ).length = (poolDo t.p a).2.2.1.length := List.length_map ..
  have hb (x y : Bool) (e : x = y) : D.bool x = D.bool y := by rw [e]
  refine acall_of Tryz.func32 2 rfl (by kernel_rfl) ?_
  conv => whnf
  repeat ((first | refine bF ?_ | refine bT ?_ | refine dK (by kernel_rfl) ?_ | refine cK rfl ?_ | refine cK (by first | decide | omega) ?_ | refine wK (by omega) (by omega) ?_); conv => whnf)
  refine bcase_intro (fun g1 => ?_) (fun g1 => ?_) <;> conv => whnf
  · repeat ((first | refine bF ?_ | refine bT ?_ | refine dK (by kernel_rfl) ?_ | refine cK rfl ?_ | refine cK (by first | decide | omega) ?_ | refine wK (by omega) (by omega) ?_); conv => whnf)
    rw [doT, if_pos g1]
    exact ret_of rfl rfl
  rw [doT, if_neg (by rw [g1]; decide)]
  repeat ((first | refine bF ?_ | refine bT ?_ | refine dK (by kernel_rfl) ?_ | refine cK rfl ?_ | refine cK (by first | decide | omega) ?_ | refine wK (by omega) (by omega) ?_); conv => whnf)
  refine callX_pure (poolDo_ok t.p a hF hn) ?_
  conv => whnf
  repeat ((first | refine bF ?_ | refine bT ?_ | refine dK (by kernel_rfl) ?_ | refine cK rfl ?_ | refine cK (by first | decide | omega) ?_ | refine wK (by omega) (by omega) ?_); conv => whnf)
  refine bcase_intro (fun g2 => ?_) (fun g2 => ?_) <;> conv => whnf
  · repeat ((first | refine bF ?_ | refine bT ?_ | refine dK (by kernel_rfl) ?_ | refine cK rfl ?_ | refine cK (by first | decide | omega) ?_ | refine wK (by omega) (by omega) ?_); conv => whnf)
    refine bcase_p (fun g3 => ?_) (fun g3 => ?_) <;> conv => whnf
    · rw [hm] at g3
      rw [if_pos ⟨g2, g3⟩]
      repeat ((first | refine bF ?_ | refine bT ?_ | refine dK (by kernel_rfl) ?_ | refine cK rfl ?_ | refine cK (by first | decide | omega) ?_ | refine wK (by omega) (by omega) ?_); conv => whnf)
      refine callX_pure (run_ok t.p.d (poolDo t.p a).2.2.1 t.left hl) ?_
      conv => whnf
      repeat ((first | refine bF ?_ | refine bT ?_ | refine dK (by kernel_rfl) ?_ | refine cK rfl ?_ | refine cK (by first | decide | omega) ?_ | refine wK (by omega) (by omega) ?_); conv => whnf)
      exact ret_of rfl rfl
    rw [hm] at g3
    rw [if_neg (fun g => g3 g.2)]
    repeat ((first | refine bF ?_ | refine bT ?_ | refine dK (by kernel_rfl) ?_ | refine cK rfl ?_ | refine cK (by first | decide | omega) ?_ | refine wK (by omega) (by omega) ?_); conv => whnf)
    refine bcase_t g2 ?_
    conv => whnf
    repeat ((first | refine bF ?_ | refine bT ?_ | refine dK (by kernel_rfl) ?_ | refine cK rfl ?_ | refine cK (by first | decide | omega) ?_ | refine wK (by omega) (by omega) ?_); conv => whnf)
    rw [if_pos g2, ← hm]
    exact ret_of rfl rfl
  rw [if_neg (fun g => by rw [g2] at g; cases g.1)]
  repeat ((first | refine bF ?_ | refine bT ?_ | refine dK (by kernel_rfl) ?_ | refine cK rfl ?_ | refine cK (by first | decide | omega) ?_ | refine wK (by omega) (by omega) ?_); conv => whnf)
  refine bcase_f g2 ?_
  conv => whnf
  repeat ((first | refine bF ?_ | refine bT ?_ | refine dK (by kernel_rfl) ?_ | refine cK rfl ?_ | refine cK (by first | decide | omega) ?_ | refine wK (by omega) (by omega) ?_); conv => whnf)
  rw [if_neg (by rw [g2]; decide)]
  exact ret_of rfl rfl
def armT (t : TS) (n : Int) : TS := if t.down = true then t else ⟨t.p, min (max n 0) 1048576, true, t.down⟩
theorem armT_ok (t : TS) (n : Int) : ACall Tryz.prog 33 [encTS t, .int .i64 n] (encTS (armT t n)) := by
  refine acall_of Tryz.func33 2 rfl (by kernel_rfl) ?_
  conv => whnf
  repeat ((first | refine bF ?_ | refine bT ?_ | refine dK (by kernel_rfl) ?_ | refine cK rfl ?_ | refine cK (by first | decide | omega) ?_ | refine wK (by omega) (by omega) ?_); conv => whnf)
  refine bcase_intro (fun g1 => ?_) (fun g1 => ?_) <;> conv => whnf
  · repeat ((first | refine bF ?_ | refine bT ?_ | refine dK (by kernel_rfl) ?_ | refine cK rfl ?_ | refine cK (by first | decide | omega) ?_ | refine wK (by omega) (by omega) ?_); conv => whnf)
    rw [armT, if_pos g1]
    exact ret_of rfl rfl
  rw [armT, if_neg (by rw [g1]; decide)]
  repeat ((first | refine bF ?_ | refine bT ?_ | refine dK (by kernel_rfl) ?_ | refine cK rfl ?_ | refine cK (by first | decide | omega) ?_ | refine wK (by omega) (by omega) ?_); conv => whnf)
  exact ret_of rfl rfl
noncomputable def reopenT (t : TS) (d : DS) : TS := if (openM d t.p.f.fr.length).2 ≠ 0 then noTS else ⟨⟨(openM d t.p.f.fr.length).1.f, (openM d t.p.f.fr.length).1.d, t.p.now⟩, 0, false, false⟩
theorem reopenT_ok (t : TS) (d : DS) : ACall Tryz.prog 69 [encTS t, encDS d] (encTS (reopenT t d)) := by
  have hm : (t.p.f.fr.map encF).length = t.p.f.fr.length := List.length_map ..
  refine acall_of Tryz.func69 2 rfl (by kernel_rfl) ?_
  conv => whnf
  repeat ((first | refine bF ?_ | refine bT ?_ | refine dK (by kernel_rfl) ?_ | refine cK rfl ?_ | refine cK (by first | decide | omega) ?_ | refine wK (by omega) (by omega) ?_); conv => whnf)
  rw [hm]
  refine callX_pure (open_ok d t.p.f.fr.length) ?_
  conv => whnf
  repeat ((first | refine bF ?_ | refine bT ?_ | refine dK (by kernel_rfl) ?_ | refine cK rfl ?_ | refine cK (by first | decide | omega) ?_ | refine wK (by omega) (by omega) ?_); conv => whnf)
  refine bcase_n (fun h1 => ?_) (fun h1 => ?_) <;> conv => whnf
  · repeat ((first | refine bF ?_ | refine bT ?_ | refine dK (by kernel_rfl) ?_ | refine cK rfl ?_ | refine cK (by first | decide | omega) ?_ | refine wK (by omega) (by omega) ?_); conv => whnf)
    rw [reopenT, if_pos h1]
    exact ret_of rfl rfl
  repeat ((first | refine bF ?_ | refine bT ?_ | refine dK (by kernel_rfl) ?_ | refine cK rfl ?_ | refine cK (by first | decide | omega) ?_ | refine wK (by omega) (by omega) ?_); conv => whnf)
  rw [reopenT, if_neg (by simpa using h1)]
  exact ret_of rfl rfl
noncomputable def crashT (t : TS) (keep : List Int) : TS := reopenT t (crashD t.p.d keep)
theorem crashT_ok (t : TS) (keep : List Int) (hk : keep.length ≤ 1000000) : ACall Tryz.prog 36 [encTS t, .lst (keep.map encN)] (encTS (crashT t keep)) := by
  refine acall_of Tryz.func36 2 rfl (by kernel_rfl) ?_
  conv => whnf
  repeat ((first | refine bF ?_ | refine bT ?_ | refine dK (by kernel_rfl) ?_ | refine cK rfl ?_ | refine cK (by first | decide | omega) ?_ | refine wK (by omega) (by omega) ?_); conv => whnf)
  refine callX_pure (dcrash_ok t.p.d keep hk) ?_
  conv => whnf
  repeat ((first | refine bF ?_ | refine bT ?_ | refine dK (by kernel_rfl) ?_ | refine cK rfl ?_ | refine cK (by first | decide | omega) ?_ | refine wK (by omega) (by omega) ?_); conv => whnf)
  refine callX_pure (reopenT_ok t (crashD t.p.d keep)) ?_
  conv => whnf
  repeat ((first | refine bF ?_ | refine bT ?_ | refine dK (by kernel_rfl) ?_ | refine cK rfl ?_ | refine cK (by first | decide | omega) ?_ | refine wK (by omega) (by omega) ?_); conv => whnf)
  exact ret_of rfl rfl
noncomputable def cutT (t : TS) (keep : List Int) (n : Int) (keeps : List Int) : TS := reopenT t (crashD (runM (crashD t.p.d keep) (repairM (crashD t.p.d keep)) n) keeps)
theorem cutT_ok (t : TS) (keep : List Int) (n : Int) (keeps : List Int) (hk : keep.length ≤ 1000000) (hk2 : keeps.length ≤ 1000000) : ACall Tryz.prog 37 [encTS t, .lst (keep.map encN), .int .i64 n, .lst (keeps.map encN)] (encTS (cutT t keep n keeps)) := by
  have hl := repairM_len (crashD t.p.d keep)
  refine acall_of Tryz.func37 4 rfl (by kernel_rfl) ?_
  conv => whnf
  repeat ((first | refine bF ?_ | refine bT ?_ | refine dK (by kernel_rfl) ?_ | refine cK rfl ?_ | refine cK (by first | decide | omega) ?_ | refine wK (by omega) (by omega) ?_); conv => whnf)
  refine callX_pure (dcrash_ok t.p.d keep hk) ?_
  conv => whnf
  repeat ((first | refine bF ?_ | refine bT ?_ | refine dK (by kernel_rfl) ?_ | refine cK rfl ?_ | refine cK (by first | decide | omega) ?_ | refine wK (by omega) (by omega) ?_); conv => whnf)
  refine callX_own (repair_ok (crashD t.p.d keep)) ?_
  conv => whnf
  repeat ((first | refine bF ?_ | refine bT ?_ | refine dK (by kernel_rfl) ?_ | refine cK rfl ?_ | refine cK (by first | decide | omega) ?_ | refine wK (by omega) (by omega) ?_); conv => whnf)
  refine callX_pure (run_ok (crashD t.p.d keep) (repairM (crashD t.p.d keep)) n (by omega)) ?_
  conv => whnf
  repeat ((first | refine bF ?_ | refine bT ?_ | refine dK (by kernel_rfl) ?_ | refine cK rfl ?_ | refine cK (by first | decide | omega) ?_ | refine wK (by omega) (by omega) ?_); conv => whnf)
  refine callX_pure (dcrash_ok (runM (crashD t.p.d keep) (repairM (crashD t.p.d keep)) n) keeps hk2) ?_
  conv => whnf
  repeat ((first | refine bF ?_ | refine bT ?_ | refine dK (by kernel_rfl) ?_ | refine cK rfl ?_ | refine cK (by first | decide | omega) ?_ | refine wK (by omega) (by omega) ?_); conv => whnf)
  refine callX_pure (reopenT_ok t (crashD (runM (crashD t.p.d keep) (repairM (crashD t.p.d keep)) n) keeps)) ?_
  conv => whnf
  repeat ((first | refine bF ?_ | refine bT ?_ | refine dK (by kernel_rfl) ?_ | refine cK rfl ?_ | refine cK (by first | decide | omega) ?_ | refine wK (by omega) (by omega) ?_); conv => whnf)
  exact ret_of rfl rfl
/-- what of a trial is needed to go on -/
structure GT (m : Int) (t : TS) : Prop where
  gd : Gd m t.p
  l0 : 0 ≤ t.left
  l1 : t.left ≤ 1048576
theorem GT.do {m t} (h : GT m t) (a : PAct) : GT m (doT t a).1 := by
  have h1 := h.gd.act a
  rw [doT]
  split
  · exact h
  split
  · exact ⟨⟨h.gd.fm, runM_us h.gd.us _ _, h.gd.now⟩, show (0 : Int) ≤ 0 by decide, show (0 : Int) ≤ 1048576 by decide⟩
  · rename_i g
    refine ⟨h1.1, ?_, ?_⟩
    · show 0 ≤ ite _ _ _
      split
      · rename_i g2
        have : ¬ t.left < ((poolDo t.p a).2.2.1.length : Nat) := fun q => g ⟨g2, q⟩
        omega
      · exact h.l0
    · have := h.l1
      show ite _ _ _ ≤ _
      split <;> omega
theorem GT.arm {m t} (h : GT m t) (n : Int) : GT m (armT t n) := by
  rw [armT]
  split
  · exact h
  · exact ⟨h.gd, by show 0 ≤ min _ _; omega, by show min _ _ ≤ _; omega⟩
theorem GT.reopen {m t} (h : GT m t) {d : DS} (hd : Us d) (hc : d.ca = []) : GT m (reopenT t d) ∧ reopenT t d = ⟨⟨newFS t.p.f.fr.length, recM d, t.p.now⟩, 0, false, false⟩ := by
  obtain ⟨f1, f8⟩ := h.gd.fm.fl
  have e := open_yes (n := (t.p.f.fr.length : Nat)) hd (by rw [hc]; rfl) (by omega) (by omega)
  rw [Int.toNat_natCast] at e
  have e2 : reopenT t d = ⟨⟨newFS t.p.f.fr.length, recM d, t.p.now⟩, 0, false, false⟩ := by
    rw [reopenT, e, if_neg (fun g => g rfl)]
  rw [e2]
  exact ⟨⟨⟨FM.new f1 f8, rec_us hd, h.gd.now⟩, show (0 : Int) ≤ 0 by decide, show (0 : Int) ≤ 1048576 by decide⟩, rfl⟩
theorem GT.crash {m t} (h : GT m t) (keep : List Int) : GT m (crashT t keep) :=
  have := crashD_us h.gd.us keep
  (h.reopen this.1 this.2).1
theorem GT.cut {m t} (h : GT m t) (keep : List Int) (n : Int) (keeps : List Int) : GT m (cutT t keep n keeps) :=
  have h1 := crashD_us h.gd.us keep
  have h2 := crashD_us (runM_us h1.1 (repairM (crashD t.p.d keep)) n) keeps
  (h.reopen h2.1 h2.2).1
end Go.Lk

namespace Go.Lk
open Go Go.Proofs Go.RowKit

/-! ### pages that are created one behind the other, and pinned -/
def bP (k : Nat) : Nat → Pg := fun q => if 1 ≤ q ∧ q ≤ k then newP q else zP
def bW (k : Nat) : Nat → Int := fun q => if 1 ≤ q ∧ q ≤ k then 1 else 0
theorem bW_bn : ∀ n, n < 9 → bn (bW n) 16 = n := by decide +kernel
theorem bW_bn2 : ∀ n, n < 9 → ∀ k, k < 9 → 1 ≤ k → k ≤ n → bn (ud (ud (bW n) k 0) (n + 1) 1) 16 = n := by decide +kernel
theorem bP_next (k : Nat) : ud (bP k) (k + 1) (newP (k + 1)) = bP (k + 1) := by
  funext q
  simp only [ud, bP]
  by_cases e : q = k + 1
  · subst e
    rw [if_pos rfl, if_pos ⟨by omega, by omega⟩]
  · rw [if_neg e]
    by_cases h : 1 ≤ q ∧ q ≤ k
    · rw [if_pos h, if_pos ⟨h.1, by omega⟩]
    · rw [if_neg h, if_neg (by omega)]
theorem bW_next (k : Nat) : ud (bW k) (k + 1) 1 = bW (k + 1) := by
  funext q
  simp only [ud, bW]
  by_cases e : q = k + 1
  · subst e
    rw [if_pos rfl, if_pos ⟨by omega, by omega⟩]
  · rw [if_neg e]
    by_cases h : 1 ≤ q ∧ q ≤ k
    · rw [if_pos h, if_pos ⟨h.1, by omega⟩]
    · rw [if_neg h, if_neg (by omega)]
structure BI (n k : Nat) (p : PS) : Prop where
  inv : Inv p (bP k) (bW k) (1 + k) k
  len : p.f.fr.length = n
  d : p.d = newDS
  now : p.now = 0
theorem BI.new {n : Nat} (h1 : 1 ≤ n) (h8 : n ≤ 8) : BI n 0 (p0 n) := by
  refine ⟨?_, List.length_replicate .., rfl, rfl⟩
  have := p0_inv h1 h8
  have e1 : bP 0 = fun _ => zP := by funext q; rw [bP, if_neg (by omega)]
  have e2 : bW 0 = fun _ => 0 := by funext q; rw [bW, if_neg (by omega)]
  rw [e1, e2]; exact this
theorem BI.step {n k : Nat} {p : PS} (h : BI n k p) (h8 : n ≤ 8) (hk : k < n) (b : ByteArray) : ∃ q, poolDo p (2, ((k + 1 : Nat) : Int), b) = (q, newP (k + 1), [], 0) ∧ BI n (k + 1) q := by
  have hbn := bW_bn k (by omega)
  have hd : docM (bP k) (bW k) n (2, ((k + 1 : Nat) : Int), b) = (bP (k + 1), bW (k + 1), newP (k + 1), 0) := by
    rw [docM, if_neg (by simp only []; omega), if_neg (show ¬ (2 : Int) = 8 by decide)]
    simp only [Int.toNat_natCast]
    rw [if_neg (fun g => absurd g.1 (by decide)), if_neg (show ¬ (2 : Int) = 3 by decide), if_neg (show ¬ (2 : Int) = 4 by decide), if_neg (show ¬ (2 : Int) = 5 by decide), if_neg (show ¬ (2 : Int) = 6 by decide), if_neg (show ¬ (2 : Int) = 7 by decide)]
    have hz : bP k (k + 1) = zP := by rw [bP, if_neg (by omega)]
    have hw : bW k (k + 1) = 0 := by rw [bW, if_neg (by omega)]
    rw [thereM, if_neg (fun g => absurd g.1 (by decide)), if_neg (fun g => g.2 (by rw [hz]; rfl)), if_neg (fun g => by have := g.2; omega), if_pos rfl, hw, bP_next, ← bW_next]
    rfl
  have d1 := do_did h.inv (by omega) (by omega) (by omega) (by omega) (2, ((k + 1 : Nat) : Int), b) h.len
  rw [hd] at d1
  obtain ⟨q, l, e1, iq, qn, qlen, run, _, _⟩ := d1.eq
  have hfree : ∃ i, ∃ hi : i < p.f.fr.length, p.f.fr[i].1 = 0 := by
    refine Classical.byContradiction fun g => ?_
    have hne : ∀ i (hi : i < p.f.fr.length), p.f.fr[i].1 ≠ 0 := fun i hi e => g ⟨i, hi, e⟩
    have hb : ¬ ∀ i (hi : i < p.f.fr.length), p.f.fr[i].2.1 ≠ 0 := fun g2 => by
      have := h.inv.busy.2 g2
      have := h.len
      omega
    refine hb fun i hi e0 => ?_
    have hok := frOk_out.1 (h.inv.pj.fm.ck.all i hi)
    have hA := atF_of h.inv.pj.fm (p := (((p.f.fr[i].1).toNat : Nat) : Int)) (by have := hne i hi; omega) hi (by omega)
    have hw := h.inv.wat hA
    have hg := h.inv.at_ _ i hA
    rw [e0] at hw
    have hgt : ¬ (1 ≤ (p.f.fr[i].1).toNat ∧ (p.f.fr[i].1).toNat ≤ k) := fun g3 => by
      rw [bW, if_pos g3] at hw; cases hw
    rw [bP, if_neg hgt] at hg
    have hp := hA.pg
    rw [hg] at hp
    have := hne i hi
    have hp : (0 : Int) = _ := hp
    omega
  have hl : l = [] := by
    have := do2_free h.inv.pj.fm hfree (id := ((k + 1 : Nat) : Int)) (by omega) (by omega) b
    rw [e1] at this; exact this
  subst hl
  refine ⟨q, e1, ⟨iq.mono (by omega) (by omega), qlen.trans h.len, ?_, qn.trans h.now⟩⟩
  exact run.symm.trans h.d
theorem BI.full {n : Nat} {p : PS} (h : BI n n p) (h1 : 1 ≤ n) (h8 : n ≤ 8) (b : ByteArray) : poolDo p (2, ((n + 1 : Nat) : Int), b) = (p, zP, [], 6) ∧ ∀ i (hi : i < p.f.fr.length), p.f.fr[i].2.1 ≠ 0 := by
  have hall : ∀ i (hi : i < p.f.fr.length), p.f.fr[i].2.1 ≠ 0 := h.inv.busy.1 (by rw [bW_bn n (by omega), h.len])
  refine ⟨?_, hall⟩
  have hw : bW n (n + 1) = 0 := by rw [bW, if_neg (by omega)]
  have hn : ∀ i (hi : i < p.f.fr.length), p.f.fr[i].1 ≠ ((n + 1 : Nat) : Int) := fun i hi g => by
    have hA := atF_of h.inv.pj.fm (p := ((n + 1 : Nat) : Int)) (by omega) hi g
    exact hall i hi ((h.inv.wat hA).symm.trans hw)
  have hz : getR p.d.sec (((n + 1 : Nat) : Int)).toNat = (zP, 3) := by
    rw [h.d, Int.toNat_natCast]; exact get_new (by omega)
  rw [do_create (by omega) (by omega), create_step h.inv.pj (by omega) (by omega) hn hz, poolLoad, make_busy h.inv.pj.fm (fun i hi g => hall i hi (h.inv.loose0 hi g)) hall, if_pos (show (6 : Int) ≠ 0 by decide)]
theorem BI.read {n : Nat} {p : PS} (h : BI n n p) (h1 : 1 ≤ n) (h8 : n ≤ 8) {id : Nat} (i1 : 1 ≤ id) (i8 : id ≤ n) (b : ByteArray) : ∃ q l, poolDo p (3, (id : Int), b) = (q, newP id, l, 0) := by
  have hd : docM (bP n) (bW n) n (3, (id : Int), b) = (bP n, bW n, newP id, 0) := by
    rw [docM, if_neg (by simp only []; omega), if_neg (show ¬ (3 : Int) = 8 by decide)]
    simp only [Int.toNat_natCast]
    rw [if_neg (fun g => by rw [bW, if_pos ⟨i1, i8⟩] at g; exact absurd g.2.2 (by decide)), if_pos trivial, bP, if_pos ⟨i1, i8⟩]
  have d1 := do_did h.inv (by omega) (by omega) (by omega) (by omega) (3, (id : Int), b) h.len
  rw [hd] at d1
  obtain ⟨q, l, e1, _⟩ := d1.eq
  exact ⟨q, l, e1⟩
end Go.Lk

namespace Go.Lk
open Go Go.Proofs Go.RowKit

/-- one act whose answer is known -/
theorem act_known {p P W v u} (h : Inv p P W v u) (hv1 : 1 ≤ v) (hv : v < 2147483647) (hu0 : 0 ≤ u) (hu : u < 2147483647) {a : PAct} {n : Nat} (hl : p.f.fr.length = n) {P' W' x e} (hd : docM P W n a = (P', W', x, e)) :
    ∃ q l, poolDo p a = (q, x, l, e) ∧ Inv q P' W' (v + 1) (u + 1) ∧ q.now = p.now ∧ q.f.fr.length = n ∧ runL p.d l = q.d ∧ l.length ≤ 170 ∧ (e ≠ 0 → l = []) ∧ ACall Tryz.prog 18 [encPS p, .agg (encPA a)] (encR4 (q, x, l, e)) := by
  have d := do_did h hv1 hv hu0 hu a hl
  rw [hd] at d
  obtain ⟨q, l, e1, iq, qn, qlen, run, few, none⟩ := d.eq
  have h1 := poolDo_ok p a h.pj.fm h.pj.n1
  rw [e1] at h1
  exact ⟨q, l, e1, iq, qn, qlen.trans hl, run, few, none, h1⟩
def n9 : Pg := (9, 5, { data := #[110, 105, 110, 101] })
def P9 : Nat → Pg := ud (fun _ => zP) 9 n9
def W9 (k : Int) : Nat → Int := ud (fun _ => 0) 9 k
theorem P9_at : P9 9 = n9 := rfl
theorem W9_at (k : Int) : W9 k 9 = k := rfl
theorem W9_next (k j : Int) : ud (W9 k) 9 j = W9 j := by
  funext q
  simp only [W9, ud]
  split <;> rfl
theorem n9_ok : pgR n9 = true := pgR_out.2 ⟨by decide, by decide, by decide, by decide, by decide⟩
theorem newG_9 : (newG [n9]).2 = P9 := by
  show (newStep new0 n9).2 = P9
  rw [newStep, if_pos ⟨n9_ok, by decide⟩]
  rfl
theorem doc_pre {P W n k} {b : ByteArray} (hk : 1 ≤ k) (hk2 : k ≤ 7) : docM P W n (k, 9, b) = if 2 < k ∧ k < 6 ∧ W 9 = 0 then (P, W, zP, 12)
    else if k = 3 then (P, W, P 9, 0)
    else if k = 4 then (if 16 < b.size then (P, W, zP, 5) else (ud P 9 (wrPg (P 9) b), W, wrPg (P 9) b, 0))
    else if k = 5 then (P, ud W 9 (W 9 - 1), zP, 0)
    else if k = 6 then (if 0 < W 9 then (P, W, zP, 6) else if (P 9).1 = 0 then (P, W, zP, 3) else (ud P 9 zP, W, zP, 0))
    else if k = 7 then (if (P 9).1 = 0 then (P, W, zP, 3) else (P, W, zP, 0))
    else thereM P W n k 9 := by
  rw [docM, if_neg (by simp only []; omega), if_neg (by simp only []; omega)]
  rfl
theorem bn_9 : bn (W9 0) 16 = 0 := by decide +kernel
theorem d9_fetch {n : Nat} (h1 : 1 ≤ n) {k : Int} (hk : 0 ≤ k) : docM P9 (W9 k) n (1, 9, ByteArray.empty) = (P9, W9 (k + 1), n9, 0) := by
  rw [doc_pre (by decide) (by decide), if_neg (fun g => absurd g.1 (by decide)), if_neg (by decide), if_neg (by decide), if_neg (by decide), if_neg (by decide), if_neg (by decide)]
  rw [thereM, if_neg (fun g => absurd g.2 (by decide)), if_neg (fun g => absurd g.1 (by decide)), if_neg (fun g => ?_), if_neg (by decide), ud_self, W9_at, W9_next, P9_at]
  obtain ⟨g1, g2⟩ := g
  rw [W9_at] at g1
  subst g1
  rw [bn_9] at g2
  omega
theorem d9_del {n : Nat} {k : Int} (hk : 0 < k) : docM P9 (W9 k) n (6, 9, ByteArray.empty) = (P9, W9 k, zP, 6) := by
  rw [doc_pre (by decide) (by decide), if_neg (fun g => absurd g.2.1 (by decide)), if_neg (by decide), if_neg (by decide), if_neg (by decide), if_pos rfl, W9_at, if_pos hk]
theorem d9_unpin {n : Nat} {k : Int} (hk : 0 < k) : docM P9 (W9 k) n (5, 9, ByteArray.empty) = (P9, W9 (k - 1), zP, 0) := by
  rw [doc_pre (by decide) (by decide), if_neg (fun g => by rw [W9_at] at g; omega), if_neg (by decide), if_neg (by decide), if_pos rfl, W9_at, W9_next]
theorem d9_un0 {n : Nat} : docM P9 (W9 0) n (5, 9, ByteArray.empty) = (P9, W9 0, zP, 12) := by
  rw [doc_pre (by decide) (by decide), if_pos ⟨by decide, by decide, rfl⟩]
theorem d9_del0 {n : Nat} : docM P9 (W9 0) n (6, 9, ByteArray.empty) = (ud P9 9 zP, W9 0, zP, 0) := by
  rw [doc_pre (by decide) (by decide), if_neg (fun g => absurd g.2.1 (by decide)), if_neg (by decide), if_neg (by decide), if_neg (by decide), if_pos rfl, W9_at, if_neg (by decide), if_neg (by decide)]
theorem d9_none {n : Nat} : docM (ud P9 9 zP) (W9 0) n (1, 9, ByteArray.empty) = (ud P9 9 zP, W9 0, zP, 3) := by
  rw [doc_pre (by decide) (by decide), if_neg (fun g => absurd g.1 (by decide)), if_neg (by decide), if_neg (by decide), if_neg (by decide), if_neg (by decide), if_neg (by decide)]
  rw [thereM, if_pos ⟨rfl, rfl⟩]
theorem new17_9 (many : Int) (m0 : 0 ≤ many) (m1 : many ≤ 255) (n : Nat) (hn : 1 + many % 8 = (n : Int)) : ACall Tryz.prog 17 [.int .u8 many, .lst [[.int .i64 9, .int .i64 5, .str { data := #[110, 105, 110, 101] }]]]
    (.tup [encPS ⟨newFS n, ⟨(newG [n9]).1, []⟩, 0⟩, .agg (mL P9 (fun _ => 0) n), .bool true]) := by
  have := new17_ok many m0 m1 [n9] n hn
  rw [newG_9] at this
  exact this
set_option maxRecDepth 100000 in
theorem poolPins_ok (many pins : Int) (m0 : 0 ≤ many) (m1 : many ≤ 255) (p0 : 0 ≤ pins) (p1 : pins ≤ 255) : ACall Tryz.prog 6 [.int .u8 many, .int .u8 pins] (.bool true) := by
  obtain ⟨n, hn⟩ : ∃ n : Nat, 1 + many % 8 = (n : Int) := ⟨(1 + many % 8).toNat, by omega⟩
  have n1 : 1 ≤ n := by omega
  have n8 : n ≤ 8 := by omega
  obtain ⟨m, hm⟩ : ∃ m : Nat, 1 + pins % 50 = (m : Int) := ⟨(1 + pins % 50).toNat, by omega⟩
  have m50 : m ≤ 50 := by omega
  refine acall_of Tryz.func6 2 rfl (by kernel_rfl) ?_
  conv => whnf
  repeat ((first | refine bF ?_ | refine bT ?_ | refine dK (by kernel_rfl) ?_ | refine cK rfl ?_ | refine cK (by first | decide | omega) ?_ | refine wK (by omega) (by omega) ?_); conv => whnf)
  refine callX_pure (new17_9 many m0 m1 n hn) ?_
  conv => whnf
  repeat ((first | refine bF ?_ | refine bT ?_ | refine dK (by kernel_rfl) ?_ | refine cK rfl ?_ | refine cK (by first | decide | omega) ?_ | refine wK (by omega) (by omega) ?_); conv => whnf)
  refine divK_rem (by decide) p0 ?_
  conv => whnf
  refine wrapK_in (w64 (by omega) (by omega)) ?_
  conv => whnf
  refine wrapK_in (w64 (by omega) (by omega)) ?_
  conv => whnf
  rw [hm]
  repeat ((first | refine bF ?_ | refine bT ?_ | refine dK (by kernel_rfl) ?_ | refine cK rfl ?_ | refine cK (by first | decide | omega) ?_ | refine wK (by omega) (by omega) ?_); conv => whnf)
  have hI0 := start_inv [n9] n1 n8
  rw [newG_9] at hI0
  refine aloop (ι := Nat × PS) (fun k => [(5, .ptr 5 0 0), (8, .d (.int .i64 m)), (47, .d (.int .i64 m)), (48, .d (.int .i64 k.1))])
    (fun k => [(5, .box k.2.box false)])
    (fun k => k.1 ≤ m ∧ Inv k.2 P9 (W9 k.1) (1073741824 + k.1) k.1 ∧ k.2.f.fr.length = n) (fun k => m - k.1) (0, ⟨newFS n, ⟨(newG [n9]).1, []⟩, 0⟩) ⟨Nat.zero_le _, by
      have e : W9 ((0 : Nat) : Int) = fun _ => 0 := by funext q; simp [W9, ud]
      simp only [e]; exact hI0, List.length_replicate ..⟩ (le0 (le_of_cov ⟨rfl, rfl, rfl, rfl, trivial⟩ ⟨rfl, trivial⟩ ⟨rfl, rfl, rfl, rfl⟩)) ?_
  rintro ⟨k, p⟩ ⟨hk, hI, hlen⟩
  simp only at hk hI hlen ⊢
  conv => whnf
  refine bcase_p (fun h5 => ?_) (fun h5 => ?_) <;> conv => whnf
  · obtain ⟨q, l, e1, iq, qn, qlen, _, _, _, c18⟩ := act_known hI (by omega) (by omega) (by omega) (by omega) hlen (d9_fetch n1 (by omega))
    repeat ((first | refine bF ?_ | refine bT ?_ | refine dK (by kernel_rfl) ?_ | refine cK rfl ?_ | refine cK (by first | decide | omega) ?_ | refine wK (by omega) (by omega) ?_); conv => whnf)
    refine callX_pure c18 ?_
    conv => whnf
    repeat ((first | refine bF ?_ | refine bT ?_ | refine dK (by kernel_rfl) ?_ | refine cK rfl ?_ | refine cK (by first | decide | omega) ?_ | refine wK (by omega) (by omega) ?_); conv => whnf)
    exact ⟨(k + 1, q), ⟨by simp only []; omega, by simp only [Int.natCast_succ]; rw [← Int.add_assoc]; exact iq, qlen⟩, by simp only []; omega, (le0 (le_of_cov ⟨rfl, rfl, rfl, rfl, trivial⟩ ⟨rfl, trivial⟩ ⟨rfl, rfl, rfl, rfl⟩))⟩
  have ek : k = m := by omega
  subst ek
  repeat ((first | refine bF ?_ | refine bT ?_ | refine dK (by kernel_rfl) ?_ | refine cK rfl ?_ | refine cK (by first | decide | omega) ?_ | refine wK (by omega) (by omega) ?_); conv => whnf)
  refine aloop (ι := Nat × PS) (fun j => [(5, .ptr 5 0 0), (67, .d (.int .i64 k)), (68, .d (.int .i64 j.1))])
    (fun j => [(5, .box j.2.box false)])
    (fun j => j.1 ≤ k ∧ Inv j.2 P9 (W9 ((k : Int) - j.1)) (1073741924 + 2 * j.1) (100 + 2 * j.1) ∧ j.2.f.fr.length = n) (fun j => k - j.1) (0, p) ⟨Nat.zero_le _, by
      have := hI.mono (show (1073741824 + (k : Int)) ≤ 1073741924 + 2 * ((0 : Nat) : Int) by omega) (show (k : Int) ≤ 100 + 2 * ((0 : Nat) : Int) by omega)
      simp only [Int.sub_zero, Int.natCast_zero]
      exact this, hlen⟩ (le0 (le_of_cov ⟨rfl, rfl, rfl, trivial⟩ ⟨rfl, trivial⟩ ⟨rfl, rfl, rfl, rfl⟩)) ?_
  rintro ⟨j, p⟩ ⟨hj, hJ, hlen⟩
  simp only at hj hJ hlen ⊢
  conv => whnf
  refine bcase_p (fun h6 => ?_) (fun h6 => ?_) <;> conv => whnf
  · obtain ⟨q6, l6, e6, _, _, _, _, _, _, c6⟩ := act_known hJ (by omega) (by omega) (by omega) (by omega) hlen (d9_del (by omega))
    obtain ⟨q5, l5, e5, iq, qn, qlen, _, _, _, c5⟩ := act_known hJ (by omega) (by omega) (by omega) (by omega) hlen (d9_unpin (by omega))
    repeat ((first | refine bF ?_ | refine bT ?_ | refine dK (by kernel_rfl) ?_ | refine cK rfl ?_ | refine cK (by first | decide | omega) ?_ | refine wK (by omega) (by omega) ?_); conv => whnf)
    refine callX_pure c6 ?_
    conv => whnf
    repeat ((first | refine bF ?_ | refine bT ?_ | refine dK (by kernel_rfl) ?_ | refine cK rfl ?_ | refine cK (by first | decide | omega) ?_ | refine wK (by omega) (by omega) ?_); conv => whnf)
    refine callX_pure c5 ?_
    conv => whnf
    repeat ((first | refine bF ?_ | refine bT ?_ | refine dK (by kernel_rfl) ?_ | refine cK rfl ?_ | refine cK (by first | decide | omega) ?_ | refine wK (by omega) (by omega) ?_); conv => whnf)
    exact ⟨(j + 1, q5), ⟨by simp only []; omega, by
      have e : (k : Int) - ((j + 1 : Nat) : Int) = (k : Int) - j - 1 := by omega
      simp only [e]
      exact iq.mono (by omega) (by omega), qlen⟩, by simp only []; omega, (le0 (le_of_cov ⟨rfl, rfl, rfl, trivial⟩ ⟨rfl, trivial⟩ ⟨rfl, rfl, rfl, rfl⟩))⟩
  have ek : j = k := by omega
  subst ek
  rw [Int.sub_self] at hJ
  obtain ⟨q5, l5, e5, _, _, _, _, _, _, c5⟩ := act_known hJ (by omega) (by omega) (by omega) (by omega) hlen d9_un0
  obtain ⟨q6, l6, e6, iq, qn, qlen, _, _, _, c6⟩ := act_known hJ (by omega) (by omega) (by omega) (by omega) hlen d9_del0
  obtain ⟨q1, l1, e1, _, _, _, _, _, _, c1⟩ := act_known iq (by omega) (by omega) (by omega) (by omega) qlen d9_none
  repeat ((first | refine bF ?_ | refine bT ?_ | refine dK (by kernel_rfl) ?_ | refine cK rfl ?_ | refine cK (by first | decide | omega) ?_ | refine wK (by omega) (by omega) ?_); conv => whnf)
  refine callX_pure c5 ?_
  conv => whnf
  repeat ((first | refine bF ?_ | refine bT ?_ | refine dK (by kernel_rfl) ?_ | refine cK rfl ?_ | refine cK (by first | decide | omega) ?_ | refine wK (by omega) (by omega) ?_); conv => whnf)
  refine callX_pure c6 ?_
  conv => whnf
  repeat ((first | refine bF ?_ | refine bT ?_ | refine dK (by kernel_rfl) ?_ | refine cK rfl ?_ | refine cK (by first | decide | omega) ?_ | refine wK (by omega) (by omega) ?_); conv => whnf)
  refine callX_pure c1 ?_
  conv => whnf
  repeat ((first | refine bF ?_ | refine bT ?_ | refine dK (by kernel_rfl) ?_ | refine cK rfl ?_ | refine cK (by first | decide | omega) ?_ | refine wK (by omega) (by omega) ?_); conv => whnf)
  refine callX_pure awake16_ok ?_
  conv => whnf
  repeat ((first | refine bF ?_ | refine bT ?_ | refine dK (by kernel_rfl) ?_ | refine cK rfl ?_ | refine cK (by first | decide | omega) ?_ | refine wK (by omega) (by omega) ?_); conv => whnf)
  exact ret_of rfl rfl
end Go.Lk

namespace Go.Lk
open Go Go.Proofs Go.RowKit

theorem ML.i {P W n} {j q : Nat} (e : j = q * 3) (h : q < 17) : (mL P W n)[j]? = some (.int .i64 (P q).1) := by
  have h1 := congrArg (fun l : List D => l[0]?) (mL_p (P := P) (W := W) (n := n) h)
  have h1 : (((mL P W n).drop (q * 3)).take 3)[0]? = some (.int .i64 (P q).1) := h1
  rw [List.getElem?_take_of_lt (by decide), List.getElem?_drop, Nat.add_zero] at h1
  rw [e]; exact h1
theorem do_age {p : PS} {a : Int} {b : ByteArray} : poolDo p (8, a, b) = poolAge p a := by
  rw [poolDo, if_neg (by simp), if_neg (by simp), if_neg (show ¬ (8 : Int) = 1 by decide), if_neg (show ¬ (8 : Int) = 2 by decide), if_neg (show ¬ (8 : Int) = 6 by decide), if_neg (show ¬ (8 : Int) = 7 by decide), if_pos rfl]
theorem do_flush {p : PS} {id : Int} {b : ByteArray} (h1 : 1 ≤ id) (h16 : id ≤ 16) : poolDo p (7, id, b) = poolFlush p id := by
  rw [poolDo, if_neg (by simp), if_neg (by simp only []; omega), if_neg (show ¬ (7 : Int) = 1 by decide), if_neg (show ¬ (7 : Int) = 2 by decide), if_neg (show ¬ (7 : Int) = 6 by decide), if_pos rfl]
/-- what is as old as an age is written back -/
theorem age_known {p P W v u} (h : Inv p P W v u) (age : Int) (b : ByteArray) : ∃ q l, poolDo p (8, age, b) = (q, zP, l, 0) ∧ Inv q P W v u ∧ q.now = p.now ∧ q.f.fr.length = p.f.fr.length ∧ runL p.d l = q.d ∧ l.length ≤ 170 ∧
    (0 ≤ age → ∀ x, x ∈ q.f.dt ↔ x ∈ p.f.dt ∧ p.now - x.2 < age) ∧ ACall Tryz.prog 18 [encPS p, .agg (encPA (8, age, b))] (encR4 (q, zP, l, 0)) := by
  have d := age_did h age
  obtain ⟨d1, d2⟩ := d
  obtain ⟨q, l, e1, iq, qn, qlen, run, few, _⟩ := d1.eq
  rw [e1] at d2
  have c := poolDo_ok p (8, age, b) h.pj.fm h.pj.n1
  rw [do_age, e1] at c
  exact ⟨q, l, do_age.trans e1, iq, qn, qlen, run, few, d2, c⟩
theorem dt_one {l : List (Int × Int)} (h : Dt.rightB l = true) {x y : Int × Int} (hx : x ∈ l) (hy : y ∈ l) (e : x.1 = y.1) : x = y := by
  have s1 := Dt.since_yes h (p := x.1) (t := x.2) hx
  have s2 := Dt.since_yes h (p := x.1) (t := y.2) (by rw [e]; exact hy)
  rw [s1] at s2
  have e2 : x.2 = y.2 := congrArg Prod.fst s2
  exact Prod.ext e e2
/-- a map whose pages are all on the disk -/
theorem age_all {p P W v u} (h : Inv p P W v u) (b : ByteArray) : ∃ q l, poolDo p (8, 0, b) = (q, zP, l, 0) ∧ Inv q P W v u ∧ q.now = p.now ∧ q.f.dt = [] ∧ ACall Tryz.prog 18 [encPS p, .agg (encPA (8, 0, b))] (encR4 (q, zP, l, 0)) := by
  obtain ⟨q, l, e1, iq, qn, qlen, run, few, hd, c⟩ := age_known h 0 b
  refine ⟨q, l, e1, iq, qn, ?_, c⟩
  apply List.eq_nil_iff_forall_not_mem.2
  intro x hx
  have := (hd (Int.le_refl 0) x).1 hx
  have := h.pj.dt x this.1
  omega
theorem docFetch {P : Nat → Pg} {W : Nat → Int} {n id : Nat} (h1 : 1 ≤ id) (h16 : id ≤ 16) (b : ByteArray) (hw : ∀ q, W q = 0) (hn : bn W 16 ≠ n) : docM P W n (1, (id : Int), b) = if (P id).1 = 0 then (P, W, zP, 3) else (P, ud W id 1, P id, 0) := by
  rw [docM, if_neg (by simp only []; omega), if_neg (show ¬ (1 : Int) = 8 by decide)]
  simp only [Int.toNat_natCast]
  rw [if_neg (fun g => absurd g.1 (by decide)), if_neg (show ¬ (1 : Int) = 3 by decide), if_neg (show ¬ (1 : Int) = 4 by decide), if_neg (show ¬ (1 : Int) = 5 by decide), if_neg (show ¬ (1 : Int) = 6 by decide), if_neg (show ¬ (1 : Int) = 7 by decide), thereM]
  by_cases hz : (P id).1 = 0
  · rw [if_pos ⟨rfl, hz⟩, if_pos hz]
  · rw [if_neg (fun g => hz g.2), if_neg (fun g => absurd g.1 (by decide)), if_neg (fun g => hn g.2), if_neg (by decide), if_neg hz, ud_self, hw]
    rfl
theorem docUnpin {P : Nat → Pg} {W : Nat → Int} {n id : Nat} (h1 : 1 ≤ id) (h16 : id ≤ 16) (b : ByteArray) : docM P W n (5, (id : Int), b) = if W id = 0 then (P, W, zP, 12) else (P, ud W id (W id - 1), zP, 0) := by
  rw [docM, if_neg (by simp only []; omega), if_neg (show ¬ (5 : Int) = 8 by decide)]
  simp only [Int.toNat_natCast]
  by_cases hz : W id = 0
  · rw [if_pos ⟨by decide, by decide, hz⟩, if_pos hz]
  · rw [if_neg (fun g => hz g.2.2), if_neg (show ¬ (5 : Int) = 3 by decide), if_neg (show ¬ (5 : Int) = 4 by decide), if_pos trivial, if_neg hz]
end Go.Lk

namespace Go.Lk
open Go Go.Proofs Go.RowKit

/-- a page that is flushed -/
theorem flush_known {p P W v u} (h : Inv p P W v u) {q : Nat} (h1 : 1 ≤ q) (h16 : q ≤ 16) (b : ByteArray) : ∃ r l e, poolDo p (7, (q : Int), b) = (r, zP, l, e) ∧ e = (if (P q).1 = 0 then 3 else 0) ∧ Inv r P W v u ∧ r.now = p.now ∧ r.f.fr.length = p.f.fr.length ∧
    ((P q).1 ≠ 0 → getS r.d q = (P q, 0)) ∧ ACall Tryz.prog 18 [encPS p, .agg (encPA (7, (q : Int), b))] (encR4 (r, zP, l, e)) := by
  obtain ⟨d1, d2⟩ := flush_did h h1 h16
  have hd : (if (P q).1 = 0 then (P, W, zP, (3 : Int)) else (P, W, zP, 0)) = (P, W, zP, if (P q).1 = 0 then 3 else 0) := by split <;> rfl
  rw [hd] at d1
  obtain ⟨r, l, e1, ir, rn, rl, run, few, _⟩ := d1.eq
  rw [e1] at d2
  have c := poolDo_ok p (7, (q : Int), b) h.pj.fm h.pj.n1
  rw [do_flush (by omega) (by omega), e1] at c
  refine ⟨r, l, _, (do_flush (by omega) (by omega)).trans e1, rfl, ir, rn, rl, fun hz => ?_, c⟩
  rw [ir.pj.get h1 h16, ir.on.dsk q h1 h16 (fun x hx => d2 hz x hx), if_neg hz]
end Go.Lk

namespace Go.Lk
open Go Go.Proofs Go.RowKit

/-! ### a disk at rest, and a crash -/
theorem crashD_rest {s : List ByteArray} (h : Rest s) (keep : List Int) : crashD ⟨s, []⟩ keep = ⟨s, []⟩ := by
  rw [crashD, if_pos h.us.dr]; rfl
theorem kpt_nil (keep : List Int) : kptL keep [] 0 = [] := rfl
theorem raw_off {s : List ByteArray} {a b : ByteArray} {q : Nat} (h : 1 ≤ q) : raw ((s.set 1 a).set 2 b) q = raw s q := by
  simp only [raw]
  rw [List.getElem?_set_ne (by omega), List.getElem?_set_ne (by omega), List.getElem?_set_ne (by omega), List.getElem?_set_ne (by omega)]
theorem getR_off {s : List ByteArray} {a b : ByteArray} {q : Nat} (h : 1 ≤ q) : getR ((s.set 1 a).set 2 b) q = getR s q := by
  rw [getR, getR, raw_off h]
/-- a page that is dirty, and is flushed: the operations that are told -/
theorem flush_ops {p P W v u} (h : Inv p P W v u) {q : Nat} (h1 : 1 ≤ q) (h16 : q ≤ 16) (hW : W q ≠ 0) (hg : getR p.d.sec q ≠ (P q, 0)) (hz : (P q).1 ≠ 0) (b : ByteArray) :
    (poolDo p (7, (q : Int), b)).2.2.1 = planJ q (putB (P q)) ∧ pgR (P q) = true := by
  obtain ⟨i, hA⟩ : ∃ i, AtF p.f (q : Int) i := by
    rcases h.where h1 with hn | hA
    · exact absurd (h.wout h1 h16 hn) hW
    · exact hA
  have hkd : ∃ x ∈ p.f.dt, x.1 = (q : Int) := by
    refine Classical.byContradiction fun g => hg ?_
    have := h.on.dsk q h1 h16 fun x hx ex => g ⟨x, hx, ex⟩
    rw [if_neg hz] at this; exact this
  have hpl : 0 ≤ Dt.placeG p.f.dt (q : Int) 0 := Dt.placeG_mem.2 hkd
  obtain ⟨x, hx, ex⟩ := hkd
  obtain ⟨hpr, hp1⟩ := h.on.nz h1 h16 hz
  refine ⟨?_, hpr⟩
  have hset := setS_rest h.pj.rest hpr
  have hpg := h.at_ q i hA
  have hwb : wbM p q = (⟨cleanD p.f q, (setS p.d (P q)).1, p.now⟩, stepsS p.d (P q), 0) := by
    rw [wb_at hA, if_pos hpl, hpg, if_neg]
    rw [h.pj.d, hset.1]
    exact fun g => g rfl
  have hfd : (findF p.f (q : Int)).2 = true := by rw [findF_at hA]
  have hsn : (Dt.sinceG p.f.dt (q : Int)).2 = true := by
    have := Dt.since_yes h.pj.fm.dt (p := x.1) (t := x.2) hx
    rw [ex] at this
    rw [this]
  rw [do_flush (by omega) (by omega), poolFlush, if_neg (by rw [hfd]; decide), if_neg (by rw [hsn]; decide), hwb, if_neg (fun g => g rfl)]
  show stepsS p.d (P q) = _
  rw [h.pj.d, hset.2.1, show (P q).1.toNat = q by omega]

/-! ### a fixed trial -/
def T2 : Nat → Pg := ud (fun _ => zP) 2 (newP 2)
def V2 : Nat → Int := ud (fun _ => 0) 2 1
def x2 : Pg := (2, 2, bx)
theorem awake17_run : ∃ (p1 p2 p3 : PS) (l2 l4 : List Jo) (q4 : PS), poolDo (p0 2) (2, 2, ByteArray.empty) = (p1, newP 2, [], 0) ∧ Gd 0 p1 ∧ poolDo p1 (7, 2, ByteArray.empty) = (p2, zP, l2, 0) ∧ Gd 0 p2 ∧ poolDo p2 (4, 2, bx) = (p3, x2, [], 0) ∧ Gd 0 p3 ∧
    poolDo p3 (7, 2, ByteArray.empty) = (q4, zP, l4, 0) ∧ l4.length = 10 ∧ p3.f.fr.length = 2 ∧ ∃ s5 : List ByteArray, recM (crashD (runM p3.d l4 3) []) = ⟨s5, []⟩ ∧ Inv ⟨newFS 2, ⟨s5, []⟩, 0⟩ T2 (fun _ => 0) 2 0 := by
  have h0 := p0_inv (n := 2) (by decide) (by decide)
  have e0 : docM (fun _ => zP) (fun _ => 0) 2 (2, 2, ByteArray.empty) = (T2, V2, newP 2, 0) := by
    show docM (fun _ => zP) (fun _ => 0) 2 (2, ((2 : Nat) : Int), ByteArray.empty) = _
    rfl
  obtain ⟨p1, l1, e1, i1, n1, len1, run1, _, _, c1⟩ := act_known h0 (by decide) (by decide) (by decide) (by decide) (n := 2) rfl e0
  have hl1 : l1 = [] := by
    have := do2_free (p := p0 2) h0.pj.fm ⟨0, by decide, rfl⟩ (id := 2) (by decide) (by decide) ByteArray.empty
    rw [e1] at this; exact this
  subst hl1
  have hz : (T2 2).1 ≠ 0 := by decide
  obtain ⟨p2, l2, ee, f2, f3, i2, n2, len2, g2, c2⟩ := flush_known i1 (q := 2) (by decide) (by decide) ByteArray.empty
  rw [if_neg hz] at f3
  subst f3
  have hg2 := g2 hz
  rw [i2.pj.get (by decide) (by decide)] at hg2
  have e3 : docM T2 V2 2 (4, 2, bx) = (ud T2 2 x2, V2, x2, 0) := rfl
  obtain ⟨p3, l3, f4, i3, n3, len3, run3, _, _, c3⟩ := act_known i2 (by decide) (by decide) (by decide) (by decide) (n := 2) (len2.trans len1) e3
  have hl3 : l3 = [] := by
    have := do345 (p := p2) (k := 4) (id := 2) (b := bx) (by decide) (by decide) (.inr (.inl rfl))
    rw [f4] at this; exact this
  subst hl3
  have hd3 : p3.d = p2.d := run3.symm
  have hg3 : getR p3.d.sec 2 = (newP 2, 0) := by rw [hd3]; exact hg2
  obtain ⟨o1, o2⟩ := flush_ops i3 (q := 2) (by decide) (by decide) (show V2 2 ≠ 0 by decide) (by
    rw [hg3, ud_at]
    intro g
    exact absurd (congrArg (fun z : Pg × Int => z.1.2.1) g) (show ¬ (1 : Int) = 2 by decide)) (by rw [ud_at]; decide) ByteArray.empty
  rw [ud_at] at o1 o2
  obtain ⟨q4, l4, e4, f5, f6, i4, n4, _, _, _⟩ := flush_known i3 (q := 2) (by decide) (by decide) ByteArray.empty
  rw [ud_at, if_neg (by decide)] at f6
  subst f6
  have hl4 : l4 = planJ 2 (putB x2) := by rw [f5] at o1; exact o1
  have hps : (putB x2).size = 32 := putB_size (pgR_out.1 o2).2.2.2.2
  obtain ⟨x1, x3⟩ := ext_size hps
  have hR := i3.pj.rest
  have hd := i3.pj.d
  have g0 : ∀ {p : PS} {P W v u}, Inv p P W v u → p.now = 0 → Gd 0 p := fun h hn => ⟨h.pj.fm, by rw [h.pj.d]; exact h.pj.rest.us, hn⟩
  refine ⟨p1, p2, p3, l2, l4, q4, e1, g0 i1 n1, f2, g0 i2 (n2.trans n1), f4, g0 i3 (n3.trans (n2.trans n1)), f5, by rw [hl4]; rfl, len3, (p3.d.sec.set 1 ((putB x2).extract 0 16)).set 2 ((putB x2).extract 16 32), ?_, ?_⟩
  · have hr : runM p3.d l4 3 = ⟨(p3.d.sec.set 1 ((putB x2).extract 0 16)).set 2 ((putB x2).extract 16 32), []⟩ := by
      rw [hl4, hd, runM]
      exact step2 hR (n := 1) (m := 2) (by decide) (by have := hR.n; omega) x1 (by decide) (by have := hR.n; omega) x3
    have hR2 := (hR.set 1 x1).set 2 x3
    rw [hr, crashD_rest hR2, rec_rest hR2]
    rw [List.getElem?_set_ne (by decide), List.getElem?_set_ne (by decide)]
    exact i3.pj.z0
  · have hR2 := (hR.set 1 x1).set 2 x3
    refine Inv.new (by decide) (by decide) hR2 (by rw [List.getElem?_set_ne (by decide), List.getElem?_set_ne (by decide)]; exact i3.pj.z0) ⟨fun q q1 q16 _ => ?_, i1.on.okp, fun q => ?_⟩ (by decide)
    · rw [getR_off q1]
      by_cases e : q = 2
      · subst e
        rw [hg3]; rfl
      · have hn : ∀ i (hi : i < p3.f.fr.length), p3.f.fr[i].1 ≠ (q : Int) → True := fun _ _ _ => trivial
        have := i3.on.dsk q q1 q16 (fun y hy ey => ?_)
        · rw [this, ud_ne _ _ e]
        · obtain ⟨i, hA⟩ := dirty_in i3.pj.fm hy
          rw [ey] at hA
          have hp := i3.at_ q i hA
          have hpg := hA.pg
          rw [hp, ud_ne _ _ e, show T2 q = zP from ud_ne _ _ e] at hpg
          have : (0 : Int) = (q : Int) := hpg
          omega
    · exact i1.on.vb q
end Go.Lk

namespace Go.Lk
open Go Go.Proofs Go.RowKit

def a1 : PAct := (2, 2, ByteArray.empty)
def a2 : PAct := (7, 2, ByteArray.empty)
def a3 : PAct := (4, 2, bx)
theorem doT_calm {t : TS} {a : PAct} {q : PS} {x : Pg} {l : List Jo} {e : Int} (h : poolDo t.p a = (q, x, l, e)) (hd : t.down = false) (ha : t.armed = false) : doT t a = (⟨q, t.left, false, false⟩, x, e) := by
  rw [doT, if_neg (by rw [hd]; decide), if_neg (fun g => by rw [ha] at g; cases g.1), h, ha, hd]
  rfl
theorem GT.ok {m t} (h : GT m t) (hm : m ≤ 2147483647) (a : PAct) : ACall Tryz.prog 32 [encTS t, .agg (encPA a)] (.tup [encTS (doT t a).1, .agg (encP (doT t a).2.1), .int .i64 (doT t a).2.2]) :=
  doT_ok t a h.gd.fm (by rw [h.gd.now]; exact hm) h.l0 (by have := h.l1; omega) (by have := (h.gd.act a).2; omega)
def tsOf (p : PS) : TS := ⟨p, 0, false, false⟩
theorem Gd.t {m p} (h : Gd m p) : GT m (tsOf p) := ⟨h, show (0 : Int) ≤ 0 by decide, show (0 : Int) ≤ 1048576 by decide⟩
theorem doT_of {p q : PS} {a : PAct} {x : Pg} {l : List Jo} {e : Int} (h : poolDo p a = (q, x, l, e)) : doT (tsOf p) a = (tsOf q, x, e) := doT_calm h rfl rfl
theorem newT_of {d : DS} {n : Int} {p : PS} (h : openM d n = (p, 0)) : newT d n = (tsOf p, 0) := by
  rw [newT, h, if_neg (fun g => g rfl)]; rfl
theorem awake17_ok : ACall Tryz.prog 31 [] (.bool true) := by
  obtain ⟨p1, p2, p3, l2, l4, q4, e1, g1, e2, g2, e3, g3, e4, h10, hlen, s5, hrec, hinv⟩ := awake17_run
  have hop : openM newDS 2 = (p0 2, 0) := open_rest new_rest z_new (by decide) (by decide)
  have hg0 : Gd 0 (p0 2) := ⟨(p0_inv (n := 2) (by decide) (by decide)).pj.fm, new_rest.us, rfl⟩
  have cN := newT_ok newDS 2
  rw [newT_of hop] at cN
  have c1 := hg0.t.ok (by decide) a1
  rw [doT_of (show poolDo (p0 2) a1 = _ from e1)] at c1
  have c2 := g1.t.ok (by decide) a2
  rw [doT_of (show poolDo p1 a2 = _ from e2)] at c2
  have c3 := g2.t.ok (by decide) a3
  rw [doT_of (show poolDo p2 a3 = _ from e3)] at c3
  -- armed
  have hA : armT (tsOf p3) 3 = ⟨p3, 3, true, false⟩ := rfl
  have cA := armT_ok (tsOf p3) 3
  rw [hA] at cA
  have gA : GT 0 ⟨p3, 3, true, false⟩ := hA ▸ g3.t.arm 3
  have c4 := gA.ok (by decide) a2
  have hD : doT ⟨p3, 3, true, false⟩ a2 = (⟨⟨p3.f, runM p3.d l4 3, p3.now⟩, 0, true, true⟩, zP, 13) := by
    rw [doT, if_neg (show ¬ (false = true) by decide), show poolDo p3 a2 = _ from e4, if_pos ⟨rfl, show (3 : Int) < (l4.length : Nat) by rw [h10]; decide⟩]
  have gD : GT 0 ⟨⟨p3.f, runM p3.d l4 3, p3.now⟩, 0, true, true⟩ := by
    have := gA.do a2
    rw [hD] at this; exact this
  rw [hD] at c4
  have c5 := gD.ok (by decide) (3, 2, ByteArray.empty)
  rw [doT, if_pos rfl] at c5
  have c6 := crashT_ok ⟨⟨p3.f, runM p3.d l4 3, p3.now⟩, 0, true, true⟩ [] (by decide)
  have hC : crashT ⟨⟨p3.f, runM p3.d l4 3, p3.now⟩, 0, true, true⟩ [] = tsOf ⟨newFS 2, ⟨s5, []⟩, 0⟩ := by
    have h1 := crashD_us gD.gd.us []
    have h2 := (gD.reopen h1.1 h1.2).2
    rw [crashT, h2]
    show (⟨⟨newFS p3.f.fr.length, recM (crashD (runM p3.d l4 3) []), p3.now⟩, 0, false, false⟩ : TS) = _
    rw [hrec, hlen, g3.now]
    rfl
  have gC : GT 0 (tsOf ⟨newFS 2, ⟨s5, []⟩, 0⟩) := hC ▸ gD.crash []
  rw [hC] at c6
  have hdF : docM T2 (fun _ => 0) 2 (1, ((2 : Nat) : Int), ByteArray.empty) = (T2, ud (fun _ => 0) 2 1, T2 2, 0) := by
    rw [docFetch (by decide) (by decide) ByteArray.empty (fun _ => rfl) (by decide), if_neg (by decide)]
  obtain ⟨q7, l7, e7, _⟩ := act_known hinv (by decide) (by decide) (by decide) (by decide) (n := 2) rfl hdF
  have c7 := gC.ok (by decide) (1, 2, ByteArray.empty)
  rw [doT_of (show poolDo _ (1, 2, ByteArray.empty) = _ from e7)] at c7
  refine acall_of Tryz.func31 0 rfl (by kernel_rfl) ?_
  conv => whnf
  repeat ((first | refine bF ?_ | refine bT ?_ | refine dK (by kernel_rfl) ?_ | refine cK rfl ?_ | refine cK (by first | decide | omega) ?_ | refine wK (by omega) (by omega) ?_); conv => whnf)
  refine callX_pure dnew_ok ?_
  conv => whnf
  repeat ((first | refine bF ?_ | refine bT ?_ | refine dK (by kernel_rfl) ?_ | refine cK rfl ?_ | refine cK (by first | decide | omega) ?_ | refine wK (by omega) (by omega) ?_); conv => whnf)
  refine callX_pure cN ?_
  conv => whnf
  repeat ((first | refine bF ?_ | refine bT ?_ | refine dK (by kernel_rfl) ?_ | refine cK rfl ?_ | refine cK (by first | decide | omega) ?_ | refine wK (by omega) (by omega) ?_); conv => whnf)
  refine aloop (ι := Nat × PS) (fun k => [(3, .ptr 3 0 0), (4, .d (.int .i64 0)), (31, .own 31), (32, .d (.int .i64 3)), (33, .d (.int .i64 k.1))])
    (fun k => [(3, .box ((tsOf k.2).cells.map AV.d) false), (31, .row [encPA a1, encPA a2, encPA a3] 3 false)])
    (fun k => (k.1 = 0 ∧ k.2 = p0 2) ∨ (k.1 = 1 ∧ k.2 = p1) ∨ (k.1 = 2 ∧ k.2 = p2) ∨ (k.1 = 3 ∧ k.2 = p3)) (fun k => 3 - k.1) (0, p0 2) (.inl ⟨rfl, rfl⟩) (le0 (le_of_cov ⟨rfl, rfl, rfl, rfl, rfl, trivial⟩ ⟨rfl, rfl, trivial⟩ ⟨rfl, rfl, rfl, rfl⟩)) ?_
  rintro ⟨k, p⟩ hk
  simp only at hk ⊢
  rcases hk with ⟨rfl, rfl⟩ | ⟨rfl, rfl⟩ | ⟨rfl, rfl⟩ | ⟨rfl, rfl⟩
  · conv => whnf
    repeat ((first | refine bF ?_ | refine bT ?_ | refine dK (by kernel_rfl) ?_ | refine cK rfl ?_ | refine cK (by first | decide | omega) ?_ | refine wK (by omega) (by omega) ?_); conv => whnf)
    refine idxK_nat (by decide) ?_
    conv => whnf
    refine getRow_of (x := encPA a1) rfl ?_
    conv => whnf
    repeat ((first | refine bF ?_ | refine bT ?_ | refine dK (by kernel_rfl) ?_ | refine cK rfl ?_ | refine cK (by first | decide | omega) ?_ | refine wK (by omega) (by omega) ?_); conv => whnf)
    refine callX_pure c1 ?_
    conv => whnf
    repeat ((first | refine bF ?_ | refine bT ?_ | refine dK (by kernel_rfl) ?_ | refine cK rfl ?_ | refine cK (by first | decide | omega) ?_ | refine wK (by omega) (by omega) ?_); conv => whnf)
    exact ⟨(1, p1), .inr (.inl ⟨rfl, rfl⟩), by simp only []; omega, (le0 (le_of_cov ⟨rfl, rfl, rfl, rfl, rfl, trivial⟩ ⟨rfl, rfl, trivial⟩ ⟨rfl, rfl, rfl, rfl⟩))⟩
  · conv => whnf
    repeat ((first | refine bF ?_ | refine bT ?_ | refine dK (by kernel_rfl) ?_ | refine cK rfl ?_ | refine cK (by first | decide | omega) ?_ | refine wK (by omega) (by omega) ?_); conv => whnf)
    refine idxK_nat (by decide) ?_
    conv => whnf
    refine getRow_of (x := encPA a2) rfl ?_
    conv => whnf
    repeat ((first | refine bF ?_ | refine bT ?_ | refine dK (by kernel_rfl) ?_ | refine cK rfl ?_ | refine cK (by first | decide | omega) ?_ | refine wK (by omega) (by omega) ?_); conv => whnf)
    refine callX_pure c2 ?_
    conv => whnf
    repeat ((first | refine bF ?_ | refine bT ?_ | refine dK (by kernel_rfl) ?_ | refine cK rfl ?_ | refine cK (by first | decide | omega) ?_ | refine wK (by omega) (by omega) ?_); conv => whnf)
    exact ⟨(2, p2), .inr (.inr (.inl ⟨rfl, rfl⟩)), by simp only []; omega, (le0 (le_of_cov ⟨rfl, rfl, rfl, rfl, rfl, trivial⟩ ⟨rfl, rfl, trivial⟩ ⟨rfl, rfl, rfl, rfl⟩))⟩
  · conv => whnf
    repeat ((first | refine bF ?_ | refine bT ?_ | refine dK (by kernel_rfl) ?_ | refine cK rfl ?_ | refine cK (by first | decide | omega) ?_ | refine wK (by omega) (by omega) ?_); conv => whnf)
    refine idxK_nat (by decide) ?_
    conv => whnf
    refine getRow_of (x := encPA a3) rfl ?_
    conv => whnf
    repeat ((first | refine bF ?_ | refine bT ?_ | refine dK (by kernel_rfl) ?_ | refine cK rfl ?_ | refine cK (by first | decide | omega) ?_ | refine wK (by omega) (by omega) ?_); conv => whnf)
    refine callX_pure c3 ?_
    conv => whnf
    repeat ((first | refine bF ?_ | refine bT ?_ | refine dK (by kernel_rfl) ?_ | refine cK rfl ?_ | refine cK (by first | decide | omega) ?_ | refine wK (by omega) (by omega) ?_); conv => whnf)
    exact ⟨(3, p3), .inr (.inr (.inr ⟨rfl, rfl⟩)), by simp only []; omega, (le0 (le_of_cov ⟨rfl, rfl, rfl, rfl, rfl, trivial⟩ ⟨rfl, rfl, trivial⟩ ⟨rfl, rfl, rfl, rfl⟩))⟩
  · conv => whnf
    repeat ((first | refine bF ?_ | refine bT ?_ | refine dK (by kernel_rfl) ?_ | refine cK rfl ?_ | refine cK (by first | decide | omega) ?_ | refine wK (by omega) (by omega) ?_); conv => whnf)
    refine callX_pure cA ?_
    conv => whnf
    repeat ((first | refine bF ?_ | refine bT ?_ | refine dK (by kernel_rfl) ?_ | refine cK rfl ?_ | refine cK (by first | decide | omega) ?_ | refine wK (by omega) (by omega) ?_); conv => whnf)
    refine callX_pure c4 ?_
    conv => whnf
    repeat ((first | refine bF ?_ | refine bT ?_ | refine dK (by kernel_rfl) ?_ | refine cK rfl ?_ | refine cK (by first | decide | omega) ?_ | refine wK (by omega) (by omega) ?_); conv => whnf)
    refine callX_pure c5 ?_
    conv => whnf
    repeat ((first | refine bF ?_ | refine bT ?_ | refine dK (by kernel_rfl) ?_ | refine cK rfl ?_ | refine cK (by first | decide | omega) ?_ | refine wK (by omega) (by omega) ?_); conv => whnf)
    refine callX_pure c6 ?_
    conv => whnf
    repeat ((first | refine bF ?_ | refine bT ?_ | refine dK (by kernel_rfl) ?_ | refine cK rfl ?_ | refine cK (by first | decide | omega) ?_ | refine wK (by omega) (by omega) ?_); conv => whnf)
    refine callX_pure c7 ?_
    conv => whnf
    repeat ((first | refine bF ?_ | refine bT ?_ | refine dK (by kernel_rfl) ?_ | refine cK rfl ?_ | refine cK (by first | decide | omega) ?_ | refine wK (by omega) (by omega) ?_); conv => whnf)
    exact ret_of rfl rfl
end Go.Lk

namespace Go.Lk
open Go Go.Proofs Go.RowKit

/-! ### the past of pages -/
theorem pL_p {P} {q : Nat} (h : q < 17) : ((pL P).drop (q * 3)).take 3 = encP (P q) := by
  match q, h with
  | 0, _ => rfl
  | 1, _ => rfl
  | 2, _ => rfl
  | 3, _ => rfl
  | 4, _ => rfl
  | 5, _ => rfl
  | 6, _ => rfl
  | 7, _ => rfl
  | 8, _ => rfl
  | 9, _ => rfl
  | 10, _ => rfl
  | 11, _ => rfl
  | 12, _ => rfl
  | 13, _ => rfl
  | 14, _ => rfl
  | 15, _ => rfl
  | 16, _ => rfl
  | q + 17, h => exact absurd h (by omega)
def qL (L : Nat → List Pg) : List D := (List.range 17).map fun q => D.lst ((L q).map encP)
theorem qL_at {L} {q : Nat} (h : q < 17) : (qL L)[q]? = some (.lst ((L q).map encP)) := by
  rw [qL, List.getElem?_map, List.getElem?_range h]; rfl
theorem qL_set {L} {q : Nat} (h : q < 17) (l : List Pg) : (qL L).set q (.lst (l.map encP)) = qL (ud L q l) := by
  apply List.ext_getElem
  · rw [List.length_set]; rfl
  · intro i h1 h2
    have hi : i < 17 := h2
    rw [List.getElem_set]
    simp only [qL, List.getElem_map, List.getElem_range, ud]
    by_cases e : q = i
    · rw [if_pos e, if_pos e.symm]
    · rw [if_neg e, if_neg (fun g => e g.symm)]
def bgC (P : Nat → Pg) (k : Nat) : List AV := (List.range 17).map fun q => if 1 ≤ q ∧ q ≤ k then AV.d (.lst [encP (P q)]) else AV.nil
def begL (P : Nat → Pg) : Nat → List Pg := fun q => if 1 ≤ q ∧ q ≤ 16 then [P q] else []
theorem bgC_at {P} {k q : Nat} (h : q < 17) (hk : k < q) : (bgC P k)[q]? = some .nil := by
  rw [bgC, List.getElem?_map, List.getElem?_range h]
  show some (ite _ _ _) = _
  rw [if_neg (by omega)]
theorem bgC_set {P} {k : Nat} (h : k + 1 < 17) : (bgC P k).set (k + 1) (.d (.lst [encP (P (k + 1))])) = bgC P (k + 1) := by
  apply List.ext_getElem
  · rw [List.length_set]; rfl
  · intro i h1 h2
    have hi : i < 17 := h2
    rw [List.getElem_set]
    simp only [bgC, List.getElem_map, List.getElem_range]
    by_cases e : k + 1 = i
    · subst e
      rw [if_pos rfl, if_pos ⟨by omega, by omega⟩]
    · rw [if_neg e]
      by_cases g : 1 ≤ i ∧ i ≤ k
      · rw [if_pos g, if_pos ⟨g.1, by omega⟩]
      · rw [if_neg g, if_neg (by omega)]
theorem bgC_ok {P} : conv.cells (fun _ => none) (bgC P 16) = some (qL (begL P)) := rfl
set_option maxHeartbeats 8000000 in
theorem begin17_ok (P : Nat → Pg) : ACall Tryz.prog 66 [.agg (pL P)] (.agg (qL (begL P))) := by
  refine acall_of Tryz.func66 1 rfl (by kernel_rfl) ?_
  conv => whnf
  repeat ((first | refine bF ?_ | refine bT ?_ | refine dK (by kernel_rfl) ?_ | refine cK rfl ?_ | refine cK (by first | decide | omega) ?_ | refine wK (by omega) (by omega) ?_); conv => whnf)
  refine aloop (ι := Nat) (fun k => [(1, .ptr 1 0 0), (2, .ptr 2 0 0), (3, .ptr 3 0 0), (4, .d (.int .i64 ((k : Int) + 1)))])
    (fun k => [(1, .box ((pL P).map AV.d) false), (2, .box ((T 89).zero.map zA) false), (3, .box (bgC P k) false)])
    (fun k => k ≤ 16) (fun k => 16 - k) 0 (Nat.zero_le _) (le0 (le_of_cov ⟨rfl, rfl, rfl, rfl, trivial⟩ ⟨rfl, rfl, rfl, trivial⟩ ⟨rfl, rfl, rfl, rfl⟩)) ?_
  intro k hk
  have hpl : (pL P).length = 51 := rfl
  have hks : k = 0 ∨ k = 1 ∨ k = 2 ∨ k = 3 ∨ k = 4 ∨ k = 5 ∨ k = 6 ∨ k = 7 ∨ k = 8 ∨ k = 9 ∨ k = 10 ∨ k = 11 ∨ k = 12 ∨ k = 13 ∨ k = 14 ∨ k = 15 ∨ k = 16 := by omega
  rcases hks with rfl | rfl | rfl | rfl | rfl | rfl | rfl | rfl | rfl | rfl | rfl | rfl | rfl | rfl | rfl | rfl | rfl
  rotate_left 16
  · conv => whnf
    repeat ((first | refine bF ?_ | refine bT ?_ | refine dK (by kernel_rfl) ?_ | refine cK rfl ?_ | refine cK (by first | decide | omega) ?_ | refine wK (by omega) (by omega) ?_); conv => whnf)
    exact ret_of rfl rfl
  · conv => whnf
    repeat ((first | refine bF ?_ | refine bT ?_ | refine dK (by kernel_rfl) ?_ | refine cK rfl ?_ | refine cK (by first | decide | omega) ?_ | refine wK (by omega) (by omega) ?_); conv => whnf)
    refine idxK_nat (i := 1) (by decide) ?_
    conv => whnf
    repeat ((first | refine bF ?_ | refine bT ?_ | refine dK (by kernel_rfl) ?_ | refine cK rfl ?_ | refine cK (by first | decide | omega) ?_ | refine wK (by omega) (by omega) ?_); conv => whnf)
    refine idxK_nat (i := 1) (by decide) ?_
    conv => whnf
    repeat ((first | refine bF ?_ | refine bT ?_ | refine dK (by kernel_rfl) ?_ | refine cK rfl ?_ | refine cK (by first | decide | omega) ?_ | refine wK (by omega) (by omega) ?_); conv => whnf)
    refine roomK_le 1000 1000 (show (1 : Nat) ≤ 1000 by decide) (by decide) (by decide) (by decide) ?_
    conv => whnf
    repeat ((first | refine bF ?_ | refine bT ?_ | refine dK (by kernel_rfl) ?_ | refine cK rfl ?_ | refine cK (by first | decide | omega) ?_ | refine wK (by omega) (by omega) ?_); conv => whnf)
    refine idxK_nat (i := 1) (by decide) ?_
    conv => whnf
    repeat ((first | refine bF ?_ | refine bT ?_ | refine dK (by kernel_rfl) ?_ | refine cK rfl ?_ | refine cK (by first | decide | omega) ?_ | refine wK (by omega) (by omega) ?_); conv => whnf)
    exact ⟨1, by decide, by decide, len [.frz 18 [encP (P 1)] 3, .cd 3 1 18 [encP (P 1)] 3] ⟨⟨false, rfl⟩, ⟨rfl, rfl, rfl⟩, trivial⟩ (le_of_cov ⟨rfl, rfl, rfl, rfl, trivial⟩ ⟨rfl, rfl, rfl, trivial⟩ ⟨rfl, rfl, rfl, rfl⟩)⟩
  · conv => whnf
    repeat ((first | refine bF ?_ | refine bT ?_ | refine dK (by kernel_rfl) ?_ | refine cK rfl ?_ | refine cK (by first | decide | omega) ?_ | refine wK (by omega) (by omega) ?_); conv => whnf)
    refine idxK_nat (i := 2) (by decide) ?_
    conv => whnf
    repeat ((first | refine bF ?_ | refine bT ?_ | refine dK (by kernel_rfl) ?_ | refine cK rfl ?_ | refine cK (by first | decide | omega) ?_ | refine wK (by omega) (by omega) ?_); conv => whnf)
    refine idxK_nat (i := 2) (by decide) ?_
    conv => whnf
    repeat ((first | refine bF ?_ | refine bT ?_ | refine dK (by kernel_rfl) ?_ | refine cK rfl ?_ | refine cK (by first | decide | omega) ?_ | refine wK (by omega) (by omega) ?_); conv => whnf)
    refine roomK_le 1000 1000 (show (1 : Nat) ≤ 1000 by decide) (by decide) (by decide) (by decide) ?_
    conv => whnf
    repeat ((first | refine bF ?_ | refine bT ?_ | refine dK (by kernel_rfl) ?_ | refine cK rfl ?_ | refine cK (by first | decide | omega) ?_ | refine wK (by omega) (by omega) ?_); conv => whnf)
    refine idxK_nat (i := 2) (by decide) ?_
    conv => whnf
    repeat ((first | refine bF ?_ | refine bT ?_ | refine dK (by kernel_rfl) ?_ | refine cK rfl ?_ | refine cK (by first | decide | omega) ?_ | refine wK (by omega) (by omega) ?_); conv => whnf)
    exact ⟨2, by decide, by decide, len [.frz 18 [encP (P 2)] 3, .cd 3 2 18 [encP (P 2)] 3] ⟨⟨false, rfl⟩, ⟨rfl, rfl, rfl⟩, trivial⟩ (le_of_cov ⟨rfl, rfl, rfl, rfl, trivial⟩ ⟨rfl, rfl, rfl, trivial⟩ ⟨rfl, rfl, rfl, rfl⟩)⟩
  · conv => whnf
    repeat ((first | refine bF ?_ | refine bT ?_ | refine dK (by kernel_rfl) ?_ | refine cK rfl ?_ | refine cK (by first | decide | omega) ?_ | refine wK (by omega) (by omega) ?_); conv => whnf)
    refine idxK_nat (i := 3) (by decide) ?_
    conv => whnf
    repeat ((first | refine bF ?_ | refine bT ?_ | refine dK (by kernel_rfl) ?_ | refine cK rfl ?_ | refine cK (by first | decide | omega) ?_ | refine wK (by omega) (by omega) ?_); conv => whnf)
    refine idxK_nat (i := 3) (by decide) ?_
    conv => whnf
    repeat ((first | refine bF ?_ | refine bT ?_ | refine dK (by kernel_rfl) ?_ | refine cK rfl ?_ | refine cK (by first | decide | omega) ?_ | refine wK (by omega) (by omega) ?_); conv => whnf)
    refine roomK_le 1000 1000 (show (1 : Nat) ≤ 1000 by decide) (by decide) (by decide) (by decide) ?_
    conv => whnf
    repeat ((first | refine bF ?_ | refine bT ?_ | refine dK (by kernel_rfl) ?_ | refine cK rfl ?_ | refine cK (by first | decide | omega) ?_ | refine wK (by omega) (by omega) ?_); conv => whnf)
    refine idxK_nat (i := 3) (by decide) ?_
    conv => whnf
    repeat ((first | refine bF ?_ | refine bT ?_ | refine dK (by kernel_rfl) ?_ | refine cK rfl ?_ | refine cK (by first | decide | omega) ?_ | refine wK (by omega) (by omega) ?_); conv => whnf)
    exact ⟨3, by decide, by decide, len [.frz 18 [encP (P 3)] 3, .cd 3 3 18 [encP (P 3)] 3] ⟨⟨false, rfl⟩, ⟨rfl, rfl, rfl⟩, trivial⟩ (le_of_cov ⟨rfl, rfl, rfl, rfl, trivial⟩ ⟨rfl, rfl, rfl, trivial⟩ ⟨rfl, rfl, rfl, rfl⟩)⟩
  · conv => whnf
    repeat ((first | refine bF ?_ | refine bT ?_ | refine dK (by kernel_rfl) ?_ | refine cK rfl ?_ | refine cK (by first | decide | omega) ?_ | refine wK (by omega) (by omega) ?_); conv => whnf)
    refine idxK_nat (i := 4) (by decide) ?_
    conv => whnf
    repeat ((first | refine bF ?_ | refine bT ?_ | refine dK (by kernel_rfl) ?_ | refine cK rfl ?_ | refine cK (by first | decide | omega) ?_ | refine wK (by omega) (by omega) ?_); conv => whnf)
    refine idxK_nat (i := 4) (by decide) ?_
    conv => whnf
    repeat ((first | refine bF ?_ | refine bT ?_ | refine dK (by kernel_rfl) ?_ | refine cK rfl ?_ | refine cK (by first | decide | omega) ?_ | refine wK (by omega) (by omega) ?_); conv => whnf)
    refine roomK_le 1000 1000 (show (1 : Nat) ≤ 1000 by decide) (by decide) (by decide) (by decide) ?_
    conv => whnf
    repeat ((first | refine bF ?_ | refine bT ?_ | refine dK (by kernel_rfl) ?_ | refine cK rfl ?_ | refine cK (by first | decide | omega) ?_ | refine wK (by omega) (by omega) ?_); conv => whnf)
    refine idxK_nat (i := 4) (by decide) ?_
    conv => whnf
    repeat ((first | refine bF ?_ | refine bT ?_ | refine dK (by kernel_rfl) ?_ | refine cK rfl ?_ | refine cK (by first | decide | omega) ?_ | refine wK (by omega) (by omega) ?_); conv => whnf)
    exact ⟨4, by decide, by decide, len [.frz 18 [encP (P 4)] 3, .cd 3 4 18 [encP (P 4)] 3] ⟨⟨false, rfl⟩, ⟨rfl, rfl, rfl⟩, trivial⟩ (le_of_cov ⟨rfl, rfl, rfl, rfl, trivial⟩ ⟨rfl, rfl, rfl, trivial⟩ ⟨rfl, rfl, rfl, rfl⟩)⟩
  · conv => whnf
    repeat ((first | refine bF ?_ | refine bT ?_ | refine dK (by kernel_rfl) ?_ | refine cK rfl ?_ | refine cK (by first | decide | omega) ?_ | refine wK (by omega) (by omega) ?_); conv => whnf)
    refine idxK_nat (i := 5) (by decide) ?_
    conv => whnf
    repeat ((first | refine bF ?_ | refine bT ?_ | refine dK (by kernel_rfl) ?_ | refine cK rfl ?_ | refine cK (by first | decide | omega) ?_ | refine wK (by omega) (by omega) ?_); conv => whnf)
    refine idxK_nat (i := 5) (by decide) ?_
    conv => whnf
    repeat ((first | refine bF ?_ | refine bT ?_ | refine dK (by kernel_rfl) ?_ | refine cK rfl ?_ | refine cK (by first | decide | omega) ?_ | refine wK (by omega) (by omega) ?_); conv => whnf)
    refine roomK_le 1000 1000 (show (1 : Nat) ≤ 1000 by decide) (by decide) (by decide) (by decide) ?_
    conv => whnf
    repeat ((first | refine bF ?_ | refine bT ?_ | refine dK (by kernel_rfl) ?_ | refine cK rfl ?_ | refine cK (by first | decide | omega) ?_ | refine wK (by omega) (by omega) ?_); conv => whnf)
    refine idxK_nat (i := 5) (by decide) ?_
    conv => whnf
    repeat ((first | refine bF ?_ | refine bT ?_ | refine dK (by kernel_rfl) ?_ | refine cK rfl ?_ | refine cK (by first | decide | omega) ?_ | refine wK (by omega) (by omega) ?_); conv => whnf)
    exact ⟨5, by decide, by decide, len [.frz 18 [encP (P 5)] 3, .cd 3 5 18 [encP (P 5)] 3] ⟨⟨false, rfl⟩, ⟨rfl, rfl, rfl⟩, trivial⟩ (le_of_cov ⟨rfl, rfl, rfl, rfl, trivial⟩ ⟨rfl, rfl, rfl, trivial⟩ ⟨rfl, rfl, rfl, rfl⟩)⟩
  · conv => whnf
    repeat ((first | refine bF ?_ | refine bT ?_ | refine dK (by kernel_rfl) ?_ | refine cK rfl ?_ | refine cK (by first | decide | omega) ?_ | refine wK (by omega) (by omega) ?_); conv => whnf)
    refine idxK_nat (i := 6) (by decide) ?_
    conv => whnf
    repeat ((first | refine bF ?_ | refine bT ?_ | refine dK (by kernel_rfl) ?_ | refine cK rfl ?_ | refine cK (by first | decide | omega) ?_ | refine wK (by omega) (by omega) ?_); conv => whnf)
    refine idxK_nat (i := 6) (by decide) ?_
    conv => whnf
    repeat ((first | refine bF ?_ | refine bT ?_ | refine dK (by kernel_rfl) ?_ | refine cK rfl ?_ | refine cK (by first | decide | omega) ?_ | refine wK (by omega) (by omega) ?_); conv => whnf)
    refine roomK_le 1000 1000 (show (1 : Nat) ≤ 1000 by decide) (by decide) (by decide) (by decide) ?_
    conv => whnf
    repeat ((first | refine bF ?_ | refine bT ?_ | refine dK (by kernel_rfl) ?_ | refine cK rfl ?_ | refine cK (by first | decide | omega) ?_ | refine wK (by omega) (by omega) ?_); conv => whnf)
    refine idxK_nat (i := 6) (by decide) ?_
    conv => whnf
    repeat ((first | refine bF ?_ | refine bT ?_ | refine dK (by kernel_rfl) ?_ | refine cK rfl ?_ | refine cK (by first | decide | omega) ?_ | refine wK (by omega) (by omega) ?_); conv => whnf)
    exact ⟨6, by decide, by decide, len [.frz 18 [encP (P 6)] 3, .cd 3 6 18 [encP (P 6)] 3] ⟨⟨false, rfl⟩, ⟨rfl, rfl, rfl⟩, trivial⟩ (le_of_cov ⟨rfl, rfl, rfl, rfl, trivial⟩ ⟨rfl, rfl, rfl, trivial⟩ ⟨rfl, rfl, rfl, rfl⟩)⟩
  · conv => whnf
    repeat ((first | refine bF ?_ | refine bT ?_ | refine dK (by kernel_rfl) ?_ | refine cK rfl ?_ | refine cK (by first | decide | omega) ?_ | refine wK (by omega) (by omega) ?_); conv => whnf)
    refine idxK_nat (i := 7) (by decide) ?_
    conv => whnf
    repeat ((first | refine bF ?_ | refine bT ?_ | refine dK (by kernel_rfl) ?_ | refine cK rfl ?_ | refine cK (by first | decide | omega) ?_ | refine wK (by omega) (by omega) ?_); conv => whnf)
    refine idxK_nat (i := 7) (by decide) ?_
    conv => whnf
    repeat ((first | refine bF ?_ | refine bT ?_ | refine dK (by kernel_rfl) ?_ | refine cK rfl ?_ | refine cK (by first | decide | omega) ?_ | refine wK (by omega) (by omega) ?_); conv => whnf)
    refine roomK_le 1000 1000 (show (1 : Nat) ≤ 1000 by decide) (by decide) (by decide) (by decide) ?_
    conv => whnf
    repeat ((first | refine bF ?_ | refine bT ?_ | refine dK (by kernel_rfl) ?_ | refine cK rfl ?_ | refine cK (by first | decide | omega) ?_ | refine wK (by omega) (by omega) ?_); conv => whnf)
    refine idxK_nat (i := 7) (by decide) ?_
    conv => whnf
    repeat ((first | refine bF ?_ | refine bT ?_ | refine dK (by kernel_rfl) ?_ | refine cK rfl ?_ | refine cK (by first | decide | omega) ?_ | refine wK (by omega) (by omega) ?_); conv => whnf)
    exact ⟨7, by decide, by decide, len [.frz 18 [encP (P 7)] 3, .cd 3 7 18 [encP (P 7)] 3] ⟨⟨false, rfl⟩, ⟨rfl, rfl, rfl⟩, trivial⟩ (le_of_cov ⟨rfl, rfl, rfl, rfl, trivial⟩ ⟨rfl, rfl, rfl, trivial⟩ ⟨rfl, rfl, rfl, rfl⟩)⟩
  · conv => whnf
    repeat ((first | refine bF ?_ | refine bT ?_ | refine dK (by kernel_rfl) ?_ | refine cK rfl ?_ | refine cK (by first | decide | omega) ?_ | refine wK (by omega) (by omega) ?_); conv => whnf)
    refine idxK_nat (i := 8) (by decide) ?_
    conv => whnf
    repeat ((first | refine bF ?_ | refine bT ?_ | refine dK (by kernel_rfl) ?_ | refine cK rfl ?_ | refine cK (by first | decide | omega) ?_ | refine wK (by omega) (by omega) ?_); conv => whnf)
    refine idxK_nat (i := 8) (by decide) ?_
    conv => whnf
    repeat ((first | refine bF ?_ | refine bT ?_ | refine dK (by kernel_rfl) ?_ | refine cK rfl ?_ | refine cK (by first | decide | omega) ?_ | refine wK (by omega) (by omega) ?_); conv => whnf)
    refine roomK_le 1000 1000 (show (1 : Nat) ≤ 1000 by decide) (by decide) (by decide) (by decide) ?_
    conv => whnf
    repeat ((first | refine bF ?_ | refine bT ?_ | refine dK (by kernel_rfl) ?_ | refine cK rfl ?_ | refine cK (by first | decide | omega) ?_ | refine wK (by omega) (by omega) ?_); conv => whnf)
    refine idxK_nat (i := 8) (by decide) ?_
    conv => whnf
    repeat ((first | refine bF ?_ | refine bT ?_ | refine dK (by kernel_rfl) ?_ | refine cK rfl ?_ | refine cK (by first | decide | omega) ?_ | refine wK (by omega) (by omega) ?_); conv => whnf)
    exact ⟨8, by decide, by decide, len [.frz 18 [encP (P 8)] 3, .cd 3 8 18 [encP (P 8)] 3] ⟨⟨false, rfl⟩, ⟨rfl, rfl, rfl⟩, trivial⟩ (le_of_cov ⟨rfl, rfl, rfl, rfl, trivial⟩ ⟨rfl, rfl, rfl, trivial⟩ ⟨rfl, rfl, rfl, rfl⟩)⟩
  · conv => whnf
    repeat ((first | refine bF ?_ | refine bT ?_ | refine dK (by kernel_rfl) ?_ | refine cK rfl ?_ | refine cK (by first | decide | omega) ?_ | refine wK (by omega) (by omega) ?_); conv => whnf)
    refine idxK_nat (i := 9) (by decide) ?_
    conv => whnf
    repeat ((first | refine bF ?_ | refine bT ?_ | refine dK (by kernel_rfl) ?_ | refine cK rfl ?_ | refine cK (by first | decide | omega) ?_ | refine wK (by omega) (by omega) ?_); conv => whnf)
    refine idxK_nat (i := 9) (by decide) ?_
    conv => whnf
    repeat ((first | refine bF ?_ | refine bT ?_ | refine dK (by kernel_rfl) ?_ | refine cK rfl ?_ | refine cK (by first | decide | omega) ?_ | refine wK (by omega) (by omega) ?_); conv => whnf)
    refine roomK_le 1000 1000 (show (1 : Nat) ≤ 1000 by decide) (by decide) (by decide) (by decide) ?_
    conv => whnf
    repeat ((first | refine bF ?_ | refine bT ?_ | refine dK (by kernel_rfl) ?_ | refine cK rfl ?_ | refine cK (by first | decide | omega) ?_ | refine wK (by omega) (by omega) ?_); conv => whnf)
    refine idxK_nat (i := 9) (by decide) ?_
    conv => whnf
    repeat ((first | refine bF ?_ | refine bT ?_ | refine dK (by kernel_rfl) ?_ | refine cK rfl ?_ | refine cK (by first | decide | omega) ?_ | refine wK (by omega) (by omega) ?_); conv => whnf)
    exact ⟨9, by decide, by decide, len [.frz 18 [encP (P 9)] 3, .cd 3 9 18 [encP (P 9)] 3] ⟨⟨false, rfl⟩, ⟨rfl, rfl, rfl⟩, trivial⟩ (le_of_cov ⟨rfl, rfl, rfl, rfl, trivial⟩ ⟨rfl, rfl, rfl, trivial⟩ ⟨rfl, rfl, rfl, rfl⟩)⟩
  · conv => whnf
    repeat ((first | refine bF ?_ | refine bT ?_ | refine dK (by kernel_rfl) ?_ | refine cK rfl ?_ | refine cK (by first | decide | omega) ?_ | refine wK (by omega) (by omega) ?_); conv => whnf)
    refine idxK_nat (i := 10) (by decide) ?_
    conv => whnf
    repeat ((first | refine bF ?_ | refine bT ?_ | refine dK (by kernel_rfl) ?_ | refine cK rfl ?_ | refine cK (by first | decide | omega) ?_ | refine wK (by omega) (by omega) ?_); conv => whnf)
    refine idxK_nat (i := 10) (by decide) ?_
    conv => whnf
    repeat ((first | refine bF ?_ | refine bT ?_ | refine dK (by kernel_rfl) ?_ | refine cK rfl ?_ | refine cK (by first | decide | omega) ?_ | refine wK (by omega) (by omega) ?_); conv => whnf)
    refine roomK_le 1000 1000 (show (1 : Nat) ≤ 1000 by decide) (by decide) (by decide) (by decide) ?_
    conv => whnf
    repeat ((first | refine bF ?_ | refine bT ?_ | refine dK (by kernel_rfl) ?_ | refine cK rfl ?_ | refine cK (by first | decide | omega) ?_ | refine wK (by omega) (by omega) ?_); conv => whnf)
    refine idxK_nat (i := 10) (by decide) ?_
    conv => whnf
    repeat ((first | refine bF ?_ | refine bT ?_ | refine dK (by kernel_rfl) ?_ | refine cK rfl ?_ | refine cK (by first | decide | omega) ?_ | refine wK (by omega) (by omega) ?_); conv => whnf)
    exact ⟨10, by decide, by decide, len [.frz 18 [encP (P 10)] 3, .cd 3 10 18 [encP (P 10)] 3] ⟨⟨false, rfl⟩, ⟨rfl, rfl, rfl⟩, trivial⟩ (le_of_cov ⟨rfl, rfl, rfl, rfl, trivial⟩ ⟨rfl, rfl, rfl, trivial⟩ ⟨rfl, rfl, rfl, rfl⟩)⟩
  · conv => whnf
    repeat ((first | refine bF ?_ | refine bT ?_ | refine dK (by kernel_rfl) ?_ | refine cK rfl ?_ | refine cK (by first | decide | omega) ?_ | refine wK (by omega) (by omega) ?_); conv => whnf)
    refine idxK_nat (i := 11) (by decide) ?_
    conv => whnf
    repeat ((first | refine bF ?_ | refine bT ?_ | refine dK (by kernel_rfl) ?_ | refine cK rfl ?_ | refine cK (by first | decide | omega) ?_ | refine wK (by omega) (by omega) ?_); conv => whnf)
    refine idxK_nat (i := 11) (by decide) ?_
    conv => whnf
    repeat ((first | refine bF ?_ | refine bT ?_ | refine dK (by kernel_rfl) ?_ | refine cK rfl ?_ | refine cK (by first | decide | omega) ?_ | refine wK (by omega) (by omega) ?_); conv => whnf)
    refine roomK_le 1000 1000 (show (1 : Nat) ≤ 1000 by decide) (by decide) (by decide) (by decide) ?_
    conv => whnf
    repeat ((first | refine bF ?_ | refine bT ?_ | refine dK (by kernel_rfl) ?_ | refine cK rfl ?_ | refine cK (by first | decide | omega) ?_ | refine wK (by omega) (by omega) ?_); conv => whnf)
    refine idxK_nat (i := 11) (by decide) ?_
    conv => whnf
    repeat ((first | refine bF ?_ | refine bT ?_ | refine dK (by kernel_rfl) ?_ | refine cK rfl ?_ | refine cK (by first | decide | omega) ?_ | refine wK (by omega) (by omega) ?_); conv => whnf)
    exact ⟨11, by decide, by decide, len [.frz 18 [encP (P 11)] 3, .cd 3 11 18 [encP (P 11)] 3] ⟨⟨false, rfl⟩, ⟨rfl, rfl, rfl⟩, trivial⟩ (le_of_cov ⟨rfl, rfl, rfl, rfl, trivial⟩ ⟨rfl, rfl, rfl, trivial⟩ ⟨rfl, rfl, rfl, rfl⟩)⟩
  · conv => whnf
    repeat ((first | refine bF ?_ | refine bT ?_ | refine dK (by kernel_rfl) ?_ | refine cK rfl ?_ | refine cK (by first | decide | omega) ?_ | refine wK (by omega) (by omega) ?_); conv => whnf)
    refine idxK_nat (i := 12) (by decide) ?_
    conv => whnf
    repeat ((first | refine bF ?_ | refine bT ?_ | refine dK (by kernel_rfl) ?_ | refine cK rfl ?_ | refine cK (by first | decide | omega) ?_ | refine wK (by omega) (by omega) ?_); conv => whnf)
    refine idxK_nat (i := 12) (by decide) ?_
    conv => whnf
    repeat ((first | refine bF ?_ | refine bT ?_ | refine dK (by kernel_rfl) ?_ | refine cK rfl ?_ | refine cK (by first | decide | omega) ?_ | refine wK (by omega) (by omega) ?_); conv => whnf)
    refine roomK_le 1000 1000 (show (1 : Nat) ≤ 1000 by decide) (by decide) (by decide) (by decide) ?_
    conv => whnf
    repeat ((first | refine bF ?_ | refine bT ?_ | refine dK (by kernel_rfl) ?_ | refine cK rfl ?_ | refine cK (by first | decide | omega) ?_ | refine wK (by omega) (by omega) ?_); conv => whnf)
    refine idxK_nat (i := 12) (by decide) ?_
    conv => whnf
    repeat ((first | refine bF ?_ | refine bT ?_ | refine dK (by kernel_rfl) ?_ | refine cK rfl ?_ | refine cK (by first | decide | omega) ?_ | refine wK (by omega) (by omega) ?_); conv => whnf)
    exact ⟨12, by decide, by decide, len [.frz 18 [encP (P 12)] 3, .cd 3 12 18 [encP (P 12)] 3] ⟨⟨false, rfl⟩, ⟨rfl, rfl, rfl⟩, trivial⟩ (le_of_cov ⟨rfl, rfl, rfl, rfl, trivial⟩ ⟨rfl, rfl, rfl, trivial⟩ ⟨rfl, rfl, rfl, rfl⟩)⟩
  · conv => whnf
    repeat ((first | refine bF ?_ | refine bT ?_ | refine dK (by kernel_rfl) ?_ | refine cK rfl ?_ | refine cK (by first | decide | omega) ?_ | refine wK (by omega) (by omega) ?_); conv => whnf)
    refine idxK_nat (i := 13) (by decide) ?_
    conv => whnf
    repeat ((first | refine bF ?_ | refine bT ?_ | refine dK (by kernel_rfl) ?_ | refine cK rfl ?_ | refine cK (by first | decide | omega) ?_ | refine wK (by omega) (by omega) ?_); conv => whnf)
    refine idxK_nat (i := 13) (by decide) ?_
    conv => whnf
    repeat ((first | refine bF ?_ | refine bT ?_ | refine dK (by kernel_rfl) ?_ | refine cK rfl ?_ | refine cK (by first | decide | omega) ?_ | refine wK (by omega) (by omega) ?_); conv => whnf)
    refine roomK_le 1000 1000 (show (1 : Nat) ≤ 1000 by decide) (by decide) (by decide) (by decide) ?_
    conv => whnf
    repeat ((first | refine bF ?_ | refine bT ?_ | refine dK (by kernel_rfl) ?_ | refine cK rfl ?_ | refine cK (by first | decide | omega) ?_ | refine wK (by omega) (by omega) ?_); conv => whnf)
    refine idxK_nat (i := 13) (by decide) ?_
    conv => whnf
    repeat ((first | refine bF ?_ | refine bT ?_ | refine dK (by kernel_rfl) ?_ | refine cK rfl ?_ | refine cK (by first | decide | omega) ?_ | refine wK (by omega) (by omega) ?_); conv => whnf)
    exact ⟨13, by decide, by decide, len [.frz 18 [encP (P 13)] 3, .cd 3 13 18 [encP (P 13)] 3] ⟨⟨false, rfl⟩, ⟨rfl, rfl, rfl⟩, trivial⟩ (le_of_cov ⟨rfl, rfl, rfl, rfl, trivial⟩ ⟨rfl, rfl, rfl, trivial⟩ ⟨rfl, rfl, rfl, rfl⟩)⟩
  · conv => whnf
    repeat ((first | refine bF ?_ | refine bT ?_ | refine dK (by kernel_rfl) ?_ | refine cK rfl ?_ | refine cK (by first | decide | omega) ?_ | refine wK (by omega) (by omega) ?_); conv => whnf)
    refine idxK_nat (i := 14) (by decide) ?_
    conv => whnf
    repeat ((first | refine bF ?_ | refine bT ?_ | refine dK (by kernel_rfl) ?_ | refine cK rfl ?_ | refine cK (by first | decide | omega) ?_ | refine wK (by omega) (by omega) ?_); conv => whnf)
    refine idxK_nat (i := 14) (by decide) ?_
    conv => whnf
    repeat ((first | refine bF ?_ | refine bT ?_ | refine dK (by kernel_rfl) ?_ | refine cK rfl ?_ | refine cK (by first | decide | omega) ?_ | refine wK (by omega) (by omega) ?_); conv => whnf)
    refine roomK_le 1000 1000 (show (1 : Nat) ≤ 1000 by decide) (by decide) (by decide) (by decide) ?_
    conv => whnf
    repeat ((first | refine bF ?_ | refine bT ?_ | refine dK (by kernel_rfl) ?_ | refine cK rfl ?_ | refine cK (by first | decide | omega) ?_ | refine wK (by omega) (by omega) ?_); conv => whnf)
    refine idxK_nat (i := 14) (by decide) ?_
    conv => whnf
    repeat ((first | refine bF ?_ | refine bT ?_ | refine dK (by kernel_rfl) ?_ | refine cK rfl ?_ | refine cK (by first | decide | omega) ?_ | refine wK (by omega) (by omega) ?_); conv => whnf)
    exact ⟨14, by decide, by decide, len [.frz 18 [encP (P 14)] 3, .cd 3 14 18 [encP (P 14)] 3] ⟨⟨false, rfl⟩, ⟨rfl, rfl, rfl⟩, trivial⟩ (le_of_cov ⟨rfl, rfl, rfl, rfl, trivial⟩ ⟨rfl, rfl, rfl, trivial⟩ ⟨rfl, rfl, rfl, rfl⟩)⟩
  · conv => whnf
    repeat ((first | refine bF ?_ | refine bT ?_ | refine dK (by kernel_rfl) ?_ | refine cK rfl ?_ | refine cK (by first | decide | omega) ?_ | refine wK (by omega) (by omega) ?_); conv => whnf)
    refine idxK_nat (i := 15) (by decide) ?_
    conv => whnf
    repeat ((first | refine bF ?_ | refine bT ?_ | refine dK (by kernel_rfl) ?_ | refine cK rfl ?_ | refine cK (by first | decide | omega) ?_ | refine wK (by omega) (by omega) ?_); conv => whnf)
    refine idxK_nat (i := 15) (by decide) ?_
    conv => whnf
    repeat ((first | refine bF ?_ | refine bT ?_ | refine dK (by kernel_rfl) ?_ | refine cK rfl ?_ | refine cK (by first | decide | omega) ?_ | refine wK (by omega) (by omega) ?_); conv => whnf)
    refine roomK_le 1000 1000 (show (1 : Nat) ≤ 1000 by decide) (by decide) (by decide) (by decide) ?_
    conv => whnf
    repeat ((first | refine bF ?_ | refine bT ?_ | refine dK (by kernel_rfl) ?_ | refine cK rfl ?_ | refine cK (by first | decide | omega) ?_ | refine wK (by omega) (by omega) ?_); conv => whnf)
    refine idxK_nat (i := 15) (by decide) ?_
    conv => whnf
    repeat ((first | refine bF ?_ | refine bT ?_ | refine dK (by kernel_rfl) ?_ | refine cK rfl ?_ | refine cK (by first | decide | omega) ?_ | refine wK (by omega) (by omega) ?_); conv => whnf)
    exact ⟨15, by decide, by decide, len [.frz 18 [encP (P 15)] 3, .cd 3 15 18 [encP (P 15)] 3] ⟨⟨false, rfl⟩, ⟨rfl, rfl, rfl⟩, trivial⟩ (le_of_cov ⟨rfl, rfl, rfl, rfl, trivial⟩ ⟨rfl, rfl, rfl, trivial⟩ ⟨rfl, rfl, rfl, rfl⟩)⟩
  · conv => whnf
    repeat ((first | refine bF ?_ | refine bT ?_ | refine dK (by kernel_rfl) ?_ | refine cK rfl ?_ | refine cK (by first | decide | omega) ?_ | refine wK (by omega) (by omega) ?_); conv => whnf)
    refine idxK_nat (i := 16) (by decide) ?_
    conv => whnf
    repeat ((first | refine bF ?_ | refine bT ?_ | refine dK (by kernel_rfl) ?_ | refine cK rfl ?_ | refine cK (by first | decide | omega) ?_ | refine wK (by omega) (by omega) ?_); conv => whnf)
    refine idxK_nat (i := 16) (by decide) ?_
    conv => whnf
    repeat ((first | refine bF ?_ | refine bT ?_ | refine dK (by kernel_rfl) ?_ | refine cK rfl ?_ | refine cK (by first | decide | omega) ?_ | refine wK (by omega) (by omega) ?_); conv => whnf)
    refine roomK_le 1000 1000 (show (1 : Nat) ≤ 1000 by decide) (by decide) (by decide) (by decide) ?_
    conv => whnf
    repeat ((first | refine bF ?_ | refine bT ?_ | refine dK (by kernel_rfl) ?_ | refine cK rfl ?_ | refine cK (by first | decide | omega) ?_ | refine wK (by omega) (by omega) ?_); conv => whnf)
    refine idxK_nat (i := 16) (by decide) ?_
    conv => whnf
    repeat ((first | refine bF ?_ | refine bT ?_ | refine dK (by kernel_rfl) ?_ | refine cK rfl ?_ | refine cK (by first | decide | omega) ?_ | refine wK (by omega) (by omega) ?_); conv => whnf)
    exact ⟨16, by decide, by decide, len [.frz 18 [encP (P 16)] 3, .cd 3 16 18 [encP (P 16)] 3] ⟨⟨false, rfl⟩, ⟨rfl, rfl, rfl⟩, trivial⟩ (le_of_cov ⟨rfl, rfl, rfl, rfl, trivial⟩ ⟨rfl, rfl, rfl, trivial⟩ ⟨rfl, rfl, rfl, rfl⟩)⟩
end Go.Lk


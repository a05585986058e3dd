/-
  What is proved here: what functions of the program compute, and what follows; no condition beyond each theorem's own.
-/
import Derived.Test.YtfpmffadpjoogaaGreatPq12
set_option linter.unusedSimpArgs false
set_option linter.unusedVariables false
set_option linter.unnecessarySimpa false
set_option linter.unusedSectionVars false
namespace Go.Lk
open Go Go.Proofs Go.RowKit

theorem ML.i {P W n} {j q : Nat} (e : j = q * 3) (h : q < 17) : (mL P W n)[j]? = some (.int .i64 (P q).1) := by
  have h1 := congrArg (fun l : List D => l[0]?) (mL_p (P := P) (W := W) (n := n) h)
  have h1 : (((mL P W n).drop (q * 3)).take 3)[0]? = some (.int .i64 (P q).1) := h1
  rw [List.getElem?_take_of_lt (by decide), List.getElem?_drop, Nat.add_zero] at h1
  rw [e]; exact h1
theorem do_age {p : PS} {a : Int} {b : ByteArray} : poolDo p (8, a, b) = poolAge p a := by
  rw [poolDo, if_neg (by simp), if_neg (by simp), if_neg (show ¬ (8 : Int) = 1 by decide), if_neg (show ¬ (8 : Int) = 2 by decide), if_neg (show ¬ (8 : Int) = 6 by decide), if_neg (show ¬ (8 : Int) = 7 by decide), if_pos rfl]
theorem do_flush {p : PS} {id : Int} {b : ByteArray} (h1 : 1 ≤ id) (h16 : id ≤ 16) : poolDo p (7, id, b) = poolFlush p id := by
  rw [poolDo, if_neg (by simp), if_neg (by simp only []; omega), if_neg (show ¬ (7 : Int) = 1 by decide), if_neg (show ¬ (7 : Int) = 2 by decide), if_neg (show ¬ (7 : Int) = 6 by decide), if_pos rfl]
/-- what is as old as an age is written back -/
theorem age_known {p P W v u} (h : Inv p P W v u) (age : Int) (b : ByteArray) : ∃ q l, poolDo p (8, age, b) = (q, zP, l, 0) ∧ Inv q P W v u ∧ q.now = p.now ∧ q.f.fr.length = p.f.fr.length ∧ runL p.d l = q.d ∧ l.length ≤ 170 ∧
    (0 ≤ age → ∀ x, x ∈ q.f.dt ↔ x ∈ p.f.dt ∧ p.now - x.2 < age) ∧ ACall Tryz.prog 18 [encPS p, .agg (encPA (8, age, b))] (encR4 (q, zP, l, 0)) := by
  have d := age_did h age
  obtain ⟨d1, d2⟩ := d
  obtain ⟨q, l, e1, iq, qn, qlen, run, few, _⟩ := d1.eq
  rw [e1] at d2
  have c := poolDo_ok p (8, age, b) h.pj.fm h.pj.n1
  rw [do_age, e1] at c
  exact ⟨q, l, do_age.trans e1, iq, qn, qlen, run, few, d2, c⟩
theorem dt_one {l : List (Int × Int)} (h : Dt.rightB l = true) {x y : Int × Int} (hx : x ∈ l) (hy : y ∈ l) (e : x.1 = y.1) : x = y := by
  have s1 := Dt.since_yes h (p := x.1) (t := x.2) hx
  have s2 := Dt.since_yes h (p := x.1) (t := y.2) (by rw [e]; exact hy)
  rw [s1] at s2
  have e2 : x.2 = y.2 := congrArg Prod.fst s2
  exact Prod.ext e e2
/-- a map whose pages are all on the disk -/
theorem age_all {p P W v u} (h : Inv p P W v u) (b : ByteArray) : ∃ q l, poolDo p (8, 0, b) = (q, zP, l, 0) ∧ Inv q P W v u ∧ q.now = p.now ∧ q.f.dt = [] ∧ ACall Tryz.prog 18 [encPS p, .agg (encPA (8, 0, b))] (encR4 (q, zP, l, 0)) := by
  obtain ⟨q, l, e1, iq, qn, qlen, run, few, hd, c⟩ := age_known h 0 b
  refine ⟨q, l, e1, iq, qn, ?_, c⟩
  apply List.eq_nil_iff_forall_not_mem.2
  intro x hx
  have := (hd (Int.le_refl 0) x).1 hx
  have := h.pj.dt x this.1
  omega
theorem docFetch {P : Nat → Pg} {W : Nat → Int} {n id : Nat} (h1 : 1 ≤ id) (h16 : id ≤ 16) (b : ByteArray) (hw : ∀ q, W q = 0) (hn : bn W 16 ≠ n) : docM P W n (1, (id : Int), b) = if (P id).1 = 0 then (P, W, zP, 3) else (P, ud W id 1, P id, 0) := by
  rw [docM, if_neg (by simp only []; omega), if_neg (show ¬ (1 : Int) = 8 by decide)]
  simp only [Int.toNat_natCast]
  rw [if_neg (fun g => absurd g.1 (by decide)), if_neg (show ¬ (1 : Int) = 3 by decide), if_neg (show ¬ (1 : Int) = 4 by decide), if_neg (show ¬ (1 : Int) = 5 by decide), if_neg (show ¬ (1 : Int) = 6 by decide), if_neg (show ¬ (1 : Int) = 7 by decide), thereM]
  by_cases hz : (P id).1 = 0
  · rw [if_pos ⟨rfl, hz⟩, if_pos hz]
  · rw [if_neg (fun g => hz g.2), if_neg (fun g => absurd g.1 (by decide)), if_neg (fun g => hn g.2), if_neg (by decide), if_neg hz, ud_self, hw]
    rfl
theorem docUnpin {P : Nat → Pg} {W : Nat → Int} {n id : Nat} (h1 : 1 ≤ id) (h16 : id ≤ 16) (b : ByteArray) : docM P W n (5, (id : Int), b) = if W id = 0 then (P, W, zP, 12) else (P, ud W id (W id - 1), zP, 0) := by
  rw [docM, if_neg (by simp only []; omega), if_neg (show ¬ (5 : Int) = 8 by decide)]
  simp only [Int.toNat_natCast]
  by_cases hz : W id = 0
  · rw [if_pos ⟨by decide, by decide, hz⟩, if_pos hz]
  · rw [if_neg (fun g => hz g.2.2), if_neg (show ¬ (5 : Int) = 3 by decide), if_neg (show ¬ (5 : Int) = 4 by decide), if_pos trivial, if_neg hz]
end Go.Lk


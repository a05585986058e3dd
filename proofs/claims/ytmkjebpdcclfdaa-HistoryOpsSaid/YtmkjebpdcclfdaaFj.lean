/-
  stable sorting, plainly.
-/
import Derived.Test.YtmkjebpdcclfdaaFh
set_option linter.unusedSectionVars false
set_option linter.unusedSimpArgs false
set_option linter.unusedVariables false
set_option linter.unnecessarySimpa false
namespace Go.Lk.St

/-! ### stable sorting, plainly -/
section
variable {E : Type}
structure TP (le : E → E → Bool) : Prop where
  total : ∀ x y, le x y = true ∨ le y x = true
  trans : ∀ x y z, le x y = true → le y z = true → le x z = true
def eqv (le : E → E → Bool) (x y : E) : Bool := le x y && le y x
def Sorted (le : E → E → Bool) (l : List E) : Prop := l.Pairwise fun a b => le a b = true
def Same (le : E → E → Bool) (l r : List E) : Prop := ∀ x, r.filter (eqv le x) = l.filter (eqv le x)
variable {le : E → E → Bool}
theorem TP.refl (h : TP le) (x : E) : le x x = true := (h.total x x).elim id id
theorem TP.eqr (h : TP le) (x : E) : eqv le x x = true := by simp [eqv, h.refl x]
theorem eqv_out {x y : E} : eqv le x y = true ↔ le x y = true ∧ le y x = true := by simp [eqv]
theorem Same.refl (l : List E) : Same le l l := fun _ => rfl
theorem Same.trans {a b c : List E} (h : Same le a b) (h' : Same le b c) : Same le a c := fun x => (h' x).trans (h x)
theorem Same.symm {a b : List E} (h : Same le a b) : Same le b a := fun x => (h x).symm
theorem Same.app {a b c d : List E} (h : Same le a b) (h' : Same le c d) : Same le (a ++ c) (b ++ d) := fun x => by
  rw [List.filter_append, List.filter_append, h x, h' x]
theorem Same.mem (h : TP le) {a b : List E} (hs : Same le a b) {x : E} (hx : x ∈ b) : x ∈ a := by
  have : x ∈ b.filter (eqv le x) := List.mem_filter.2 ⟨hx, h.eqr x⟩
  rw [hs x] at this
  exact (List.mem_filter.1 this).1
theorem uniq (h : TP le) : ∀ {r r' : List E}, Sorted le r → Sorted le r' → Same le r r' → r = r'
  | [], [], _, _, _ => rfl
  | [], b :: s, _, _, hf => by
    have := hf b
    simp [List.filter_cons, h.eqr b] at this
  | a :: r, [], _, _, hf => by
    have := hf a
    simp [List.filter_cons, h.eqr a] at this
  | a :: r, b :: s, hr, hs, hf => by
    have hb : b ∈ a :: r := hf.mem h (List.mem_cons_self ..)
    have ha : a ∈ b :: s := hf.symm.mem h (List.mem_cons_self ..)
    have hab : le a b = true := by
      rcases List.mem_cons.1 hb with e | e
      · rw [e]; exact h.refl a
      · exact (List.pairwise_cons.1 hr).1 b e
    have hba : le b a = true := by
      rcases List.mem_cons.1 ha with e | e
      · rw [e]; exact h.refl b
      · exact (List.pairwise_cons.1 hs).1 a e
    have e : a = b := by
      have := hf a
      rw [List.filter_cons_of_pos (eqv_out.2 ⟨hab, hba⟩), List.filter_cons_of_pos (h.eqr a)] at this
      exact (List.cons.inj this).1.symm
    subst e
    rw [uniq h (List.pairwise_cons.1 hr).2 (List.pairwise_cons.1 hs).2 fun x => ?_]
    have := hf x
    rw [List.filter_cons, List.filter_cons] at this
    split at this
    · exact (List.cons.inj this).2
    · exact this

def ins (le : E → E → Bool) (x : E) : List E → List E
  | [] => [x]
  | y :: r => if le x y = true then x :: y :: r else y :: ins le x r
def srt (le : E → E → Bool) : List E → List E
  | [] => []
  | x :: r => ins le x (srt le r)
theorem ins_mem {x z : E} : ∀ {l : List E}, z ∈ ins le x l ↔ z = x ∨ z ∈ l
  | [] => by simp [ins]
  | y :: r => by
    simp only [ins]
    split
    · simp
    · simp only [List.mem_cons, ins_mem]
      constructor
      · rintro (e | e | e)
        · exact .inr (.inl e)
        · exact .inl e
        · exact .inr (.inr e)
      · rintro (e | e | e)
        · exact .inr (.inl e)
        · exact .inl e
        · exact .inr (.inr e)
theorem ins_sorted (h : TP le) {x : E} : ∀ {l : List E}, Sorted le l → Sorted le (ins le x l)
  | [], _ => by simp [ins, Sorted]
  | y :: r, hs => by
    have hp := List.pairwise_cons.1 hs
    simp only [ins]
    split
    · rename_i hx
      refine List.pairwise_cons.2 ⟨fun z hz => ?_, hs⟩
      rcases List.mem_cons.1 hz with e | e
      · rw [e]; exact hx
      · exact h.trans _ _ _ hx (hp.1 z e)
    · rename_i hx
      refine List.pairwise_cons.2 ⟨fun z hz => ?_, ins_sorted h hp.2⟩
      rcases ins_mem.1 hz with e | e
      · rw [e]; exact (h.total y x).resolve_right hx
      · exact hp.1 z e
theorem ins_same (h : TP le) {x : E} : ∀ {l : List E}, Same le (x :: l) (ins le x l)
  | [] => Same.refl _
  | y :: r => fun z => by
    simp only [ins]
    split
    · rfl
    · rename_i hx
      have ih := ins_same h (x := x) (l := r) z
      by_cases h1 : eqv le z y = true
      · by_cases h2 : eqv le z x = true
        · exact absurd (h.trans _ _ _ (eqv_out.1 h2).2 (eqv_out.1 h1).1) hx
        · rw [List.filter_cons_of_neg h2] at ih
          rw [List.filter_cons_of_neg h2, List.filter_cons_of_pos h1, List.filter_cons_of_pos h1, ih]
      · rw [List.filter_cons_of_neg h1, ih, List.filter_cons, List.filter_cons, List.filter_cons_of_neg h1]
theorem srt_sorted (h : TP le) : ∀ (l : List E), Sorted le (srt le l)
  | [] => .nil
  | x :: r => ins_sorted h (srt_sorted h r)
theorem srt_same (h : TP le) : ∀ (l : List E), Same le l (srt le l)
  | [] => Same.refl _
  | x :: r => (Same.app (Same.refl [x]) (srt_same h r)).trans (ins_same h)
theorem srt_uniq (h : TP le) {l r : List E} (hs : Sorted le r) (hf : Same le l r) : r = srt le l :=
  uniq h hs (srt_sorted h l) (hf.symm.trans (srt_same h l))
theorem srt_of (h : TP le) {a b : List E} (hf : Same le a b) : srt le a = srt le b := srt_uniq h (srt_sorted h a) (hf.symm.trans (srt_same h a))
theorem srt_id (h : TP le) {l : List E} (hs : Sorted le l) : srt le l = l := (srt_uniq h hs (Same.refl l)).symm
theorem srt_app (h : TP le) (a b : List E) : srt le (srt le a ++ srt le b) = srt le (a ++ b) := (srt_of h ((srt_same h a).app (srt_same h b))).symm
theorem ins_len {x : E} : ∀ {l : List E}, (ins le x l).length = l.length + 1
  | [] => rfl
  | y :: r => by
    simp only [ins]
    split
    · rfl
    · simp [ins_len]
theorem srt_len : ∀ (l : List E), (srt le l).length = l.length
  | [] => rfl
  | x :: r => by rw [srt, ins_len, srt_len r]; rfl
theorem srt_mem (h : TP le) {l : List E} {x : E} : x ∈ srt le l ↔ x ∈ l := ⟨fun hx => (srt_same h l).mem h hx, fun hx => (srt_same h l).symm.mem h hx⟩
theorem sorted_app {a b : List E} : Sorted le (a ++ b) ↔ Sorted le a ∧ Sorted le b ∧ ∀ x ∈ a, ∀ y ∈ b, le x y = true := List.pairwise_append
/-- blocks that are strictly apart may stand the other way round -/
theorem same_swap (h : TP le) {a b : List E} (hs : ∀ x ∈ a, ∀ y ∈ b, le x y = false) : Same le (a ++ b) (b ++ a) := fun z => by
  rw [List.filter_append, List.filter_append]
  have : a.filter (eqv le z) = [] ∨ b.filter (eqv le z) = [] := by
    rcases List.eq_nil_or_concat (a.filter (eqv le z)) with e | ⟨r, x, e⟩
    · exact .inl e
    · refine .inr (List.filter_eq_nil_iff.2 fun y hy hz => ?_)
      have hx : x ∈ a.filter (eqv le z) := by rw [e]; simp
      obtain ⟨h1, h2⟩ := List.mem_filter.1 hx
      have := hs x h1 y hy
      rw [h.trans _ _ _ (eqv_out.1 h2).2 (eqv_out.1 hz).1] at this
      cases this
  rcases this with e | e <;> rw [e] <;> simp
/-- two halves, merged apart -/
theorem merge_halves (h : TP le) {l1 l2 r1 r2 : List E} (hl : Sorted le (l1 ++ l2)) (hr : Sorted le (r1 ++ r2)) (h1 : ∀ x ∈ l2, ∀ y ∈ r1, le x y = false) (h2 : ∀ x ∈ l1, ∀ y ∈ r2, le x y = true) :
    srt le (l1 ++ r1) ++ srt le (l2 ++ r2) = srt le ((l1 ++ l2) ++ (r1 ++ r2)) := by
  obtain ⟨a1, a2, a3⟩ := sorted_app.1 hl
  obtain ⟨b1, b2, b3⟩ := sorted_app.1 hr
  refine srt_uniq h (sorted_app.2 ⟨srt_sorted h _, srt_sorted h _, fun x hx y hy => ?_⟩) ?_
  · rw [srt_mem h, List.mem_append] at hx hy
    rcases hx with hx | hx
    · rcases hy with hy | hy
      · exact a3 x hx y hy
      · exact h2 x hx y hy
    · rcases hy with hy | hy
      · exact (h.total x y).resolve_right (by rw [h1 y hy x hx]; decide)
      · exact b3 x hx y hy
  · refine Same.trans ?_ ((srt_same h (l1 ++ r1)).app (srt_same h (l2 ++ r2)))
    have := (Same.refl (le := le) l1).app ((same_swap h h1).app (Same.refl r2))
    simpa [List.append_assoc] using this
/-- one element among sorted ones -/
theorem ins_at (h : TP le) {a b : List E} {x : E} (hs : Sorted le (a ++ b)) (h1 : ∀ y ∈ a, le y x = true) (h2 : ∀ y ∈ b, le y x = false) : a ++ x :: b = srt le ((a ++ b) ++ [x]) := by
  obtain ⟨a1, a2, a3⟩ := sorted_app.1 hs
  refine srt_uniq h (sorted_app.2 ⟨a1, List.pairwise_cons.2 ⟨fun y hy => (h.total x y).resolve_right (by rw [h2 y hy]; decide), a2⟩, fun y hy z hz => ?_⟩) ?_
  · rcases List.mem_cons.1 hz with e | e
    · rw [e]; exact h1 y hy
    · exact a3 y hy z e
  · have := (Same.refl (le := le) a).app (same_swap h (a := b) (b := [x]) fun y hy z hz => by rw [List.mem_singleton.1 hz]; exact h2 y hy)
    simpa [List.append_assoc] using this
/-- an elder element among sorted ones -/
theorem ins_front (h : TP le) {a b : List E} {x : E} (hs : Sorted le (a ++ b)) (h1 : ∀ y ∈ a, le x y = false) (h2 : ∀ y ∈ b, le x y = true) : a ++ x :: b = srt le (x :: (a ++ b)) := by
  obtain ⟨a1, a2, a3⟩ := sorted_app.1 hs
  refine srt_uniq h (sorted_app.2 ⟨a1, List.pairwise_cons.2 ⟨fun y hy => h2 y hy, a2⟩, fun y hy z hz => ?_⟩) ?_
  · rcases List.mem_cons.1 hz with e | e
    · rw [e]; exact (h.total y x).resolve_right (by rw [h1 y hy]; decide)
    · exact a3 y hy z e
  · have := (same_swap h (a := [x]) (b := a) fun y hy z hz => by rw [List.mem_singleton.1 hy]; exact h1 z hz).app (Same.refl b)
    simpa [List.append_assoc] using this

/-! ### chunks -/
/-- chunks of B, each sorted -/
def cs (le : E → E → Bool) (B : Nat) : Nat → List E → List E
  | 0, l => srt le l
  | n + 1, l => if l.length ≤ B then srt le l else srt le (l.take B) ++ cs le B n (l.drop B)
theorem cs_len {B : Nat} : ∀ (n : Nat) (l : List E), (cs le B n l).length = l.length
  | 0, l => srt_len l
  | n + 1, l => by
    rw [cs]
    split
    · exact srt_len l
    · rw [List.length_append, srt_len, cs_len n, List.length_take, List.length_drop]; omega
theorem cs_small {B n : Nat} {l : List E} (h : l.length ≤ B) : cs le B n l = srt le l := by
  cases n with
  | zero => rfl
  | succ n => rw [cs, if_pos h]
theorem cs_big {B : Nat} {l : List E} : ∀ {n m : Nat}, 0 < B → l.length ≤ n → l.length ≤ m → cs le B n l = cs le B m l
  | 0, m, hB, hn, hm => by rw [cs_small (show l.length ≤ B by omega), cs_small (show l.length ≤ B by omega)]
  | n + 1, 0, hB, hn, hm => by rw [cs_small (show l.length ≤ B by omega), cs_small (show l.length ≤ B by omega)]
  | n + 1, m + 1, hB, hn, hm => by
    rw [cs, cs]
    split
    · rfl
    · rw [cs_big (l := l.drop B) (n := n) (m := m) hB (by rw [List.length_drop]; omega) (by rw [List.length_drop]; omega)]
end
end Go.Lk.St


/-
  What is proved here: what functions of the program compute, and what follows; no condition beyond each theorem's own.
-/
import Derived.Test.YtfpmffadpjoogaaGreatBAh
import Derived.Test.YtfpmffadpjoogaaGreatBAg
set_option linter.unusedSimpArgs false
set_option linter.unusedVariables false
set_option linter.unnecessarySimpa false
set_option linter.unusedSectionVars false
namespace Go.Lk
open Go Go.Proofs Go.RowKit

def headG (s : ByteArray) : Nat → Nat → Int × Bool
  | 0, _ => (0, false)
  | n + 1, k => if s = headJ k then ((k : Int), true) else headG s n (k + 1)
def headM (s : ByteArray) : Int × Bool := headG s 16 1
theorem headed_ok (s : ByteArray) : ACall Tryz.prog 109 [.str s] (.tup [.int .i64 (headM s).1, .bool (headM s).2]) := by
  refine acall_of Tryz.func109 1 rfl (by kernel_rfl) ?_
  conv => whnf
  refine aloop (ι := Nat) (fun k => [(0, .d (.str s)), (4, .d (.int .i64 k))]) (fun _ => [])
    (fun k => 1 ≤ k ∧ k ≤ 17 ∧ headM s = headG s (17 - k) k) (fun k => 17 - k) 1 ⟨by omega, by omega, rfl⟩ (le0 (le_of_cov ⟨rfl, rfl, trivial⟩ trivial ⟨rfl, rfl, rfl, rfl⟩)) ?_
  rintro k ⟨h1, h2, hR⟩
  rw [hR]
  conv => whnf
  refine bcase_p (fun h5 => ?_) (fun h5 => ?_) <;> conv => whnf
  · have e : 17 - k = (16 - k) + 1 := by omega
    rw [e, headG]
    repeat ((first | refine bF ?_ | refine bT ?_ | refine dK (by kernel_rfl) ?_ | refine cK rfl ?_ | refine cK (by first | decide | omega) ?_ | refine wK (by omega) (by omega) ?_); conv => whnf)
    refine callX_pure (head_ok k (by omega)) ?_
    conv => whnf
    repeat ((first | refine bF ?_ | refine bT ?_ | refine dK (by kernel_rfl) ?_ | refine cK rfl ?_ | refine cK (by first | decide | omega) ?_ | refine wK (by omega) (by omega) ?_); conv => whnf)
    refine bcase_p (fun h6 => ?_) (fun h6 => ?_) <;> conv => whnf
    · repeat ((first | refine bF ?_ | refine bT ?_ | refine dK (by kernel_rfl) ?_ | refine cK rfl ?_ | refine cK (by first | decide | omega) ?_ | refine wK (by omega) (by omega) ?_); conv => whnf)
      rw [if_pos h6]
      exact ret_of rfl rfl
    · repeat ((first | refine bF ?_ | refine bT ?_ | refine dK (by kernel_rfl) ?_ | refine cK rfl ?_ | refine cK (by first | decide | omega) ?_ | refine wK (by omega) (by omega) ?_); conv => whnf)
      rw [if_neg h6]
      exact ⟨k + 1, ⟨by omega, by omega, by rw [show 17 - (k + 1) = 16 - k by omega]⟩, by omega, (le0 (le_of_cov ⟨rfl, rfl, trivial⟩ trivial ⟨rfl, rfl, rfl, rfl⟩))⟩
  · repeat ((first | refine bF ?_ | refine bT ?_ | refine dK (by kernel_rfl) ?_ | refine cK rfl ?_ | refine cK (by first | decide | omega) ?_ | refine wK (by omega) (by omega) ?_); conv => whnf)
    have ek : k = 17 := by omega
    subst ek
    exact ret_of rfl rfl
theorem pick_size {n : Int} : ∀ {l : List Wt} {b : ByteArray}, b.size = 16 → (∀ w ∈ l, w.2.size = 16) → (pick n l b).size = 16
  | [], b, hb, _ => hb
  | w :: r, b, hb, h => by
    show (pick n r (if w.1 = n then w.2 else b)).size = 16
    refine pick_size ?_ fun x hx => h x (List.mem_cons_of_mem _ hx)
    split
    · exact h w (List.mem_cons_self ..)
    · exact hb
theorem rdS_size {d : DS} (hR : DR d) {n : Int} (h0 : 0 ≤ n) (h1 : n < d.sec.length) : (rdS d n).size = 16 := by
  refine pick_size ?_ fun w hw => ?_
  · rw [List.getElem?_eq_getElem (by omega), Option.getD_some]
    exact hR.s _ _
  · obtain ⟨i, hi, rfl⟩ := List.mem_iff_getElem.1 hw
    exact (okW_out.1 (hR.c i hi)).2.2
theorem dread_yes {d : DS} (hR : DR d) {n : Int} (h0 : 0 ≤ n) (h1 : n < d.sec.length) : dreadM d n = (rdS d n, 0) := if_pos ⟨hR, h0, h1⟩
noncomputable def fixJ (d : DS) : List Jo := if (headM (rdS d 0)).2 = true then [wJ (2 * (headM (rdS d 0)).1 + 1) (rdS d 1), wJ (2 * (headM (rdS d 0)).1 + 1 + 1) (rdS d 2), syJ] else []
open Classical in
noncomputable def repairM (d : DS) : List Jo := if Us d then (if rdS d 0 = nul16 then [] else fixJ d ++ [wJ 0 nul16, syJ]) else []
theorem headG_at {s : ByteArray} : ∀ {n k : Nat}, (headG s n k).2 = true → (k : Int) ≤ (headG s n k).1 ∧ (headG s n k).1 < ((k + n : Nat) : Int) ∧ s = headJ (headG s n k).1.toNat
  | 0, k, h => by simp [headG] at h
  | n + 1, k, h => by
    rw [headG] at h ⊢
    split
    · rename_i e; exact ⟨by omega, by omega, by simpa using e⟩
    · rename_i e
      rw [if_neg e] at h
      have := headG_at h
      exact ⟨by omega, by omega, this.2.2⟩
theorem repair_ok (d : DS) : OCall Tryz.prog 71 [encDS d] ((repairM d).map encJ) 3 := by
  refine ocall_of Tryz.func71 1 rfl (by kernel_rfl) ?_
  conv => whnf
  repeat ((first | refine bF ?_ | refine bT ?_ | refine dK (by kernel_rfl) ?_ | refine cK rfl ?_ | refine cK (by first | decide | omega) ?_ | refine wK (by omega) (by omega) ?_); conv => whnf)
  refine callX_pure (usable_ok d) ?_
  conv => whnf
  repeat ((first | refine bF ?_ | refine bT ?_ | refine dK (by kernel_rfl) ?_ | refine cK rfl ?_ | refine cK (by first | decide | omega) ?_ | refine wK (by omega) (by omega) ?_); conv => whnf)
  refine bcase_intro (fun h1 => ?_) (fun h1 => ?_) <;> conv => whnf
  · repeat ((first | refine bF ?_ | refine bT ?_ | refine dK (by kernel_rfl) ?_ | refine cK rfl ?_ | refine cK (by first | decide | omega) ?_ | refine wK (by omega) (by omega) ?_); conv => whnf)
    rw [repairM, if_neg (fun q => by rw [usB_t.2 q] at h1; exact absurd h1 (by decide))]
    exact ⟨2, rfl, .inr ⟨rfl, rfl⟩⟩
  have hU : Us d := usB_t.1 (by simpa using h1)
  have hR := hU.dr
  have hn := hU.n
  rw [repairM, if_pos hU]
  repeat ((first | refine bF ?_ | refine bT ?_ | refine dK (by kernel_rfl) ?_ | refine cK rfl ?_ | refine cK (by first | decide | omega) ?_ | refine wK (by omega) (by omega) ?_); conv => whnf)
  refine callX_pure (dread_ok d 0) ?_
  conv => whnf
  repeat ((first | refine bF ?_ | refine bT ?_ | refine dK (by kernel_rfl) ?_ | refine cK rfl ?_ | refine cK (by first | decide | omega) ?_ | refine wK (by omega) (by omega) ?_); conv => whnf)
  rw [dread_yes hR (by decide) (by omega)]
  rw [show ({ data := #[0, 0, 0, 0, 0, 0, 0, 0, 0, 0, 0, 0, 0, 0, 0, 0] } : ByteArray) = nul16 from lit16_eq]
  refine bcase_p (fun h2 => ?_) (fun h2 => ?_) <;> conv => whnf
  · repeat ((first | refine bF ?_ | refine bT ?_ | refine dK (by kernel_rfl) ?_ | refine cK rfl ?_ | refine cK (by first | decide | omega) ?_ | refine wK (by omega) (by omega) ?_); conv => whnf)
    rw [if_pos h2]
    exact ⟨2, rfl, .inr ⟨rfl, rfl⟩⟩
  rw [if_neg h2]
  repeat ((first | refine bF ?_ | refine bT ?_ | refine dK (by kernel_rfl) ?_ | refine cK rfl ?_ | refine cK (by first | decide | omega) ?_ | refine wK (by omega) (by omega) ?_); conv => whnf)
  refine callX_pure (headed_ok (rdS d 0)) ?_
  conv => whnf
  repeat ((first | refine bF ?_ | refine bT ?_ | refine dK (by kernel_rfl) ?_ | refine cK rfl ?_ | refine cK (by first | decide | omega) ?_ | refine wK (by omega) (by omega) ?_); conv => whnf)
  refine bcase_intro (fun h3 => ?_) (fun h3 => ?_) <;> conv => whnf
  · obtain ⟨q1, q2, _⟩ := headG_at (show (headG (rdS d 0) 16 1).2 = true from h3)
    have q1 : 1 ≤ (headM (rdS d 0)).1 := q1
    have q2 : (headM (rdS d 0)).1 < 17 := q2
    repeat ((first | refine bF ?_ | refine bT ?_ | refine dK (by kernel_rfl) ?_ | refine cK rfl ?_ | refine cK (by first | decide | omega) ?_ | refine wK (by omega) (by omega) ?_); conv => whnf)
    refine callX_pure (dread_ok d 1) ?_
    conv => whnf
    repeat ((first | refine bF ?_ | refine bT ?_ | refine dK (by kernel_rfl) ?_ | refine cK rfl ?_ | refine cK (by first | decide | omega) ?_ | refine wK (by omega) (by omega) ?_); conv => whnf)
    rw [dread_yes hR (by decide) (by omega)]
    repeat ((first | refine bF ?_ | refine bT ?_ | refine dK (by kernel_rfl) ?_ | refine cK rfl ?_ | refine cK (by first | decide | omega) ?_ | refine wK (by omega) (by omega) ?_); conv => whnf)
    refine callX_pure (dread_ok d 2) ?_
    conv => whnf
    repeat ((first | refine bF ?_ | refine bT ?_ | refine dK (by kernel_rfl) ?_ | refine cK rfl ?_ | refine cK (by first | decide | omega) ?_ | refine wK (by omega) (by omega) ?_); conv => whnf)
    rw [dread_yes hR (by decide) (by omega)]
    obtain ⟨p, hp⟩ : ∃ p, (headM (rdS d 0)).1 = p := ⟨_, rfl⟩
    rw [fixJ, if_pos h3, hp]
    rw [hp] at q1 q2
    repeat ((first | refine bF ?_ | refine bT ?_ | refine dK (by kernel_rfl) ?_ | refine cK rfl ?_ | refine cK (by first | decide | omega) ?_ | refine wK (by omega) (by omega) ?_); conv => whnf)
    refine callX_pure (home_ok p (vaB_t.2 ⟨by omega, by omega⟩)) ?_
    conv => whnf
    repeat ((first | refine bF ?_ | refine bT ?_ | refine dK (by kernel_rfl) ?_ | refine cK rfl ?_ | refine cK (by first | decide | omega) ?_ | refine wK (by omega) (by omega) ?_); conv => whnf)
    refine callX_own (halves_ok (2 * p + 1) (rdS d 1) (rdS d 2) (by omega) (by omega)) ?_
    conv => whnf
    repeat ((first | refine bF ?_ | refine bT ?_ | refine dK (by kernel_rfl) ?_ | refine cK rfl ?_ | refine cK (by first | decide | omega) ?_ | refine wK (by omega) (by omega) ?_); conv => whnf)
    refine callX_own (top_ok nul16) ?_
    conv => whnf
    repeat ((first | refine bF ?_ | refine bT ?_ | refine dK (by kernel_rfl) ?_ | refine cK rfl ?_ | refine cK (by first | decide | omega) ?_ | refine wK (by omega) (by omega) ?_); conv => whnf)
    refine roomK_le 1000 1000 (by simp) (by decide) (by decide) (by decide) ?_
    conv => whnf
    exact ⟨2, rfl, .inl ⟨42, rfl, rfl⟩⟩
  · rw [fixJ, if_neg (by rw [h3]; decide)]
    repeat ((first | refine bF ?_ | refine bT ?_ | refine dK (by kernel_rfl) ?_ | refine cK rfl ?_ | refine cK (by first | decide | omega) ?_ | refine wK (by omega) (by omega) ?_); conv => whnf)
    refine callX_own (top_ok nul16) ?_
    conv => whnf
    repeat ((first | refine bF ?_ | refine bT ?_ | refine dK (by kernel_rfl) ?_ | refine cK rfl ?_ | refine cK (by first | decide | omega) ?_ | refine wK (by omega) (by omega) ?_); conv => whnf)
    refine roomK_le 1000 1000 (by simp) (by decide) (by decide) (by decide) ?_
    conv => whnf
    exact ⟨2, rfl, .inl ⟨45, rfl, rfl⟩⟩
noncomputable def commitM (d : DS) (p : Int) (s : ByteArray) : DS × Int := if (planM d p s).2 = 0 then (runM d (planM d p s).1 ((planM d p s).1.length : Nat), 0) else (d, (planM d p s).2)
theorem planM_len (d : DS) (p : Int) (s : ByteArray) : (planM d p s).1.length ≤ 10 := by
  rw [planM]; split
  · simp [planJ]
  · simp
theorem commit_ok (d : DS) (p : Int) (s : ByteArray) (hs : s.size ≤ 1000000) : ACall Tryz.prog 152 [encDS d, .int .i64 p, .str s] (.tup [encDS (commitM d p s).1, .int .i64 (commitM d p s).2]) := by
  refine acall_of Tryz.func152 3 rfl (by kernel_rfl) ?_
  conv => whnf
  repeat ((first | refine bF ?_ | refine bT ?_ | refine dK (by kernel_rfl) ?_ | refine cK rfl ?_ | refine cK (by first | decide | omega) ?_ | refine wK (by omega) (by omega) ?_); conv => whnf)
  refine callX_pure (plan_ok d p s hs) ?_
  conv => whnf
  repeat ((first | refine bF ?_ | refine bT ?_ | refine dK (by kernel_rfl) ?_ | refine cK rfl ?_ | refine cK (by first | decide | omega) ?_ | refine wK (by omega) (by omega) ?_); conv => whnf)
  have hl := planM_len d p s
  have hml : ((planM d p s).1.map encJ).length = (planM d p s).1.length := List.length_map ..
  refine bcase_n (fun h1 => ?_) (fun h1 => ?_) <;> conv => whnf
  · repeat ((first | refine bF ?_ | refine bT ?_ | refine dK (by kernel_rfl) ?_ | refine cK rfl ?_ | refine cK (by first | decide | omega) ?_ | refine wK (by omega) (by omega) ?_); conv => whnf)
    rw [commitM, if_neg h1]
    exact ret_of rfl rfl
  · rw [commitM, if_pos h1]
    repeat ((first | refine bF ?_ | refine bT ?_ | refine dK (by kernel_rfl) ?_ | refine cK rfl ?_ | refine cK (by first | decide | omega) ?_ | refine wK (by omega) (by omega) ?_); conv => whnf)
    rw [hml]
    refine callX_pure (run_ok d (planM d p s).1 ((planM d p s).1.length : Nat) (by omega)) ?_
    conv => whnf
    repeat ((first | refine bF ?_ | refine bT ?_ | refine dK (by kernel_rfl) ?_ | refine cK rfl ?_ | refine cK (by first | decide | omega) ?_ | refine wK (by omega) (by omega) ?_); conv => whnf)
    exact ret_of rfl rfl
theorem repairM_len (d : DS) : (repairM d).length ≤ 5 := by
  rw [repairM]; split
  · split
    · simp
    · rw [fixJ]; split <;> simp
  · simp
noncomputable def recM (d : DS) : DS := runM d (repairM d) ((repairM d).length : Nat)
theorem recover_ok (d : DS) : ACall Tryz.prog 50 [encDS d] (encDS (recM d)) := by
  refine acall_of Tryz.func50 1 rfl (by kernel_rfl) ?_
  conv => whnf
  repeat ((first | refine bF ?_ | refine bT ?_ | refine dK (by kernel_rfl) ?_ | refine cK rfl ?_ | refine cK (by first | decide | omega) ?_ | refine wK (by omega) (by omega) ?_); conv => whnf)
  refine callX_own (repair_ok d) ?_
  conv => whnf
  have hl := repairM_len d
  have hml : ((repairM d).map encJ).length = (repairM d).length := List.length_map ..
  repeat ((first | refine bF ?_ | refine bT ?_ | refine dK (by kernel_rfl) ?_ | refine cK rfl ?_ | refine cK (by first | decide | omega) ?_ | refine wK (by omega) (by omega) ?_); conv => whnf)
  rw [hml]
  refine callX_pure (run_ok d (repairM d) ((repairM d).length : Nat) (by omega)) ?_
  conv => whnf
  repeat ((first | refine bF ?_ | refine bT ?_ | refine dK (by kernel_rfl) ?_ | refine cK rfl ?_ | refine cK (by first | decide | omega) ?_ | refine wK (by omega) (by omega) ?_); conv => whnf)
  exact ret_of rfl rfl
open Classical in
noncomputable def getJ (d : DS) (p : Int) : ByteArray × Int := if Us d ∧ 1 ≤ p ∧ p ≤ 16 then (rdS d (2 * p + 1) ++ rdS d (2 * p + 1 + 1), 0) else (ByteArray.empty, 1)
theorem getJ_ok (d : DS) (p : Int) : ACall Tryz.prog 48 [encDS d, .int .i64 p] (.tup [.str (getJ d p).1, .int .i64 (getJ d p).2]) := by
  refine acall_of Tryz.func48 2 rfl (by kernel_rfl) ?_
  conv => whnf
  repeat ((first | refine bF ?_ | refine bT ?_ | refine dK (by kernel_rfl) ?_ | refine cK rfl ?_ | refine cK (by first | decide | omega) ?_ | refine wK (by omega) (by omega) ?_); conv => whnf)
  refine callX_pure (usable_ok d) ?_
  conv => whnf
  repeat ((first | refine bF ?_ | refine bT ?_ | refine dK (by kernel_rfl) ?_ | refine cK rfl ?_ | refine cK (by first | decide | omega) ?_ | refine wK (by omega) (by omega) ?_); conv => whnf)
  refine bcase_intro (fun h1 => ?_) (fun h1 => ?_) <;> conv => whnf
  · repeat ((first | refine bF ?_ | refine bT ?_ | refine dK (by kernel_rfl) ?_ | refine cK rfl ?_ | refine cK (by first | decide | omega) ?_ | refine wK (by omega) (by omega) ?_); conv => whnf)
    rw [getJ, if_neg (fun q => by rw [usB_t.2 q.1] at h1; exact absurd h1 (by decide))]
    exact ret_of rfl rfl
  have hU : Us d := usB_t.1 (by simpa using h1)
  have hR := hU.dr
  have hn := hU.n
  repeat ((first | refine bF ?_ | refine bT ?_ | refine dK (by kernel_rfl) ?_ | refine cK rfl ?_ | refine cK (by first | decide | omega) ?_ | refine wK (by omega) (by omega) ?_); conv => whnf)
  refine callX_pure (valid_ok p) ?_
  conv => whnf
  repeat ((first | refine bF ?_ | refine bT ?_ | refine dK (by kernel_rfl) ?_ | refine cK rfl ?_ | refine cK (by first | decide | omega) ?_ | refine wK (by omega) (by omega) ?_); conv => whnf)
  refine bcase_intro (fun h2 => ?_) (fun h2 => ?_) <;> conv => whnf
  · repeat ((first | refine bF ?_ | refine bT ?_ | refine dK (by kernel_rfl) ?_ | refine cK rfl ?_ | refine cK (by first | decide | omega) ?_ | refine wK (by omega) (by omega) ?_); conv => whnf)
    rw [getJ, if_neg (fun q => by rw [vaB_t.2 q.2] at h2; exact absurd h2 (by decide))]
    exact ret_of rfl rfl
  have hV := vaB_t.1 (show vaB p = true by simpa using h2)
  rw [getJ, if_pos ⟨hU, hV⟩]
  repeat ((first | refine bF ?_ | refine bT ?_ | refine dK (by kernel_rfl) ?_ | refine cK rfl ?_ | refine cK (by first | decide | omega) ?_ | refine wK (by omega) (by omega) ?_); conv => whnf)
  refine callX_pure (home_ok p (vaB_t.2 hV)) ?_
  conv => whnf
  repeat ((first | refine bF ?_ | refine bT ?_ | refine dK (by kernel_rfl) ?_ | refine cK rfl ?_ | refine cK (by first | decide | omega) ?_ | refine wK (by omega) (by omega) ?_); conv => whnf)
  refine callX_pure (dread_ok d (2 * p + 1)) ?_
  conv => whnf
  repeat ((first | refine bF ?_ | refine bT ?_ | refine dK (by kernel_rfl) ?_ | refine cK rfl ?_ | refine cK (by first | decide | omega) ?_ | refine wK (by omega) (by omega) ?_); conv => whnf)
  rw [dread_yes hR (by omega) (by omega)]
  repeat ((first | refine bF ?_ | refine bT ?_ | refine dK (by kernel_rfl) ?_ | refine cK rfl ?_ | refine cK (by first | decide | omega) ?_ | refine wK (by omega) (by omega) ?_); conv => whnf)
  refine callX_pure (home_ok p (vaB_t.2 hV)) ?_
  conv => whnf
  repeat ((first | refine bF ?_ | refine bT ?_ | refine dK (by kernel_rfl) ?_ | refine cK rfl ?_ | refine cK (by first | decide | omega) ?_ | refine wK (by omega) (by omega) ?_); conv => whnf)
  refine callX_pure (dread_ok d (2 * p + 1 + 1)) ?_
  conv => whnf
  repeat ((first | refine bF ?_ | refine bT ?_ | refine dK (by kernel_rfl) ?_ | refine cK rfl ?_ | refine cK (by first | decide | omega) ?_ | refine wK (by omega) (by omega) ?_); conv => whnf)
  rw [dread_yes hR (by omega) (by omega)]
  have z1 := rdS_size hR (show 0 ≤ 2 * p + 1 by omega) (by omega)
  have z2 := rdS_size hR (show 0 ≤ 2 * p + 1 + 1 by omega) (by omega)
  refine condK_of (by show (rdS d (2 * p + 1)).size + (rdS d (2 * p + 1 + 1)).size ≤ _; rw [z1, z2]; decide) ?_
  conv => whnf
  repeat ((first | refine bF ?_ | refine bT ?_ | refine dK (by kernel_rfl) ?_ | refine cK rfl ?_ | refine cK (by first | decide | omega) ?_ | refine wK (by omega) (by omega) ?_); conv => whnf)
  exact ret_of rfl rfl
end Go.Lk

namespace Go.Lk
open Go Go.Proofs Go.RowKit

/-! ### the store -/
theorem snoughts_ok : ACall Tryz.prog 128 [] (.str (nulB 32)) := by
  refine acall_of Tryz.func128 0 rfl (by kernel_rfl) ?_
  conv => whnf
  refine callX_pure (repeat_ok zero1 32 (by decide) (by decide)) ?_
  conv => whnf
  repeat ((first | refine bF ?_ | refine bT ?_ | refine dK (by kernel_rfl) ?_ | refine cK rfl ?_ | refine cK (by first | decide | omega) ?_ | refine wK (by omega) (by omega) ?_); conv => whnf)
  exact ret_of rfl rfl
noncomputable def getS (d : DS) (id : Int) : Pg × Int :=
  if (getJ d id).2 ≠ 0 then (zP, (getJ d id).2) else if (takeM (getJ d id).1).2 ≠ 0 then (zP, (takeM (getJ d id).1).2) else if (takeM (getJ d id).1).1.1 ≠ id then (zP, 9) else ((takeM (getJ d id).1).1, 0)
theorem getS_ok (d : DS) (id : Int) : ACall Tryz.prog 79 [encDS d, .int .i64 id] (.tup [.agg (encP (getS d id).1), .int .i64 (getS d id).2]) := by
  refine acall_of Tryz.func79 2 rfl (by kernel_rfl) ?_
  conv => whnf
  repeat ((first | refine bF ?_ | refine bT ?_ | refine dK (by kernel_rfl) ?_ | refine cK rfl ?_ | refine cK (by first | decide | omega) ?_ | refine wK (by omega) (by omega) ?_); conv => whnf)
  refine callX_pure (getJ_ok d id) ?_
  conv => whnf
  repeat ((first | refine bF ?_ | refine bT ?_ | refine dK (by kernel_rfl) ?_ | refine cK rfl ?_ | refine cK (by first | decide | omega) ?_ | refine wK (by omega) (by omega) ?_); conv => whnf)
  rw [getS]
  refine bcase_n (fun h1 => ?_) (fun h1 => ?_) <;> conv => whnf
  · repeat ((first | refine bF ?_ | refine bT ?_ | refine dK (by kernel_rfl) ?_ | refine cK rfl ?_ | refine cK (by first | decide | omega) ?_ | refine wK (by omega) (by omega) ?_); conv => whnf)
    rw [if_pos h1]
    exact ret_of rfl rfl
  rw [if_neg (fun q => q h1)]
  repeat ((first | refine bF ?_ | refine bT ?_ | refine dK (by kernel_rfl) ?_ | refine cK rfl ?_ | refine cK (by first | decide | omega) ?_ | refine wK (by omega) (by omega) ?_); conv => whnf)
  refine callX_pure (take_ok (getJ d id).1) ?_
  conv => whnf
  repeat ((first | refine bF ?_ | refine bT ?_ | refine dK (by kernel_rfl) ?_ | refine cK rfl ?_ | refine cK (by first | decide | omega) ?_ | refine wK (by omega) (by omega) ?_); conv => whnf)
  refine bcase_n (fun h2 => ?_) (fun h2 => ?_) <;> conv => whnf
  · repeat ((first | refine bF ?_ | refine bT ?_ | refine dK (by kernel_rfl) ?_ | refine cK rfl ?_ | refine cK (by first | decide | omega) ?_ | refine wK (by omega) (by omega) ?_); conv => whnf)
    rw [if_pos h2]
    exact ret_of rfl rfl
  rw [if_neg (fun q => q h2)]
  repeat ((first | refine bF ?_ | refine bT ?_ | refine dK (by kernel_rfl) ?_ | refine cK rfl ?_ | refine cK (by first | decide | omega) ?_ | refine wK (by omega) (by omega) ?_); conv => whnf)
  refine bcase_n (fun h3 => ?_) (fun h3 => ?_) <;> conv => whnf
  · repeat ((first | refine bF ?_ | refine bT ?_ | refine dK (by kernel_rfl) ?_ | refine cK rfl ?_ | refine cK (by first | decide | omega) ?_ | refine wK (by omega) (by omega) ?_); conv => whnf)
    rw [if_pos h3]
    exact ret_of rfl rfl
  rw [if_neg (fun q => q h3)]
  repeat ((first | refine bF ?_ | refine bT ?_ | refine dK (by kernel_rfl) ?_ | refine cK rfl ?_ | refine cK (by first | decide | omega) ?_ | refine wK (by omega) (by omega) ?_); conv => whnf)
  exact ret_of rfl rfl
theorem scommit_ok (d : DS) (p : Int) (s : ByteArray) (hs : s.size ≤ 1000000) : ACall Tryz.prog 127 [encDS d, .int .i64 p, .str s] (.tup [encDS (commitM d p s).1, .int .i64 (commitM d p s).2]) := by
  refine acall_of Tryz.func127 3 rfl (by kernel_rfl) ?_
  conv => whnf
  repeat ((first | refine bF ?_ | refine bT ?_ | refine dK (by kernel_rfl) ?_ | refine cK rfl ?_ | refine cK (by first | decide | omega) ?_ | refine wK (by omega) (by omega) ?_); conv => whnf)
  refine callX_pure (commit_ok d p s hs) ?_
  conv => whnf
  repeat ((first | refine bF ?_ | refine bT ?_ | refine dK (by kernel_rfl) ?_ | refine cK rfl ?_ | refine cK (by first | decide | omega) ?_ | refine wK (by omega) (by omega) ?_); conv => whnf)
  have hc : (commitM d p s).2 ≠ 0 → (commitM d p s).1 = d := fun h => by
    rw [commitM] at h ⊢
    split
    · rename_i q; rw [if_pos q] at h; exact absurd rfl h
    · rfl
  refine bcase_n (fun h1 => ?_) (fun h1 => ?_) <;> conv => whnf
  · repeat ((first | refine bF ?_ | refine bT ?_ | refine dK (by kernel_rfl) ?_ | refine cK rfl ?_ | refine cK (by first | decide | omega) ?_ | refine wK (by omega) (by omega) ?_); conv => whnf)
    rw [hc h1]
    exact ret_of rfl rfl
  · repeat ((first | refine bF ?_ | refine bT ?_ | refine dK (by kernel_rfl) ?_ | refine cK rfl ?_ | refine cK (by first | decide | omega) ?_ | refine wK (by omega) (by omega) ?_); conv => whnf)
    rw [h1]
    exact ret_of rfl rfl
open Classical in
noncomputable def setS (d : DS) (x : Pg) : DS × Int := if pgR x = true then commitM d x.1 (putB x) else (d, 1)
theorem setS_ok (d : DS) (x : Pg) : ACall Tryz.prog 132 [encDS d, .agg (encP x)] (.tup [encDS (setS d x).1, .int .i64 (setS d x).2]) := by
  refine acall_of Tryz.func132 2 rfl (by kernel_rfl) ?_
  conv => whnf
  repeat ((first | refine bF ?_ | refine bT ?_ | refine dK (by kernel_rfl) ?_ | refine cK rfl ?_ | refine cK (by first | decide | omega) ?_ | refine wK (by omega) (by omega) ?_); conv => whnf)
  have hput := put_ok x
  by_cases hR : pgR x = true
  · rw [if_pos hR] at hput
    rw [setS, if_pos hR]
    have hz := putB_size (pgR_out.1 hR).2.2.2.2
    refine callX_pure hput ?_
    conv => whnf
    repeat ((first | refine bF ?_ | refine bT ?_ | refine dK (by kernel_rfl) ?_ | refine cK rfl ?_ | refine cK (by first | decide | omega) ?_ | refine wK (by omega) (by omega) ?_); conv => whnf)
    refine callX_pure (scommit_ok d x.1 (putB x) (by omega)) ?_
    conv => whnf
    repeat ((first | refine bF ?_ | refine bT ?_ | refine dK (by kernel_rfl) ?_ | refine cK rfl ?_ | refine cK (by first | decide | omega) ?_ | refine wK (by omega) (by omega) ?_); conv => whnf)
    exact ret_of rfl rfl
  · rw [if_neg hR] at hput
    rw [setS, if_neg hR]
    refine callX_pure hput ?_
    conv => whnf
    repeat ((first | refine bF ?_ | refine bT ?_ | refine dK (by kernel_rfl) ?_ | refine cK rfl ?_ | refine cK (by first | decide | omega) ?_ | refine wK (by omega) (by omega) ?_); conv => whnf)
    exact ret_of rfl rfl
noncomputable def delD (d : DS) (id : Int) : DS × Int := commitM d id (nulB 32)
theorem delD_ok (d : DS) (id : Int) : ACall Tryz.prog 82 [encDS d, .int .i64 id] (.tup [encDS (delD d id).1, .int .i64 (delD d id).2]) := by
  refine acall_of Tryz.func82 2 rfl (by kernel_rfl) ?_
  conv => whnf
  repeat ((first | refine bF ?_ | refine bT ?_ | refine dK (by kernel_rfl) ?_ | refine cK rfl ?_ | refine cK (by first | decide | omega) ?_ | refine wK (by omega) (by omega) ?_); conv => whnf)
  refine callX_pure snoughts_ok ?_
  conv => whnf
  repeat ((first | refine bF ?_ | refine bT ?_ | refine dK (by kernel_rfl) ?_ | refine cK rfl ?_ | refine cK (by first | decide | omega) ?_ | refine wK (by omega) (by omega) ?_); conv => whnf)
  refine callX_pure (scommit_ok d id (nulB 32) (by rw [nulB_size]; decide)) ?_
  conv => whnf
  repeat ((first | refine bF ?_ | refine bT ?_ | refine dK (by kernel_rfl) ?_ | refine cK rfl ?_ | refine cK (by first | decide | omega) ?_ | refine wK (by omega) (by omega) ?_); conv => whnf)
  exact ret_of rfl rfl
open Classical in
noncomputable def stepsS (d : DS) (x : Pg) : List Jo := if x.2.1 ≠ 0 ∨ x.2.2 ≠ ByteArray.empty then (if pgR x = true then (planM d x.1 (putB x)).1 else []) else (planM d x.1 (nulB 32)).1
theorem plan_err {d : DS} {p : Int} {s : ByteArray} (h : (planM d p s).2 ≠ 0) : (planM d p s).1 = [] := by
  rw [planM] at h ⊢
  split
  · rename_i q; rw [if_pos q] at h; exact absurd rfl h
  · rfl
theorem stepsS_ok (d : DS) (x : Pg) : ACall Tryz.prog 83 [encDS d, .agg (encP x)] (.lst ((stepsS d x).map encJ)) := by
  refine acall_of Tryz.func83 2 rfl (by kernel_rfl) ?_
  conv => whnf
  repeat ((first | refine bF ?_ | refine bT ?_ | refine dK (by kernel_rfl) ?_ | refine cK rfl ?_ | refine cK (by first | decide | omega) ?_ | refine wK (by omega) (by omega) ?_); conv => whnf)
  refine callX_pure snoughts_ok ?_
  conv => whnf
  repeat ((first | refine bF ?_ | refine bT ?_ | refine dK (by kernel_rfl) ?_ | refine cK rfl ?_ | refine cK (by first | decide | omega) ?_ | refine wK (by omega) (by omega) ?_); conv => whnf)
  rw [stepsS]
  refine bcase_n (fun h1 => ?_) (fun h1 => ?_) <;> conv => whnf
  · rw [if_pos (.inl h1)]
    repeat ((first | refine bF ?_ | refine bT ?_ | refine dK (by kernel_rfl) ?_ | refine cK rfl ?_ | refine cK (by first | decide | omega) ?_ | refine wK (by omega) (by omega) ?_); conv => whnf)
    have hput := put_ok x
    by_cases hR : pgR x = true
    · rw [if_pos hR] at hput
      rw [if_pos hR]
      have hz := putB_size (pgR_out.1 hR).2.2.2.2
      refine callX_pure hput ?_
      conv => whnf
      repeat ((first | refine bF ?_ | refine bT ?_ | refine dK (by kernel_rfl) ?_ | refine cK rfl ?_ | refine cK (by first | decide | omega) ?_ | refine wK (by omega) (by omega) ?_); conv => whnf)
      refine callX_pure (plan_ok d x.1 (putB x) (by omega)) ?_
      conv => whnf
      repeat ((first | refine bF ?_ | refine bT ?_ | refine dK (by kernel_rfl) ?_ | refine cK rfl ?_ | refine cK (by first | decide | omega) ?_ | refine wK (by omega) (by omega) ?_); conv => whnf)
      refine bcase_n (fun h9 => ?_) (fun h9 => ?_) <;> conv => whnf
      · repeat ((first | refine bF ?_ | refine bT ?_ | refine dK (by kernel_rfl) ?_ | refine cK rfl ?_ | refine cK (by first | decide | omega) ?_ | refine wK (by omega) (by omega) ?_); conv => whnf)
        rw [plan_err h9]
        exact ret_of rfl rfl
      · repeat ((first | refine bF ?_ | refine bT ?_ | refine dK (by kernel_rfl) ?_ | refine cK rfl ?_ | refine cK (by first | decide | omega) ?_ | refine wK (by omega) (by omega) ?_); conv => whnf)
        exact ret_of rfl rfl
    · rw [if_neg hR] at hput
      rw [if_neg hR]
      refine callX_pure hput ?_
      conv => whnf
      repeat ((first | refine bF ?_ | refine bT ?_ | refine dK (by kernel_rfl) ?_ | refine cK rfl ?_ | refine cK (by first | decide | omega) ?_ | refine wK (by omega) (by omega) ?_); conv => whnf)
      exact ret_of rfl rfl
  · repeat ((first | refine bF ?_ | refine bT ?_ | refine dK (by kernel_rfl) ?_ | refine cK rfl ?_ | refine cK (by first | decide | omega) ?_ | refine wK (by omega) (by omega) ?_); conv => whnf)
    refine bcase_n (fun h2 => ?_) (fun h2 => ?_) <;> conv => whnf
    · rw [if_pos (.inr h2)]
      repeat ((first | refine bF ?_ | refine bT ?_ | refine dK (by kernel_rfl) ?_ | refine cK rfl ?_ | refine cK (by first | decide | omega) ?_ | refine wK (by omega) (by omega) ?_); conv => whnf)
      have hput := put_ok x
      by_cases hR : pgR x = true
      · rw [if_pos hR] at hput
        rw [if_pos hR]
        have hz := putB_size (pgR_out.1 hR).2.2.2.2
        refine callX_pure hput ?_
        conv => whnf
        repeat ((first | refine bF ?_ | refine bT ?_ | refine dK (by kernel_rfl) ?_ | refine cK rfl ?_ | refine cK (by first | decide | omega) ?_ | refine wK (by omega) (by omega) ?_); conv => whnf)
        refine callX_pure (plan_ok d x.1 (putB x) (by omega)) ?_
        conv => whnf
        repeat ((first | refine bF ?_ | refine bT ?_ | refine dK (by kernel_rfl) ?_ | refine cK rfl ?_ | refine cK (by first | decide | omega) ?_ | refine wK (by omega) (by omega) ?_); conv => whnf)
        refine bcase_n (fun h9 => ?_) (fun h9 => ?_) <;> conv => whnf
        · repeat ((first | refine bF ?_ | refine bT ?_ | refine dK (by kernel_rfl) ?_ | refine cK rfl ?_ | refine cK (by first | decide | omega) ?_ | refine wK (by omega) (by omega) ?_); conv => whnf)
          rw [plan_err h9]
          exact ret_of rfl rfl
        · repeat ((first | refine bF ?_ | refine bT ?_ | refine dK (by kernel_rfl) ?_ | refine cK rfl ?_ | refine cK (by first | decide | omega) ?_ | refine wK (by omega) (by omega) ?_); conv => whnf)
          exact ret_of rfl rfl
      · rw [if_neg hR] at hput
        rw [if_neg hR]
        refine callX_pure hput ?_
        conv => whnf
        repeat ((first | refine bF ?_ | refine bT ?_ | refine dK (by kernel_rfl) ?_ | refine cK rfl ?_ | refine cK (by first | decide | omega) ?_ | refine wK (by omega) (by omega) ?_); conv => whnf)
        exact ret_of rfl rfl
    · rw [if_neg (fun q => q.elim (fun q => q h1) (fun q => q h2))]
      repeat ((first | refine bF ?_ | refine bT ?_ | refine dK (by kernel_rfl) ?_ | refine cK rfl ?_ | refine cK (by first | decide | omega) ?_ | refine wK (by omega) (by omega) ?_); conv => whnf)
      refine callX_pure (plan_ok d x.1 (nulB 32) (by rw [nulB_size]; decide)) ?_
      conv => whnf
      repeat ((first | refine bF ?_ | refine bT ?_ | refine dK (by kernel_rfl) ?_ | refine cK rfl ?_ | refine cK (by first | decide | omega) ?_ | refine wK (by omega) (by omega) ?_); conv => whnf)
      refine bcase_n (fun h9 => ?_) (fun h9 => ?_) <;> conv => whnf
      · repeat ((first | refine bF ?_ | refine bT ?_ | refine dK (by kernel_rfl) ?_ | refine cK rfl ?_ | refine cK (by first | decide | omega) ?_ | refine wK (by omega) (by omega) ?_); conv => whnf)
        rw [plan_err h9]
        exact ret_of rfl rfl
      · repeat ((first | refine bF ?_ | refine bT ?_ | refine dK (by kernel_rfl) ?_ | refine cK rfl ?_ | refine cK (by first | decide | omega) ?_ | refine wK (by omega) (by omega) ?_); conv => whnf)
        exact ret_of rfl rfl
end Go.Lk

namespace Go.Lk
open Go Go.Proofs Go.RowKit

/-! ### the document's store -/
theorem may_ok (d : DS) : ACall Tryz.prog 22 [encDS d] (.bool (usB d)) := by
  refine acall_of Tryz.func22 1 rfl (by kernel_rfl) ?_
  conv => whnf
  have hm : (d.sec.map encB).length = d.sec.length := List.length_map ..
  repeat ((first | refine bF ?_ | refine bT ?_ | refine dK (by kernel_rfl) ?_ | refine cK rfl ?_ | refine cK (by first | decide | omega) ?_ | refine wK (by omega) (by omega) ?_); conv => whnf)
  refine callX_pure (rdRight_ok d) ?_
  conv => whnf
  repeat ((first | refine bF ?_ | refine bT ?_ | refine dK (by kernel_rfl) ?_ | refine cK rfl ?_ | refine cK (by first | decide | omega) ?_ | refine wK (by omega) (by omega) ?_); conv => whnf)
  refine bcase_intro (fun h1 => ?_) (fun h1 => ?_) <;> conv => whnf
  · have hR := drB_t.1 h1
    repeat ((first | refine bF ?_ | refine bT ?_ | refine dK (by kernel_rfl) ?_ | refine cK rfl ?_ | refine cK (by first | decide | omega) ?_ | refine wK (by omega) (by omega) ?_); conv => whnf)
    refine ret_of rfl (congrArg D.bool ?_)
    by_cases h : (34 : Int) < ((d.sec.map encB).length : Int)
    · rw [decide_eq_true h]; exact (usB_t.2 ⟨hR, by omega⟩).symm
    · rw [decide_eq_false h]; exact (usB_f.2 fun q => by have := q.n; omega).symm
  · repeat ((first | refine bF ?_ | refine bT ?_ | refine dK (by kernel_rfl) ?_ | refine cK rfl ?_ | refine cK (by first | decide | omega) ?_ | refine wK (by omega) (by omega) ?_); conv => whnf)
    exact ret_of rfl (congrArg D.bool (usB_f.2 fun q => drB_f.1 h1 q.dr).symm)
theorem rget12_ok (d : DS) (p : Int) (hU : Us d) (h1 : 1 ≤ p) (h2 : p ≤ 16) : ACall Tryz.prog 57 [encDS d, .int .i64 p] (.str (rdS d (2 * p + 1) ++ rdS d (2 * p + 1 + 1))) := by
  have hR := hU.dr
  have hn := hU.n
  have hc := hR.c1
  have z1 := rdS_size hR (show 0 ≤ 2 * p + 1 by omega) (by omega)
  have z2 := rdS_size hR (show 0 ≤ 2 * p + 1 + 1 by omega) (by omega)
  refine acall_of Tryz.func57 2 rfl (by kernel_rfl) ?_
  conv => whnf
  repeat ((first | refine bF ?_ | refine bT ?_ | refine dK (by kernel_rfl) ?_ | refine cK rfl ?_ | refine cK (by first | decide | omega) ?_ | refine wK (by omega) (by omega) ?_); conv => whnf)
  refine callX_pure (rread_ok d (2 * p + 1) (by omega) (by omega) (by omega)) ?_
  conv => whnf
  repeat ((first | refine bF ?_ | refine bT ?_ | refine dK (by kernel_rfl) ?_ | refine cK rfl ?_ | refine cK (by first | decide | omega) ?_ | refine wK (by omega) (by omega) ?_); conv => whnf)
  rw [show 2 * p + 2 = 2 * p + 1 + 1 by omega]
  refine callX_pure (rread_ok d (2 * p + 1 + 1) (by omega) (by omega) (by omega)) ?_
  conv => whnf
  repeat ((first | refine bF ?_ | refine bT ?_ | refine dK (by kernel_rfl) ?_ | refine cK rfl ?_ | refine cK (by first | decide | omega) ?_ | refine wK (by omega) (by omega) ?_); conv => whnf)
  exact ret_of rfl rfl
theorem getS_no {d : DS} {id : Int} (h : ¬ (Us d ∧ 1 ≤ id ∧ id ≤ 16)) : getS d id = (zP, 1) := by
  have : getJ d id = (ByteArray.empty, 1) := if_neg h
  rw [getS, this, if_pos (by decide)]
theorem getS_yes {d : DS} {id : Int} (h : Us d ∧ 1 ≤ id ∧ id ≤ 16) : getS d id = if (takeM (rdS d (2 * id + 1) ++ rdS d (2 * id + 1 + 1))).2 ≠ 0 then (zP, (takeM (rdS d (2 * id + 1) ++ rdS d (2 * id + 1 + 1))).2) else if (takeM (rdS d (2 * id + 1) ++ rdS d (2 * id + 1 + 1))).1.1 ≠ id then (zP, 9) else ((takeM (rdS d (2 * id + 1) ++ rdS d (2 * id + 1 + 1))).1, 0) := by
  have : getJ d id = (rdS d (2 * id + 1) ++ rdS d (2 * id + 1 + 1), 0) := if_pos h
  rw [getS, this, if_neg (fun q => q rfl)]
theorem rgetS_ok (d : DS) (id : Int) : ACall Tryz.prog 26 [encDS d, .int .i64 id] (.tup [.agg (encP (getS d id).1), .int .i64 (getS d id).2]) := by
  refine acall_of Tryz.func26 2 rfl (by kernel_rfl) ?_
  conv => whnf
  repeat ((first | refine bF ?_ | refine bT ?_ | refine dK (by kernel_rfl) ?_ | refine cK rfl ?_ | refine cK (by first | decide | omega) ?_ | refine wK (by omega) (by omega) ?_); conv => whnf)
  refine callX_pure (may_ok d) ?_
  conv => whnf
  repeat ((first | refine bF ?_ | refine bT ?_ | refine dK (by kernel_rfl) ?_ | refine cK rfl ?_ | refine cK (by first | decide | omega) ?_ | refine wK (by omega) (by omega) ?_); conv => whnf)
  refine bcase_intro (fun h1 => ?_) (fun h1 => ?_) <;> conv => whnf
  · repeat ((first | refine bF ?_ | refine bT ?_ | refine dK (by kernel_rfl) ?_ | refine cK rfl ?_ | refine cK (by first | decide | omega) ?_ | refine wK (by omega) (by omega) ?_); conv => whnf)
    rw [getS_no (fun q => by rw [usB_t.2 q.1] at h1; exact absurd h1 (by decide))]
    exact ret_of rfl rfl
  have hU : Us d := usB_t.1 (by simpa using h1)
  repeat ((first | refine bF ?_ | refine bT ?_ | refine dK (by kernel_rfl) ?_ | refine cK rfl ?_ | refine cK (by first | decide | omega) ?_ | refine wK (by omega) (by omega) ?_); conv => whnf)
  refine bcase_p (fun h2 => ?_) (fun h2 => ?_) <;> conv => whnf
  · repeat ((first | refine bF ?_ | refine bT ?_ | refine dK (by kernel_rfl) ?_ | refine cK rfl ?_ | refine cK (by first | decide | omega) ?_ | refine wK (by omega) (by omega) ?_); conv => whnf)
    rw [getS_no (by omega)]
    exact ret_of rfl rfl
  repeat ((first | refine bF ?_ | refine bT ?_ | refine dK (by kernel_rfl) ?_ | refine cK rfl ?_ | refine cK (by first | decide | omega) ?_ | refine wK (by omega) (by omega) ?_); conv => whnf)
  refine bcase_p (fun h3 => ?_) (fun h3 => ?_) <;> conv => whnf
  · repeat ((first | refine bF ?_ | refine bT ?_ | refine dK (by kernel_rfl) ?_ | refine cK rfl ?_ | refine cK (by first | decide | omega) ?_ | refine wK (by omega) (by omega) ?_); conv => whnf)
    rw [getS_no (by omega)]
    exact ret_of rfl rfl
  repeat ((first | refine bF ?_ | refine bT ?_ | refine dK (by kernel_rfl) ?_ | refine cK rfl ?_ | refine cK (by first | decide | omega) ?_ | refine wK (by omega) (by omega) ?_); conv => whnf)
  rw [getS_yes ⟨hU, by omega, by omega⟩]
  refine callX_pure (rget12_ok d id hU (by omega) (by omega)) ?_
  conv => whnf
  repeat ((first | refine bF ?_ | refine bT ?_ | refine dK (by kernel_rfl) ?_ | refine cK rfl ?_ | refine cK (by first | decide | omega) ?_ | refine wK (by omega) (by omega) ?_); conv => whnf)
  obtain ⟨t, ht⟩ : ∃ t, takeM (rdS d (2 * id + 1) ++ rdS d (2 * id + 1 + 1)) = t := ⟨_, rfl⟩
  have hk := rtake_ok (rdS d (2 * id + 1) ++ rdS d (2 * id + 1 + 1))
  rw [ht] at hk ⊢
  refine callX_pure hk ?_
  conv => whnf
  repeat ((first | refine bF ?_ | refine bT ?_ | refine dK (by kernel_rfl) ?_ | refine cK rfl ?_ | refine cK (by first | decide | omega) ?_ | refine wK (by omega) (by omega) ?_); conv => whnf)
  refine bcase_n (fun h4 => ?_) (fun h4 => ?_) <;> conv => whnf
  · repeat ((first | refine bF ?_ | refine bT ?_ | refine dK (by kernel_rfl) ?_ | refine cK rfl ?_ | refine cK (by first | decide | omega) ?_ | refine wK (by omega) (by omega) ?_); conv => whnf)
    rw [if_pos h4]
    exact ret_of rfl rfl
  rw [if_neg (fun q => q h4)]
  repeat ((first | refine bF ?_ | refine bT ?_ | refine dK (by kernel_rfl) ?_ | refine cK rfl ?_ | refine cK (by first | decide | omega) ?_ | refine wK (by omega) (by omega) ?_); conv => whnf)
  refine bcase_n (fun h5 => ?_) (fun h5 => ?_) <;> conv => whnf
  · repeat ((first | refine bF ?_ | refine bT ?_ | refine dK (by kernel_rfl) ?_ | refine cK rfl ?_ | refine cK (by first | decide | omega) ?_ | refine wK (by omega) (by omega) ?_); conv => whnf)
    rw [if_pos h5]
    exact ret_of rfl rfl
  rw [if_neg (fun q => q h5)]
  repeat ((first | refine bF ?_ | refine bT ?_ | refine dK (by kernel_rfl) ?_ | refine cK rfl ?_ | refine cK (by first | decide | omega) ?_ | refine wK (by omega) (by omega) ?_); conv => whnf)
  exact ret_of rfl rfl
end Go.Lk

namespace Go.Lk
open Go Go.Proofs Go.RowKit

/-! ### a page on a disk at rest -/
/-- sectors of a disk at rest that the journal may use -/
structure Rest (s : List ByteArray) : Prop where
  n : 35 ≤ s.length
  m : s.length ≤ 64
  z : ∀ i, (h : i < s.length) → s[i].size = 16
theorem Rest.dr {s : List ByteArray} (h : Rest s) {l : List Wt} (hl : l.length ≤ 200) (hw : ∀ w ∈ l, okW s.length w = true) : DR ⟨s, l⟩ :=
  ⟨by have := h.n; simp only []; omega, h.m, hl, h.z, fun i hi => hw _ (List.getElem_mem hi)⟩
theorem Rest.us {s : List ByteArray} (h : Rest s) : Us ⟨s, []⟩ := ⟨h.dr (by simp) (by simp), h.n⟩
theorem us_rest {d : DS} (h : Us d) (hc : d.ca = []) : Rest d.sec ∧ d = ⟨d.sec, []⟩ := ⟨⟨h.n, h.dr.s2, h.dr.s⟩, by cases d; simp only at hc; subst hc; rfl⟩
theorem Rest.set {s : List ByteArray} (h : Rest s) (i : Nat) {b : ByteArray} (hb : b.size = 16) : Rest (s.set i b) := by
  refine ⟨by rw [List.length_set]; exact h.n, by rw [List.length_set]; exact h.m, fun j hj => ?_⟩
  rw [List.getElem_set]
  split
  · exact hb
  · exact h.z _ _
theorem step_put {s : List ByteArray} (h : Rest s) {l : List Wt} {n : Int} {b : ByteArray} (hl : l.length < 200) (hw : ∀ w ∈ l, okW s.length w = true) (h0 : 0 ≤ n) (h1 : n < s.length) (hb : b.size = 16) :
    stepJ ⟨s, l⟩ (wJ n b) = ⟨s, l ++ [(n, b)]⟩ ∧ ∀ w ∈ l ++ [(n, b)], okW s.length w = true := by
  have hk : okW s.length (n, b) = true := okW_out.2 ⟨h0, h1, hb⟩
  constructor
  · show (putM ⟨s, l⟩ (n, b)).1 = _
    rw [putM, if_pos ⟨h.dr (by omega) hw, hk⟩, if_neg (by simp only []; omega)]
  · intro w hm
    rcases List.mem_append.1 hm with q | q
    · exact hw w q
    · rw [List.mem_singleton] at q; subst q; exact hk
theorem step_sync {s : List ByteArray} (h : Rest s) {l : List Wt} (hl : l.length ≤ 200) (hw : ∀ w ∈ l, okW s.length w = true) : stepJ ⟨s, l⟩ syJ = ⟨wrS s l, []⟩ := by
  show syncM ⟨s, l⟩ = _
  rw [syncM, if_pos (h.dr hl hw)]
theorem step1 {s : List ByteArray} (h : Rest s) {n : Int} {b : ByteArray} (h0 : 0 ≤ n) (h1 : n < s.length) (hb : b.size = 16) : [wJ n b, syJ].foldl stepJ ⟨s, []⟩ = ⟨s.set n.toNat b, []⟩ := by
  obtain ⟨e1, w1⟩ := step_put h (l := []) (by simp) (by simp) h0 h1 hb
  simp only [List.foldl_cons, List.foldl_nil, e1]
  rw [step_sync h (by simp) w1]
  rfl
theorem step2 {s : List ByteArray} (h : Rest s) {n m : Int} {b c : ByteArray} (h0 : 0 ≤ n) (h1 : n < s.length) (hb : b.size = 16) (h2 : 0 ≤ m) (h3 : m < s.length) (hc : c.size = 16) : [wJ n b, wJ m c, syJ].foldl stepJ ⟨s, []⟩ = ⟨(s.set n.toNat b).set m.toNat c, []⟩ := by
  obtain ⟨e1, w1⟩ := step_put h (l := []) (by simp) (by simp) h0 h1 hb
  obtain ⟨e2, w2⟩ := step_put h (l := [] ++ [(n, b)]) (by simp) w1 h2 h3 hc
  simp only [List.foldl_cons, List.foldl_nil, e1, e2]
  rw [step_sync h (by simp) w2]
  rfl
/-- what a plan leaves -/
def setD (s : List ByteArray) (p : Nat) (a b : ByteArray) : List ByteArray := (((((s.set 1 a).set 2 b).set 0 (headJ p)).set (2 * p + 1) a).set (2 * p + 2) b).set 0 nul16
theorem nul16_size : nul16.size = 16 := nulB_size 16
theorem ext_size {s : ByteArray} (h : s.size = 32) : (s.extract 0 16).size = 16 ∧ (s.extract 16 32).size = 16 := by
  have hb : (bl s).length = 32 := by rw [bl_len]; exact h
  constructor
  · rw [← bl_len, bl_extract, List.length_take, List.length_drop]; omega
  · rw [← bl_len, bl_extract, List.length_take, List.length_drop]; omega
theorem ext_app {s : ByteArray} (h : s.size = 32) : s.extract 0 16 ++ s.extract 16 32 = s := by
  have hb : (bl s).length = 32 := by rw [bl_len]; exact h
  apply bl_ext
  rw [bl_app, bl_extract, bl_extract, List.drop_zero]
  rw [List.take_of_length_le (show ((bl s).drop 16).length ≤ 32 - 16 by rw [List.length_drop]; omega)]
  exact List.take_append_drop 16 (bl s)
theorem plan_runs {s : List ByteArray} (h : Rest s) {p : Nat} (h1 : 1 ≤ p) (h16 : p ≤ 16) {x : ByteArray} (hx : x.size = 32) : (planJ p x).foldl stepJ ⟨s, []⟩ = ⟨setD s p (x.extract 0 16) (x.extract 16 32), []⟩ := by
  obtain ⟨ha, hb⟩ := ext_size hx
  have hn := h.n
  rw [planJ, List.foldl_append, List.foldl_append, List.foldl_append]
  rw [step2 h (by decide) (by omega) ha (by decide) (by omega) hb]
  have r1 := (h.set 1 ha).set 2 hb
  have l1 : ((s.set 1 (x.extract 0 16)).set 2 (x.extract 16 32)).length = s.length := by simp
  rw [show ((1 : Int).toNat) = 1 from rfl, show ((2 : Int).toNat) = 2 from rfl]
  rw [step1 r1 (by decide) (by omega) (headJ_size p)]
  have r2 := r1.set 0 (headJ_size p)
  have l2 : (((s.set 1 (x.extract 0 16)).set 2 (x.extract 16 32)).set 0 (headJ p)).length = s.length := by simp
  rw [show ((0 : Int).toNat) = 0 from rfl]
  rw [step2 r2 (by omega) (by omega) ha (by omega) (by omega) hb]
  rw [show (2 * (p : Int) + 1).toNat = 2 * p + 1 by omega, show (2 * (p : Int) + 1 + 1).toNat = 2 * p + 2 by omega]
  have r3 := (r2.set (2 * p + 1) ha).set (2 * p + 2) hb
  rw [step1 r3 (by decide) (by simp; omega) nul16_size]
  rfl
theorem Rest.setD {s : List ByteArray} (h : Rest s) {p : Nat} {a b : ByteArray} (ha : a.size = 16) (hb : b.size = 16) : Rest (setD s p a b) :=
  (((((h.set 1 ha).set 2 hb).set 0 (headJ_size p)).set _ ha).set _ hb).set 0 nul16_size
theorem setD_len (s : List ByteArray) (p : Nat) (a b : ByteArray) : (setD s p a b).length = s.length := by simp [setD]
/-- a page's bytes, on a disk at rest -/
def raw (s : List ByteArray) (p : Nat) : ByteArray := s[2 * p + 1]?.getD ByteArray.empty ++ s[2 * p + 2]?.getD ByteArray.empty
theorem raw_same {s : List ByteArray} (h : Rest s) {p : Nat} (h1 : 1 ≤ p) (h16 : p ≤ 16) {a b : ByteArray} : raw (setD s p a b) p = a ++ b := by
  have hn := h.n
  simp only [raw, setD, List.getElem?_set, List.length_set]
  simp
  rw [if_pos (by omega), if_pos (by omega)]
  simp
theorem raw_other {s : List ByteArray} {p q : Nat} (h1 : 1 ≤ q) (hne : p ≠ q) {a b : ByteArray} : raw (setD s p a b) q = raw s q := by
  simp only [raw, setD, List.getElem?_set, List.length_set]
  rw [if_neg (by omega), if_neg (by omega), if_neg (by omega), if_neg (by omega), if_neg (by omega), if_neg (by omega), if_neg (by omega), if_neg (by omega), if_neg (by omega), if_neg (by omega), if_neg (by omega), if_neg (by omega)]
end Go.Lk

namespace Go.Lk
open Go Go.Proofs Go.RowKit Go.Lk

/-! ### the sweep -/
def clr (x : Fr) : Fr := (x.1, x.2.1, false)
def pass (l : List Fr) (a : Nat) (h : a < l.length) : List Fr := if l[a].2.1 = 0 then l.set a (clr l[a]) else l
inductive Swp : List Fr → Nat → List Fr → Nat → Prop
  | stop (l : List Fr) (a : Nat) (h : a < l.length) (h1 : l[a].2.1 = 0) (h2 : l[a].2.2 = false) : Swp l a l a
  | go (l : List Fr) (a : Nat) (h : a < l.length) (l2 : List Fr) (a2 : Nat) (hn : ¬ (l[a].2.1 = 0 ∧ l[a].2.2 = false)) (r : Swp (pass l a h) ((a + 1) % l.length) l2 a2) : Swp l a l2 a2
theorem pass_len {l : List Fr} {a : Nat} {h : a < l.length} : (pass l a h).length = l.length := by unfold pass; split <;> simp
theorem pass_get {l : List Fr} {a i : Nat} {h : a < l.length} (hi : i < l.length) : ((pass l a h)[i]'(by rw [pass_len]; exact hi)).1 = l[i].1 ∧ ((pass l a h)[i]'(by rw [pass_len]; exact hi)).2.1 = l[i].2.1 := by
  unfold pass
  split
  · rw [List.getElem_set]
    split
    · rename_i e; subst e; exact ⟨rfl, rfl⟩
    · exact ⟨rfl, rfl⟩
  · exact ⟨rfl, rfl⟩
def used0 (l : List Fr) : Nat := l.countP fun x => decide (x.2.1 = 0) && x.2.2
def wayL (n a b : Nat) : Nat := (b + n - a) % n
def mSw (j : Nat) (l : List Fr) (a : Nat) : Nat := used0 l * l.length + wayL l.length a j
theorem used_set {l : List Fr} {a : Nat} (h : a < l.length) (h1 : l[a].2.1 = 0) (h2 : l[a].2.2 = true) : used0 (l.set a (clr l[a])) + 1 = used0 l := by
  have hp : 0 < used0 l := List.countP_pos_iff.2 ⟨l[a], List.getElem_mem h, by simp [h1, h2]⟩
  unfold used0 at *
  rw [List.countP_set h]
  simp only [h1, h2, clr, decide_true, Bool.and_self, if_true, Bool.and_false, Bool.false_eq_true, if_false]
  omega
theorem way_next {n a b : Nat} (ha : a < n) (hb : b < n) (hne : a ≠ b) : wayL n ((a + 1) % n) b < wayL n a b := by
  unfold wayL
  by_cases h : a < b
  · rw [Nat.mod_eq_of_lt (show a + 1 < n by omega), show b + n - a = (b - a) + n by omega, show b + n - (a + 1) = (b - a - 1) + n by omega, Nat.add_mod_right, Nat.add_mod_right, Nat.mod_eq_of_lt (by omega), Nat.mod_eq_of_lt (by omega)]
    omega
  · by_cases e : a + 1 = n
    · rw [e, Nat.mod_self, Nat.sub_zero, Nat.add_mod_right, Nat.mod_eq_of_lt hb, Nat.mod_eq_of_lt (by omega)]
      omega
    · rw [Nat.mod_eq_of_lt (show a + 1 < n by omega), Nat.mod_eq_of_lt (by omega), Nat.mod_eq_of_lt (by omega)]
      omega
theorem way_lt {n a b : Nat} (hn : 0 < n) : wayL n a b < n := Nat.mod_lt _ hn
theorem mSw_dec {j : Nat} {l : List Fr} {a : Nat} (ha : a < l.length) (hj : j < l.length) (lj : l[j].2.1 = 0) (hn : ¬ (l[a].2.1 = 0 ∧ l[a].2.2 = false)) : mSw j (pass l a ha) ((a + 1) % l.length) < mSw j l a := by
  unfold mSw
  rw [pass_len]
  by_cases h1 : l[a].2.1 = 0
  · have h2 : l[a].2.2 = true := by cases e : l[a].2.2 with | true => rfl | false => exact absurd ⟨h1, e⟩ hn
    have hu := used_set ha h1 h2
    rw [show pass l a ha = l.set a (clr l[a]) from if_pos h1]
    have hw := way_lt (n := l.length) (a := (a + 1) % l.length) (b := j) (by omega)
    rw [← hu, Nat.succ_mul]
    omega
  · rw [show pass l a ha = l from if_neg h1]
    have hne : a ≠ j := fun e => by subst e; exact h1 lj
    have := way_next ha hj hne
    omega
theorem swp_ex {j : Nat} : ∀ (n : Nat) {l : List Fr} {a : Nat} (ha : a < l.length) (hj : j < l.length), l[j].2.1 = 0 → mSw j l a < n → ∃ l2 a2, Swp l a l2 a2
  | 0, _, _, _, _, _, h => absurd h (Nat.not_lt_zero _)
  | n + 1, l, a, ha, hj, lj, h => by
    by_cases hs : l[a].2.1 = 0 ∧ l[a].2.2 = false
    · exact ⟨l, a, .stop l a ha hs.1 hs.2⟩
    · have hd := mSw_dec ha hj lj hs
      obtain ⟨l2, a2, r⟩ := swp_ex n (l := pass l a ha) (a := (a + 1) % l.length) (by rw [pass_len]; exact Nat.mod_lt _ (by omega)) (by rw [pass_len]; exact hj) (by rw [(pass_get hj).2]; exact lj) (by omega)
      exact ⟨l2, a2, .go l a ha l2 a2 hs r⟩
/-- what a sweep leaves alone -/
theorem Swp.out {l l2 : List Fr} {a a2 : Nat} (h : Swp l a l2 a2) : l2.length = l.length ∧ a2 < l.length ∧ (∀ i (hi : i < l.length) (hi2 : i < l2.length), l2[i].1 = l[i].1 ∧ l2[i].2.1 = l[i].2.1) ∧ ∃ h2 : a2 < l2.length, l2[a2].2.1 = 0 := by
  induction h with
  | stop l a h h1 h2 => exact ⟨rfl, h, fun i _ _ => ⟨rfl, rfl⟩, h, h1⟩
  | go l a h l2 a2 hn r ih =>
    obtain ⟨e1, e2, e3, e4⟩ := ih
    rw [pass_len] at e1 e2
    refine ⟨e1, e2, fun i hi hi2 => ?_, e4⟩
    have h1 := e3 i (by rw [pass_len]; exact hi) hi2
    have h2 := pass_get (h := h) hi
    exact ⟨h1.1.trans h2.1, h1.2.trans h2.2⟩

theorem looseAt_lt {l : List Fr} : ∀ {k : Nat}, looseAt l k < 0 ∨ ∃ i : Nat, looseAt l k = ((k + i : Nat) : Int) ∧ ∃ h : i < l.length, l[i].2.1 = 0 := by
  induction l with
  | nil => intro k; exact .inl (show (-1 : Int) < 0 by decide)
  | cons p r ih =>
    intro k
    simp only [looseAt]
    by_cases h : p.2.1 = 0
    · exact .inr ⟨0, by simp [h], by simp, by simpa using h⟩
    · rw [if_neg h]
      rcases ih (k := k + 1) with h1 | ⟨i, h1, h2, h3⟩
      · exact .inl h1
      · exact .inr ⟨i + 1, by rw [h1]; simp; omega, by simpa using h2, by simpa using h3⟩
theorem looseAt_no {l : List Fr} : ∀ {k : Nat}, looseAt l k < 0 → ∀ i (h : i < l.length), l[i].2.1 ≠ 0 := by
  induction l with
  | nil => intro k _ i h; exact absurd h (Nat.not_lt_zero _)
  | cons p r ih =>
    intro k hl i h
    simp only [looseAt] at hl
    by_cases e : p.2.1 = 0
    · rw [if_pos e] at hl; omega
    · rw [if_neg e] at hl
      cases i with
      | zero => simpa using e
      | succ i => simpa using ih hl i (by simpa using h)

theorem sweep_no (l : List Fr) (h : Int) (hn : clockB l h = false ∨ looseAt l 0 < 0) (hl : l.length ≤ 1000000) : ACall Tryz.prog 170 [encC l h] (.tup [encC l h, .int .i64 0, .bool false]) := by
  refine acall_of Tryz.func170 1 rfl (by kernel_rfl) ?_
  conv => whnf
  repeat ((first | refine bF ?_ | refine bT ?_ | refine dK (by kernel_rfl) ?_ | refine cK rfl ?_ | refine cK (by first | decide | omega) ?_ | refine wK (by omega) (by omega) ?_); conv => whnf)
  refine callX_pure (clockRight_ok l h) ?_
  conv => whnf
  refine bcase_intro (fun h1 => ?_) (fun h1 => ?_) <;> conv => whnf
  · repeat ((first | refine bF ?_ | refine bT ?_ | refine dK (by kernel_rfl) ?_ | refine cK rfl ?_ | refine cK (by first | decide | omega) ?_ | refine wK (by omega) (by omega) ?_); conv => whnf)
    exact ret_of rfl rfl
  repeat ((first | refine bF ?_ | refine bT ?_ | refine dK (by kernel_rfl) ?_ | refine cK rfl ?_ | refine cK (by first | decide | omega) ?_ | refine wK (by omega) (by omega) ?_); conv => whnf)
  refine callX_pure (containsFunc_ok l hl) ?_
  conv => whnf
  refine bcase_intro (fun h2 => ?_) (fun h2 => ?_) <;> conv => whnf
  · repeat ((first | refine bF ?_ | refine bT ?_ | refine dK (by kernel_rfl) ?_ | refine cK rfl ?_ | refine cK (by first | decide | omega) ?_ | refine wK (by omega) (by omega) ?_); conv => whnf)
    exact ret_of rfl rfl
  · exfalso
    simp at h1 h2
    rcases hn with hn | hn
    · rw [h1] at hn; cases hn
    · omega
theorem sweep_yes (l : List Fr) (h : Nat) (hR : CRight l h) {l2 : List Fr} {a2 : Nat} (hS : Swp l h l2 a2) : ACall Tryz.prog 170 [encC l h] (.tup [encC l2 (((a2 + 1) % l.length : Nat) : Int), .int .i64 a2, .bool true]) := by
  refine acall_of Tryz.func170 1 rfl (by kernel_rfl) ?_
  conv => whnf
  have hl1 := hR.one
  have hl8 := hR.most
  have hh := hR.h1
  repeat ((first | refine bF ?_ | refine bT ?_ | refine dK (by kernel_rfl) ?_ | refine cK rfl ?_ | refine cK (by first | decide | omega) ?_ | refine wK (by omega) (by omega) ?_); conv => whnf)
  refine callX_pure (clockRight_ok l h) ?_
  conv => whnf
  refine bcase_f (by simp [clockB_t.2 hR]) ?_
  conv => whnf
  repeat ((first | refine bF ?_ | refine bT ?_ | refine dK (by kernel_rfl) ?_ | refine cK rfl ?_ | refine cK (by first | decide | omega) ?_ | refine wK (by omega) (by omega) ?_); conv => whnf)
  have hj : ∃ j, ∃ hj : j < l.length, l[j].2.1 = 0 := by
    obtain ⟨e1, e2, e3, h2, e4⟩ := hS.out
    have := e3 a2 e2 h2
    exact ⟨a2, e2, by rw [← this.2]; exact e4⟩
  obtain ⟨j, hj, lj⟩ := hj
  refine callX_pure (containsFunc_ok l (by omega)) ?_
  conv => whnf
  have hlo : ¬ looseAt l 0 < 0 := fun e => looseAt_no e j hj lj
  refine bcase_f (by simp; omega) ?_
  conv => whnf
  repeat ((first | refine bF ?_ | refine bT ?_ | refine dK (by kernel_rfl) ?_ | refine cK rfl ?_ | refine cK (by first | decide | omega) ?_ | refine wK (by omega) (by omega) ?_); conv => whnf)
  refine callX_own (cloneF_ok l (by omega)) ?_
  conv => whnf
  repeat ((first | refine bF ?_ | refine bT ?_ | refine dK (by kernel_rfl) ?_ | refine cK rfl ?_ | refine cK (by first | decide | omega) ?_ | refine wK (by omega) (by omega) ?_); conv => whnf)
  refine aloop (ι := List Fr × Nat) (fun s => [(1, .ptr 1 0 0), (2, .ptr 2 0 0), (5, .d (.fn 179 [])), (6, .d (.int .i64 s.2))]) (fun s => [(1, .box [.own 19, .d (.int .i64 h)] false), (2, .box [.nil, .d (.int .i64 0)] false), (19, .row (s.1.map encF) 3 false)])
    (fun s => s.1.length = l.length ∧ s.2 < l.length ∧ Swp s.1 s.2 l2 a2 ∧ ∃ hj : j < s.1.length, s.1[j].2.1 = 0) (fun s => mSw j s.1 s.2) (l, h) ⟨rfl, by simp only []; omega, hS, hj, lj⟩ (le0 (le_of_cov ⟨rfl, rfl, rfl, rfl, trivial⟩ ⟨rfl, rfl, rfl, trivial⟩ ⟨rfl, rfl, rfl, rfl⟩)) ?_
  rintro ⟨l', a⟩ ⟨el, ha, hS, hj', lj'⟩
  simp only at el ha hS hj' lj' ⊢
  have ha' : a < l'.length := by omega
  have hm : (l'.map encF).length = l'.length := List.length_map ..
  conv => whnf
  repeat ((first | refine bF ?_ | refine bT ?_ | refine dK (by kernel_rfl) ?_ | refine cK rfl ?_ | refine cK (by first | decide | omega) ?_ | refine wK (by omega) (by omega) ?_); conv => whnf)
  refine idxK_nat (by omega) ?_
  conv => whnf
  refine getRow_of (x := encF l'[a]) (by simp [ha']) ?_
  conv => whnf
  repeat ((first | refine bF ?_ | refine bT ?_ | refine dK (by kernel_rfl) ?_ | refine cK rfl ?_ | refine cK (by first | decide | omega) ?_ | refine wK (by omega) (by omega) ?_); conv => whnf)
  refine callX_pure (loose_ok l'[a]) ?_
  conv => whnf
  have hmod : (((a : Int) + 1) % (l'.map encF).length : Int) = (((a + 1) % l'.length : Nat) : Int) := by rw [hm]; norm_cast
  refine bcase_n (fun h1 => ?_) (fun h1 => ?_) <;> conv => whnf
  · have hns : ¬ (l'[a].2.1 = 0 ∧ l'[a].2.2 = false) := fun e => h1 e.1
    have hp : pass l' a ha' = l' := if_neg h1
    have hr : Swp l' ((a + 1) % l'.length) l2 a2 := by
      cases hS with
      | stop _ _ h e1 e2 => exact absurd e1 h1
      | go _ _ h _ _ hn r => rw [hp] at r; exact r
    have hd := mSw_dec ha' hj' lj' hns
    rw [hp] at hd
    repeat ((first | refine bF ?_ | refine bT ?_ | refine dK (by kernel_rfl) ?_ | refine cK rfl ?_ | refine cK (by first | decide | omega) ?_ | refine wK (by omega) (by omega) ?_); conv => whnf)
    refine idxK_nat (by omega) ?_
    conv => whnf
    refine getRow_of (x := encF l'[a]) (by simp [ha']) ?_
    conv => whnf
    repeat ((first | refine bF ?_ | refine bT ?_ | refine dK (by kernel_rfl) ?_ | refine cK rfl ?_ | refine cK (by first | decide | omega) ?_ | refine wK (by omega) (by omega) ?_); conv => whnf)
    refine callX_pure (loose_ok l'[a]) ?_
    conv => whnf
    refine bcase_f (by simp [h1]) ?_
    conv => whnf
    repeat ((first | refine bF ?_ | refine bT ?_ | refine dK (by kernel_rfl) ?_ | refine cK rfl ?_ | refine cK (by first | decide | omega) ?_ | refine wK (by omega) (by omega) ?_); conv => whnf)
    refine divK_rem (by omega) (by omega) ?_
    conv => whnf
    rw [hmod]
    repeat ((first | refine bF ?_ | refine bT ?_ | refine dK (by kernel_rfl) ?_ | refine cK rfl ?_ | refine cK (by first | decide | omega) ?_ | refine wK (by omega) (by omega) ?_); conv => whnf)
    exact ⟨(l', (a + 1) % l'.length), ⟨el, by simp only []; rw [← el]; exact Nat.mod_lt _ (by omega), hr, hj', lj'⟩, hd, le0 (le_of_cov ⟨rfl, rfl, rfl, rfl, trivial⟩ ⟨rfl, rfl, rfl, trivial⟩ ⟨rfl, rfl, rfl, rfl⟩)⟩
  · repeat ((first | refine bF ?_ | refine bT ?_ | refine dK (by kernel_rfl) ?_ | refine cK rfl ?_ | refine cK (by first | decide | omega) ?_ | refine wK (by omega) (by omega) ?_); conv => whnf)
    refine idxK_nat (by omega) ?_
    conv => whnf
    refine getRow_of (x := encF l'[a]) (by simp [ha']) ?_
    conv => whnf
    repeat ((first | refine bF ?_ | refine bT ?_ | refine dK (by kernel_rfl) ?_ | refine cK rfl ?_ | refine cK (by first | decide | omega) ?_ | refine wK (by omega) (by omega) ?_); conv => whnf)
    refine bcase_intro (fun h2 => ?_) (fun h2 => ?_) <;> conv => whnf
    · have hns : ¬ (l'[a].2.1 = 0 ∧ l'[a].2.2 = false) := fun e => by rw [h2] at e; cases e.2
      have hp : pass l' a ha' = l'.set a (clr l'[a]) := if_pos h1
      have hr : Swp (l'.set a (clr l'[a])) ((a + 1) % l'.length) l2 a2 := by
        cases hS with
        | stop _ _ h e1 e2 => rw [h2] at e2; cases e2
        | go _ _ h _ _ hn r => rw [hp] at r; exact r
      have hd := mSw_dec ha' hj' lj' hns
      have hg := pass_get (h := ha') hj'
      have hm2 : ((l'.map encF).set a (encF (clr l'[a]))).length = l'.length := by rw [List.length_set, hm]
      repeat ((first | refine bF ?_ | refine bT ?_ | refine dK (by kernel_rfl) ?_ | refine cK rfl ?_ | refine cK (by first | decide | omega) ?_ | refine wK (by omega) (by omega) ?_); conv => whnf)
      refine idxK_nat (by omega) ?_
      conv => whnf
      refine getRow_of (x := encF l'[a]) (by simp [ha']) ?_
      conv => whnf
      repeat ((first | refine bF ?_ | refine bT ?_ | refine dK (by kernel_rfl) ?_ | refine cK rfl ?_ | refine cK (by first | decide | omega) ?_ | refine wK (by omega) (by omega) ?_); conv => whnf)
      refine callX_pure (loose_ok l'[a]) ?_
      conv => whnf
      refine bcase_t (by simp [h1]) ?_
      conv => whnf
      repeat ((first | refine bF ?_ | refine bT ?_ | refine dK (by kernel_rfl) ?_ | refine cK rfl ?_ | refine cK (by first | decide | omega) ?_ | refine wK (by omega) (by omega) ?_); conv => whnf)
      refine idxK_nat (by omega) ?_
      conv => whnf
      refine getRow_of (x := encF l'[a]) (by simp [ha']) ?_
      conv => whnf
      repeat ((first | refine bF ?_ | refine bT ?_ | refine dK (by kernel_rfl) ?_ | refine cK rfl ?_ | refine cK (by first | decide | omega) ?_ | refine wK (by omega) (by omega) ?_); conv => whnf)
      refine divK_rem (by show ((List.set _ _ _).length : Int) ≠ 0; rw [List.length_set]; omega) (by omega) ?_
      conv => whnf
      repeat ((first | refine bF ?_ | refine bT ?_ | refine dK (by kernel_rfl) ?_ | refine cK rfl ?_ | refine cK (by first | decide | omega) ?_ | refine wK (by omega) (by omega) ?_); conv => whnf)
      refine ⟨(l'.set a (clr l'[a]), (a + 1) % l'.length), ⟨by simp only []; rw [List.length_set]; exact el, by simp only []; rw [← el]; exact Nat.mod_lt _ (by omega), hr, by rw [List.length_set]; exact hj', ?_⟩, by simp only []; rw [hp] at hd; exact hd, le0 (le_of_cov ⟨rfl, rfl, rfl, by
        show AV.d (.int .i64 (((a : Int) + 1) % ((List.set (l'.map encF) a _).length : Int))) = AV.d (.int .i64 (((a + 1) % l'.length : Nat) : Int)); rw [List.length_set, hmod], trivial⟩ ⟨rfl, rfl, by
        show some (Blk.row ((l'.map encF).set a (encF (clr l'[a]))) 3 false) = _; rw [List.map_set], trivial⟩ ⟨rfl, rfl, rfl, rfl⟩)⟩
      have hg2 := hg.2
      simp only [hp] at hg2
      rw [hg2]; exact lj'
    · have hst : l' = l2 ∧ a = a2 := by
        cases hS with
        | stop _ _ h e1 e2 => exact ⟨rfl, rfl⟩
        | go _ _ h _ _ hn r => exact absurd ⟨h1, h2⟩ hn
      obtain ⟨rfl, rfl⟩ := hst
      repeat ((first | refine bF ?_ | refine bT ?_ | refine dK (by kernel_rfl) ?_ | refine cK rfl ?_ | refine cK (by first | decide | omega) ?_ | refine wK (by omega) (by omega) ?_); conv => whnf)
      refine divK_rem (by omega) (by omega) ?_
      conv => whnf
      rw [hmod, el]
      repeat ((first | refine bF ?_ | refine bT ?_ | refine dK (by kernel_rfl) ?_ | refine cK rfl ?_ | refine cK (by first | decide | omega) ?_ | refine wK (by omega) (by omega) ?_); conv => whnf)
      exact ret_of rfl rfl
end Go.Lk

namespace Go.Lk.Dt
open Go Go.Proofs Go.RowKit Go.Lk
def pageB (n : Int) : Bool := decide (1 ≤ n) && decide (n ≤ 16)
def timeB (n : Int) : Bool := decide (0 ≤ n) && decide (n ≤ 2147483647)
theorem isPage_ok (n : Int) : ACall Tryz.prog 100 [.int .i64 n] (.bool (pageB n)) := by
  refine acall_of Tryz.func100 1 rfl (by kernel_rfl) ?_
  conv => whnf
  refine bcase_p (fun h => ?_) (fun h => ?_) <;> conv => whnf
  · exact ret_of rfl (by simp [pageB, h])
  · exact ret_of rfl (by simp [pageB, h])
theorem isTime_ok (n : Int) : ACall Tryz.prog 101 [.int .i64 n] (.bool (timeB n)) := by
  refine acall_of Tryz.func101 1 rfl (by kernel_rfl) ?_
  conv => whnf
  refine bcase_p (fun h => ?_) (fun h => ?_) <;> conv => whnf
  · exact ret_of rfl (by simp [timeB, h])
  · exact ret_of rfl (by simp [timeB, h])

def placeG (l : List (Int × Int)) (n : Int) (k : Nat) : Int :=
  match l with
  | [] => -1
  | p :: r => if p.1 = n then (k : Int) else placeG r n (k + 1)

theorem place_ok (l : List (Int × Int)) (n : Int) (hl : l.length ≤ 1000000) : ACall Tryz.prog 102 [encIs l, .int .i64 n] (.int .i64 (placeG l n 0)) := by
  refine acall_of Tryz.func102 2 rfl (by kernel_rfl) ?_
  conv => whnf
  refine aloop (ι := Nat) (fun k => [(1, .d (.int .i64 n)), (7, .d (encIs l)), (8, .d (.int .i64 (l.map encI).length)), (9, .d (.int .i64 k))]) (fun _ => [])
    (fun k => k ≤ l.length ∧ placeG (l.drop k) n k = placeG l n 0) (fun k => l.length - k) 0 ⟨Nat.zero_le _, rfl⟩ (le0 (le_of_cov ⟨rfl, rfl, rfl, rfl, trivial⟩ trivial ⟨rfl, rfl, rfl, rfl⟩)) ?_
  rintro k ⟨hk, hR⟩
  conv => whnf
  refine bcase_p (fun h => ?_) (fun h => ?_) <;> conv => whnf
  · have hk2 : k < l.length := by simpa using h
    refine idxK_nat (by simpa using hk2) ?_
    conv => whnf
    refine getRow_of (x := encI l[k]) (by simp [hk2]) ?_
    conv => whnf
    refine condK_of rfl ?_
    conv => whnf
    refine condK_of rfl ?_
    conv => whnf
    rw [drop_cons hk2, placeG] at hR
    refine bcase_p (fun h2 => ?_) (fun h2 => ?_) <;> conv => whnf
    · rw [if_pos h2] at hR
      exact ret_of rfl (by rw [← hR]; rfl)
    · rw [if_neg h2] at hR
      refine wrapK_in (w64 (by omega) (by omega)) ?_
      conv => whnf
      exact ⟨k + 1, ⟨by omega, hR⟩, by omega, le0 (le_of_cov ⟨rfl, rfl, rfl, rfl, trivial⟩ trivial ⟨rfl, rfl, rfl, rfl⟩)⟩
  · have : k = l.length := by simp at h; omega
    subst this
    simp [placeG] at hR
    exact ret_of rfl (by rw [← hR]; rfl)

def okAt (l : List (Int × Int)) (i : Nat) : Bool :=
  match l[i]? with
  | none => true
  | some p => pageB p.1 && timeB p.2 && !(decide (0 ≤ placeG (l.take i) p.1 0)) && !(decide (0 < i) && decide (p.2 < (l[i-1]?.getD (0,0)).2))
def rightB (l : List (Int × Int)) : Bool := decide (l.length ≤ 16) && (List.range l.length).all (okAt l)
theorem rightB_no {l : List (Int × Int)} {k : Nat} (hk : k < l.length) (h : okAt l k = false) : rightB l = false := by
  unfold rightB
  have : (List.range l.length).all (okAt l) = false := by
    rw [List.all_eq_false]
    exact ⟨k, by simpa using hk, by simp [h]⟩
  rw [this]; simp

theorem right_ok (l : List (Int × Int)) (hl : l.length ≤ 1000000) : ACall Tryz.prog 60 [encIs l] (.bool (rightB l)) := by
  refine acall_of Tryz.func60 1 rfl (by kernel_rfl) ?_
  conv => whnf
  refine bcase_p (fun h0 => ?_) (fun h0 => ?_) <;> conv => whnf
  · simp at h0
    exact ret_of rfl (by simp [rightB]; omega)
  have hlen : l.length ≤ 16 := by simp at h0; omega
  refine aloop (ι := Nat) (fun k => [(0, .d (encIs l)), (8, .d (encIs l)), (9, .d (.int .i64 (l.map encI).length)), (10, .d (.int .i64 k))]) (fun _ => [])
    (fun k => k ≤ l.length ∧ ∀ j, j < k → okAt l j = true) (fun k => l.length - k) 0 ⟨Nat.zero_le _, fun j h => absurd h (Nat.not_lt_zero _)⟩ (le0 (le_of_cov ⟨rfl, rfl, rfl, rfl, trivial⟩ trivial ⟨rfl, rfl, rfl, rfl⟩)) ?_
  rintro k ⟨hk, hR⟩
  conv => whnf
  refine bcase_p (fun h => ?_) (fun h => ?_) <;> conv => whnf
  · have hk2 : k < l.length := by simpa using h
    have hat : okAt l k = (pageB l[k].1 && timeB l[k].2 && !(decide (0 ≤ placeG (l.take k) l[k].1 0)) && !(decide (0 < k) && decide (l[k].2 < (l[k-1]?.getD (0,0)).2))) := by simp [okAt, hk2]
    refine idxK_nat (by simpa using hk2) ?_
    conv => whnf
    refine getRow_of (x := encI l[k]) (by simp [hk2]) ?_
    conv => whnf
    refine condK_of rfl ?_
    conv => whnf
    refine condK_of rfl ?_
    conv => whnf
    refine callX_pure (isPage_ok _) ?_
    conv => whnf
    refine bcase_intro (fun h1 => ?_) (fun h1 => ?_) <;> conv => whnf
    · simp at h1
      exact ret_of rfl (congrArg D.bool (rightB_no hk2 (by rw [hat, h1]; rfl)).symm)
    refine condK_of rfl ?_
    conv => whnf
    refine callX_pure (isTime_ok _) ?_
    conv => whnf
    refine bcase_intro (fun h2 => ?_) (fun h2 => ?_) <;> conv => whnf
    · simp at h2
      exact ret_of rfl (congrArg D.bool (rightB_no hk2 (by rw [hat, h2]; simp)).symm)
    simp at h1 h2
    refine condK_of (fun e he => encI_len he) ?_
    conv => whnf
    refine sliceK_hi (by simpa using Nat.le_of_lt hk2) ?_
    conv => whnf
    refine condK_of rfl ?_
    conv => whnf
    refine callX_pure (d := .int .i64 (placeG (l.take k) l[k].1 0)) (by simpa [encIs, List.map_take] using place_ok (l.take k) l[k].1 (by simp; omega)) ?_
    conv => whnf
    refine condK_of rfl ?_
    conv => whnf
    refine bcase_p (fun h3 => ?_) (fun h3 => ?_) <;> conv => whnf
    · exact ret_of rfl (congrArg D.bool (rightB_no hk2 (by rw [hat]; simp [h3])).symm)
    refine bcase_p (fun h4 => ?_) (fun h4 => ?_) <;> conv => whnf
    · repeat ((first | refine bF ?_ | refine bT ?_ | refine dK (by kernel_rfl) ?_ | refine cK rfl ?_ | refine cK (by first | decide | omega) ?_ | refine wK (by omega) (by omega) ?_); conv => whnf)
      refine idxK_int (by omega) (by simp; omega) ?_
      conv => whnf
      refine getRow_of (x := encI l[k-1]) (by rw [show ((k:Int) - 1).toNat = k - 1 by omega]; simp [show k - 1 < l.length by omega]) ?_
      conv => whnf
      repeat ((first | refine bF ?_ | refine bT ?_ | refine dK (by kernel_rfl) ?_ | refine cK rfl ?_ | refine cK (by first | decide | omega) ?_ | refine wK (by omega) (by omega) ?_); conv => whnf)
      refine bcase_p (fun h5 => ?_) (fun h5 => ?_) <;> conv => whnf
      · refine ret_of rfl ?_
        rw [rightB_no hk2 (by rw [hat]; simp [show k - 1 < l.length by omega, h5]; intros; omega)]
        rfl
      repeat ((first | refine bF ?_ | refine bT ?_ | refine dK (by kernel_rfl) ?_ | refine cK rfl ?_ | refine cK (by first | decide | omega) ?_ | refine wK (by omega) (by omega) ?_); conv => whnf)
      have hok : okAt l k = true := by
        have : k - 1 < l.length := by omega
        simp at h3
        rw [hat]; simp [h1, h2, h3, this]; right; omega
      exact ⟨k + 1, ⟨by omega, fun j hj => (Nat.lt_succ_iff_lt_or_eq.1 hj).elim (hR j) (fun e => e ▸ hok)⟩, by omega, le0 (le_of_cov ⟨rfl, rfl, rfl, rfl, trivial⟩ trivial ⟨rfl, rfl, rfl, rfl⟩)⟩
    · repeat ((first | refine bF ?_ | refine bT ?_ | refine dK (by kernel_rfl) ?_ | refine cK rfl ?_ | refine cK (by first | decide | omega) ?_ | refine wK (by omega) (by omega) ?_); conv => whnf)
      have hok : okAt l k = true := by
        have hk0 : decide (0 < k) = false := by simp; omega
        simp at h3
        rw [hat, h1, h2, hk0]; simp [h3]
      exact ⟨k + 1, ⟨by omega, fun j hj => (Nat.lt_succ_iff_lt_or_eq.1 hj).elim (hR j) (fun e => e ▸ hok)⟩, by omega, le0 (le_of_cov ⟨rfl, rfl, rfl, rfl, trivial⟩ trivial ⟨rfl, rfl, rfl, rfl⟩)⟩
  · have : k = l.length := by simp at h; omega
    subst this
    refine ret_of rfl ?_
    have : (List.range l.length).all (okAt l) = true := by
      rw [List.all_eq_true]
      exact fun x hx => hR x (by simpa using hx)
    simp [rightB, hlen]
    simpa using this
end Go.Lk.Dt

namespace Go.Lk.Dt
open Go Go.Proofs Go.RowKit Go.Lk

theorem rightB_out {l : List (Int × Int)} (h : rightB l = true) : l.length ≤ 16 ∧ ∀ k (hk : k < l.length), okAt l k = true ∧ 1 ≤ l[k].1 ∧ l[k].1 ≤ 16 ∧ 0 ≤ l[k].2 ∧ l[k].2 ≤ 2147483647 := by
  simp only [rightB, Bool.and_eq_true, decide_eq_true_eq, List.all_eq_true, List.mem_range] at h
  refine ⟨h.1, fun k hk => ⟨h.2 k hk, ?_⟩⟩
  have := h.2 k hk
  simp [okAt, hk, pageB, timeB] at this
  omega

def dueF (now age : Int) (it : Int × Int) : Option Int := if age ≤ now - it.2 then some it.1 else none
def dueG (l : List (Int × Int)) (now age : Int) : List Int := if age < 0 ∨ now < 0 ∨ rightB l = false then [] else l.filterMap (dueF now age)

/-! since -/
theorem placeG_lt {l : List (Int × Int)} {n : Int} : ∀ {k : Nat}, placeG l n k < 0 ∨ ∃ i : Nat, placeG l n k = ((k + i : Nat) : Int) ∧ ∃ h : i < l.length, l[i].1 = n := by
  induction l with
  | nil => intro k; exact .inl (show (-1 : Int) < 0 by decide)
  | cons p r ih =>
    intro k
    simp only [placeG]
    by_cases h : p.1 = n
    · exact .inr ⟨0, by simp [h], by simp, by simpa using h⟩
    · rw [if_neg h]
      rcases ih (k := k + 1) with h1 | ⟨i, h1, h2, h3⟩
      · exact .inl h1
      · exact .inr ⟨i + 1, by rw [h1]; simp; omega, by simpa using h2, by simpa using h3⟩

def sinceG (l : List (Int × Int)) (n : Int) : Int × Bool :=
  if rightB l = false ∨ placeG l n 0 < 0 then (0, false) else ((l[(placeG l n 0).toNat]?.getD (0, 0)).2, true)
theorem since_ok (l : List (Int × Int)) (n : Int) (hl : l.length ≤ 1000000) : ACall Tryz.prog 84 [encIs l, .int .i64 n] (.tup [.int .i64 (sinceG l n).1, .bool (sinceG l n).2]) := by
  refine acall_of Tryz.func84 2 rfl (by kernel_rfl) ?_
  conv => whnf
  refine callX_pure (right_ok l hl) ?_
  conv => whnf
  refine bcase_intro (fun h => ?_) (fun h => ?_) <;> conv => whnf
  · simp at h
    exact ret_of rfl (by simp [sinceG, h]; rfl)
  refine callX_pure (place_ok l n hl) ?_
  conv => whnf
  refine bcase_p (fun h1 => ?_) (fun h1 => ?_) <;> conv => whnf
  · exact ret_of rfl (by simp [sinceG, h1]; rfl)
  simp at h
  obtain h2 | ⟨i, h2, h3, h4⟩ := placeG_lt (l := l) (n := n) (k := 0)
  · exact absurd h2 h1
  rw [Nat.zero_add] at h2
  refine idxK_int (by omega) (by rw [h2]; simp; omega) ?_
  conv => whnf
  refine getRow_of (x := encI l[i]) (by rw [h2]; simp [h3]) ?_
  conv => whnf
  repeat ((first | refine bF ?_ | refine bT ?_ | refine dK (by kernel_rfl) ?_ | refine cK rfl ?_ | refine cK (by first | decide | omega) ?_ | refine wK (by omega) (by omega) ?_); conv => whnf)
  exact ret_of rfl (by simp [sinceG, h, h2, h3, show ¬ ((i : Int) < 0) by omega]; rfl)

end Go.Lk.Dt

namespace Go.Lk.Dt
open Go Go.Proofs Go.RowKit Go.Lk

def lateB (l : List (Int × Int)) (t : Int) : Bool := decide (0 < l.length) && decide (t < (l[l.length - 1]?.getD (0, 0)).2)
def markG (l : List (Int × Int)) (p t : Int) : List (Int × Int) × Int :=
  if rightB l = false ∨ pageB p = false ∨ timeB t = false then (l, 1)
  else if lateB l t = true then (l, 1)
  else if 0 ≤ placeG l p 0 then (l, 0) else (l ++ [(p, t)], 0)

theorem mark_ok (l : List (Int × Int)) (p t : Int) (hl : l.length ≤ 1000000) : ACall Tryz.prog 133 [encIs l, .int .i64 p, .int .i64 t] (.tup [encIs (markG l p t).1, .int .i64 (markG l p t).2]) := by
  refine acall_of Tryz.func133 3 rfl (by kernel_rfl) ?_
  conv => whnf
  refine callX_pure (right_ok l hl) ?_
  conv => whnf
  refine bcase_intro (fun h1 => ?_) (fun h1 => ?_) <;> conv => whnf
  · simp at h1
    exact ret_of rfl (by simp [markG, h1]; rfl)
  simp at h1
  refine callX_pure (isPage_ok p) ?_
  conv => whnf
  refine bcase_intro (fun h2 => ?_) (fun h2 => ?_) <;> conv => whnf
  · simp at h2
    exact ret_of rfl (by simp [markG, h2]; rfl)
  simp at h2
  refine callX_pure (isTime_ok t) ?_
  conv => whnf
  refine bcase_intro (fun h3 => ?_) (fun h3 => ?_) <;> conv => whnf
  · simp at h3
    exact ret_of rfl (by simp [markG, h3]; rfl)
  simp at h3
  obtain ⟨hlen, hR⟩ := rightB_out h1
  have hm : (l.map encI).length = l.length := List.length_map ..
  refine bcase_p (fun h4 => ?_) (fun h4 => ?_) <;> conv => whnf
  · simp at h4
    repeat ((first | refine bF ?_ | refine bT ?_ | refine dK (by kernel_rfl) ?_ | refine cK rfl ?_ | refine cK (by first | decide | omega) ?_ | refine wK (by omega) (by omega) ?_); conv => whnf)
    refine idxK_int (by omega) (by omega) ?_
    conv => whnf
    refine getRow_of (x := encI l[l.length - 1]) (by rw [show (((l.map encI).length : Int) - 1).toNat = l.length - 1 by omega]; simp [show l.length - 1 < l.length by omega]) ?_
    conv => whnf
    repeat ((first | refine bF ?_ | refine bT ?_ | refine dK (by kernel_rfl) ?_ | refine cK rfl ?_ | refine cK (by first | decide | omega) ?_ | refine wK (by omega) (by omega) ?_); conv => whnf)
    refine bcase_p (fun h5 => ?_) (fun h5 => ?_) <;> conv => whnf
    · have : lateB l t = true := by simp [lateB, show l.length - 1 < l.length by omega, h4, h5]
      exact ret_of rfl (by simp [markG, this, h1, h2, h3]; rfl)
    have h6 : lateB l t = false := by simp [lateB, show l.length - 1 < l.length by omega]; omega
    refine callX_pure (place_ok l p hl) ?_
    conv => whnf
    refine bcase_p (fun h7 => ?_) (fun h7 => ?_) <;> conv => whnf
    · exact ret_of rfl (by simp [markG, h6, h1, h2, h3, h7]; rfl)
    repeat ((first | refine bF ?_ | refine bT ?_ | refine dK (by kernel_rfl) ?_ | refine cK rfl ?_ | refine cK (by first | decide | omega) ?_ | refine wK (by omega) (by omega) ?_); conv => whnf)
    refine roomK_le 1000100 100 (by omega) (by decide) (by decide) (by decide) ?_
    conv => whnf
    refine condK_of (encI_ok l) ?_
    conv => whnf
    refine roomK_le 1000100 100 (by show 0 + List.length _ ≤ 1000100; omega) (by decide) (by decide) (by decide) ?_
    conv => whnf
    repeat ((first | refine bF ?_ | refine bT ?_ | refine dK (by kernel_rfl) ?_ | refine cK rfl ?_ | refine cK (by first | decide | omega) ?_ | refine wK (by omega) (by omega) ?_); conv => whnf)
    refine roomK_le 1000100 100 (by show List.length _ + 1 ≤ 1000100; simp; omega) (by decide) (by decide) (by decide) ?_
    conv => whnf
    exact ret_of rfl (by simp [markG, h6, h1, h2, h3, h7, encIs]; rfl)
  · simp at h4
    have h6 : lateB l t = false := by simp [lateB, h4]
    refine callX_pure (place_ok l p hl) ?_
    conv => whnf
    refine bcase_p (fun h7 => ?_) (fun h7 => ?_) <;> conv => whnf
    · exact ret_of rfl (by simp [markG, h6, h1, h2, h3, h7]; rfl)
    repeat ((first | refine bF ?_ | refine bT ?_ | refine dK (by kernel_rfl) ?_ | refine cK rfl ?_ | refine cK (by first | decide | omega) ?_ | refine wK (by omega) (by omega) ?_); conv => whnf)
    refine roomK_le 1000100 100 (by omega) (by decide) (by decide) (by decide) ?_
    conv => whnf
    refine condK_of (encI_ok l) ?_
    conv => whnf
    refine roomK_le 1000100 100 (by show 0 + List.length _ ≤ 1000100; omega) (by decide) (by decide) (by decide) ?_
    conv => whnf
    repeat ((first | refine bF ?_ | refine bT ?_ | refine dK (by kernel_rfl) ?_ | refine cK rfl ?_ | refine cK (by first | decide | omega) ?_ | refine wK (by omega) (by omega) ?_); conv => whnf)
    refine roomK_le 1000100 100 (by show List.length _ + 1 ≤ 1000100; simp; omega) (by decide) (by decide) (by decide) ?_
    conv => whnf
    exact ret_of rfl (by simp [markG, h6, h1, h2, h3, h7, encIs]; rfl)
end Go.Lk.Dt

namespace Go.Lk.Dt
open Go Go.Proofs Go.RowKit Go.Lk

theorem erase_snoc {α : Type} {l : List α} {i : Nat} {x : α} : (l ++ [x]).eraseIdx i = if i = l.length then l else l.eraseIdx i ++ [x] := by
  by_cases h : i = l.length
  · subst h; simp [List.eraseIdx_append_of_length_le]
  · rw [if_neg h]
    by_cases h2 : i < l.length
    · rw [List.eraseIdx_append_of_lt_length h2]
    · rw [List.eraseIdx_of_length_le (by simp; omega), List.eraseIdx_of_length_le (by omega)]

def cleanG (l : List (Int × Int)) (p : Int) : List (Int × Int) × Int :=
  if rightB l = false then (l, 1) else if placeG l p 0 < 0 then (l, 3) else (l.eraseIdx (placeG l p 0).toNat, 0)

theorem clean_ok (l : List (Int × Int)) (p : Int) (hl : l.length ≤ 1000000) : ACall Tryz.prog 151 [encIs l, .int .i64 p] (.tup [encIs (cleanG l p).1, .int .i64 (cleanG l p).2]) := by
  refine acall_of Tryz.func151 2 rfl (by kernel_rfl) ?_
  conv => whnf
  refine callX_pure (right_ok l hl) ?_
  conv => whnf
  refine bcase_intro (fun h1 => ?_) (fun h1 => ?_) <;> conv => whnf
  · simp at h1
    exact ret_of rfl (by simp [cleanG, h1]; rfl)
  simp at h1
  refine callX_pure (place_ok l p hl) ?_
  conv => whnf
  refine bcase_p (fun h2 => ?_) (fun h2 => ?_) <;> conv => whnf
  · exact ret_of rfl (by simp [cleanG, h1, h2]; rfl)
  obtain h3 | ⟨i, h3, h4, h5⟩ := placeG_lt (l := l) (n := p) (k := 0)
  · exact absurd h3 h2
  rw [Nat.zero_add] at h3
  have hm : (l.map encI).length = l.length := List.length_map ..
  obtain ⟨hlen, hR⟩ := rightB_out h1
  have hc : cleanG l p = (l.eraseIdx i, 0) := by simp [cleanG, h1, h3]
  rw [hc]
  refine aloop (ι := Nat) (fun k => [(6, .d (.int .i64 i)), (7, .own 33), (20, .d (encIs l)), (21, .d (.int .i64 (l.map encI).length)), (22, .d (.int .i64 k))]) (fun k => [(33, .row (((l.take k).eraseIdx i).map encI) 2 false)])
    (fun k => k ≤ l.length) (fun k => l.length - k) 0 (Nat.zero_le _) (le1 (.row 7 33 2) ⟨rfl, rfl⟩ (le_of_cov ⟨by rw [← h3]; rfl, rfl, rfl, rfl, rfl, trivial⟩ ⟨rfl, trivial⟩ ⟨rfl, rfl, rfl, rfl⟩)) ?_
  intro k hk
  conv => whnf
  refine bcase_p (fun h => ?_) (fun h => ?_) <;> conv => whnf
  · have hk2 : k < l.length := by simpa using h
    refine idxK_nat (by simpa using hk2) ?_
    conv => whnf
    refine getRow_of (x := encI l[k]) (by simp [hk2]) ?_
    conv => whnf
    repeat ((first | refine bF ?_ | refine bT ?_ | refine dK (by kernel_rfl) ?_ | refine cK rfl ?_ | refine cK (by first | decide | omega) ?_ | refine wK (by omega) (by omega) ?_); conv => whnf)
    have hmin : min k l.length = k := by omega
    refine bcase_n (fun h6 => ?_) (fun h6 => ?_) <;> conv => whnf
    · repeat ((first | refine bF ?_ | refine bT ?_ | refine dK (by kernel_rfl) ?_ | refine cK rfl ?_ | refine cK (by first | decide | omega) ?_ | refine wK (by omega) (by omega) ?_); conv => whnf)
      refine roomK_le 1000100 100 (by show List.length _ + 1 ≤ 1000100; have := List.length_eraseIdx_le (l.take k) i; simp at this ⊢; omega) (by decide) (by decide) (by decide) ?_
      conv => whnf
      repeat ((first | refine bF ?_ | refine bT ?_ | refine dK (by kernel_rfl) ?_ | refine cK rfl ?_ | refine cK (by first | decide | omega) ?_ | refine wK (by omega) (by omega) ?_); conv => whnf)
      exact ⟨k + 1, by omega, by omega, le0 (le_of_cov ⟨rfl, rfl, rfl, rfl, rfl, trivial⟩ ⟨by
        rw [take_snoc hk2, erase_snoc, if_neg (by simp [hmin]; omega), List.map_append]; rfl, trivial⟩ ⟨rfl, rfl, rfl, rfl⟩)⟩
    · repeat ((first | refine bF ?_ | refine bT ?_ | refine dK (by kernel_rfl) ?_ | refine cK rfl ?_ | refine cK (by first | decide | omega) ?_ | refine wK (by omega) (by omega) ?_); conv => whnf)
      exact ⟨k + 1, by omega, by omega, le0 (le_of_cov ⟨rfl, rfl, rfl, rfl, rfl, trivial⟩ ⟨by
        rw [take_snoc hk2, erase_snoc, if_pos (by simp [hmin]; omega), List.eraseIdx_of_length_le (by simp [hmin]; omega)]; rfl, trivial⟩ ⟨rfl, rfl, rfl, rfl⟩)⟩
  · have : k = l.length := by simp at h; omega
    subst this
    exact ret_of rfl (by rw [List.take_length]; rfl)

def thereB (l : List (Int × Int)) (p : Nat) : Bool := l.any fun x => x.1 == (p : Int)
def cellB (b : Bool) : AV := if b then .tt else .d (.bool false)
def thereA (l : List (Int × Int)) : List AV := (List.range 17).map fun p => cellB (thereB l p)
def lastG (l : List (Int × Int)) (k : Nat) : Int := if k = 0 then 0 else (l[k-1]?.getD (0, 0)).2
theorem killC_cellB (b : Nat) : ∀ (f : Nat → Bool) (r : List Nat), killB.cells b (r.map fun p => cellB (f p)) = r.map fun p => cellB (f p)
  | _, [] => rfl
  | f, x :: r => by
    simp only [List.map_cons, killB.cells, killC_cellB b f r]
    congr 1
    unfold cellB; cases f x <;> rfl
theorem killC_there (b : Nat) (l : List (Int × Int)) : killB.cells b (thereA l) = thereA l := killC_cellB b _ _
theorem thereB_place {l : List (Int × Int)} {p : Nat} : ∀ {k : Nat}, thereB l p = true ↔ 0 ≤ placeG l p k := by
  induction l with
  | nil => intro k; exact ⟨fun h => (by cases h), fun h => absurd h (show ¬ (0 ≤ (-1 : Int)) by decide)⟩
  | cons q r ih =>
    intro k
    have h := ih (k := k + 1)
    simp only [thereB, List.any_cons, placeG] at h ⊢
    by_cases e : q.1 = p
    · simp [e]
    · rw [if_neg e, ← h]; simp [e]
theorem there_set {l : List (Int × Int)} {x : Int × Int} {n : Nat} (hx : x.1 = n) : (thereA l).set n .tt = thereA (l ++ [x]) := by
  apply List.ext_getElem (by simp [thereA])
  intro i h1 h2
  simp only [thereA, List.getElem_set, List.getElem_map, List.getElem_range, thereB, List.any_append, List.any_cons, List.any_nil, Bool.or_false]
  by_cases e : n = i
  · subst e; simp [hx, cellB]
  · rw [if_neg e]
    have : (x.1 == (i : Int)) = false := by rw [hx]; simp; omega
    rw [this, Bool.or_false]

end Go.Lk.Dt

namespace Go.Lk.Dt
open Go Go.Proofs Go.RowKit Go.Lk

theorem pig : ∀ (n : Nat) (l : List Nat), l.Nodup → (∀ x ∈ l, x < n) → l.length ≤ n
  | 0, [], _, _ => Nat.le_refl _
  | 0, x :: r, _, h => absurd (h x (List.mem_cons_self ..)) (Nat.not_lt_zero _)
  | n + 1, l, hn, h => by
    by_cases hm : n ∈ l
    · have := pig n (l.erase n) (hn.erase n) fun x hx => by
        have := (hn.mem_erase_iff).1 hx
        have := h x this.2
        omega
      rw [List.length_erase_of_mem hm] at this
      omega
    · have := pig n l hn fun x hx => by
        have := h x hx
        have : x ≠ n := fun e => hm (e ▸ hx)
        omega
      omega

theorem okAt_app {l : List (Int × Int)} {x : Int × Int} {i : Nat} (h : i < l.length) : okAt (l ++ [x]) i = okAt l i := by
  unfold okAt
  rw [List.getElem?_append_left h, List.take_append_of_le_length (Nat.le_of_lt h)]
  cases i with
  | zero => simp
  | succ i => rw [List.getElem?_append_left (by omega)]
theorem okAt_last {l : List (Int × Int)} {x : Int × Int} : okAt (l ++ [x]) l.length = (pageB x.1 && timeB x.2 && !(decide (0 ≤ placeG l x.1 0)) && !(lateB l x.2)) := by
  unfold okAt lateB
  rw [List.getElem?_append_right (Nat.le_refl _)]
  simp only [Nat.sub_self, List.getElem?_cons_zero, List.take_left']
  congr 2
  by_cases h : 0 < l.length
  · rw [List.getElem?_append_left (by omega)]
  · simp [h]
theorem rightB_snoc {l : List (Int × Int)} {x : Int × Int} : rightB (l ++ [x]) = true ↔ rightB l = true ∧ l.length < 16 ∧ pageB x.1 = true ∧ timeB x.2 = true ∧ placeG l x.1 0 < 0 ∧ lateB l x.2 = false := by
  simp only [rightB, Bool.and_eq_true, decide_eq_true_eq, List.all_eq_true, List.mem_range, List.length_append, List.length_cons, List.length_nil]
  constructor
  · rintro ⟨h1, h2⟩
    have h3 := h2 l.length (by omega)
    rw [okAt_last] at h3
    simp at h3
    refine ⟨⟨by omega, fun i hi => ?_⟩, by omega, h3.1.1.1, h3.1.1.2, h3.1.2, h3.2⟩
    rw [← okAt_app hi]
    exact h2 i (by omega)
  · rintro ⟨⟨h1, h2⟩, h3, h4, h5, h6, h7⟩
    refine ⟨by omega, fun i hi => ?_⟩
    by_cases e : i < l.length
    · rw [okAt_app e]; exact h2 i e
    · obtain rfl : i = l.length := by omega
      rw [okAt_last]; simp [h4, h5, h6, h7]
theorem rightB_nil : rightB [] = true := rfl

theorem placeG_mem {l : List (Int × Int)} {n : Int} : ∀ {k : Nat}, 0 ≤ placeG l n k ↔ ∃ x ∈ l, x.1 = n := by
  induction l with
  | nil => intro k; exact ⟨fun h => absurd h (show ¬ (0 ≤ (-1 : Int)) by decide), fun ⟨x, h, _⟩ => by cases h⟩
  | cons p r ih =>
    intro k
    simp only [placeG]
    by_cases h : p.1 = n
    · rw [if_pos h]; exact ⟨fun _ => ⟨p, List.mem_cons_self .., h⟩, fun _ => by omega⟩
    · rw [if_neg h, ih]
      constructor
      · rintro ⟨x, h1, h2⟩; exact ⟨x, List.mem_cons_of_mem _ h1, h2⟩
      · rintro ⟨x, h1, h2⟩
        rcases List.mem_cons.1 h1 with rfl | h1
        · exact absurd h2 h
        · exact ⟨x, h1, h2⟩

/-- induction from the right -/
theorem snocRec {α : Type} {motive : List α → Prop} (h0 : motive []) (h1 : ∀ l x, motive l → motive (l ++ [x])) (l : List α) : motive l := by
  have : ∀ n (l : List α), l.length = n → motive l := by
    intro n
    induction n with
    | zero => intro l h; rw [List.length_eq_zero_iff.1 h]; exact h0
    | succ n ih =>
      intro l h
      have hne : l ≠ [] := fun e => by subst e; cases h
      rw [← List.dropLast_concat_getLast hne]
      exact h1 _ _ (ih _ (by simp [h]))
  exact this _ l rfl

theorem rightB_nodup {l : List (Int × Int)} : rightB l = true → (l.map fun x => x.1.toNat).Nodup ∧ ∀ x ∈ l, 1 ≤ x.1 ∧ x.1 ≤ 16 := by
  refine snocRec (motive := fun l => rightB l = true → (l.map fun x => x.1.toNat).Nodup ∧ ∀ x ∈ l, 1 ≤ x.1 ∧ x.1 ≤ 16) (fun _ => ⟨List.nodup_nil, fun x h => by cases h⟩) (fun l x ih h => ?_) l
  obtain ⟨h1, h2, h3, h4, h5, h6⟩ := rightB_snoc.1 h
  obtain ⟨g1, g2⟩ := ih h1
  have hx : 1 ≤ x.1 ∧ x.1 ≤ 16 := by simpa [pageB] using h3
  refine ⟨?_, fun y hy => ?_⟩
  · rw [List.map_append, List.nodup_append]
    refine ⟨g1, by simp, fun a ha b hb e => ?_⟩
    simp only [List.map_cons, List.map_nil, List.mem_singleton] at hb
    subst hb e
    obtain ⟨y, hy, e⟩ := List.mem_map.1 ha
    have := g2 y hy
    have : 0 ≤ placeG l x.1 0 := placeG_mem.2 ⟨y, hy, by omega⟩
    omega
  · rcases List.mem_append.1 hy with hy | hy
    · exact g2 y hy
    · rw [List.mem_singleton.1 hy]; exact hx

/-- with a page that isn't there, there is room -/
theorem right_room {l : List (Int × Int)} {p : Int} (h : rightB l = true) (hp : pageB p = true) (hn : placeG l p 0 < 0) : l.length < 16 := by
  obtain ⟨h1, h2⟩ := rightB_nodup h
  have hp' : 1 ≤ p ∧ p ≤ 16 := by simpa [pageB] using hp
  have := pig 16 ((p.toNat - 1) :: l.map fun x => x.1.toNat - 1) (by
    rw [List.nodup_cons]
    refine ⟨fun hm => ?_, ?_⟩
    · obtain ⟨y, hy, e⟩ := List.mem_map.1 hm
      have := h2 y hy
      have : 0 ≤ placeG l p 0 := placeG_mem.2 ⟨y, hy, by omega⟩
      omega
    · rw [show (l.map fun x => x.1.toNat - 1) = (l.map fun x => x.1.toNat).map (· - 1) by simp]
      refine List.pairwise_map.2 (h1.imp_of_mem fun {a b} ha hb e => ?_)
      obtain ⟨y, hy, rfl⟩ := List.mem_map.1 ha
      obtain ⟨z, hz, rfl⟩ := List.mem_map.1 hb
      have := h2 y hy
      have := h2 z hz
      omega) (by
    intro x hx
    rcases List.mem_cons.1 hx with rfl | hx
    · omega
    · obtain ⟨y, hy, rfl⟩ := List.mem_map.1 hx
      have := h2 y hy
      omega)
  simp at this
  omega

/-- what a mark does -/
theorem mark_right {l : List (Int × Int)} {p t : Int} (h : (markG l p t).2 = 0) : rightB l = true ∧ pageB p = true ∧ timeB t = true ∧ lateB l t = false ∧
    ((0 ≤ placeG l p 0 ∧ (markG l p t).1 = l) ∨ (placeG l p 0 < 0 ∧ (markG l p t).1 = l ++ [(p, t)])) := by
  unfold markG at h ⊢
  by_cases h1 : rightB l = false ∨ pageB p = false ∨ timeB t = false
  · rw [if_pos h1] at h; cases h
  · rw [if_neg h1] at h ⊢
    by_cases h2 : lateB l t = true
    · rw [if_pos h2] at h; cases h
    · rw [if_neg h2] at h ⊢
      simp at h1 h2
      refine ⟨h1.1, h1.2.1, h1.2.2, h2, ?_⟩
      by_cases h3 : 0 ≤ placeG l p 0
      · rw [if_pos h3]; exact .inl ⟨h3, rfl⟩
      · rw [if_neg h3]; exact .inr ⟨by omega, rfl⟩
theorem mark_keeps {l : List (Int × Int)} {p t : Int} (h : (markG l p t).2 = 0) : rightB (markG l p t).1 = true := by
  obtain ⟨h1, h2, h3, h4, h5 | h5⟩ := mark_right h
  · rw [h5.2]; exact h1
  · rw [h5.2]; exact rightB_snoc.2 ⟨h1, right_room h1 h2 h5.1, h2, h3, h5.1, h4⟩
theorem mark_ok2 {l : List (Int × Int)} {p t : Int} (h1 : rightB l = true) (h2 : pageB p = true) (h3 : timeB t = true) (h4 : lateB l t = false) : (markG l p t).2 = 0 := by
  unfold markG
  rw [if_neg (by simp [h1, h2, h3]), if_neg (by simp [h4])]
  split <;> rfl
theorem placeG_app {l : List (Int × Int)} {x : Int × Int} {n : Int} : ∀ {k : Nat}, placeG l n k < 0 → placeG (l ++ [x]) n k = if x.1 = n then ((k + l.length : Nat) : Int) else -1 := by
  induction l with
  | nil => intro k _; simp only [List.nil_append, placeG, List.length_nil, Nat.add_zero]
  | cons p r ih =>
    intro k h
    simp only [placeG, List.cons_append] at h ⊢
    by_cases e : p.1 = n
    · rw [if_pos e] at h; omega
    · rw [if_neg e] at h ⊢
      rw [ih h]
      simp only [List.length_cons]
      split
      · omega
      · rfl
end Go.Lk.Dt

namespace Go.Lk.Dt
open Go Go.Proofs Go.RowKit Go.Lk

theorem mark_same {l : List (Int × Int)} {p t : Int} (h : (markG l p t).2 ≠ 0 ∨ 0 ≤ placeG l p 0) : (markG l p t).1 = l := by
  unfold markG at h ⊢
  by_cases h1 : rightB l = false ∨ pageB p = false ∨ timeB t = false
  · rw [if_pos h1]
  · rw [if_neg h1] at h ⊢
    by_cases h2 : lateB l t = true
    · rw [if_pos h2]
    · rw [if_neg h2] at h ⊢
      by_cases h3 : 0 ≤ placeG l p 0
      · rw [if_pos h3]
      · rw [if_neg h3] at h
        rcases h with h | h
        · exact absurd rfl h
        · exact absurd h h3
theorem mark_len {l : List (Int × Int)} {p t : Int} : (markG l p t).1.length ≤ l.length + 1 := by
  unfold markG
  split
  · simp
  · split
    · simp
    · split <;> simp
theorem clean_snoc {l : List (Int × Int)} {p t : Int} (h : rightB (l ++ [(p, t)]) = true) (hn : placeG l p 0 < 0) : cleanG (l ++ [(p, t)]) p = (l, 0) := by
  unfold cleanG
  rw [if_neg (by simp [h]), placeG_app hn, if_pos rfl, if_neg (by omega), Nat.zero_add]
  rw [erase_snoc, if_pos (by simp)]

end Go.Lk.Dt

namespace Go.Lk.Dt
open Go Go.Proofs Go.RowKit Go.Lk

def RightP (l : List (Int × Int)) : Prop := l.length ≤ 16 ∧ (∀ x ∈ l, pageB x.1 = true ∧ timeB x.2 = true) ∧ l.Pairwise (fun a b => a.1 ≠ b.1) ∧ l.Pairwise (fun a b => a.2 ≤ b.2)
theorem late_le {l : List (Int × Int)} {t : Int} (hs : l.Pairwise (fun a b => a.2 ≤ b.2)) : lateB l t = false ↔ ∀ a ∈ l, a.2 ≤ t := by
  constructor
  · intro h a ha
    obtain ⟨i, hi, rfl⟩ := List.mem_iff_getElem.1 ha
    have hp : 0 < l.length := by omega
    simp [lateB, show l.length - 1 < l.length by omega] at h
    have h := h hp
    by_cases e : i = l.length - 1
    · subst e; exact h
    · have := List.pairwise_iff_getElem.1 hs i (l.length - 1) hi (by omega) (by omega)
      omega
  · intro h
    simp [lateB]
    intro hp
    rw [List.getElem?_eq_getElem (show l.length - 1 < l.length by omega)]
    exact h _ (List.getElem_mem _)
theorem rightB_iff {l : List (Int × Int)} : rightB l = true ↔ RightP l := by
  refine snocRec (motive := fun l => rightB l = true ↔ RightP l) ⟨fun _ => ⟨by simp, fun x h => (by cases h), .nil, .nil⟩, fun _ => rfl⟩ (fun l x ih => ?_) l
  rw [rightB_snoc, ih]
  unfold RightP
  simp only [List.length_append, List.length_cons, List.length_nil, List.mem_append, List.mem_singleton, List.pairwise_append]
  constructor
  · rintro ⟨⟨h1, h2, h3, h4⟩, h5, h6, h7, h8, h9⟩
    refine ⟨by omega, fun y hy => ?_, ⟨h3, by simp, fun a ha b hb e => ?_⟩, ⟨h4, by simp, fun a ha b hb => ?_⟩⟩
    · rcases hy with hy | rfl
      · exact h2 y hy
      · exact ⟨h6, h7⟩
    · subst hb
      have : 0 ≤ placeG l b.1 0 := placeG_mem.2 ⟨a, ha, e⟩
      omega
    · subst hb; exact (late_le h4).1 h9 a ha
  · rintro ⟨h1, h2, ⟨h3, _, h4⟩, ⟨h5, _, h6⟩⟩
    refine ⟨⟨by omega, fun y hy => h2 y (.inl hy), h3, h5⟩, by omega, (h2 x (.inr rfl)).1, (h2 x (.inr rfl)).2, ?_, (late_le h5).2 fun a ha => h6 a ha x rfl⟩
    by_cases h : 0 ≤ placeG l x.1 0
    · obtain ⟨y, hy, e⟩ := placeG_mem.1 h
      exact absurd e (h4 y hy x rfl)
    · omega

/-- what is due is a beginning -/
theorem pre_of_sorted {T : Int} : ∀ {l : List (Int × Int)}, l.Pairwise (fun a b => a.2 ≤ b.2) → ∃ m, m ≤ l.length ∧ (l.filterMap fun it => if it.2 ≤ T then some it.1 else none) = (l.take m).map (·.1) ∧ ∀ i (h : i < l.length), i < m ↔ l[i].2 ≤ T
  | [], _ => ⟨0, by simp, rfl, fun i h => absurd h (Nat.not_lt_zero _)⟩
  | p :: r, hs => by
    obtain ⟨h1, h2⟩ := List.pairwise_cons.1 hs
    by_cases e : p.2 ≤ T
    · obtain ⟨m, k1, k2, k3⟩ := pre_of_sorted (T := T) h2
      refine ⟨m + 1, by simp; omega, by simp [e, k2], fun i h => ?_⟩
      cases i with
      | zero => simp [e]
      | succ i => simpa using k3 i (by simpa using h)
    · refine ⟨0, by simp, ?_, fun i h => ?_⟩
      · rw [List.take_zero, List.map_nil, List.filterMap_eq_nil_iff]
        intro x hx
        rcases List.mem_cons.1 hx with rfl | hx
        · simp [e]
        · have := h1 x hx; simp; omega
      · cases i with
        | zero => simp; omega
        | succ i =>
          have := h1 _ (List.getElem_mem (show i < r.length by simpa using h))
          simp; omega
theorem due_pre {l : List (Int × Int)} {now age : Int} (hr : rightB l = true) (ha : 0 ≤ age) (hn : 0 ≤ now) :
    ∃ m, m ≤ l.length ∧ dueG l now age = (l.take m).map (·.1) ∧ ∀ i (h : i < l.length), i < m ↔ l[i].2 ≤ now - age := by
  obtain ⟨m, h1, h2, h3⟩ := pre_of_sorted (T := now - age) (rightB_iff.1 hr).2.2.2
  refine ⟨m, h1, ?_, h3⟩
  rw [dueG, if_neg (by simp [hr]; omega), ← h2]
  congr 1
  funext x
  simp only [dueF]
  by_cases e : age ≤ now - x.2
  · rw [if_pos e, if_pos (by omega)]
  · rw [if_neg e, if_neg (by omega)]

/-- since when, by what the list has -/
theorem since_yes {l : List (Int × Int)} {p t : Int} (hr : rightB l = true) (h : (p, t) ∈ l) : sinceG l p = (t, true) := by
  have hp : 0 ≤ placeG l p 0 := placeG_mem.2 ⟨_, h, rfl⟩
  obtain h4 | ⟨i, h4, h5, h6⟩ := placeG_lt (l := l) (n := p) (k := 0)
  · omega
  rw [Nat.zero_add] at h4
  have hi : l[i] = (p, t) := by
    obtain ⟨j, hj, e⟩ := List.mem_iff_getElem.1 h
    have hn := List.pairwise_iff_getElem.1 (rightB_iff.1 hr).2.2.1
    by_cases e1 : i = j
    · subst e1; exact e
    · rcases Nat.lt_or_gt_of_ne e1 with h7 | h7
      · exact absurd (by rw [h6, e]) (hn i j h5 hj h7)
      · exact absurd (by rw [h6, e]) (hn j i hj h5 h7)
  simp [sinceG, hr, h4, h5, hi]
theorem since_no {l : List (Int × Int)} {p : Int} (h : ∀ t, (p, t) ∉ l) : sinceG l p = (0, false) := by
  have : placeG l p 0 < 0 := by
    by_cases e : 0 ≤ placeG l p 0
    · obtain ⟨⟨a, b⟩, hy, rfl⟩ := placeG_mem.1 e
      exact absurd hy (h b)
    · omega
  simp [sinceG, this]
theorem place_no {l : List (Int × Int)} {p : Int} (h : ∀ t, (p, t) ∉ l) : placeG l p 0 < 0 := by
  by_cases e : 0 ≤ placeG l p 0
  · obtain ⟨⟨a, b⟩, hy, rfl⟩ := placeG_mem.1 e
    exact absurd hy (h b)
  · omega
theorem place_yes {l : List (Int × Int)} {p t : Int} (h : (p, t) ∈ l) : 0 ≤ placeG l p 0 := placeG_mem.2 ⟨_, h, rfl⟩

theorem erase_filter {p : Int} : ∀ {l : List (Int × Int)} {i : Nat} (h : i < l.length), l.Pairwise (fun a b => a.1 ≠ b.1) → l[i].1 = p → l.eraseIdx i = l.filter (fun x => x.1 != p)
  | a :: r, 0, _, hn, e => by
    obtain ⟨h1, h2⟩ := List.pairwise_cons.1 hn
    have e : a.1 = p := e
    rw [List.eraseIdx_cons_zero, List.filter_cons_of_neg (by simp [e])]
    exact (List.filter_eq_self.2 fun x hx => by have := h1 x hx; rw [e] at this; simp; exact fun e' => this e'.symm).symm
  | a :: r, i + 1, h, hn, e => by
    obtain ⟨h1, h2⟩ := List.pairwise_cons.1 hn
    have hi : i < r.length := by simpa using h
    have e : r[i].1 = p := by simpa using e
    have := h1 _ (List.getElem_mem hi)
    rw [e] at this
    rw [List.eraseIdx_cons_succ, erase_filter hi h2 e, List.filter_cons_of_pos (by simpa using this)]
theorem right_filter {l : List (Int × Int)} (hr : rightB l = true) (f : Int × Int → Bool) : rightB (l.filter f) = true := by
  obtain ⟨h1, h2, h3, h4⟩ := rightB_iff.1 hr
  refine rightB_iff.2 ⟨Nat.le_trans (List.length_filter_le _ _) h1, fun x hx => h2 x (List.mem_filter.1 hx).1, h3.filter f, h4.filter f⟩
/-- what a clean does, of right items -/
theorem clean_right {l : List (Int × Int)} {p : Int} (hr : rightB l = true) : cleanG l p = if 0 ≤ placeG l p 0 then (l.filter (fun x => x.1 != p), 0) else (l, 3) := by
  unfold cleanG
  rw [if_neg (by simp [hr])]
  by_cases h : 0 ≤ placeG l p 0
  · obtain h4 | ⟨i, h4, h5, h6⟩ := placeG_lt (l := l) (n := p) (k := 0)
    · omega
    rw [Nat.zero_add] at h4
    rw [if_neg (by omega), if_pos h, h4, Int.toNat_natCast, erase_filter h5 (rightB_iff.1 hr).2.2.1 h6]
  · rw [if_pos (by omega), if_neg h]
end Go.Lk.Dt


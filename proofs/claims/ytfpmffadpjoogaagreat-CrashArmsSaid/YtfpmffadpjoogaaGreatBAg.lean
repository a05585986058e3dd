/-
  What is proved here: what functions of the program compute, and what follows; no condition beyond each theorem's own.
-/
import Derived.Test.YtfpmffadpjoogaaGreatBAf
import Derived.RangeFuncNested
import Derived.RangeFuncBound
import Derived.RangeFuncCalls
import Derived.RangeFuncLeaves
import Derived.RangeFuncBox
import Derived.Shelf.Abstract
import Derived.Shelf.RegionOpen
import Derived.WalkKit
import Derived.OwnWalkIn
import Derived.TacticsInMore
import Derived.LoopNIn
import Derived.LoopIn
import Derived.Test.YtfpmffadpjoogaaGreatProg
set_option linter.unusedSimpArgs false
set_option linter.unusedVariables false
set_option linter.unnecessarySimpa false
set_option linter.unusedSectionVars false
namespace Go.Lk
open Go Go.Proofs Go.RowKit

/-! ### writes -/
def wrS (s : List ByteArray) (l : List Wt) : List ByteArray := l.foldl (fun s w => s.set w.1.toNat w.2) s
theorem wrS_len : ∀ (l : List Wt) (s : List ByteArray), (wrS s l).length = s.length
  | [], s => rfl
  | w :: r, s => by
    show (wrS (s.set w.1.toNat w.2) r).length = _
    rw [wrS_len r, List.length_set]
theorem wrS_snoc (s : List ByteArray) (l : List Wt) (w : Wt) : wrS s (l ++ [w]) = (wrS s l).set w.1.toNat w.2 := by simp [wrS]
def pick (n : Int) (l : List Wt) (b : ByteArray) : ByteArray := l.foldl (fun b w => if w.1 = n then w.2 else b) b
def rdS (d : DS) (n : Int) : ByteArray := pick n d.ca (d.sec[n.toNat]?.getD ByteArray.empty)
theorem pick_none {n : Int} : ∀ {l : List Wt} {b : ByteArray}, (∀ w ∈ l, w.1 ≠ n) → pick n l b = b
  | [], b, _ => rfl
  | w :: r, b, h => by
    show pick n r (if w.1 = n then w.2 else b) = b
    rw [if_neg (h w (List.mem_cons_self ..)), pick_none fun x hx => h x (List.mem_cons_of_mem _ hx)]
theorem pick_app (n : Int) (l r : List Wt) (b : ByteArray) : pick n (l ++ r) b = pick n r (pick n l b) := by simp [pick]
theorem pick_at {n : Int} {l : List Wt} {k : Nat} (hk : k < l.length) (h : l[k].1 = n) (hR : ∀ j, k < j → (hj : j < l.length) → l[j].1 ≠ n) (b : ByteArray) : pick n l b = l[k].2 := by
  have e : l = l.take k ++ l[k] :: l.drop (k + 1) := by rw [← List.drop_eq_getElem_cons hk, List.take_append_drop]
  have h2 : pick n l b = pick n (l.take k ++ l[k] :: l.drop (k + 1)) b := congrArg (fun x => pick n x b) e
  rw [h2, pick_app]
  show pick n (l.drop (k + 1)) (if l[k].1 = n then l[k].2 else pick n (l.take k) b) = _
  rw [if_pos h, pick_none]
  intro w hw
  obtain ⟨i, hi, rfl⟩ := List.mem_iff_getElem.1 hw
  rw [List.getElem_drop]
  rw [List.length_drop] at hi
  exact hR _ (by omega) (by omega)
theorem wrS_get : ∀ (l : List Wt) (s : List ByteArray) (i : Nat), i < s.length → (∀ w ∈ l, 0 ≤ w.1) → (wrS s l)[i]?.getD ByteArray.empty = pick i l (s[i]?.getD ByteArray.empty)
  | [], s, i, _, _ => rfl
  | w :: r, s, i, hi, h => by
    show (wrS (s.set w.1.toNat w.2) r)[i]?.getD _ = pick i r (if w.1 = i then w.2 else s[i]?.getD _)
    rw [wrS_get r _ i (by rw [List.length_set]; exact hi) fun x hx => h x (List.mem_cons_of_mem _ hx)]
    have h0 := h w (List.mem_cons_self ..)
    congr 1
    by_cases e : w.1 = i
    · rw [if_pos e, show w.1.toNat = i by omega, List.getElem?_set_self hi]; rfl
    · rw [if_neg e, List.getElem?_set_ne (by omega)]
theorem cloneB_ok (l : List ByteArray) (hl : l.length ≤ 1000000) : OCall Tryz.prog 137 [.lst (l.map encB)] (l.map encB) 1 := by
  refine ocall_of Tryz.func137 1 rfl (by kernel_rfl) ?_
  conv => whnf
  refine nilK_of ?_
  conv => whnf
  intro r hr
  conv => whnf
  refine bcase_intro (fun h => ?_) (fun h => ?_) <;> conv => whnf
  · have := hr h
    exact ⟨2, rfl, .inr ⟨rfl, this⟩⟩
  · repeat ((first | refine bF ?_ | refine bT ?_ | refine dK (by kernel_rfl) ?_ | refine cK rfl ?_ | refine cK (by first | decide | omega) ?_ | refine wK (by omega) (by omega) ?_); conv => whnf)
    refine condK_of (encB_ok l) ?_
    conv => whnf
    refine roomK_le 1000100 100 (by show 0 + List.length _ ≤ 1000100; simp; omega) (by decide) (by decide) (by decide) ?_
    conv => whnf
    exact ⟨2, rfl, .inl ⟨5, rfl, rfl⟩⟩
theorem cloneW_ok (l : List Wt) (hl : l.length ≤ 1000000) : OCall Tryz.prog 108 [.lst (l.map encW)] (l.map encW) 2 := by
  refine ocall_of Tryz.func108 1 rfl (by kernel_rfl) ?_
  conv => whnf
  refine nilK_of ?_
  conv => whnf
  intro r hr
  conv => whnf
  refine bcase_intro (fun h => ?_) (fun h => ?_) <;> conv => whnf
  · have := hr h
    exact ⟨2, rfl, .inr ⟨rfl, this⟩⟩
  · repeat ((first | refine bF ?_ | refine bT ?_ | refine dK (by kernel_rfl) ?_ | refine cK rfl ?_ | refine cK (by first | decide | omega) ?_ | refine wK (by omega) (by omega) ?_); conv => whnf)
    refine condK_of (encW_ok l) ?_
    conv => whnf
    refine roomK_le 1000100 100 (by show 0 + List.length _ ≤ 1000100; simp; omega) (by decide) (by decide) (by decide) ?_
    conv => whnf
    exact ⟨2, rfl, .inl ⟨5, rfl, rfl⟩⟩
theorem written_ok (d : DS) (l : List Wt) (hd : d.sec.length ≤ 1000) (hl : l.length ≤ 1000) (h : ∀ i, (hi : i < l.length) → okW d.sec.length l[i] = true) :
    ACall Tryz.prog 106 [encDS d, .lst (l.map encW)] (encDS ⟨wrS d.sec l, []⟩) := by
  refine acall_of Tryz.func106 2 rfl (by kernel_rfl) ?_
  conv => whnf
  have hm : (l.map encW).length = l.length := List.length_map ..
  repeat ((first | refine bF ?_ | refine bT ?_ | refine dK (by kernel_rfl) ?_ | refine cK rfl ?_ | refine cK (by first | decide | omega) ?_ | refine wK (by omega) (by omega) ?_); conv => whnf)
  refine callX_own (cloneB_ok d.sec (by omega)) ?_
  conv => whnf
  repeat ((first | refine bF ?_ | refine bT ?_ | refine dK (by kernel_rfl) ?_ | refine cK rfl ?_ | refine cK (by first | decide | omega) ?_ | refine wK (by omega) (by omega) ?_); conv => whnf)
  refine aloop (ι := Nat) (fun k => [(4, .ptr 4 0 0), (5, .own 10), (11, .d (.lst (l.map encW))), (12, .d (.int .i64 (l.map encW).length)), (13, .d (.int .i64 k))]) (fun k => [(4, .box [.nil, .nil] false), (10, .row ((wrS d.sec (l.take k)).map encB) 1 false)])
    (fun k => k ≤ l.length) (fun k => l.length - k) 0 (by omega) (le0 (le_of_cov ⟨rfl, rfl, rfl, rfl, rfl, trivial⟩ ⟨rfl, rfl, trivial⟩ ⟨rfl, rfl, rfl, rfl⟩)) ?_
  intro k hk
  conv => whnf
  refine bcase_p (fun h5 => ?_) (fun h5 => ?_) <;> conv => whnf
  · have hk2 : k < l.length := by omega
    have hw := okW_out.1 (h k hk2)
    have hln := wrS_len (l.take k) d.sec
    have hlm : ((wrS d.sec (l.take k)).map encB).length = (wrS d.sec (l.take k)).length := List.length_map ..
    refine idxK_nat (by omega) ?_
    conv => whnf
    refine getRow_of (x := encW l[k]) (by simp [hk2]) ?_
    conv => whnf
    repeat ((first | refine bF ?_ | refine bT ?_ | refine dK (by kernel_rfl) ?_ | refine cK rfl ?_ | refine cK (by first | decide | omega) ?_ | refine wK (by omega) (by omega) ?_); conv => whnf)
    refine idxK_int (by omega) (by omega) ?_
    conv => whnf
    have hn : l[k].1.toNat < (wrS d.sec (l.take k)).length := by omega
    refine getRow_of (x := encB ((wrS d.sec (l.take k))[l[k].1.toNat])) (by simp [hn]) ?_
    conv => whnf
    repeat ((first | refine bF ?_ | refine bT ?_ | refine dK (by kernel_rfl) ?_ | refine cK rfl ?_ | refine cK (by first | decide | omega) ?_ | refine wK (by omega) (by omega) ?_); conv => whnf)
    refine ⟨k + 1, by omega, by omega, le0 (le_of_cov ⟨rfl, rfl, rfl, rfl, rfl, trivial⟩ ⟨rfl, ?_, trivial⟩ ⟨rfl, rfl, rfl, rfl⟩)⟩
    rw [take_snoc hk2, wrS_snoc, List.map_set]
    rfl
  · repeat ((first | refine bF ?_ | refine bT ?_ | refine dK (by kernel_rfl) ?_ | refine cK rfl ?_ | refine cK (by first | decide | omega) ?_ | refine wK (by omega) (by omega) ?_); conv => whnf)
    have ek : l.take k = l := List.take_of_length_le (by omega)
    rw [ek]
    exact ret_of rfl rfl
open Classical in
noncomputable def syncM (d : DS) : DS := if DR d then ⟨wrS d.sec d.ca, []⟩ else d
open Classical in
noncomputable def putM (d : DS) (w : Wt) : DS × Int := if DR d ∧ okW d.sec.length w = true then (if 200 ≤ d.ca.length then (d, 7) else (⟨d.sec, d.ca ++ [w]⟩, 0)) else (d, 1)
theorem sync_ok (d : DS) : ACall Tryz.prog 64 [encDS d] (encDS (syncM d)) := by
  refine acall_of Tryz.func64 1 rfl (by kernel_rfl) ?_
  conv => whnf
  repeat ((first | refine bF ?_ | refine bT ?_ | refine dK (by kernel_rfl) ?_ | refine cK rfl ?_ | refine cK (by first | decide | omega) ?_ | refine wK (by omega) (by omega) ?_); conv => whnf)
  refine callX_pure (dRight_ok d) ?_
  conv => whnf
  repeat ((first | refine bF ?_ | refine bT ?_ | refine dK (by kernel_rfl) ?_ | refine cK rfl ?_ | refine cK (by first | decide | omega) ?_ | refine wK (by omega) (by omega) ?_); conv => whnf)
  refine bcase_intro (fun h1 => ?_) (fun h1 => ?_) <;> conv => whnf
  · repeat ((first | refine bF ?_ | refine bT ?_ | refine dK (by kernel_rfl) ?_ | refine cK rfl ?_ | refine cK (by first | decide | omega) ?_ | refine wK (by omega) (by omega) ?_); conv => whnf)
    have hn : ¬ DR d := drB_f.1 (by simpa using h1)
    rw [syncM, if_neg hn]
    exact ret_of rfl rfl
  have hR : DR d := drB_t.1 (by simpa using h1)
  rw [syncM, if_pos hR]
  have a1 := hR.s2; have a2 := hR.c1
  repeat ((first | refine bF ?_ | refine bT ?_ | refine dK (by kernel_rfl) ?_ | refine cK rfl ?_ | refine cK (by first | decide | omega) ?_ | refine wK (by omega) (by omega) ?_); conv => whnf)
  refine callX_pure (written_ok d d.ca (by omega) (by omega) hR.c) ?_
  conv => whnf
  repeat ((first | refine bF ?_ | refine bT ?_ | refine dK (by kernel_rfl) ?_ | refine cK rfl ?_ | refine cK (by first | decide | omega) ?_ | refine wK (by omega) (by omega) ?_); conv => whnf)
  exact ret_of rfl rfl
theorem dput_ok (d : DS) (w : Wt) : ACall Tryz.prog 65 [encDS d, .agg (encW w)] (.tup [encDS (putM d w).1, .int .i64 (putM d w).2]) := by
  refine acall_of Tryz.func65 2 rfl (by kernel_rfl) ?_
  conv => whnf
  repeat ((first | refine bF ?_ | refine bT ?_ | refine dK (by kernel_rfl) ?_ | refine cK rfl ?_ | refine cK (by first | decide | omega) ?_ | refine wK (by omega) (by omega) ?_); conv => whnf)
  refine callX_pure (dRight_ok d) ?_
  conv => whnf
  repeat ((first | refine bF ?_ | refine bT ?_ | refine dK (by kernel_rfl) ?_ | refine cK rfl ?_ | refine cK (by first | decide | omega) ?_ | refine wK (by omega) (by omega) ?_); conv => whnf)
  refine bcase_intro (fun h1 => ?_) (fun h1 => ?_) <;> conv => whnf
  · repeat ((first | refine bF ?_ | refine bT ?_ | refine dK (by kernel_rfl) ?_ | refine cK rfl ?_ | refine cK (by first | decide | omega) ?_ | refine wK (by omega) (by omega) ?_); conv => whnf)
    have hn : ¬ DR d := drB_f.1 (by simpa using h1)
    rw [putM, if_neg (fun q => hn q.1)]
    exact ret_of rfl rfl
  have hR : DR d := drB_t.1 (by simpa using h1)
  have a1 := hR.s2; have a2 := hR.c1
  have hm : (d.ca.map encW).length = d.ca.length := List.length_map ..
  repeat ((first | refine bF ?_ | refine bT ?_ | refine dK (by kernel_rfl) ?_ | refine cK rfl ?_ | refine cK (by first | decide | omega) ?_ | refine wK (by omega) (by omega) ?_); conv => whnf)
  refine callX_pure (fitsD_ok d w) ?_
  conv => whnf
  repeat ((first | refine bF ?_ | refine bT ?_ | refine dK (by kernel_rfl) ?_ | refine cK rfl ?_ | refine cK (by first | decide | omega) ?_ | refine wK (by omega) (by omega) ?_); conv => whnf)
  refine bcase_intro (fun h2 => ?_) (fun h2 => ?_) <;> conv => whnf
  · repeat ((first | refine bF ?_ | refine bT ?_ | refine dK (by kernel_rfl) ?_ | refine cK rfl ?_ | refine cK (by first | decide | omega) ?_ | refine wK (by omega) (by omega) ?_); conv => whnf)
    rw [putM, if_neg (fun q => by rw [q.2] at h2; exact absurd h2 (by decide))]
    exact ret_of rfl rfl
  have hW : okW d.sec.length w = true := by simpa using h2
  rw [putM, if_pos ⟨hR, hW⟩]
  repeat ((first | refine bF ?_ | refine bT ?_ | refine dK (by kernel_rfl) ?_ | refine cK rfl ?_ | refine cK (by first | decide | omega) ?_ | refine wK (by omega) (by omega) ?_); conv => whnf)
  refine bcase_p (fun h3 => ?_) (fun h3 => ?_) <;> conv => whnf
  · repeat ((first | refine bF ?_ | refine bT ?_ | refine dK (by kernel_rfl) ?_ | refine cK rfl ?_ | refine cK (by first | decide | omega) ?_ | refine wK (by omega) (by omega) ?_); conv => whnf)
    rw [if_pos (by omega)]
    exact ret_of rfl rfl
  rw [if_neg (by omega)]
  repeat ((first | refine bF ?_ | refine bT ?_ | refine dK (by kernel_rfl) ?_ | refine cK rfl ?_ | refine cK (by first | decide | omega) ?_ | refine wK (by omega) (by omega) ?_); conv => whnf)
  refine callX_own (cloneW_ok d.ca (by omega)) ?_
  conv => whnf
  repeat ((first | refine bF ?_ | refine bT ?_ | refine dK (by kernel_rfl) ?_ | refine cK rfl ?_ | refine cK (by first | decide | omega) ?_ | refine wK (by omega) (by omega) ?_); conv => whnf)
  refine roomK_le 1000100 1000 (by show List.length _ + 1 ≤ 1000100; omega) (by decide) (by decide) (by decide) ?_
  conv => whnf
  repeat ((first | refine bF ?_ | refine bT ?_ | refine dK (by kernel_rfl) ?_ | refine cK rfl ?_ | refine cK (by first | decide | omega) ?_ | refine wK (by omega) (by omega) ?_); conv => whnf)
  refine ret_of rfl ?_
  rw [encDS, List.map_append]
  rfl
end Go.Lk

namespace Go.Lk
open Go Go.Proofs Go.RowKit

def nul16 : ByteArray := nulB 16
def freshL (k : Nat) : List (List D) := (List.range 35).map fun j => encB (if j < k then nul16 else ByteArray.empty)
theorem fresh_0 : List.replicate 35 (encB ByteArray.empty) = freshL 0 := by
  apply List.ext_getElem
  · simp [freshL]
  · intro j h1 h2
    rw [List.getElem_replicate]
    simp only [freshL, List.getElem_map, List.getElem_range]
    rw [if_neg (by omega)]
theorem fresh_set {i : Nat} (hi : i < 35) : (freshL i).set i (encB nul16) = freshL (i + 1) := by
  apply List.ext_getElem
  · simp [freshL]
  · intro j h1 h2
    rw [List.getElem_set]
    simp only [freshL, List.getElem_map, List.getElem_range]
    by_cases e : i = j
    · subst e
      rw [if_pos rfl, if_pos (by omega)]
    · rw [if_neg e]
      by_cases h : j < i
      · rw [if_pos h, if_pos (by omega)]
      · rw [if_neg h, if_neg (by omega)]
theorem fresh_35 : freshL 35 = (List.replicate 35 nul16).map encB := by
  apply List.ext_getElem
  · simp [freshL]
  · intro j h1 h2
    have : j < 35 := by simpa [freshL] using h1
    simp only [freshL, List.getElem_map, List.getElem_range, List.getElem_replicate]
    rw [if_pos this]
def newDS : DS := ⟨List.replicate 35 nul16, []⟩
theorem dnew_ok : ACall Tryz.prog 39 [.int .i64 35] (.tup [encDS newDS, .int .i64 0]) := by
  refine acall_of Tryz.func39 1 rfl (by kernel_rfl) ?_
  conv => whnf
  repeat ((first | refine bF ?_ | refine bT ?_ | refine dK (by kernel_rfl) ?_ | refine cK rfl ?_ | refine cK (by first | decide | omega) ?_ | refine wK (by omega) (by omega) ?_); conv => whnf)
  refine roomK_le 1000 1000 (by decide) (by decide) (by decide) (by decide) ?_
  conv => whnf
  repeat ((first | refine bF ?_ | refine bT ?_ | refine dK (by kernel_rfl) ?_ | refine cK rfl ?_ | refine cK (by first | decide | omega) ?_ | refine wK (by omega) (by omega) ?_); conv => whnf)
  rw [show List.replicate (35 : Int).toNat (T 9).zero = freshL 0 from fresh_0]
  refine aloop (ι := Nat) (fun k => [(2, .ptr 2 0 0), (4, .own 14), (16, .d (.int .i64 35)), (17, .d (.int .i64 k))]) (fun k => [(2, .box [.nil, .nil] false), (14, .row (freshL k) 1 false)])
    (fun k => k ≤ 35) (fun k => 35 - k) 0 (by omega) (le0 (le_of_cov ⟨rfl, rfl, by kernel_rfl, rfl, trivial⟩ ⟨rfl, rfl, trivial⟩ ⟨rfl, rfl, rfl, rfl⟩)) ?_
  intro k hk
  have hfl : (freshL k).length = 35 := by simp [freshL]
  conv => whnf
  refine bcase_p (fun h5 => ?_) (fun h5 => ?_) <;> conv => whnf
  · have hk2 : k < 35 := by omega
    repeat ((first | refine bF ?_ | refine bT ?_ | refine dK (by kernel_rfl) ?_ | refine cK rfl ?_ | refine cK (by first | decide | omega) ?_ | refine wK (by omega) (by omega) ?_); conv => whnf)
    refine callX_pure (repeat_ok zero1 16 (by decide) (by decide)) ?_
    conv => whnf
    repeat ((first | refine bF ?_ | refine bT ?_ | refine dK (by kernel_rfl) ?_ | refine cK rfl ?_ | refine cK (by first | decide | omega) ?_ | refine wK (by omega) (by omega) ?_); conv => whnf)
    refine idxK_nat (by omega) ?_
    conv => whnf
    refine getRow_of (x := encB (if k < k then nul16 else ByteArray.empty)) (by simp [freshL, hk2]) ?_
    conv => whnf
    repeat ((first | refine bF ?_ | refine bT ?_ | refine dK (by kernel_rfl) ?_ | refine cK rfl ?_ | refine cK (by first | decide | omega) ?_ | refine wK (by omega) (by omega) ?_); conv => whnf)
    refine ⟨k + 1, by omega, by omega, le0 (le_of_cov ⟨rfl, rfl, rfl, rfl, trivial⟩ ⟨rfl, ?_, trivial⟩ ⟨rfl, rfl, rfl, rfl⟩)⟩
    rw [← fresh_set hk2]
    rfl
  · repeat ((first | refine bF ?_ | refine bT ?_ | refine dK (by kernel_rfl) ?_ | refine cK rfl ?_ | refine cK (by first | decide | omega) ?_ | refine wK (by omega) (by omega) ?_); conv => whnf)
    have ek : k = 35 := by omega
    subst ek
    rw [fresh_35]
    exact ret_of rfl rfl
theorem rread_ok (d : DS) (n : Int) (hc : d.ca.length ≤ 1000) (h0 : 0 ≤ n) (h1 : n < d.sec.length) : ACall Tryz.prog 53 [encDS d, .int .i64 n] (.str (rdS d n)) := by
  refine acall_of Tryz.func53 2 rfl (by kernel_rfl) ?_
  conv => whnf
  have hm : (d.ca.map encW).length = d.ca.length := List.length_map ..
  have hs : (d.sec.map encB).length = d.sec.length := List.length_map ..
  repeat ((first | refine bF ?_ | refine bT ?_ | refine dK (by kernel_rfl) ?_ | refine cK rfl ?_ | refine cK (by first | decide | omega) ?_ | refine wK (by omega) (by omega) ?_); conv => whnf)
  refine aloop (ι := Nat) (fun k => [(1, .d (.int .i64 n)), (2, .ptr 2 0 0), (5, .d (.int .i64 ((k : Int) - 1)))]) (fun _ => [(2, .box [.d (.lst (d.sec.map encB)), .d (.lst (d.ca.map encW))] false)])
    (fun k => k ≤ d.ca.length ∧ ∀ j, k ≤ j → (h : j < d.ca.length) → d.ca[j].1 ≠ n) (fun k => k) d.ca.length ⟨by omega, by omega⟩ (le0 (le_of_cov ⟨rfl, rfl, by rw [← hm]; rfl, trivial⟩ ⟨rfl, trivial⟩ ⟨rfl, rfl, rfl, rfl⟩)) ?_
  rintro k ⟨hk, hR⟩
  conv => whnf
  refine bcase_p (fun h5 => ?_) (fun h5 => ?_) <;> conv => whnf
  · obtain ⟨j, rfl⟩ : ∃ j, k = j + 1 := ⟨k - 1, by omega⟩
    have hj : j < d.ca.length := by omega
    rw [show ((j + 1 : Nat) : Int) - 1 = (j : Int) by omega]
    repeat ((first | refine bF ?_ | refine bT ?_ | refine dK (by kernel_rfl) ?_ | refine cK rfl ?_ | refine cK (by first | decide | omega) ?_ | refine wK (by omega) (by omega) ?_); conv => whnf)
    refine idxK_nat (by omega) ?_
    conv => whnf
    refine getRow_of (x := encW d.ca[j]) (by simp [hj]) ?_
    conv => whnf
    repeat ((first | refine bF ?_ | refine bT ?_ | refine dK (by kernel_rfl) ?_ | refine cK rfl ?_ | refine cK (by first | decide | omega) ?_ | refine wK (by omega) (by omega) ?_); conv => whnf)
    refine bcase_p (fun h6 => ?_) (fun h6 => ?_) <;> conv => whnf
    · repeat ((first | refine bF ?_ | refine bT ?_ | refine dK (by kernel_rfl) ?_ | refine cK rfl ?_ | refine cK (by first | decide | omega) ?_ | refine wK (by omega) (by omega) ?_); conv => whnf)
      refine idxK_nat (by omega) ?_
      conv => whnf
      refine getRow_of (x := encW d.ca[j]) (by simp [hj]) ?_
      conv => whnf
      repeat ((first | refine bF ?_ | refine bT ?_ | refine dK (by kernel_rfl) ?_ | refine cK rfl ?_ | refine cK (by first | decide | omega) ?_ | refine wK (by omega) (by omega) ?_); conv => whnf)
      refine ret_of rfl (congrArg D.str ?_)
      rw [rdS, pick_at hj h6 (fun i hi hi2 => hR i (by omega) hi2)]
    · repeat ((first | refine bF ?_ | refine bT ?_ | refine dK (by kernel_rfl) ?_ | refine cK rfl ?_ | refine cK (by first | decide | omega) ?_ | refine wK (by omega) (by omega) ?_); conv => whnf)
      refine ⟨j, ⟨by omega, fun i hi hi2 => by
        by_cases e : i = j
        · subst e; exact h6
        · exact hR i (by omega) hi2⟩, by omega, le0 (le_of_cov ⟨rfl, rfl, rfl, trivial⟩ ⟨rfl, trivial⟩ ⟨rfl, rfl, rfl, rfl⟩)⟩
  · repeat ((first | refine bF ?_ | refine bT ?_ | refine dK (by kernel_rfl) ?_ | refine cK rfl ?_ | refine cK (by first | decide | omega) ?_ | refine wK (by omega) (by omega) ?_); conv => whnf)
    have hk0 : k = 0 := by omega
    subst hk0
    refine idxK_int (by omega) (by omega) ?_
    conv => whnf
    have hn : n.toNat < d.sec.length := by omega
    refine getRow_of (x := encB d.sec[n.toNat]) (by simp [hn]) ?_
    conv => whnf
    repeat ((first | refine bF ?_ | refine bT ?_ | refine dK (by kernel_rfl) ?_ | refine cK rfl ?_ | refine cK (by first | decide | omega) ?_ | refine wK (by omega) (by omega) ?_); conv => whnf)
    refine ret_of rfl (congrArg D.str ?_)
    rw [rdS, pick_none, List.getElem?_eq_getElem hn]
    · rfl
    · intro w hw
      obtain ⟨i, hi, rfl⟩ := List.mem_iff_getElem.1 hw
      exact hR i (by omega) hi
theorem wrS_eq {d : DS} (hR : DR d) : wrS d.sec d.ca = (List.range d.sec.length).map fun i : Nat => rdS d i := by
  apply List.ext_getElem
  · rw [wrS_len]; simp
  · intro i h1 h2
    have hi : i < d.sec.length := by rwa [wrS_len] at h1
    have := wrS_get d.ca d.sec i hi (fun w hw => by
      obtain ⟨j, hj, rfl⟩ := List.mem_iff_getElem.1 hw
      exact (okW_out.1 (hR.c j hj)).1)
    rw [List.getElem?_eq_getElem h1, Option.getD_some] at this
    rw [this, List.getElem_map, List.getElem_range, rdS]
    simp
theorem rsync_ok (d : DS) (hR : DR d) : ACall Tryz.prog 52 [encDS d] (encDS ⟨wrS d.sec d.ca, []⟩) := by
  have a1 := hR.s2; have a2 := hR.c1
  obtain ⟨f, hf⟩ : ∃ f : Nat → ByteArray, (fun i : Nat => rdS d i) = f := ⟨_, rfl⟩
  have hfi : ∀ i : Nat, rdS d i = f i := fun i => congrFun hf i
  rw [wrS_eq hR, hf]
  refine acall_of Tryz.func52 1 rfl (by kernel_rfl) ?_
  conv => whnf
  have hs : (d.sec.map encB).length = d.sec.length := List.length_map ..
  refine aloop (ι := Nat) (fun k => [(1, .ptr 1 0 0), (2, .ptr 2 0 0), (3, .ptr 3 0 0), (4, .d (.int .i64 k))]) (fun k => [(1, .box [.d (.lst (d.sec.map encB)), .d (.lst (d.ca.map encW))] false), (2, .box [.nil, .nil] false), (3, .box [.own 18, .nil] false), (18, .row (((List.range k).map f).map encB) 1 false)])
    (fun k => k ≤ d.sec.length) (fun k => d.sec.length - k) 0 (by omega) (le1 (.cell 3 0 18 1) ⟨⟨rfl, rfl⟩, rfl, rfl⟩ (le_of_cov ⟨rfl, rfl, rfl, rfl, trivial⟩ ⟨rfl, rfl, rfl, rfl, trivial⟩ ⟨rfl, rfl, rfl, rfl⟩)) ?_
  intro k hk
  conv => whnf
  repeat ((first | refine bF ?_ | refine bT ?_ | refine dK (by kernel_rfl) ?_ | refine cK rfl ?_ | refine cK (by first | decide | omega) ?_ | refine wK (by omega) (by omega) ?_); conv => whnf)
  refine bcase_p (fun h5 => ?_) (fun h5 => ?_) <;> conv => whnf
  · have hk2 : k < d.sec.length := by omega
    repeat ((first | refine bF ?_ | refine bT ?_ | refine dK (by kernel_rfl) ?_ | refine cK rfl ?_ | refine cK (by first | decide | omega) ?_ | refine wK (by omega) (by omega) ?_); conv => whnf)
    refine callX_pure (rread_ok d k (by omega) (by omega) (by omega)) ?_
    conv => whnf
    repeat ((first | refine bF ?_ | refine bT ?_ | refine dK (by kernel_rfl) ?_ | refine cK rfl ?_ | refine cK (by first | decide | omega) ?_ | refine wK (by omega) (by omega) ?_); conv => whnf)
    rw [hfi]
    refine roomK_le 1000100 1000 (by show List.length _ + 1 ≤ 1000100; rw [List.length_map, List.length_map, List.length_range]; omega) (by decide) (by decide) (by decide) ?_
    conv => whnf
    repeat ((first | refine bF ?_ | refine bT ?_ | refine dK (by kernel_rfl) ?_ | refine cK rfl ?_ | refine cK (by first | decide | omega) ?_ | refine wK (by omega) (by omega) ?_); conv => whnf)
    have er : ((List.range k).map f).map encB ++ [encB (f k)] = ((List.range (k + 1)).map f).map encB := by rw [List.range_succ, List.map_append, List.map_append]; rfl
    refine ⟨k + 1, by omega, by omega, le0 (le_of_cov ⟨?_, ?_, ?_, ?_, trivial⟩ ⟨?_, ?_, ?_, ?_, trivial⟩ ⟨?_, ?_, ?_, ?_⟩)⟩
    rotate_left 7
    rw [← er]
    all_goals kernel_rfl
  · repeat ((first | refine bF ?_ | refine bT ?_ | refine dK (by kernel_rfl) ?_ | refine cK rfl ?_ | refine cK (by first | decide | omega) ?_ | refine wK (by omega) (by omega) ?_); conv => whnf)
    have ek : k = d.sec.length := by omega
    subst ek
    exact ret_of rfl rfl
theorem rsameD_ok (a b : DS) (ha : a.sec.length ≤ 1000) (hb : a.ca.length ≤ 1000) : ACall Tryz.prog 23 [encDS a, encDS b] (.bool (decide (a.sec = b.sec ∧ a.ca = b.ca))) := by
  refine acall_of Tryz.func23 2 rfl (by kernel_rfl) ?_
  conv => whnf
  have m1 : (a.sec.map encB).length = a.sec.length := List.length_map ..
  have m2 : (a.ca.map encW).length = a.ca.length := List.length_map ..
  have m3 : (b.sec.map encB).length = b.sec.length := List.length_map ..
  have m4 : (b.ca.map encW).length = b.ca.length := List.length_map ..
  repeat ((first | refine bF ?_ | refine bT ?_ | refine dK (by kernel_rfl) ?_ | refine cK rfl ?_ | refine cK (by first | decide | omega) ?_ | refine wK (by omega) (by omega) ?_); conv => whnf)
  refine bcase_n (fun h1 => ?_) (fun h1 => ?_) <;> conv => whnf
  · repeat ((first | refine bF ?_ | refine bT ?_ | refine dK (by kernel_rfl) ?_ | refine cK rfl ?_ | refine cK (by first | decide | omega) ?_ | refine wK (by omega) (by omega) ?_); conv => whnf)
    exact ret_of rfl (congrArg D.bool (by symm; rw [decide_eq_false_iff_not]; intro e; exact h1 (by rw [e.1])))
  repeat ((first | refine bF ?_ | refine bT ?_ | refine dK (by kernel_rfl) ?_ | refine cK rfl ?_ | refine cK (by first | decide | omega) ?_ | refine wK (by omega) (by omega) ?_); conv => whnf)
  refine bcase_n (fun h2 => ?_) (fun h2 => ?_) <;> conv => whnf
  · repeat ((first | refine bF ?_ | refine bT ?_ | refine dK (by kernel_rfl) ?_ | refine cK rfl ?_ | refine cK (by first | decide | omega) ?_ | refine wK (by omega) (by omega) ?_); conv => whnf)
    exact ret_of rfl (congrArg D.bool (by symm; rw [decide_eq_false_iff_not]; intro e; exact h2 (by rw [e.2])))
  repeat ((first | refine bF ?_ | refine bT ?_ | refine dK (by kernel_rfl) ?_ | refine cK rfl ?_ | refine cK (by first | decide | omega) ?_ | refine wK (by omega) (by omega) ?_); conv => whnf)
  refine aloop (ι := Nat) (fun k => [(2, .ptr 2 0 0), (3, .ptr 3 0 0), (5, .d (.int .i64 k))]) (fun _ => [(2, .box [.d (.lst (a.sec.map encB)), .d (.lst (a.ca.map encW))] false), (3, .box [.d (.lst (b.sec.map encB)), .d (.lst (b.ca.map encW))] false)])
    (fun k => k ≤ a.sec.length ∧ ∀ i, i < k → (h : i < a.sec.length) → (h2 : i < b.sec.length) → a.sec[i] = b.sec[i]) (fun k => a.sec.length - k) 0 ⟨by omega, by omega⟩ (le0 (le_of_cov ⟨rfl, rfl, rfl, trivial⟩ ⟨rfl, rfl, trivial⟩ ⟨rfl, rfl, rfl, rfl⟩)) ?_
  rintro k ⟨hk, hR⟩
  conv => whnf
  repeat ((first | refine bF ?_ | refine bT ?_ | refine dK (by kernel_rfl) ?_ | refine cK rfl ?_ | refine cK (by first | decide | omega) ?_ | refine wK (by omega) (by omega) ?_); conv => whnf)
  refine bcase_p (fun h5 => ?_) (fun h5 => ?_) <;> conv => whnf
  · have hk2 : k < a.sec.length := by omega
    have hk3 : k < b.sec.length := by omega
    repeat ((first | refine bF ?_ | refine bT ?_ | refine dK (by kernel_rfl) ?_ | refine cK rfl ?_ | refine cK (by first | decide | omega) ?_ | refine wK (by omega) (by omega) ?_); conv => whnf)
    refine idxK_nat (by omega) ?_
    conv => whnf
    refine getRow_of (x := encB a.sec[k]) (by simp [hk2]) ?_
    conv => whnf
    repeat ((first | refine bF ?_ | refine bT ?_ | refine dK (by kernel_rfl) ?_ | refine cK rfl ?_ | refine cK (by first | decide | omega) ?_ | refine wK (by omega) (by omega) ?_); conv => whnf)
    refine idxK_nat (by omega) ?_
    conv => whnf
    refine getRow_of (x := encB b.sec[k]) (by simp [hk3]) ?_
    conv => whnf
    repeat ((first | refine bF ?_ | refine bT ?_ | refine dK (by kernel_rfl) ?_ | refine cK rfl ?_ | refine cK (by first | decide | omega) ?_ | refine wK (by omega) (by omega) ?_); conv => whnf)
    refine bcase_n (fun h6 => ?_) (fun h6 => ?_) <;> conv => whnf
    · repeat ((first | refine bF ?_ | refine bT ?_ | refine dK (by kernel_rfl) ?_ | refine cK rfl ?_ | refine cK (by first | decide | omega) ?_ | refine wK (by omega) (by omega) ?_); conv => whnf)
      exact ret_of rfl (congrArg D.bool (by symm; rw [decide_eq_false_iff_not]; intro e; exact h6 (by simp only [e.1])))
    repeat ((first | refine bF ?_ | refine bT ?_ | refine dK (by kernel_rfl) ?_ | refine cK rfl ?_ | refine cK (by first | decide | omega) ?_ | refine wK (by omega) (by omega) ?_); conv => whnf)
    exact ⟨k + 1, ⟨by omega, fun i hi h h2 => by
      by_cases e : i = k
      · subst e; exact h6
      · exact hR i (by omega) h h2⟩, by omega, (le0 (le_of_cov ⟨rfl, rfl, rfl, trivial⟩ ⟨rfl, rfl, trivial⟩ ⟨rfl, rfl, rfl, rfl⟩))⟩
  · repeat ((first | refine bF ?_ | refine bT ?_ | refine dK (by kernel_rfl) ?_ | refine cK rfl ?_ | refine cK (by first | decide | omega) ?_ | refine wK (by omega) (by omega) ?_); conv => whnf)
    refine aloop (ι := Nat) (fun k => [(2, .ptr 2 0 0), (3, .ptr 3 0 0), (6, .d (.int .i64 k))]) (fun _ => [(2, .box [.d (.lst (a.sec.map encB)), .d (.lst (a.ca.map encW))] false), (3, .box [.d (.lst (b.sec.map encB)), .d (.lst (b.ca.map encW))] false)])
      (fun k => k ≤ a.ca.length ∧ ∀ i, i < k → (h : i < a.ca.length) → (h2 : i < b.ca.length) → a.ca[i] = b.ca[i]) (fun k => a.ca.length - k) 0 ⟨by omega, by omega⟩ (le0 (le_of_cov ⟨rfl, rfl, rfl, trivial⟩ ⟨rfl, rfl, trivial⟩ ⟨rfl, rfl, rfl, rfl⟩)) ?_
    rintro j ⟨hj, hS⟩
    conv => whnf
    repeat ((first | refine bF ?_ | refine bT ?_ | refine dK (by kernel_rfl) ?_ | refine cK rfl ?_ | refine cK (by first | decide | omega) ?_ | refine wK (by omega) (by omega) ?_); conv => whnf)
    refine bcase_p (fun h7 => ?_) (fun h7 => ?_) <;> conv => whnf
    · have hj2 : j < a.ca.length := by omega
      have hj3 : j < b.ca.length := by omega
      repeat ((first | refine bF ?_ | refine bT ?_ | refine dK (by kernel_rfl) ?_ | refine cK rfl ?_ | refine cK (by first | decide | omega) ?_ | refine wK (by omega) (by omega) ?_); conv => whnf)
      refine idxK_nat (by omega) ?_
      conv => whnf
      refine getRow_of (x := encW a.ca[j]) (by simp [hj2]) ?_
      conv => whnf
      repeat ((first | refine bF ?_ | refine bT ?_ | refine dK (by kernel_rfl) ?_ | refine cK rfl ?_ | refine cK (by first | decide | omega) ?_ | refine wK (by omega) (by omega) ?_); conv => whnf)
      refine idxK_nat (by omega) ?_
      conv => whnf
      refine getRow_of (x := encW b.ca[j]) (by simp [hj3]) ?_
      conv => whnf
      repeat ((first | refine bF ?_ | refine bT ?_ | refine dK (by kernel_rfl) ?_ | refine cK rfl ?_ | refine cK (by first | decide | omega) ?_ | refine wK (by omega) (by omega) ?_); conv => whnf)
      refine bcase_intro (fun h8 => ?_) (fun h8 => ?_) <;> conv => whnf
      · repeat ((first | refine bF ?_ | refine bT ?_ | refine dK (by kernel_rfl) ?_ | refine cK rfl ?_ | refine cK (by first | decide | omega) ?_ | refine wK (by omega) (by omega) ?_); conv => whnf)
        exact ret_of rfl (congrArg D.bool (by symm; rw [decide_eq_false_iff_not]; intro e; simp only [e.2] at h8; simp at h8))
      repeat ((first | refine bF ?_ | refine bT ?_ | refine dK (by kernel_rfl) ?_ | refine cK rfl ?_ | refine cK (by first | decide | omega) ?_ | refine wK (by omega) (by omega) ?_); conv => whnf)
      have e8 : a.ca[j] = b.ca[j] := by simp at h8; exact Prod.ext h8.1 h8.2
      exact ⟨j + 1, ⟨by omega, fun i hi h h2 => by
        by_cases e : i = j
        · subst e; exact e8
        · exact hS i (by omega) h h2⟩, by omega, (le0 (le_of_cov ⟨rfl, rfl, rfl, trivial⟩ ⟨rfl, rfl, trivial⟩ ⟨rfl, rfl, rfl, rfl⟩))⟩
    · repeat ((first | refine bF ?_ | refine bT ?_ | refine dK (by kernel_rfl) ?_ | refine cK rfl ?_ | refine cK (by first | decide | omega) ?_ | refine wK (by omega) (by omega) ?_); conv => whnf)
      refine ret_of rfl (congrArg D.bool ?_)
      symm; rw [decide_eq_true_eq]
      exact ⟨List.ext_getElem (by omega) fun i h1 h2 => hR i (by omega) h1 h2, List.ext_getElem (by omega) fun i h1 h2 => hS i (by omega) h1 h2⟩
end Go.Lk

namespace Go.Proofs
open Go.RowKit Go.Shelf
attribute [local go_sem] Oper.semAt_some

/-- what has come when k rounds are over -/
def Tryz.upto {α : Type} (f : Nat → α) (k : Nat) : List α := (List.range k).map f
theorem Tryz.upto_succ {α : Type} (f : Nat → α) (k : Nat) : Tryz.upto f (k + 1) = Tryz.upto f k ++ [f k] := by simp [Tryz.upto, List.range_succ]
theorem Tryz.upto_length {α : Type} (f : Nat → α) (k : Nat) : (Tryz.upto f k).length = k := by simp [Tryz.upto]
abbrev Tryz.W := Int × ByteArray
/-- from behind -/
def Tryz.from_ (ws : Nat → Tryz.W) (len k : Nat) : Nat × Tryz.W := (len - 1 - k, ws (len - 1 - k))

set_option maxRecDepth 100000 in
set_option maxHeartbeats 2000000 in
theorem Tryz.back1_in (F : Fence) (n : Nat) (h156 : F.fn 156) (hro : F.round = none) (hn : 1 ≤ n) (l Bs n₀ b off len cap : Nat) (a : Option Addr) (ha : 0 < len → a = some ⟨b, off, none⟩) (ws : Nat → Tryz.W) (hreach : len * 24 ≤ 140737488351232) (hb : 0 < len → b < n₀) (hBn : Bs < n₀) (J Jx : List (Nat × Tryz.W) → World → Prop)
    (hY : ∀ pre x W, J pre W → pre.length < len → YieldAt F (n - 1) Tryz.prog l #[.int .i64 (x.1 : Int), .agg #[.int .i64 x.2.1, .string x.2.2]] W fun e W' =>
      (e = .returned (.bool true) ∧ J (pre ++ [x]) W' ∧ Below n₀ W W') ∨ (e = .returned (.bool false) ∧ Jx (pre ++ [x]) W'))
    (W : World) (hBs : W.cell? ⟨Bs, 0, none⟩ = some (.slice a len cap)) (hc : ∀ j, j < len → W.cell? ⟨b, off + j * 2, none⟩ = some (.int .i64 (ws j).1) ∧ W.cell? ⟨b, off + j * 2 + 1, none⟩ = some (.string (ws j).2)) (h0 : J [] W) :
    CallsIn F n Tryz.prog 156 #[.func (.yield l) #[] #[], .pointer (some ⟨Bs, 0, none⟩)] W fun e W' => (∃ v, e = .returned v) ∧
      ((∃ ys, ys = Tryz.upto (Tryz.from_ ws len) len ∧ J ys W') ∨ (∃ pre, (∃ k, k ≤ len ∧ pre = Tryz.upto (Tryz.from_ ws len) k) ∧ Jx pre W')) := by
  refine callsIn_of_wp Tryz.func156 rfl h156 ?_ hro
  simp only [Tryz.ntmps156, List.size_toArray, List.length_cons, List.length_nil, Nat.reduceAdd, Nat.reduceSub, Array.replicate_succ, Array.replicate_zero, List.push_toArray, List.append_toArray, List.nil_append, List.cons_append]
  gi_wp2
  gi_loopw [3] (fun i wr => ∃ k : Nat, k ≤ len ∧ i = .int .i64 ((len : Int) - 1 - k) ∧ J (Tryz.upto (Tryz.from_ ws len) k) wr ∧ Below n₀ W wr)
    (fun i _ => ((intOf i) + 1).toNat)
  case atStart =>
    refine ⟨0, Nat.zero_le _, ?_, h0, Below.refl _ _⟩
    simp
  case round =>
    obtain ⟨k, hk, rfl, hJs, hnx⟩ := hrel
    have hBx : wr.cell? ⟨Bs, 0, none⟩ = some (.slice a len cap) := (hnx.cell (p := ⟨Bs, 0, none⟩) hBn).trans hBs
    by_cases hlt : k < len
    · have hcx := hc (len - 1 - k) (by omega)
      have hc1 : wr.cell? ⟨b, off + (len - 1 - k) * 2, none⟩ = some (.int .i64 (ws (len - 1 - k)).1) := (hnx.cell (p := ⟨b, off + (len - 1 - k) * 2, none⟩) (hb (by omega))).trans hcx.1
      have hc2 : wr.cell? ⟨b, off + (len - 1 - k) * 2 + 1, none⟩ = some (.string (ws (len - 1 - k)).2) := (hnx.cell (p := ⟨b, off + (len - 1 - k) * 2 + 1, none⟩) (hb (by omega))).trans hcx.2
      obtain ⟨fn, tmps, assign, body, hy, hR⟩ := hY _ (Tryz.from_ ws len k) wr hJs (by rw [Tryz.upto_length]; exact hlt)
      dsimp only [Tryz.from_] at hy
      obtain ⟨j, hj⟩ : ∃ j, len - 1 - k = j := ⟨_, rfl⟩
      have ej : (len : Int) - 1 - k = (j : Int) := by omega
      rw [hj] at hc1 hc2 hy
      rw [ej]
      have ha' := ha (by omega)
      subst ha'
      gi_wp2
      refine hR.mono ?_
      rintro e W3 (⟨rfl, hJ3, hk3⟩ | ⟨rfl, hJx3⟩)
      · gi_wp2
        go_roundw
        case rel => exact ⟨k + 1, by omega, by simp; omega, by rw [Tryz.upto_succ]; exact hJ3, hnx.trans hk3⟩
        case measure => simp [intOf]
      · gi_wp2
        refine bodyPost_ret (results_none rfl _ _ _) rfl ?_
        exact ⟨⟨_, rfl⟩, .inr ⟨_, ⟨k + 1, by omega, (Tryz.upto_succ _ _).symm⟩, hJx3⟩⟩
    · obtain rfl : k = len := by omega
      gi_wp2
      go_end0
      exact ⟨⟨_, rfl⟩, .inl ⟨_, rfl, hJs⟩⟩
set_option maxHeartbeats 1000000 in
/-- slices.Backward(s): the slice value is boxed; the function value captures the box -/
theorem Tryz.back_in (F : Fence) (n : Nat) (h134 : F.fn 134) (hro : F.round = none) (a : Option Addr) (len cap : Nat) (w : World) :
    CallsIn F n Tryz.prog 134 #[.slice a len cap] w fun e w' => e = .returned (.func (.func 156) #[] #[.pointer (some ⟨w.heap.size, 0, none⟩)]) ∧ w' = w.alloc (.cells #[.slice a len cap] 36) := by
  refine callsIn_of_wp Tryz.func134 rfl h134 ?_ hro
  simp only [Tryz.ntmps134, List.size_toArray, List.length_cons, List.length_nil, Nat.reduceAdd, Nat.reduceSub, Array.replicate_succ, Array.replicate_zero, List.push_toArray, List.append_toArray, List.nil_append, List.cons_append]
  gi_wp2
  go_ret
  exact ⟨rfl, rfl⟩
/-- the slice value holds these writes, in a block below n₀; or there are none -/
structure Tryz.Held (n₀ : Nat) (W : World) (a : Option Addr) (len b off : Nat) (ws : Nat → Tryz.W) : Prop where
  at_ : 0 < len → a = some ⟨b, off, none⟩
  lt : 0 < len → b < n₀
  cells : ∀ j, j < len → W.cell? ⟨b, off + j * 2, none⟩ = some (.int .i64 (ws j).1) ∧ W.cell? ⟨b, off + j * 2 + 1, none⟩ = some (.string (ws j).2)
theorem Tryz.Held.below {n₀ : Nat} {A B : World} (h : Below n₀ A B) {a : Option Addr} {len b off : Nat} {ws : Nat → Tryz.W} (q : Tryz.Held n₀ A a len b off ws) : Tryz.Held n₀ B a len b off ws :=
  ⟨q.at_, q.lt, fun j hj => ⟨(h.cell (p := ⟨b, off + j * 2, none⟩) (q.lt (by omega))).trans (q.cells j hj).1, (h.cell (p := ⟨b, off + j * 2 + 1, none⟩) (q.lt (by omega))).trans (q.cells j hj).2⟩⟩
theorem Tryz.back_stops (F : Fence) (n : Nat) (h156 : F.fn 156) (hro : F.round = none) (hn : 1 ≤ n) (Bs n₀ len cap b off : Nat) (a : Option Addr) (ws : Nat → Tryz.W) (hreach : len * 24 ≤ 140737488351232) (w : World) (hBs : Bs < n₀) (hn₀ : n₀ ≤ w.heap.size)
    (hc : w.cell? ⟨Bs, 0, none⟩ = some (.slice a len cap)) (hI : Tryz.Held n₀ w a len b off ws) :
    SeqStopsK F n Tryz.prog 156 #[.pointer (some ⟨Bs, 0, none⟩)] (fun x : Nat × Tryz.W => #[Value.int .i64 (x.1 : Int), Value.agg #[.int .i64 x.2.1, .string x.2.2]]) (Below n₀) (fun ys => ys = Tryz.upto (Tryz.from_ ws len) len)
      (fun pre => ∃ k, k ≤ len ∧ pre = Tryz.upto (Tryz.from_ ws len) k) len w := fun l J Jx W hW _ _ hY h0 => by
  have hc' := (hW.cell (p := ⟨Bs, 0, none⟩) (Nat.lt_of_lt_of_le hBs hn₀)).trans hc
  have hI' := hI.below (hW.mono hn₀)
  exact Tryz.back1_in F n h156 hro hn l Bs n₀ b off len cap a hI'.at_ ws hreach hI'.lt hBs J Jx hY W hc' hI'.cells h0
end Go.Proofs

namespace Go.Proofs
open Go.RowKit Go.Shelf
attribute [local go_sem] Oper.semAt_some

theorem Tryz.keptC {A B : World} {row : Option Nat} {k : Nat} {c : Array Value} {t : TypeId} (h : A.heap[k]? = some (.cells c t)) (hg : A.grownBy B row) (hr : ∀ r, row = some r → ∃ o : Obj, A.heap[r]? = some o ∧ o.isCells = false) : B.heap[k]? = some (.cells c t) :=
  (hg.block k (Array.getElem?_eq_some_iff.1 h).1 (fun e => by
    obtain ⟨o, h1, h2⟩ := hr k e.symm
    rw [h] at h1
    cases h1
    cases h2)).trans h
def Tryz.DPost (sn len : Nat) (secs : Nat → ByteArray) (ws : Nat → Tryz.W) (m : Int) (right : Bool) (w : World) (e : Ending) (W' : World) : Prop := Below w.heap.size w W' ∧
      ((¬ (right = true ∧ 0 ≤ m ∧ m < sn) ∧ e = .returned (.tuple #[.string ByteArray.empty, .int .i64 1])) ∨
       (right = true ∧ 0 ≤ m ∧ m < sn ∧ ((∃ k, k < len ∧ (ws k).1 = m ∧ (∀ j, k < j → j < len → (ws j).1 ≠ m) ∧ e = .returned (.tuple #[.string (ws k).2, .int .i64 0])) ∨ ((∀ j, j < len → (ws j).1 ≠ m) ∧ e = .returned (.tuple #[.string (secs m.toNat), .int .i64 0])))) )
set_option maxRecDepth 100000 in
set_option maxHeartbeats 4000000 in
theorem Tryz.dread_in (sa : Option Addr) (sn scap : Nat) (a : Option Addr) (len cap : Nat) (sb soff b off : Nat) (secs : Nat → ByteArray) (ws : Nat → Tryz.W) (m : Int) (right : Bool) (w : World)
    (h105 : ∀ W : World, Below w.heap.size w W → Calls Tryz.prog 105 #[.agg #[.slice sa sn scap, .slice a len cap]] W fun e W' => e = .returned (.bool right) ∧ Below W.heap.size W W')
    (hlen : right = true → len ≤ 200 ∧ sn ≤ 64) (hS : 0 < sn → sa = some ⟨sb, soff, none⟩) (hSb : 0 < sn → sb < w.heap.size) (hSc : ∀ j, j < sn → w.cell? ⟨sb, soff + j, none⟩ = some (.string (secs j)))
    (hH : Tryz.Held w.heap.size w a len b off ws) :
    Calls Tryz.prog 92 #[.agg #[.slice sa sn scap, .slice a len cap], .int .i64 m] w (Tryz.DPost sn len secs ws m right w) := by
  refine (callsIn_wide (n := 3)).1 ?_
  refine callsIn_of_wp_marks Tryz.func92 rfl trivial ?_ rfl
  simp only [Tryz.ntmps92, List.size_toArray, List.length_cons, List.length_nil, Nat.reduceAdd, Nat.reduceSub, Array.replicate_succ, Array.replicate_zero, List.push_toArray, List.append_toArray, List.nil_append, List.cons_append]
  gi_wp2
  have hB0 : Below w.heap.size w ((((w.alloc (.cells #[.slice sa sn scap, .slice a len cap] 38)).alloc (.cells #[.int .i64 m] 3)).alloc (.cells #[.string { data := #[] }] 9)).alloc (.cells #[.int .i64 0] 50)) :=
    ((((Below.refl _ w).alloc (Nat.le_refl _) _).alloc (by simp) _).alloc (by simp; omega) _).alloc (by simp; omega) _
  have x2 : ((((w.alloc (.cells #[.slice sa sn scap, .slice a len cap] 38)).alloc (.cells #[.int .i64 m] 3)).alloc (.cells #[.string { data := #[] }] 9)).alloc (.cells #[.int .i64 0] 50)).heap[w.heap.size]? = some (.cells #[.slice sa sn scap, .slice a len cap] 38) := by
    exact (Below.heap_alloc _ _ _ (by simp; omega)).trans ((Below.heap_alloc _ _ _ (by simp; omega)).trans ((Below.heap_alloc _ _ _ (by simp)).trans (World.alloc_heap_new w _)))
  have x3 : Boxed ((((w.alloc (.cells #[.slice sa sn scap, .slice a len cap] 38)).alloc (.cells #[.int .i64 m] 3)).alloc (.cells #[.string { data := #[] }] 9)).alloc (.cells #[.int .i64 0] 50)) (w.heap.size + 1) 3 (.int .i64 m) := by
    have := ((Boxed.new (w.alloc (.cells #[.slice sa sn scap, .slice a len cap] 38)) 3 (.int .i64 m)).alloc (.cells #[.string { data := #[] }] 9)).alloc (.cells #[.int .i64 0] 50)
    rwa [World.size_alloc] at this
  have x4 : Boxed ((((w.alloc (.cells #[.slice sa sn scap, .slice a len cap] 38)).alloc (.cells #[.int .i64 m] 3)).alloc (.cells #[.string { data := #[] }] 9)).alloc (.cells #[.int .i64 0] 50)) (w.heap.size + 1 + 1) 9 (.string { data := #[] }) := by
    have := (Boxed.new ((w.alloc (.cells #[.slice sa sn scap, .slice a len cap] 38)).alloc (.cells #[.int .i64 m] 3)) 9 (.string { data := #[] })).alloc (.cells #[.int .i64 0] 50)
    rwa [World.size_alloc, World.size_alloc] at this
  have x5 : Boxed ((((w.alloc (.cells #[.slice sa sn scap, .slice a len cap] 38)).alloc (.cells #[.int .i64 m] 3)).alloc (.cells #[.string { data := #[] }] 9)).alloc (.cells #[.int .i64 0] 50)) (w.heap.size + 1 + 1 + 1) 50 (.int .i64 0) := by
    have := (Boxed.new (((w.alloc (.cells #[.slice sa sn scap, .slice a len cap] 38)).alloc (.cells #[.int .i64 m] 3)).alloc (.cells #[.string { data := #[] }] 9)) 50 (.int .i64 0))
    rwa [World.size_alloc, World.size_alloc, World.size_alloc] at this
  have hz0 : ((((w.alloc (.cells #[.slice sa sn scap, .slice a len cap] 38)).alloc (.cells #[.int .i64 m] 3)).alloc (.cells #[.string { data := #[] }] 9)).alloc (.cells #[.int .i64 0] 50)).heap.size = w.heap.size + 4 := by simp
  refine ⟨trivial, ?_⟩
  refine (callsIn_wide.2 (h105 _ hB0)).mono ?_
  generalize ((((w.alloc (.cells #[.slice sa sn scap, .slice a len cap] 38)).alloc (.cells #[.int .i64 m] 3)).alloc (.cells #[.string { data := #[] }] 9)).alloc (.cells #[.int .i64 0] 50)) = W0 at hB0 x2 x3 x4 x5 hz0
  rintro e W1 ⟨rfl, hb1⟩
  have hB1 : Below w.heap.size w W1 := hB0.trans (hb1.mono (by omega))
  have y2 : W1.heap[w.heap.size]? = some (.cells #[.slice sa sn scap, .slice a len cap] 38) := (hb1.block _ (by omega)).trans x2
  have y3 : Boxed W1 (w.heap.size + 1) 3 (.int .i64 m) := (hb1.block _ (by omega)).trans x3
  have y4 : Boxed W1 (w.heap.size + 1 + 1) 9 (.string { data := #[] }) := (hb1.block _ (by omega)).trans x4
  have y5 : Boxed W1 (w.heap.size + 1 + 1 + 1) 50 (.int .i64 0) := (hb1.block _ (by omega)).trans x5
  have hz1 : w.heap.size + 4 ≤ W1.heap.size := by have := hb1.size; omega
  have c20 : W1.cell? ⟨w.heap.size, 0, none⟩ = some (.slice sa sn scap) := by simp [World.cell?, y2]
  have c21 : W1.cell? ⟨w.heap.size, 1, none⟩ = some (.slice a len cap) := by simp [World.cell?, y2]
  have c3 := y3.cell
  have c4 := y4.cell
  have c5 := y5.cell
  have f4 := y4.frozen
  have f5 := y5.frozen
  clear x2 x3 x4 x5
  dsimp only
  have fin : ∀ (tmps : Array Value) (W : World) (s : ByteArray) (k : Int), tmps[4]?.getD undef = .pointer (some ⟨w.heap.size + 1 + 1, 0, none⟩) → tmps[5]?.getD undef = .pointer (some ⟨w.heap.size + 1 + 1 + 1, 0, none⟩) →
      W.cell? ⟨w.heap.size + 1 + 1, 0, none⟩ = some (.string s) → W.cell? ⟨w.heap.size + 1 + 1 + 1, 0, none⟩ = some (.int .i64 k) → (results Tryz.f92 tmps).run Tryz.prog W = .ok (.tuple #[.string s, .int .i64 k]) W := by
    intro tmps W s k h4 h5 q4 q5
    simp [results, Tryz.f92, go_sem, h4, h5, q4, q5]
  have early : ¬ (right = true ∧ 0 ≤ m ∧ m < sn) → ∀ tmps : Array Value, tmps[4]?.getD undef = .pointer (some ⟨w.heap.size + 1 + 1, 0, none⟩) → tmps[5]?.getD undef = .pointer (some ⟨w.heap.size + 1 + 1 + 1, 0, none⟩) →
      bodyPostM Fence.wide 3 Tryz.prog Tryz.f92 (Tryz.DPost sn len secs ws m right w) Exit.ret { tmps := tmps, defers := [] } ((W1.setCell ⟨w.heap.size + 1 + 1, 0, none⟩ (.string { data := #[] })).setCell ⟨w.heap.size + 1 + 1 + 1, 0, none⟩ (.int .i64 1)) := by
    intro hn tmps h4 h5
    have z4 : Boxed ((W1.setCell ⟨w.heap.size + 1 + 1, 0, none⟩ (.string { data := #[] })).setCell ⟨w.heap.size + 1 + 1 + 1, 0, none⟩ (.int .i64 1)) (w.heap.size + 1 + 1) 9 (.string { data := #[] }) := (y4.set _).other (by omega) _
    have z5 : Boxed ((W1.setCell ⟨w.heap.size + 1 + 1, 0, none⟩ (.string { data := #[] })).setCell ⟨w.heap.size + 1 + 1 + 1, 0, none⟩ (.int .i64 1)) (w.heap.size + 1 + 1 + 1) 50 (.int .i64 1) := (y5.other (by omega) _).set _
    exact ⟨_, fin tmps _ _ _ h4 h5 z4.cell z5.cell, (hB1.setCell (by simp; omega) _).setCell (by simp; omega) _, .inl ⟨hn, rfl⟩⟩
  cases right with
  | false =>
    gi_wp2
    exact early (by simp) _ rfl rfl
  | true =>
    have hlen := hlen rfl
    by_cases hm : 0 ≤ m ∧ m < sn
    · obtain ⟨hm0, hm1⟩ := hm
      obtain ⟨mj, rfl⟩ : ∃ j : Nat, m = (j : Int) := ⟨m.toNat, by omega⟩
      have hd0 : decide ((mj : Int) < 0) = false := by simp
      have hd1 : decide ((sn : Int) ≤ (mj : Int)) = false := by simp; omega
      gi_wp2
      all_goals try omega
      refine ⟨trivial, ?_⟩
      refine (Tryz.back_in Fence.wide 2 trivial rfl _ _ _ _).mono ?_
      rintro e w' ⟨rfl, rfl⟩
      gi_wp2
      have hB2 : Below w.heap.size w (W1.alloc (.cells #[.slice a len cap] 36)) := hB1.alloc (by omega) _
      have hz2 : (W1.alloc (.cells #[.slice a len cap] 36)).heap.size = W1.heap.size + 1 := by simp
      have bS := Boxed.new W1 36 (.slice a len cap)
      have z2 : (W1.alloc (.cells #[.slice a len cap] 36)).heap[w.heap.size]? = some (.cells #[.slice sa sn scap, .slice a len cap] 38) := (Below.heap_alloc _ _ _ (by omega)).trans y2
      have z3 := y3.alloc (.cells #[.slice a len cap] 36)
      have z4 := y4.alloc (.cells #[.slice a len cap] 36)
      have z5 := y5.alloc (.cells #[.slice a len cap] 36)
      generalize (W1.alloc (.cells #[.slice a len cap] 36)) = W2 at hB2 hz2 bS z2 z3 z4 z5
      have hH2 : Tryz.Held W2.heap.size W2 a len b off ws := ⟨hH.at_, fun h => by have := hH.lt h; omega, (hH.below hB2).cells⟩
      refine wpIn_rangeFunc_ownH (w := W2) rfl (by decide) (gf := 156) (lb := #[.pointer (some ⟨W1.heap.size, 0, none⟩)]) rfl trivial (enters_of Tryz.func156 (by kernel_rfl) rfl)
        (Tryz.back_stops Fence.wide 2 trivial rfl (by decide) W1.heap.size W2.heap.size len cap b off a ws (by omega) W2 (by omega) (Nat.le_refl _) bS.cell hH2) belowK_t (belowK_b (Nat.le_refl _)) (Below.refl _ _) (fun _ => rfl)
        (fun pre W => ((∀ p ∈ pre, p.2.1 ≠ (mj : Int)) ∧ W.heap[w.heap.size]? = some (.cells #[.slice sa sn scap, .slice a len cap] 38) ∧ Boxed W (w.heap.size + 1) 3 (.int .i64 (mj : Int)) ∧ Boxed W (w.heap.size + 1 + 1) 9 (.string { data := #[] }) ∧ Boxed W (w.heap.size + 1 + 1 + 1) 50 (.int .i64 0)) ∧ Below W2.heap.size W2 W)
        (fun c pre W => (c = .ret ∧ ∃ ini last, pre = ini ++ [last] ∧ (∀ p ∈ ini, p.2.1 ≠ (mj : Int)) ∧ last.2.1 = (mj : Int) ∧ Boxed W (w.heap.size + 1 + 1) 9 (.string last.2.2) ∧ Boxed W (w.heap.size + 1 + 1 + 1) 50 (.int .i64 0)) ∧ Below w.heap.size w W)
        (OwnFrom.and (fun s A B row hs hg hr => ⟨hs.1, Tryz.keptC hs.2.1 hg (fun r e => (hr r e).2), Tryz.keptC hs.2.2.1 hg (fun r e => (hr r e).2), Tryz.keptC hs.2.2.2.1 hg (fun r e => (hr r e).2), Tryz.keptC hs.2.2.2.2 hg (fun r e => (hr r e).2)⟩) (ownFrom_below (Nat.le_refl _) (Nat.le_refl _)))
        (fun c => OwnFrom.and (fun s A B row hs hg hr => by obtain ⟨hc, ini, last, e1, e2, e3, e4, e5⟩ := hs; exact ⟨hc, ini, last, e1, e2, e3, Tryz.keptC e4 hg (fun r e => (hr r e).2), Tryz.keptC e5 hg (fun r e => (hr r e).2)⟩) (ownFrom_below (Nat.le_refl _) (by omega)))
        ⟨⟨by simp, z2, z3, z4, z5⟩, Below.refl _ _⟩
        (fun x a' W => ∃ Bx, W2.heap.size ≤ Bx ∧ W.heap[Bx]? = some (.cells #[.int .i64 x.2.1, .string x.2.2] 117) ∧ a' = { tmps := #[.agg #[.slice sa sn scap, .slice a len cap], .int .i64 (mj : Int), .pointer (some ⟨w.heap.size, 0, none⟩), .pointer (some ⟨w.heap.size + 1, 0, none⟩), .pointer (some ⟨w.heap.size + 1 + 1, 0, none⟩), .pointer (some ⟨w.heap.size + 1 + 1 + 1, 0, none⟩), undef, .pointer (some ⟨Bx, 0, none⟩),
          .agg #[.slice sa sn scap, .slice a len cap], .bool true, .bool false, .bool false, .int .i64 (mj : Int), .bool false, .bool false, .bool false, .int .i64 (mj : Int), .pointer (some ⟨w.heap.size, 0, none⟩), .slice sa sn scap, .int .i64 sn, .bool false, .bool false, .pointer (some ⟨w.heap.size, 1, none⟩), .slice a len cap,
          .func (.func 156) #[] #[.pointer (some ⟨W1.heap.size, 0, none⟩)], .int .i64 (x.1 : Int), .agg #[.int .i64 x.2.1, .string x.2.2], undef, undef, undef, undef, undef, undef, undef, undef, undef, undef, undef], defers := [] })
        (fun x a' s A B row hs hg hr => by obtain ⟨Bx, e1, e2, e3⟩ := hs; exact ⟨Bx, e1, Tryz.keptC e2 hg (fun r e => (hr r e).2), e3⟩) ?assign ?body ?done ?stop
      case assign =>
        rintro l pre x W K hI hK
        gi_wp2
        obtain ⟨⟨hp, q2, q3, q4, q5⟩, hB⟩ := hI
        exact hK _ _ ((KeepsOthers.alloc _ _).from _) ((Below.refl _ W).alloc hB.size _) ⟨⟨hp, (Below.heap_alloc _ _ _ (by have := hB.size; omega)).trans q2, q3.alloc _, q4.alloc _, q5.alloc _⟩, hB.alloc hB.size _⟩ ⟨W.heap.size, hB.size, World.alloc_heap_new W _, rfl⟩
      case body =>
        rintro l pre x a' W hl ⟨r, hr⟩ ⟨⟨hp, q2, q3, q4, q5⟩, hB⟩ ⟨Bx, hBx, bX, rfl⟩ hlt
        have c0 : W.cell? ⟨Bx, 0, none⟩ = some (.int .i64 x.2.1) := by simp [World.cell?, bX]
        have c1 : W.cell? ⟨Bx, 1, none⟩ = some (.string x.2.2) := by simp [World.cell?, bX]
        have c3 := q3.cell
        have c4 := q4.cell
        have c5 := q5.cell
        have f4 := q4.frozen
        have f5 := q5.frozen
        have hBw : Below w.heap.size w W := hB2.trans (hB.mono (by omega))
        gi_wp2
        · have hx : x.2.1 = (mj : Int) := by simpa using (by assumption : (x.2.1 == (mj : Int)) = true)
          exact ⟨((KeepsOthers.setCell _ _ _).trans (KeepsOthers.setCell _ _ _)).from _, ⟨rfl, pre, x, rfl, hp, hx, (q4.set _).other (by omega) _, (q5.other (by omega) _).set _⟩, (hBw.setCell (by simp; omega) _).setCell (by simp; omega) _⟩
        · have hx : x.2.1 ≠ (mj : Int) := by simpa using (by assumption : (x.2.1 == (mj : Int)) = false)
          exact ⟨KeepsFrom.refl _ _, Below.refl _ _, ⟨⟨fun p hp' => (List.mem_append.1 hp').elim (hp p) (fun e => by simp at e; subst e; exact hx), q2, q3, q4, q5⟩, hB⟩⟩
      case done =>
        rintro D ys W hD rfl ⟨⟨hne, q2, q3, q4, q5⟩, hB⟩ hK
        have hBw : Below w.heap.size w W := hB2.trans (hB.mono (by omega))
        have c0 : W.cell? ⟨w.heap.size, 0, none⟩ = some (.slice sa sn scap) := by simp [World.cell?, q2]
        have hsa := hS (by omega)
        subst hsa
        have c3 := q3.cell
        have c4 := q4.cell
        have c5 := q5.cell
        have f4 := q4.frozen
        have f5 := q5.frozen
        have cS : W.cell? ⟨sb, soff + mj, none⟩ = some (.string (secs mj)) := (hBw.cell (p := ⟨sb, soff + mj, none⟩) (hSb (by omega))).trans (hSc mj (by omega))
        gi_wp2
        have hK' := ((KeepsOthers.setCell W ⟨w.heap.size + 1 + 1, 0, none⟩ (.string (secs mj))).trans (KeepsOthers.setCell _ ⟨w.heap.size + 1 + 1 + 1, 0, none⟩ (.int .i64 0))).same D _ hK rfl
        have z4 : Boxed ((W.setCell ⟨w.heap.size + 1 + 1, 0, none⟩ (.string (secs mj))).setCell ⟨w.heap.size + 1 + 1 + 1, 0, none⟩ (.int .i64 0)) (w.heap.size + 1 + 1) 9 (.string (secs mj)) := (q4.set _).other (by omega) _
        have z5 : Boxed ((W.setCell ⟨w.heap.size + 1 + 1, 0, none⟩ (.string (secs mj))).setCell ⟨w.heap.size + 1 + 1 + 1, 0, none⟩ (.int .i64 0)) (w.heap.size + 1 + 1 + 1) 50 (.int .i64 0) := (q5.other (by omega) _).set _
        have hBe : Below w.heap.size w ((W.setCell ⟨w.heap.size + 1 + 1, 0, none⟩ (.string (secs mj))).setCell ⟨w.heap.size + 1 + 1 + 1, 0, none⟩ (.int .i64 0)) := (hBw.setCell (by simp; omega) _).setCell (by simp; omega) _
        generalize ((W.setCell ⟨w.heap.size + 1 + 1, 0, none⟩ (.string (secs mj))).setCell ⟨w.heap.size + 1 + 1 + 1, 0, none⟩ (.int .i64 0)) = W9 at hK' z4 z5 hBe
        refine ⟨by simp, .inl ⟨_, _, rfl, run_takeDeferred hK', ?_⟩⟩
        have kept : ∀ {k : Nat} {c : Array Value} {t : TypeId}, W9.heap[k]? = some (.cells c t) → (W9.putObj D (.deferred none)).heap[k]? = some (.cells c t) := fun h => Tryz.keptC h (grownBy_putObj' _ D (.deferred none)) (fun r e => by cases e; exact ⟨_, hK', rfl⟩)
        have z4' : Boxed (W9.putObj D (.deferred none)) (w.heap.size + 1 + 1) 9 (.string (secs mj)) := kept z4
        have z5' : Boxed (W9.putObj D (.deferred none)) (w.heap.size + 1 + 1 + 1) 50 (.int .i64 0) := kept z5
        refine ⟨_, fin _ _ _ _ rfl rfl z4'.cell z5'.cell, hBe.trans (belowK_b (w := w) (Nat.le_refl _) W9 D _ _ (by have := hB2.size; omega) hK' rfl rfl), .inr ⟨rfl, hm0, hm1, .inr ⟨fun j hj => ?_, by simp⟩⟩⟩
        have := hne (Tryz.from_ ws len (len - 1 - j)) (by simp only [Tryz.upto, List.mem_map, List.mem_range]; exact ⟨len - 1 - j, by omega, rfl⟩)
        simpa [Tryz.from_, show len - 1 - (len - 1 - j) = j by omega] using this
      case stop =>
        rintro D c pre W hD ⟨k, hk, rfl⟩ ⟨⟨rfl, ini, last, e1, e2, e3, q4, q5⟩, hB⟩ hK
        gi_wp2
        refine ⟨by simp, .inl ⟨_, _, rfl, run_takeDeferred hK, ?_⟩⟩
        have kept : ∀ {k : Nat} {c : Array Value} {t : TypeId}, W.heap[k]? = some (.cells c t) → (W.putObj D (.deferred none)).heap[k]? = some (.cells c t) := fun h => Tryz.keptC h (grownBy_putObj' _ D (.deferred none)) (fun r e => by cases e; exact ⟨_, hK, rfl⟩)
        have z4 : Boxed (W.putObj D (.deferred none)) (w.heap.size + 1 + 1) 9 (.string last.2.2) := kept q4
        have z5 : Boxed (W.putObj D (.deferred none)) (w.heap.size + 1 + 1 + 1) 50 (.int .i64 0) := kept q5
        refine ⟨_, fin _ _ _ _ rfl rfl z4.cell z5.cell, hB.trans (belowK_b (w := w) (Nat.le_refl _) W D _ _ (by have := hB2.size; omega) hK rfl rfl), .inr ⟨rfl, hm0, hm1, .inl ?_⟩⟩
        obtain ⟨k', rfl⟩ : ∃ k', k = k' + 1 := by
          cases k with
          | zero => simp [Tryz.upto] at e1
          | succ k' => exact ⟨k', rfl⟩
        rw [Tryz.upto_succ] at e1
        obtain ⟨rfl, e5⟩ := List.append_inj' e1 rfl
        obtain rfl : Tryz.from_ ws len k' = last := by simpa using e5
        refine ⟨len - 1 - k', by omega, e3, fun j hj hj2 => ?_, rfl⟩
        have := e2 (Tryz.from_ ws len (len - 1 - j)) (by simp only [Tryz.upto, List.mem_map, List.mem_range]; exact ⟨len - 1 - j, by omega, rfl⟩)
        simpa [Tryz.from_, show len - 1 - (len - 1 - j) = j by omega] using this
    · by_cases hm0 : m < 0
      · gi_wp2
        all_goals try omega
        all_goals exact early (by simp; omega) _ rfl rfl
      · have hm1 : (sn : Int) ≤ m := by omega
        gi_wp2
        all_goals try omega
        all_goals exact early (by simp; omega) _ rfl rfl
end Go.Proofs

namespace Go.Lk
open Go Go.Proofs Go.RowKit

/-! ### disk.Read -/
/-- what a row of a value holds -/
theorem row_out {M : Mem} {w : World} {l : List (List D)} {u : Value} (sz : Nat) (hA : Agree M w) (h : DenD M (.lst l) u) (hok : okRows sz l = true) :
    ∃ (a : Option Addr) (cap b off : Nat) (val : Nat → Nat → Value), u = .slice a l.length cap ∧ (0 < l.length → a = some ⟨b, off, none⟩) ∧
      (∀ (i j : Nat) (e : List D) (d : D), l[i]? = some e → e[j]? = some d → w.cell? ⟨b, off + i * sz + j, none⟩ = some (val i j) ∧ DenD M d (val i j)) := by
  cases h with
  | emp a cap => exact ⟨a, cap, 0, 0, fun _ _ => undef, rfl, fun h => absurd h (by simp), fun i j e d h => by simp at h⟩
  | lst _ b off cap sz' val hl hs hm hd =>
    refine ⟨_, cap, b, off, val, rfl, fun _ => rfl, fun i j e d h1 h2 => ⟨?_, hd i j e d h1 h2⟩⟩
    have e1 : sz' = sz := (hs i e h1).symm.trans (okRows_get hok i e h1).1
    rw [← e1]
    exact hA b _ _ (hm i j e d h1 h2)
def dreadD (d : DS) (n : Int) : Prop := DR d ∧ 0 ≤ n ∧ n < d.sec.length
open Classical in
noncomputable def dreadM (d : DS) (n : Int) : ByteArray × Int := if dreadD d n then (rdS d n, 0) else (ByteArray.empty, 1)
theorem den_int' {M : Mem} {k : IntKind} {n : Int} {u : Value} (h : DenD M (.int k n) u) : u = .int k n := by cases h; rfl
theorem den_str' {M : Mem} {s : ByteArray} {u : Value} (h : DenD M (.str s) u) : u = .string s := by cases h; rfl
theorem two_out {M : Mem} {x y : D} {vs : Array Value} (h : vs.size = 2) (hd : ∀ (i : Nat) (d : D) (v : Value), [x, y][i]? = some d → vs[i]? = some v → DenD M d v) : ∃ u v, vs = #[u, v] ∧ DenD M x u ∧ DenD M y v := by
  obtain ⟨l⟩ := vs
  match l, h, hd with
  | [u, v], _, hd => exact ⟨u, v, rfl, hd 0 _ _ rfl rfl, hd 1 _ _ rfl rfl⟩
theorem dread_ok (d : DS) (n : Int) : ACall Tryz.prog 92 [encDS d, .int .i64 n] (.tup [.str (dreadM d n).1, .int .i64 (dreadM d n).2]) := by
  refine ⟨⟨Tryz.f92, Tryz.func92, rfl, by kernel_rfl⟩, fun w M vs hA hd => ?_⟩
  obtain ⟨u, v, rfl, hu, hv⟩ := two_out hd.1 hd.2
  have hu0 := hu
  have hv' := den_int' hv
  subst hv'
  obtain ⟨us, rfl, hus⟩ : ∃ us : Array Value, u = .agg us ∧ (us.size = 2 ∧ ∀ (i : Nat) (x : D) (v : Value), [D.lst (d.sec.map encB), .lst (d.ca.map encW)][i]? = some x → us[i]? = some v → DenD M x v) := by
    cases hu with
    | agg c us hl hdd => exact ⟨us, rfl, hl, hdd⟩
  obtain ⟨s1, s2, rfl, h1, h2⟩ := two_out hus.1 hus.2
  have hm1 : (d.sec.map encB).length = d.sec.length := List.length_map ..
  have hm2 : (d.ca.map encW).length = d.ca.length := List.length_map ..
  obtain ⟨sa, scap, sb, soff, sval, rfl, hsa, hsc⟩ := row_out 1 hA h1 (encB_ok _)
  obtain ⟨a, cap, b, off, val, rfl, ha, hc⟩ := row_out 2 hA h2 (encW_ok _)
  rw [hm1] at hsa hu0 ⊢
  rw [hm2] at ha hu0 ⊢
  have cs : ∀ j, j < d.sec.length → w.cell? ⟨sb, soff + j, none⟩ = some (.string (d.sec[j]?.getD ByteArray.empty)) := fun j hj => by
    obtain ⟨q1, q2⟩ := hsc j 0 (encB d.sec[j]) (.str d.sec[j]) (by simp [hj]) rfl
    rw [den_str' q2, Nat.mul_one, Nat.add_zero] at q1
    rw [List.getElem?_eq_getElem hj]; exact q1
  have cw : ∀ j, j < d.ca.length → w.cell? ⟨b, off + j * 2, none⟩ = some (.int .i64 (d.ca[j]?.getD (0, ByteArray.empty)).1) ∧ w.cell? ⟨b, off + j * 2 + 1, none⟩ = some (.string (d.ca[j]?.getD (0, ByteArray.empty)).2) := fun j hj => by
    obtain ⟨q1, q2⟩ := hc j 0 (encW d.ca[j]) (.int .i64 d.ca[j].1) (by simp [hj]) rfl
    obtain ⟨q3, q4⟩ := hc j 1 (encW d.ca[j]) (.str d.ca[j].2) (by simp [hj]) rfl
    rw [den_int' q2, Nat.add_zero] at q1
    rw [den_str' q4] at q3
    rw [List.getElem?_eq_getElem hj]; exact ⟨q1, q3⟩
  have agr : ∀ W : World, Below w.heap.size w W → Agree M W := fun W hb b o v h => (hb.cell (p := ⟨b, o, none⟩) (blk_lt (hA b o v h))).trans (hA b o v h)
  refine (Tryz.dread_in sa d.sec.length scap a d.ca.length cap sb soff b off (fun j => d.sec[j]?.getD ByteArray.empty) (fun j => d.ca[j]?.getD (0, ByteArray.empty)) n (drB d) w ?_ ?_ hsa (fun h => blk_lt (cs 0 h)) cs ⟨ha, fun h => blk_lt (cw 0 h).1, cw⟩).mono ?_
  · intro W hb
    refine ((dRight_ok d).2 W M #[.agg #[.slice sa d.sec.length scap, .slice a d.ca.length cap]] (agr W hb) ⟨rfl, fun i x v hx hv => ?_⟩).mono fun e W' he => ?_
    · cases i with
      | zero =>
        simp at hx hv
        subst hx hv
        exact hu0
      | succ i => simp at hx
    · obtain ⟨v, M', rfl, hb', _, _, _, hv⟩ := he
      cases hv
      exact ⟨rfl, hb'⟩
  · intro h
    have hR := drB_t.1 h
    exact ⟨hR.c1, hR.s2⟩
  · rintro e W' ⟨hb, h⟩
    have told : ∀ (s : ByteArray) (k : Int), dreadM d n = (s, k) → e = .returned (.tuple #[.string s, .int .i64 k]) → ∃ (v : Value) (M' : Mem), e = .returned v ∧ Below w.heap.size w W' ∧ Sub M M' ∧ Agree M' W' ∧ Fresh w M M' ∧ DenD M' (.tup [.str (dreadM d n).1, .int .i64 (dreadM d n).2]) v := by
      intro s k hs he
      refine ⟨_, M, he, hb, Sub.refl M, agr W' hb, fun b o v h => .inl h, ?_⟩
      rw [hs]
      refine .tup _ _ rfl fun i x v hx hv => ?_
      match i with
      | 0 => simp at hx hv; subst hx hv; exact .str _
      | 1 => simp at hx hv; subst hx hv; exact .int _ _
      | i + 2 => simp at hx
    rcases h with ⟨hn, he⟩ | ⟨hr, h0, h1, h⟩
    · exact told _ _ (if_neg fun q => hn ⟨drB_t.2 q.1, q.2.1, q.2.2⟩) he
    · have hR := drB_t.1 hr
      have hdr : dreadM d n = (rdS d n, 0) := if_pos ⟨hR, h0, h1⟩
      rcases h with ⟨k, hk, e1, e2, he⟩ | ⟨hne, he⟩
      · refine told _ _ ?_ he
        rw [hdr]
        congr 1
        simp only [List.getElem?_eq_getElem hk, Option.getD_some] at e1 ⊢
        exact pick_at hk e1 (fun j hj hj2 => by have := e2 j hj hj2; simpa only [List.getElem?_eq_getElem hj2, Option.getD_some] using this) _
      · refine told _ _ ?_ he
        rw [hdr]
        congr 1
        refine pick_none ?_
        intro w' hw
        obtain ⟨i, hi, rfl⟩ := List.mem_iff_getElem.1 hw
        have := hne i hi
        simpa only [List.getElem?_eq_getElem hi, Option.getD_some] using this
end Go.Lk

namespace Go.Lk
open Go Go.Proofs Go.RowKit

/-! ### the journal -/
abbrev Jo := Bool × Int × ByteArray
def encJ (o : Jo) : List D := [.bool o.1, .int .i64 o.2.1, .str o.2.2]
theorem encJ_ok : ∀ (l : List Jo), okRows 3 (l.map encJ) = true
  | [] => rfl
  | _ :: r => encJ_ok r
structure Us (d : DS) : Prop where
  dr : DR d
  n : 35 ≤ d.sec.length
open Classical in
noncomputable def usB (d : DS) : Bool := decide (Us d)
theorem usB_t {d : DS} : usB d = true ↔ Us d := by simp [usB]
theorem usB_f {d : DS} : usB d = false ↔ ¬ Us d := by simp [usB]
def vaB (p : Int) : Bool := decide (1 ≤ p) && decide (p ≤ 16)
theorem vaB_t {p : Int} : vaB p = true ↔ 1 ≤ p ∧ p ≤ 16 := by simp [vaB]
theorem usable_ok (d : DS) : ACall Tryz.prog 90 [encDS d] (.bool (usB d)) := by
  refine acall_of Tryz.func90 1 rfl (by kernel_rfl) ?_
  conv => whnf
  have hm : (d.sec.map encB).length = d.sec.length := List.length_map ..
  repeat ((first | refine bF ?_ | refine bT ?_ | refine dK (by kernel_rfl) ?_ | refine cK rfl ?_ | refine cK (by first | decide | omega) ?_ | refine wK (by omega) (by omega) ?_); conv => whnf)
  refine callX_pure (dRight_ok d) ?_
  conv => whnf
  repeat ((first | refine bF ?_ | refine bT ?_ | refine dK (by kernel_rfl) ?_ | refine cK rfl ?_ | refine cK (by first | decide | omega) ?_ | refine wK (by omega) (by omega) ?_); conv => whnf)
  refine bcase_intro (fun h1 => ?_) (fun h1 => ?_) <;> conv => whnf
  · have hR := drB_t.1 h1
    repeat ((first | refine bF ?_ | refine bT ?_ | refine dK (by kernel_rfl) ?_ | refine cK rfl ?_ | refine cK (by first | decide | omega) ?_ | refine wK (by omega) (by omega) ?_); conv => whnf)
    refine ret_of rfl (congrArg D.bool ?_)
    by_cases h : (35 : Int) ≤ ((d.sec.map encB).length : Int)
    · rw [decide_eq_true h]; exact (usB_t.2 ⟨hR, by omega⟩).symm
    · rw [decide_eq_false h]; exact (usB_f.2 fun q => by have := q.n; omega).symm
  · repeat ((first | refine bF ?_ | refine bT ?_ | refine dK (by kernel_rfl) ?_ | refine cK rfl ?_ | refine cK (by first | decide | omega) ?_ | refine wK (by omega) (by omega) ?_); conv => whnf)
    exact ret_of rfl (congrArg D.bool (usB_f.2 fun q => drB_f.1 h1 q.dr).symm)
theorem valid_ok (p : Int) : ACall Tryz.prog 91 [.int .i64 p] (.bool (vaB p)) := by
  refine acall_of Tryz.func91 1 rfl (by kernel_rfl) ?_
  conv => whnf
  refine bcase_p (fun h1 => ?_) (fun h1 => ?_) <;> conv => whnf
  · repeat ((first | refine bF ?_ | refine bT ?_ | refine dK (by kernel_rfl) ?_ | refine cK rfl ?_ | refine cK (by first | decide | omega) ?_ | refine wK (by omega) (by omega) ?_); conv => whnf)
    exact ret_of rfl (congrArg D.bool (by simp [vaB, h1]))
  · repeat ((first | refine bF ?_ | refine bT ?_ | refine dK (by kernel_rfl) ?_ | refine cK rfl ?_ | refine cK (by first | decide | omega) ?_ | refine wK (by omega) (by omega) ?_); conv => whnf)
    exact ret_of rfl (congrArg D.bool (by simp [vaB, h1]))
theorem home_ok (p : Int) (h : vaB p = true) : ACall Tryz.prog 93 [.int .i64 p] (.int .i64 (2 * p + 1)) := by
  have hv := vaB_t.1 h
  refine acall_of Tryz.func93 1 rfl (by kernel_rfl) ?_
  conv => whnf
  repeat ((first | refine bF ?_ | refine bT ?_ | refine dK (by kernel_rfl) ?_ | refine cK rfl ?_ | refine cK (by first | decide | omega) ?_ | refine wK (by omega) (by omega) ?_); conv => whnf)
  exact ret_of rfl rfl
def lit16 : ByteArray := { data := #[0, 0, 0, 0, 0, 0, 0, 0, 0, 0, 0, 0, 0, 0, 0, 0] }
theorem lit16_eq : lit16 = nul16 := bl_ext (by rw [show bl nul16 = _ from nulB_list 16]; rfl)
def headJ (p : Nat) : ByteArray := bstr [74, (p : Int)] ++ nulB 14
theorem nul_cut : nul16.extract 2 16 = nulB 14 := bl_ext (by rw [bl_extract, show bl nul16 = _ from nulB_list 16, show bl (nulB 14) = _ from nulB_list 14]; rfl)
theorem headJ_size (p : Nat) : (headJ p).size = 16 := by rw [headJ, ByteArray.size_append, bstr_size, nulB_size]; rfl
theorem head_ok (p : Nat) (h : p ≤ 16) : ACall Tryz.prog 138 [.int .i64 p] (.str (headJ p)) := by
  refine acall_of Tryz.func138 1 rfl (by kernel_rfl) ?_
  conv => whnf
  refine wrapK_in (u8in (by omega) (by omega)) ?_
  conv => whnf
  repeat ((first | refine bF ?_ | refine bT ?_ | refine dK (by kernel_rfl) ?_ | refine cK rfl ?_ | refine cK (by first | decide | omega) ?_ | refine wK (by omega) (by omega) ?_); conv => whnf)
  refine sliceK_lo (l := 2) (by decide) ?_
  conv => whnf
  repeat ((first | refine bF ?_ | refine bT ?_ | refine dK (by kernel_rfl) ?_ | refine cK rfl ?_ | refine cK (by first | decide | omega) ?_ | refine wK (by omega) (by omega) ?_); conv => whnf)
  rw [show ByteArray.extract { data := #[0, 0, 0, 0, 0, 0, 0, 0, 0, 0, 0, 0, 0, 0, 0, 0] } 2 (ByteArray.size { data := #[0, 0, 0, 0, 0, 0, 0, 0, 0, 0, 0, 0, 0, 0, 0, 0] }) = nulB 14 from by rw [← nul_cut, ← lit16_eq]; rfl]
  refine condK_of (by rw [bstr_size, nulB_size]; show 2 + 14 ≤ _; decide) ?_
  conv => whnf
  repeat ((first | refine bF ?_ | refine bT ?_ | refine dK (by kernel_rfl) ?_ | refine cK rfl ?_ | refine cK (by first | decide | omega) ?_ | refine wK (by omega) (by omega) ?_); conv => whnf)
  exact ret_of rfl rfl
def wJ (n : Int) (s : ByteArray) : Jo := (false, n, s)
def syJ : Jo := (true, 0, ByteArray.empty)
theorem halves_ok (n : Int) (a b : ByteArray) (h0 : 0 ≤ n) (h1 : n ≤ 1000) : OCall Tryz.prog 110 [.int .i64 n, .str a, .str b] ([wJ n a, wJ (n + 1) b, syJ].map encJ) 3 := by
  refine ocall_of Tryz.func110 3 rfl (by kernel_rfl) ?_
  conv => whnf
  repeat ((first | refine bF ?_ | refine bT ?_ | refine dK (by kernel_rfl) ?_ | refine cK rfl ?_ | refine cK (by first | decide | omega) ?_ | refine wK (by omega) (by omega) ?_); conv => whnf)
  exact ⟨6, rfl, .inl ⟨17, rfl, rfl⟩⟩
theorem top_ok (s : ByteArray) : OCall Tryz.prog 111 [.str s] ([wJ 0 s, syJ].map encJ) 3 := by
  refine ocall_of Tryz.func111 1 rfl (by kernel_rfl) ?_
  conv => whnf
  repeat ((first | refine bF ?_ | refine bT ?_ | refine dK (by kernel_rfl) ?_ | refine cK rfl ?_ | refine cK (by first | decide | omega) ?_ | refine wK (by omega) (by omega) ?_); conv => whnf)
  exact ⟨2, rfl, .inl ⟨7, rfl, rfl⟩⟩
def planJ (p : Nat) (s : ByteArray) : List Jo := [wJ 1 (s.extract 0 16), wJ 2 (s.extract 16 32), syJ] ++ [wJ 0 (headJ p), syJ] ++ [wJ (2 * (p : Int) + 1) (s.extract 0 16), wJ (2 * (p : Int) + 1 + 1) (s.extract 16 32), syJ] ++ [wJ 0 nul16, syJ]
open Classical in
noncomputable def planM (d : DS) (p : Int) (s : ByteArray) : List Jo × Int := if Us d ∧ (1 ≤ p ∧ p ≤ 16) ∧ s.size = 32 then (planJ p.toNat s, 0) else ([], 1)
theorem plan_ok (d : DS) (p : Int) (s : ByteArray) (hs : s.size ≤ 1000000) : ACall Tryz.prog 130 [encDS d, .int .i64 p, .str s] (.tup [.lst ((planM d p s).1.map encJ), .int .i64 (planM d p s).2]) := by
  refine acall_of Tryz.func130 3 rfl (by kernel_rfl) ?_
  conv => whnf
  repeat ((first | refine bF ?_ | refine bT ?_ | refine dK (by kernel_rfl) ?_ | refine cK rfl ?_ | refine cK (by first | decide | omega) ?_ | refine wK (by omega) (by omega) ?_); conv => whnf)
  refine callX_pure (usable_ok d) ?_
  conv => whnf
  repeat ((first | refine bF ?_ | refine bT ?_ | refine dK (by kernel_rfl) ?_ | refine cK rfl ?_ | refine cK (by first | decide | omega) ?_ | refine wK (by omega) (by omega) ?_); conv => whnf)
  refine bcase_intro (fun h1 => ?_) (fun h1 => ?_) <;> conv => whnf
  · repeat ((first | refine bF ?_ | refine bT ?_ | refine dK (by kernel_rfl) ?_ | refine cK rfl ?_ | refine cK (by first | decide | omega) ?_ | refine wK (by omega) (by omega) ?_); conv => whnf)
    rw [planM, if_neg (fun q => by rw [usB_t.2 q.1] at h1; exact absurd h1 (by decide))]
    exact ret_of rfl rfl
  have hU : Us d := usB_t.1 (by simpa using h1)
  repeat ((first | refine bF ?_ | refine bT ?_ | refine dK (by kernel_rfl) ?_ | refine cK rfl ?_ | refine cK (by first | decide | omega) ?_ | refine wK (by omega) (by omega) ?_); conv => whnf)
  refine callX_pure (valid_ok p) ?_
  conv => whnf
  repeat ((first | refine bF ?_ | refine bT ?_ | refine dK (by kernel_rfl) ?_ | refine cK rfl ?_ | refine cK (by first | decide | omega) ?_ | refine wK (by omega) (by omega) ?_); conv => whnf)
  refine bcase_intro (fun h2 => ?_) (fun h2 => ?_) <;> conv => whnf
  · repeat ((first | refine bF ?_ | refine bT ?_ | refine dK (by kernel_rfl) ?_ | refine cK rfl ?_ | refine cK (by first | decide | omega) ?_ | refine wK (by omega) (by omega) ?_); conv => whnf)
    rw [planM, if_neg (fun q => by rw [vaB_t.2 q.2.1] at h2; exact absurd h2 (by decide))]
    exact ret_of rfl rfl
  have hV := vaB_t.1 (show vaB p = true by simpa using h2)
  repeat ((first | refine bF ?_ | refine bT ?_ | refine dK (by kernel_rfl) ?_ | refine cK rfl ?_ | refine cK (by first | decide | omega) ?_ | refine wK (by omega) (by omega) ?_); conv => whnf)
  refine bcase_n (fun h3 => ?_) (fun h3 => ?_) <;> conv => whnf
  · repeat ((first | refine bF ?_ | refine bT ?_ | refine dK (by kernel_rfl) ?_ | refine cK rfl ?_ | refine cK (by first | decide | omega) ?_ | refine wK (by omega) (by omega) ?_); conv => whnf)
    rw [planM, if_neg (fun q => h3 (by rw [q.2.2]; rfl))]
    exact ret_of rfl rfl
  have h3 : s.size = 32 := by omega
  obtain ⟨k, rfl⟩ : ∃ k : Nat, p = (k : Int) := ⟨p.toNat, by omega⟩
  rw [planM, if_pos ⟨hU, hV, h3⟩, Int.toNat_natCast, planJ]
  repeat ((first | refine bF ?_ | refine bT ?_ | refine dK (by kernel_rfl) ?_ | refine cK rfl ?_ | refine cK (by first | decide | omega) ?_ | refine wK (by omega) (by omega) ?_); conv => whnf)
  refine sliceK_hi (h := 16) (by omega) ?_
  conv => whnf
  repeat ((first | refine bF ?_ | refine bT ?_ | refine dK (by kernel_rfl) ?_ | refine cK rfl ?_ | refine cK (by first | decide | omega) ?_ | refine wK (by omega) (by omega) ?_); conv => whnf)
  refine sliceK_lo (l := 16) (by omega) ?_
  conv => whnf
  repeat ((first | refine bF ?_ | refine bT ?_ | refine dK (by kernel_rfl) ?_ | refine cK rfl ?_ | refine cK (by first | decide | omega) ?_ | refine wK (by omega) (by omega) ?_); conv => whnf)
  obtain ⟨x, hx⟩ : ∃ x, s.extract 0 16 = x := ⟨_, rfl⟩
  obtain ⟨y, hy⟩ : ∃ y, s.extract 16 32 = y := ⟨_, rfl⟩
  rw [hx, hy]
  rw [h3, hy]
  refine callX_own (halves_ok 1 x y (by omega) (by omega)) ?_
  conv => whnf
  repeat ((first | refine bF ?_ | refine bT ?_ | refine dK (by kernel_rfl) ?_ | refine cK rfl ?_ | refine cK (by first | decide | omega) ?_ | refine wK (by omega) (by omega) ?_); conv => whnf)
  refine callX_pure (head_ok k (by omega)) ?_
  conv => whnf
  repeat ((first | refine bF ?_ | refine bT ?_ | refine dK (by kernel_rfl) ?_ | refine cK rfl ?_ | refine cK (by first | decide | omega) ?_ | refine wK (by omega) (by omega) ?_); conv => whnf)
  refine callX_own (top_ok (headJ k)) ?_
  conv => whnf
  repeat ((first | refine bF ?_ | refine bT ?_ | refine dK (by kernel_rfl) ?_ | refine cK rfl ?_ | refine cK (by first | decide | omega) ?_ | refine wK (by omega) (by omega) ?_); conv => whnf)
  refine roomK_le 1000 1000 (by simp) (by decide) (by decide) (by decide) ?_
  conv => whnf
  repeat ((first | refine bF ?_ | refine bT ?_ | refine dK (by kernel_rfl) ?_ | refine cK rfl ?_ | refine cK (by first | decide | omega) ?_ | refine wK (by omega) (by omega) ?_); conv => whnf)
  refine callX_pure (home_ok k (vaB_t.2 hV)) ?_
  conv => whnf
  repeat ((first | refine bF ?_ | refine bT ?_ | refine dK (by kernel_rfl) ?_ | refine cK rfl ?_ | refine cK (by first | decide | omega) ?_ | refine wK (by omega) (by omega) ?_); conv => whnf)
  refine callX_own (halves_ok (2 * (k : Int) + 1) x y (by omega) (by omega)) ?_
  conv => whnf
  repeat ((first | refine bF ?_ | refine bT ?_ | refine dK (by kernel_rfl) ?_ | refine cK rfl ?_ | refine cK (by first | decide | omega) ?_ | refine wK (by omega) (by omega) ?_); conv => whnf)
  refine roomK_le 1000 1000 (by simp) (by decide) (by decide) (by decide) ?_
  conv => whnf
  repeat ((first | refine bF ?_ | refine bT ?_ | refine dK (by kernel_rfl) ?_ | refine cK rfl ?_ | refine cK (by first | decide | omega) ?_ | refine wK (by omega) (by omega) ?_); conv => whnf)
  rw [show ({ data := #[0, 0, 0, 0, 0, 0, 0, 0, 0, 0, 0, 0, 0, 0, 0, 0] } : ByteArray) = nul16 from lit16_eq]
  refine callX_own (top_ok nul16) ?_
  conv => whnf
  repeat ((first | refine bF ?_ | refine bT ?_ | refine dK (by kernel_rfl) ?_ | refine cK rfl ?_ | refine cK (by first | decide | omega) ?_ | refine wK (by omega) (by omega) ?_); conv => whnf)
  refine roomK_le 1000 1000 (by simp) (by decide) (by decide) (by decide) ?_
  conv => whnf
  repeat ((first | refine bF ?_ | refine bT ?_ | refine dK (by kernel_rfl) ?_ | refine cK rfl ?_ | refine cK (by first | decide | omega) ?_ | refine wK (by omega) (by omega) ?_); conv => whnf)
  exact ret_of rfl rfl
noncomputable def stepJ (d : DS) (o : Jo) : DS := if o.1 = true then syncM d else (putM d o.2).1
noncomputable def runM (d : DS) (l : List Jo) (most : Int) : DS := (l.take most.toNat).foldl stepJ d
theorem run_ok (d : DS) (l : List Jo) (most : Int) (hl : l.length ≤ 1000000) : ACall Tryz.prog 29 [encDS d, .lst (l.map encJ), .int .i64 most] (encDS (runM d l most)) := by
  refine acall_of Tryz.func29 3 rfl (by kernel_rfl) ?_
  conv => whnf
  have hm : (l.map encJ).length = l.length := List.length_map ..
  repeat ((first | refine bF ?_ | refine bT ?_ | refine dK (by kernel_rfl) ?_ | refine cK rfl ?_ | refine cK (by first | decide | omega) ?_ | refine wK (by omega) (by omega) ?_); conv => whnf)
  refine aloop (ι := Nat × DS) (fun k => [(2, .d (.int .i64 most)), (3, .ptr 3 0 0), (6, .ptr 6 0 0), (11, .d (.lst (l.map encJ))), (12, .d (.int .i64 (l.map encJ).length)), (13, .d (.int .i64 k.1))]) (fun k => [(3, .box [.d (.lst (k.2.sec.map encB)), .d (.lst (k.2.ca.map encW))] false), (6, .box [.nil, .nil] false)])
    (fun k => k.1 ≤ l.length ∧ ((k.1 : Int) ≤ most ∨ k.1 = 0) ∧ k.2 = (l.take k.1).foldl stepJ d) (fun k => l.length - k.1) (0, d) ⟨by omega, .inr rfl, rfl⟩ (le0 (le_of_cov ⟨rfl, rfl, rfl, rfl, rfl, rfl, trivial⟩ ⟨rfl, rfl, trivial⟩ ⟨rfl, rfl, rfl, rfl⟩)) ?_
  rintro ⟨k, e⟩ ⟨hk, hc, he⟩
  simp only at hk hc he ⊢
  have tk : ∀ j, most.toNat = j → (l.take j).foldl stepJ d = runM d l most := fun j h => by rw [runM, h]
  conv => whnf
  refine bcase_p (fun h5 => ?_) (fun h5 => ?_) <;> conv => whnf
  · have hk2 : k < l.length := by omega
    have en : ∀ x, stepJ e l[k] = x → (l.take (k + 1)).foldl stepJ d = x := fun x hx => by rw [take_snoc hk2, List.foldl_append, ← he]; exact hx
    refine idxK_nat (by omega) ?_
    conv => whnf
    refine getRow_of (x := encJ l[k]) (by simp [hk2]) ?_
    conv => whnf
    repeat ((first | refine bF ?_ | refine bT ?_ | refine dK (by kernel_rfl) ?_ | refine cK rfl ?_ | refine cK (by first | decide | omega) ?_ | refine wK (by omega) (by omega) ?_); conv => whnf)
    refine bcase_p (fun h6 => ?_) (fun h6 => ?_) <;> conv => whnf
    · repeat ((first | refine bF ?_ | refine bT ?_ | refine dK (by kernel_rfl) ?_ | refine cK rfl ?_ | refine cK (by first | decide | omega) ?_ | refine wK (by omega) (by omega) ?_); conv => whnf)
      have : e = runM d l most := by
        rcases hc with h | h
        · rw [he]; exact tk k (by omega)
        · subst h; rw [he]; exact tk 0 (by omega)
      rw [this]
      exact ret_of rfl rfl
    repeat ((first | refine bF ?_ | refine bT ?_ | refine dK (by kernel_rfl) ?_ | refine cK rfl ?_ | refine cK (by first | decide | omega) ?_ | refine wK (by omega) (by omega) ?_); conv => whnf)
    refine bcase_intro (fun h7 => ?_) (fun h7 => ?_) <;> conv => whnf
    · repeat ((first | refine bF ?_ | refine bT ?_ | refine dK (by kernel_rfl) ?_ | refine cK rfl ?_ | refine cK (by first | decide | omega) ?_ | refine wK (by omega) (by omega) ?_); conv => whnf)
      refine callX_pure (sync_ok e) ?_
      conv => whnf
      repeat ((first | refine bF ?_ | refine bT ?_ | refine dK (by kernel_rfl) ?_ | refine cK rfl ?_ | refine cK (by first | decide | omega) ?_ | refine wK (by omega) (by omega) ?_); conv => whnf)
      exact ⟨(k + 1, syncM e), ⟨by simp only []; omega, .inl (by simp only []; omega), (en _ (if_pos h7)).symm⟩, by simp only []; omega, (le0 (le_of_cov ⟨rfl, rfl, rfl, rfl, rfl, rfl, trivial⟩ ⟨rfl, rfl, trivial⟩ ⟨rfl, rfl, rfl, rfl⟩))⟩
    · repeat ((first | refine bF ?_ | refine bT ?_ | refine dK (by kernel_rfl) ?_ | refine cK rfl ?_ | refine cK (by first | decide | omega) ?_ | refine wK (by omega) (by omega) ?_); conv => whnf)
      refine callX_pure (dput_ok e l[k].2) ?_
      conv => whnf
      repeat ((first | refine bF ?_ | refine bT ?_ | refine dK (by kernel_rfl) ?_ | refine cK rfl ?_ | refine cK (by first | decide | omega) ?_ | refine wK (by omega) (by omega) ?_); conv => whnf)
      have hs : stepJ e l[k] = (putM e l[k].2).1 := if_neg (by rw [h7]; decide)
      refine bcase_p (fun h8 => ?_) (fun h8 => ?_) <;> conv => whnf
      · repeat ((first | refine bF ?_ | refine bT ?_ | refine dK (by kernel_rfl) ?_ | refine cK rfl ?_ | refine cK (by first | decide | omega) ?_ | refine wK (by omega) (by omega) ?_); conv => whnf)
        exact ⟨(k + 1, (putM e l[k].2).1), ⟨by simp only []; omega, .inl (by simp only []; omega), (en _ hs).symm⟩, by simp only []; omega, (le0 (le_of_cov ⟨rfl, rfl, rfl, rfl, rfl, rfl, trivial⟩ ⟨rfl, rfl, trivial⟩ ⟨rfl, rfl, rfl, rfl⟩))⟩
      · repeat ((first | refine bF ?_ | refine bT ?_ | refine dK (by kernel_rfl) ?_ | refine cK rfl ?_ | refine cK (by first | decide | omega) ?_ | refine wK (by omega) (by omega) ?_); conv => whnf)
        have : (putM e l[k].2).1 = e := by
          rw [putM] at h8 ⊢
          split
          · rename_i q
            rw [if_pos q] at h8
            split
            · rfl
            · rename_i q2
              rw [if_neg q2] at h8
              exact absurd rfl h8
          · rfl
        exact ⟨(k + 1, e), ⟨by simp only []; omega, .inl (by simp only []; omega), (en _ (hs.trans this)).symm⟩, by simp only []; omega, (le0 (le_of_cov ⟨rfl, rfl, rfl, rfl, rfl, rfl, trivial⟩ ⟨rfl, rfl, trivial⟩ ⟨rfl, rfl, rfl, rfl⟩))⟩
  · repeat ((first | refine bF ?_ | refine bT ?_ | refine dK (by kernel_rfl) ?_ | refine cK rfl ?_ | refine cK (by first | decide | omega) ?_ | refine wK (by omega) (by omega) ?_); conv => whnf)
    have : e = runM d l most := by
      rw [he, runM]
      rcases hc with h | h
      · rw [List.take_of_length_le (by omega), List.take_of_length_le (by omega)]
      · have : l = [] := List.length_eq_zero_iff.1 (by omega)
        subst this
        simp
    rw [this]
    exact ret_of rfl rfl
end Go.Lk

namespace Go.Lk
open Go Go.Proofs Go.RowKit

def headG (s : ByteArray) : Nat → Nat → Int × Bool
  | 0, _ => (0, false)
  | n + 1, k => if s = headJ k then ((k : Int), true) else headG s n (k + 1)
def headM (s : ByteArray) : Int × Bool := headG s 16 1
theorem headed_ok (s : ByteArray) : ACall Tryz.prog 109 [.str s] (.tup [.int .i64 (headM s).1, .bool (headM s).2]) := by
  refine acall_of Tryz.func109 1 rfl (by kernel_rfl) ?_
  conv => whnf
  refine aloop (ι := Nat) (fun k => [(0, .d (.str s)), (4, .d (.int .i64 k))]) (fun _ => [])
    (fun k => 1 ≤ k ∧ k ≤ 17 ∧ headM s = headG s (17 - k) k) (fun k => 17 - k) 1 ⟨by omega, by omega, rfl⟩ (le0 (le_of_cov ⟨rfl, rfl, trivial⟩ trivial ⟨rfl, rfl, rfl, rfl⟩)) ?_
  rintro k ⟨h1, h2, hR⟩
  rw [hR]
  conv => whnf
  refine bcase_p (fun h5 => ?_) (fun h5 => ?_) <;> conv => whnf
  · have e : 17 - k = (16 - k) + 1 := by omega
    rw [e, headG]
    repeat ((first | refine bF ?_ | refine bT ?_ | refine dK (by kernel_rfl) ?_ | refine cK rfl ?_ | refine cK (by first | decide | omega) ?_ | refine wK (by omega) (by omega) ?_); conv => whnf)
    refine callX_pure (head_ok k (by omega)) ?_
    conv => whnf
    repeat ((first | refine bF ?_ | refine bT ?_ | refine dK (by kernel_rfl) ?_ | refine cK rfl ?_ | refine cK (by first | decide | omega) ?_ | refine wK (by omega) (by omega) ?_); conv => whnf)
    refine bcase_p (fun h6 => ?_) (fun h6 => ?_) <;> conv => whnf
    · repeat ((first | refine bF ?_ | refine bT ?_ | refine dK (by kernel_rfl) ?_ | refine cK rfl ?_ | refine cK (by first | decide | omega) ?_ | refine wK (by omega) (by omega) ?_); conv => whnf)
      rw [if_pos h6]
      exact ret_of rfl rfl
    · repeat ((first | refine bF ?_ | refine bT ?_ | refine dK (by kernel_rfl) ?_ | refine cK rfl ?_ | refine cK (by first | decide | omega) ?_ | refine wK (by omega) (by omega) ?_); conv => whnf)
      rw [if_neg h6]
      exact ⟨k + 1, ⟨by omega, by omega, by rw [show 17 - (k + 1) = 16 - k by omega]⟩, by omega, (le0 (le_of_cov ⟨rfl, rfl, trivial⟩ trivial ⟨rfl, rfl, rfl, rfl⟩))⟩
  · repeat ((first | refine bF ?_ | refine bT ?_ | refine dK (by kernel_rfl) ?_ | refine cK rfl ?_ | refine cK (by first | decide | omega) ?_ | refine wK (by omega) (by omega) ?_); conv => whnf)
    have ek : k = 17 := by omega
    subst ek
    exact ret_of rfl rfl
theorem pick_size {n : Int} : ∀ {l : List Wt} {b : ByteArray}, b.size = 16 → (∀ w ∈ l, w.2.size = 16) → (pick n l b).size = 16
  | [], b, hb, _ => hb
  | w :: r, b, hb, h => by
    show (pick n r (if w.1 = n then w.2 else b)).size = 16
    refine pick_size ?_ fun x hx => h x (List.mem_cons_of_mem _ hx)
    split
    · exact h w (List.mem_cons_self ..)
    · exact hb
theorem rdS_size {d : DS} (hR : DR d) {n : Int} (h0 : 0 ≤ n) (h1 : n < d.sec.length) : (rdS d n).size = 16 := by
  refine pick_size ?_ fun w hw => ?_
  · rw [List.getElem?_eq_getElem (by omega), Option.getD_some]
    exact hR.s _ _
  · obtain ⟨i, hi, rfl⟩ := List.mem_iff_getElem.1 hw
    exact (okW_out.1 (hR.c i hi)).2.2
theorem dread_yes {d : DS} (hR : DR d) {n : Int} (h0 : 0 ≤ n) (h1 : n < d.sec.length) : dreadM d n = (rdS d n, 0) := if_pos ⟨hR, h0, h1⟩
noncomputable def fixJ (d : DS) : List Jo := if (headM (rdS d 0)).2 = true then [wJ (2 * (headM (rdS d 0)).1 + 1) (rdS d 1), wJ (2 * (headM (rdS d 0)).1 + 1 + 1) (rdS d 2), syJ] else []
open Classical in
noncomputable def repairM (d : DS) : List Jo := if Us d then (if rdS d 0 = nul16 then [] else fixJ d ++ [wJ 0 nul16, syJ]) else []
theorem headG_at {s : ByteArray} : ∀ {n k : Nat}, (headG s n k).2 = true → (k : Int) ≤ (headG s n k).1 ∧ (headG s n k).1 < ((k + n : Nat) : Int) ∧ s = headJ (headG s n k).1.toNat
  | 0, k, h => by simp [headG] at h
  | n + 1, k, h => by
    rw [headG] at h ⊢
    split
    · rename_i e; exact ⟨by omega, by omega, by simpa using e⟩
    · rename_i e
      rw [if_neg e] at h
      have := headG_at h
      exact ⟨by omega, by omega, this.2.2⟩
theorem repair_ok (d : DS) : OCall Tryz.prog 71 [encDS d] ((repairM d).map encJ) 3 := by
  refine ocall_of Tryz.func71 1 rfl (by kernel_rfl) ?_
  conv => whnf
  repeat ((first | refine bF ?_ | refine bT ?_ | refine dK (by kernel_rfl) ?_ | refine cK rfl ?_ | refine cK (by first | decide | omega) ?_ | refine wK (by omega) (by omega) ?_); conv => whnf)
  refine callX_pure (usable_ok d) ?_
  conv => whnf
  repeat ((first | refine bF ?_ | refine bT ?_ | refine dK (by kernel_rfl) ?_ | refine cK rfl ?_ | refine cK (by first | decide | omega) ?_ | refine wK (by omega) (by omega) ?_); conv => whnf)
  refine bcase_intro (fun h1 => ?_) (fun h1 => ?_) <;> conv => whnf
  · repeat ((first | refine bF ?_ | refine bT ?_ | refine dK (by kernel_rfl) ?_ | refine cK rfl ?_ | refine cK (by first | decide | omega) ?_ | refine wK (by omega) (by omega) ?_); conv => whnf)
    rw [repairM, if_neg (fun q => by rw [usB_t.2 q] at h1; exact absurd h1 (by decide))]
    exact ⟨2, rfl, .inr ⟨rfl, rfl⟩⟩
  have hU : Us d := usB_t.1 (by simpa using h1)
  have hR := hU.dr
  have hn := hU.n
  rw [repairM, if_pos hU]
  repeat ((first | refine bF ?_ | refine bT ?_ | refine dK (by kernel_rfl) ?_ | refine cK rfl ?_ | refine cK (by first | decide | omega) ?_ | refine wK (by omega) (by omega) ?_); conv => whnf)
  refine callX_pure (dread_ok d 0) ?_
  conv => whnf
  repeat ((first | refine bF ?_ | refine bT ?_ | refine dK (by kernel_rfl) ?_ | refine cK rfl ?_ | refine cK (by first | decide | omega) ?_ | refine wK (by omega) (by omega) ?_); conv => whnf)
  rw [dread_yes hR (by decide) (by omega)]
  rw [show ({ data := #[0, 0, 0, 0, 0, 0, 0, 0, 0, 0, 0, 0, 0, 0, 0, 0] } : ByteArray) = nul16 from lit16_eq]
  refine bcase_p (fun h2 => ?_) (fun h2 => ?_) <;> conv => whnf
  · repeat ((first | refine bF ?_ | refine bT ?_ | refine dK (by kernel_rfl) ?_ | refine cK rfl ?_ | refine cK (by first | decide | omega) ?_ | refine wK (by omega) (by omega) ?_); conv => whnf)
    rw [if_pos h2]
    exact ⟨2, rfl, .inr ⟨rfl, rfl⟩⟩
  rw [if_neg h2]
  repeat ((first | refine bF ?_ | refine bT ?_ | refine dK (by kernel_rfl) ?_ | refine cK rfl ?_ | refine cK (by first | decide | omega) ?_ | refine wK (by omega) (by omega) ?_); conv => whnf)
  refine callX_pure (headed_ok (rdS d 0)) ?_
  conv => whnf
  repeat ((first | refine bF ?_ | refine bT ?_ | refine dK (by kernel_rfl) ?_ | refine cK rfl ?_ | refine cK (by first | decide | omega) ?_ | refine wK (by omega) (by omega) ?_); conv => whnf)
  refine bcase_intro (fun h3 => ?_) (fun h3 => ?_) <;> conv => whnf
  · obtain ⟨q1, q2, _⟩ := headG_at (show (headG (rdS d 0) 16 1).2 = true from h3)
    have q1 : 1 ≤ (headM (rdS d 0)).1 := q1
    have q2 : (headM (rdS d 0)).1 < 17 := q2
    repeat ((first | refine bF ?_ | refine bT ?_ | refine dK (by kernel_rfl) ?_ | refine cK rfl ?_ | refine cK (by first | decide | omega) ?_ | refine wK (by omega) (by omega) ?_); conv => whnf)
    refine callX_pure (dread_ok d 1) ?_
    conv => whnf
    repeat ((first | refine bF ?_ | refine bT ?_ | refine dK (by kernel_rfl) ?_ | refine cK rfl ?_ | refine cK (by first | decide | omega) ?_ | refine wK (by omega) (by omega) ?_); conv => whnf)
    rw [dread_yes hR (by decide) (by omega)]
    repeat ((first | refine bF ?_ | refine bT ?_ | refine dK (by kernel_rfl) ?_ | refine cK rfl ?_ | refine cK (by first | decide | omega) ?_ | refine wK (by omega) (by omega) ?_); conv => whnf)
    refine callX_pure (dread_ok d 2) ?_
    conv => whnf
    repeat ((first | refine bF ?_ | refine bT ?_ | refine dK (by kernel_rfl) ?_ | refine cK rfl ?_ | refine cK (by first | decide | omega) ?_ | refine wK (by omega) (by omega) ?_); conv => whnf)
    rw [dread_yes hR (by decide) (by omega)]
    obtain ⟨p, hp⟩ : ∃ p, (headM (rdS d 0)).1 = p := ⟨_, rfl⟩
    rw [fixJ, if_pos h3, hp]
    rw [hp] at q1 q2
    repeat ((first | refine bF ?_ | refine bT ?_ | refine dK (by kernel_rfl) ?_ | refine cK rfl ?_ | refine cK (by first | decide | omega) ?_ | refine wK (by omega) (by omega) ?_); conv => whnf)
    refine callX_pure (home_ok p (vaB_t.2 ⟨by omega, by omega⟩)) ?_
    conv => whnf
    repeat ((first | refine bF ?_ | refine bT ?_ | refine dK (by kernel_rfl) ?_ | refine cK rfl ?_ | refine cK (by first | decide | omega) ?_ | refine wK (by omega) (by omega) ?_); conv => whnf)
    refine callX_own (halves_ok (2 * p + 1) (rdS d 1) (rdS d 2) (by omega) (by omega)) ?_
    conv => whnf
    repeat ((first | refine bF ?_ | refine bT ?_ | refine dK (by kernel_rfl) ?_ | refine cK rfl ?_ | refine cK (by first | decide | omega) ?_ | refine wK (by omega) (by omega) ?_); conv => whnf)
    refine callX_own (top_ok nul16) ?_
    conv => whnf
    repeat ((first | refine bF ?_ | refine bT ?_ | refine dK (by kernel_rfl) ?_ | refine cK rfl ?_ | refine cK (by first | decide | omega) ?_ | refine wK (by omega) (by omega) ?_); conv => whnf)
    refine roomK_le 1000 1000 (by simp) (by decide) (by decide) (by decide) ?_
    conv => whnf
    exact ⟨2, rfl, .inl ⟨42, rfl, rfl⟩⟩
  · rw [fixJ, if_neg (by rw [h3]; decide)]
    repeat ((first | refine bF ?_ | refine bT ?_ | refine dK (by kernel_rfl) ?_ | refine cK rfl ?_ | refine cK (by first | decide | omega) ?_ | refine wK (by omega) (by omega) ?_); conv => whnf)
    refine callX_own (top_ok nul16) ?_
    conv => whnf
    repeat ((first | refine bF ?_ | refine bT ?_ | refine dK (by kernel_rfl) ?_ | refine cK rfl ?_ | refine cK (by first | decide | omega) ?_ | refine wK (by omega) (by omega) ?_); conv => whnf)
    refine roomK_le 1000 1000 (by simp) (by decide) (by decide) (by decide) ?_
    conv => whnf
    exact ⟨2, rfl, .inl ⟨45, rfl, rfl⟩⟩
noncomputable def commitM (d : DS) (p : Int) (s : ByteArray) : DS × Int := if (planM d p s).2 = 0 then (runM d (planM d p s).1 ((planM d p s).1.length : Nat), 0) else (d, (planM d p s).2)
theorem planM_len (d : DS) (p : Int) (s : ByteArray) : (planM d p s).1.length ≤ 10 := by
  rw [planM]; split
  · simp [planJ]
  · simp
theorem commit_ok (d : DS) (p : Int) (s : ByteArray) (hs : s.size ≤ 1000000) : ACall Tryz.prog 152 [encDS d, .int .i64 p, .str s] (.tup [encDS (commitM d p s).1, .int .i64 (commitM d p s).2]) := by
  refine acall_of Tryz.func152 3 rfl (by kernel_rfl) ?_
  conv => whnf
  repeat ((first | refine bF ?_ | refine bT ?_ | refine dK (by kernel_rfl) ?_ | refine cK rfl ?_ | refine cK (by first | decide | omega) ?_ | refine wK (by omega) (by omega) ?_); conv => whnf)
  refine callX_pure (plan_ok d p s hs) ?_
  conv => whnf
  repeat ((first | refine bF ?_ | refine bT ?_ | refine dK (by kernel_rfl) ?_ | refine cK rfl ?_ | refine cK (by first | decide | omega) ?_ | refine wK (by omega) (by omega) ?_); conv => whnf)
  have hl := planM_len d p s
  have hml : ((planM d p s).1.map encJ).length = (planM d p s).1.length := List.length_map ..
  refine bcase_n (fun h1 => ?_) (fun h1 => ?_) <;> conv => whnf
  · repeat ((first | refine bF ?_ | refine bT ?_ | refine dK (by kernel_rfl) ?_ | refine cK rfl ?_ | refine cK (by first | decide | omega) ?_ | refine wK (by omega) (by omega) ?_); conv => whnf)
    rw [commitM, if_neg h1]
    exact ret_of rfl rfl
  · rw [commitM, if_pos h1]
    repeat ((first | refine bF ?_ | refine bT ?_ | refine dK (by kernel_rfl) ?_ | refine cK rfl ?_ | refine cK (by first | decide | omega) ?_ | refine wK (by omega) (by omega) ?_); conv => whnf)
    rw [hml]
    refine callX_pure (run_ok d (planM d p s).1 ((planM d p s).1.length : Nat) (by omega)) ?_
    conv => whnf
    repeat ((first | refine bF ?_ | refine bT ?_ | refine dK (by kernel_rfl) ?_ | refine cK rfl ?_ | refine cK (by first | decide | omega) ?_ | refine wK (by omega) (by omega) ?_); conv => whnf)
    exact ret_of rfl rfl
theorem repairM_len (d : DS) : (repairM d).length ≤ 5 := by
  rw [repairM]; split
  · split
    · simp
    · rw [fixJ]; split <;> simp
  · simp
noncomputable def recM (d : DS) : DS := runM d (repairM d) ((repairM d).length : Nat)
theorem recover_ok (d : DS) : ACall Tryz.prog 50 [encDS d] (encDS (recM d)) := by
  refine acall_of Tryz.func50 1 rfl (by kernel_rfl) ?_
  conv => whnf
  repeat ((first | refine bF ?_ | refine bT ?_ | refine dK (by kernel_rfl) ?_ | refine cK rfl ?_ | refine cK (by first | decide | omega) ?_ | refine wK (by omega) (by omega) ?_); conv => whnf)
  refine callX_own (repair_ok d) ?_
  conv => whnf
  have hl := repairM_len d
  have hml : ((repairM d).map encJ).length = (repairM d).length := List.length_map ..
  repeat ((first | refine bF ?_ | refine bT ?_ | refine dK (by kernel_rfl) ?_ | refine cK rfl ?_ | refine cK (by first | decide | omega) ?_ | refine wK (by omega) (by omega) ?_); conv => whnf)
  rw [hml]
  refine callX_pure (run_ok d (repairM d) ((repairM d).length : Nat) (by omega)) ?_
  conv => whnf
  repeat ((first | refine bF ?_ | refine bT ?_ | refine dK (by kernel_rfl) ?_ | refine cK rfl ?_ | refine cK (by first | decide | omega) ?_ | refine wK (by omega) (by omega) ?_); conv => whnf)
  exact ret_of rfl rfl
open Classical in
noncomputable def getJ (d : DS) (p : Int) : ByteArray × Int := if Us d ∧ 1 ≤ p ∧ p ≤ 16 then (rdS d (2 * p + 1) ++ rdS d (2 * p + 1 + 1), 0) else (ByteArray.empty, 1)
theorem getJ_ok (d : DS) (p : Int) : ACall Tryz.prog 48 [encDS d, .int .i64 p] (.tup [.str (getJ d p).1, .int .i64 (getJ d p).2]) := by
  refine acall_of Tryz.func48 2 rfl (by kernel_rfl) ?_
  conv => whnf
  repeat ((first | refine bF ?_ | refine bT ?_ | refine dK (by kernel_rfl) ?_ | refine cK rfl ?_ | refine cK (by first | decide | omega) ?_ | refine wK (by omega) (by omega) ?_); conv => whnf)
  refine callX_pure (usable_ok d) ?_
  conv => whnf
  repeat ((first | refine bF ?_ | refine bT ?_ | refine dK (by kernel_rfl) ?_ | refine cK rfl ?_ | refine cK (by first | decide | omega) ?_ | refine wK (by omega) (by omega) ?_); conv => whnf)
  refine bcase_intro (fun h1 => ?_) (fun h1 => ?_) <;> conv => whnf
  · repeat ((first | refine bF ?_ | refine bT ?_ | refine dK (by kernel_rfl) ?_ | refine cK rfl ?_ | refine cK (by first | decide | omega) ?_ | refine wK (by omega) (by omega) ?_); conv => whnf)
    rw [getJ, if_neg (fun q => by rw [usB_t.2 q.1] at h1; exact absurd h1 (by decide))]
    exact ret_of rfl rfl
  have hU : Us d := usB_t.1 (by simpa using h1)
  have hR := hU.dr
  have hn := hU.n
  repeat ((first | refine bF ?_ | refine bT ?_ | refine dK (by kernel_rfl) ?_ | refine cK rfl ?_ | refine cK (by first | decide | omega) ?_ | refine wK (by omega) (by omega) ?_); conv => whnf)
  refine callX_pure (valid_ok p) ?_
  conv => whnf
  repeat ((first | refine bF ?_ | refine bT ?_ | refine dK (by kernel_rfl) ?_ | refine cK rfl ?_ | refine cK (by first | decide | omega) ?_ | refine wK (by omega) (by omega) ?_); conv => whnf)
  refine bcase_intro (fun h2 => ?_) (fun h2 => ?_) <;> conv => whnf
  · repeat ((first | refine bF ?_ | refine bT ?_ | refine dK (by kernel_rfl) ?_ | refine cK rfl ?_ | refine cK (by first | decide | omega) ?_ | refine wK (by omega) (by omega) ?_); conv => whnf)
    rw [getJ, if_neg (fun q => by rw [vaB_t.2 q.2] at h2; exact absurd h2 (by decide))]
    exact ret_of rfl rfl
  have hV := vaB_t.1 (show vaB p = true by simpa using h2)
  rw [getJ, if_pos ⟨hU, hV⟩]
  repeat ((first | refine bF ?_ | refine bT ?_ | refine dK (by kernel_rfl) ?_ | refine cK rfl ?_ | refine cK (by first | decide | omega) ?_ | refine wK (by omega) (by omega) ?_); conv => whnf)
  refine callX_pure (home_ok p (vaB_t.2 hV)) ?_
  conv => whnf
  repeat ((first | refine bF ?_ | refine bT ?_ | refine dK (by kernel_rfl) ?_ | refine cK rfl ?_ | refine cK (by first | decide | omega) ?_ | refine wK (by omega) (by omega) ?_); conv => whnf)
  refine callX_pure (dread_ok d (2 * p + 1)) ?_
  conv => whnf
  repeat ((first | refine bF ?_ | refine bT ?_ | refine dK (by kernel_rfl) ?_ | refine cK rfl ?_ | refine cK (by first | decide | omega) ?_ | refine wK (by omega) (by omega) ?_); conv => whnf)
  rw [dread_yes hR (by omega) (by omega)]
  repeat ((first | refine bF ?_ | refine bT ?_ | refine dK (by kernel_rfl) ?_ | refine cK rfl ?_ | refine cK (by first | decide | omega) ?_ | refine wK (by omega) (by omega) ?_); conv => whnf)
  refine callX_pure (home_ok p (vaB_t.2 hV)) ?_
  conv => whnf
  repeat ((first | refine bF ?_ | refine bT ?_ | refine dK (by kernel_rfl) ?_ | refine cK rfl ?_ | refine cK (by first | decide | omega) ?_ | refine wK (by omega) (by omega) ?_); conv => whnf)
  refine callX_pure (dread_ok d (2 * p + 1 + 1)) ?_
  conv => whnf
  repeat ((first | refine bF ?_ | refine bT ?_ | refine dK (by kernel_rfl) ?_ | refine cK rfl ?_ | refine cK (by first | decide | omega) ?_ | refine wK (by omega) (by omega) ?_); conv => whnf)
  rw [dread_yes hR (by omega) (by omega)]
  have z1 := rdS_size hR (show 0 ≤ 2 * p + 1 by omega) (by omega)
  have z2 := rdS_size hR (show 0 ≤ 2 * p + 1 + 1 by omega) (by omega)
  refine condK_of (by show (rdS d (2 * p + 1)).size + (rdS d (2 * p + 1 + 1)).size ≤ _; rw [z1, z2]; decide) ?_
  conv => whnf
  repeat ((first | refine bF ?_ | refine bT ?_ | refine dK (by kernel_rfl) ?_ | refine cK rfl ?_ | refine cK (by first | decide | omega) ?_ | refine wK (by omega) (by omega) ?_); conv => whnf)
  exact ret_of rfl rfl
end Go.Lk

namespace Go.Lk
open Go Go.Proofs Go.RowKit

/-! ### the store -/
theorem snoughts_ok : ACall Tryz.prog 128 [] (.str (nulB 32)) := by
  refine acall_of Tryz.func128 0 rfl (by kernel_rfl) ?_
  conv => whnf
  refine callX_pure (repeat_ok zero1 32 (by decide) (by decide)) ?_
  conv => whnf
  repeat ((first | refine bF ?_ | refine bT ?_ | refine dK (by kernel_rfl) ?_ | refine cK rfl ?_ | refine cK (by first | decide | omega) ?_ | refine wK (by omega) (by omega) ?_); conv => whnf)
  exact ret_of rfl rfl
noncomputable def getS (d : DS) (id : Int) : Pg × Int :=
  if (getJ d id).2 ≠ 0 then (zP, (getJ d id).2) else if (takeM (getJ d id).1).2 ≠ 0 then (zP, (takeM (getJ d id).1).2) else if (takeM (getJ d id).1).1.1 ≠ id then (zP, 9) else ((takeM (getJ d id).1).1, 0)
theorem getS_ok (d : DS) (id : Int) : ACall Tryz.prog 79 [encDS d, .int .i64 id] (.tup [.agg (encP (getS d id).1), .int .i64 (getS d id).2]) := by
  refine acall_of Tryz.func79 2 rfl (by kernel_rfl) ?_
  conv => whnf
  repeat ((first | refine bF ?_ | refine bT ?_ | refine dK (by kernel_rfl) ?_ | refine cK rfl ?_ | refine cK (by first | decide | omega) ?_ | refine wK (by omega) (by omega) ?_); conv => whnf)
  refine callX_pure (getJ_ok d id) ?_
  conv => whnf
  repeat ((first | refine bF ?_ | refine bT ?_ | refine dK (by kernel_rfl) ?_ | refine cK rfl ?_ | refine cK (by first | decide | omega) ?_ | refine wK (by omega) (by omega) ?_); conv => whnf)
  rw [getS]
  refine bcase_n (fun h1 => ?_) (fun h1 => ?_) <;> conv => whnf
  · repeat ((first | refine bF ?_ | refine bT ?_ | refine dK (by kernel_rfl) ?_ | refine cK rfl ?_ | refine cK (by first | decide | omega) ?_ | refine wK (by omega) (by omega) ?_); conv => whnf)
    rw [if_pos h1]
    exact ret_of rfl rfl
  rw [if_neg (fun q => q h1)]
  repeat ((first | refine bF ?_ | refine bT ?_ | refine dK (by kernel_rfl) ?_ | refine cK rfl ?_ | refine cK (by first | decide | omega) ?_ | refine wK (by omega) (by omega) ?_); conv => whnf)
  refine callX_pure (take_ok (getJ d id).1) ?_
  conv => whnf
  repeat ((first | refine bF ?_ | refine bT ?_ | refine dK (by kernel_rfl) ?_ | refine cK rfl ?_ | refine cK (by first | decide | omega) ?_ | refine wK (by omega) (by omega) ?_); conv => whnf)
  refine bcase_n (fun h2 => ?_) (fun h2 => ?_) <;> conv => whnf
  · repeat ((first | refine bF ?_ | refine bT ?_ | refine dK (by kernel_rfl) ?_ | refine cK rfl ?_ | refine cK (by first | decide | omega) ?_ | refine wK (by omega) (by omega) ?_); conv => whnf)
    rw [if_pos h2]
    exact ret_of rfl rfl
  rw [if_neg (fun q => q h2)]
  repeat ((first | refine bF ?_ | refine bT ?_ | refine dK (by kernel_rfl) ?_ | refine cK rfl ?_ | refine cK (by first | decide | omega) ?_ | refine wK (by omega) (by omega) ?_); conv => whnf)
  refine bcase_n (fun h3 => ?_) (fun h3 => ?_) <;> conv => whnf
  · repeat ((first | refine bF ?_ | refine bT ?_ | refine dK (by kernel_rfl) ?_ | refine cK rfl ?_ | refine cK (by first | decide | omega) ?_ | refine wK (by omega) (by omega) ?_); conv => whnf)
    rw [if_pos h3]
    exact ret_of rfl rfl
  rw [if_neg (fun q => q h3)]
  repeat ((first | refine bF ?_ | refine bT ?_ | refine dK (by kernel_rfl) ?_ | refine cK rfl ?_ | refine cK (by first | decide | omega) ?_ | refine wK (by omega) (by omega) ?_); conv => whnf)
  exact ret_of rfl rfl
theorem scommit_ok (d : DS) (p : Int) (s : ByteArray) (hs : s.size ≤ 1000000) : ACall Tryz.prog 127 [encDS d, .int .i64 p, .str s] (.tup [encDS (commitM d p s).1, .int .i64 (commitM d p s).2]) := by
  refine acall_of Tryz.func127 3 rfl (by kernel_rfl) ?_
  conv => whnf
  repeat ((first | refine bF ?_ | refine bT ?_ | refine dK (by kernel_rfl) ?_ | refine cK rfl ?_ | refine cK (by first | decide | omega) ?_ | refine wK (by omega) (by omega) ?_); conv => whnf)
  refine callX_pure (commit_ok d p s hs) ?_
  conv => whnf
  repeat ((first | refine bF ?_ | refine bT ?_ | refine dK (by kernel_rfl) ?_ | refine cK rfl ?_ | refine cK (by first | decide | omega) ?_ | refine wK (by omega) (by omega) ?_); conv => whnf)
  have hc : (commitM d p s).2 ≠ 0 → (commitM d p s).1 = d := fun h => by
    rw [commitM] at h ⊢
    split
    · rename_i q; rw [if_pos q] at h; exact absurd rfl h
    · rfl
  refine bcase_n (fun h1 => ?_) (fun h1 => ?_) <;> conv => whnf
  · repeat ((first | refine bF ?_ | refine bT ?_ | refine dK (by kernel_rfl) ?_ | refine cK rfl ?_ | refine cK (by first | decide | omega) ?_ | refine wK (by omega) (by omega) ?_); conv => whnf)
    rw [hc h1]
    exact ret_of rfl rfl
  · repeat ((first | refine bF ?_ | refine bT ?_ | refine dK (by kernel_rfl) ?_ | refine cK rfl ?_ | refine cK (by first | decide | omega) ?_ | refine wK (by omega) (by omega) ?_); conv => whnf)
    rw [h1]
    exact ret_of rfl rfl
open Classical in
noncomputable def setS (d : DS) (x : Pg) : DS × Int := if pgR x = true then commitM d x.1 (putB x) else (d, 1)
theorem setS_ok (d : DS) (x : Pg) : ACall Tryz.prog 132 [encDS d, .agg (encP x)] (.tup [encDS (setS d x).1, .int .i64 (setS d x).2]) := by
  refine acall_of Tryz.func132 2 rfl (by kernel_rfl) ?_
  conv => whnf
  repeat ((first | refine bF ?_ | refine bT ?_ | refine dK (by kernel_rfl) ?_ | refine cK rfl ?_ | refine cK (by first | decide | omega) ?_ | refine wK (by omega) (by omega) ?_); conv => whnf)
  have hput := put_ok x
  by_cases hR : pgR x = true
  · rw [if_pos hR] at hput
    rw [setS, if_pos hR]
    have hz := putB_size (pgR_out.1 hR).2.2.2.2
    refine callX_pure hput ?_
    conv => whnf
    repeat ((first | refine bF ?_ | refine bT ?_ | refine dK (by kernel_rfl) ?_ | refine cK rfl ?_ | refine cK (by first | decide | omega) ?_ | refine wK (by omega) (by omega) ?_); conv => whnf)
    refine callX_pure (scommit_ok d x.1 (putB x) (by omega)) ?_
    conv => whnf
    repeat ((first | refine bF ?_ | refine bT ?_ | refine dK (by kernel_rfl) ?_ | refine cK rfl ?_ | refine cK (by first | decide | omega) ?_ | refine wK (by omega) (by omega) ?_); conv => whnf)
    exact ret_of rfl rfl
  · rw [if_neg hR] at hput
    rw [setS, if_neg hR]
    refine callX_pure hput ?_
    conv => whnf
    repeat ((first | refine bF ?_ | refine bT ?_ | refine dK (by kernel_rfl) ?_ | refine cK rfl ?_ | refine cK (by first | decide | omega) ?_ | refine wK (by omega) (by omega) ?_); conv => whnf)
    exact ret_of rfl rfl
noncomputable def delD (d : DS) (id : Int) : DS × Int := commitM d id (nulB 32)
theorem delD_ok (d : DS) (id : Int) : ACall Tryz.prog 82 [encDS d, .int .i64 id] (.tup [encDS (delD d id).1, .int .i64 (delD d id).2]) := by
  refine acall_of Tryz.func82 2 rfl (by kernel_rfl) ?_
  conv => whnf
  repeat ((first | refine bF ?_ | refine bT ?_ | refine dK (by kernel_rfl) ?_ | refine cK rfl ?_ | refine cK (by first | decide | omega) ?_ | refine wK (by omega) (by omega) ?_); conv => whnf)
  refine callX_pure snoughts_ok ?_
  conv => whnf
  repeat ((first | refine bF ?_ | refine bT ?_ | refine dK (by kernel_rfl) ?_ | refine cK rfl ?_ | refine cK (by first | decide | omega) ?_ | refine wK (by omega) (by omega) ?_); conv => whnf)
  refine callX_pure (scommit_ok d id (nulB 32) (by rw [nulB_size]; decide)) ?_
  conv => whnf
  repeat ((first | refine bF ?_ | refine bT ?_ | refine dK (by kernel_rfl) ?_ | refine cK rfl ?_ | refine cK (by first | decide | omega) ?_ | refine wK (by omega) (by omega) ?_); conv => whnf)
  exact ret_of rfl rfl
open Classical in
noncomputable def stepsS (d : DS) (x : Pg) : List Jo := if x.2.1 ≠ 0 ∨ x.2.2 ≠ ByteArray.empty then (if pgR x = true then (planM d x.1 (putB x)).1 else []) else (planM d x.1 (nulB 32)).1
theorem plan_err {d : DS} {p : Int} {s : ByteArray} (h : (planM d p s).2 ≠ 0) : (planM d p s).1 = [] := by
  rw [planM] at h ⊢
  split
  · rename_i q; rw [if_pos q] at h; exact absurd rfl h
  · rfl
theorem stepsS_ok (d : DS) (x : Pg) : ACall Tryz.prog 83 [encDS d, .agg (encP x)] (.lst ((stepsS d x).map encJ)) := by
  refine acall_of Tryz.func83 2 rfl (by kernel_rfl) ?_
  conv => whnf
  repeat ((first | refine bF ?_ | refine bT ?_ | refine dK (by kernel_rfl) ?_ | refine cK rfl ?_ | refine cK (by first | decide | omega) ?_ | refine wK (by omega) (by omega) ?_); conv => whnf)
  refine callX_pure snoughts_ok ?_
  conv => whnf
  repeat ((first | refine bF ?_ | refine bT ?_ | refine dK (by kernel_rfl) ?_ | refine cK rfl ?_ | refine cK (by first | decide | omega) ?_ | refine wK (by omega) (by omega) ?_); conv => whnf)
  rw [stepsS]
  refine bcase_n (fun h1 => ?_) (fun h1 => ?_) <;> conv => whnf
  · rw [if_pos (.inl h1)]
    repeat ((first | refine bF ?_ | refine bT ?_ | refine dK (by kernel_rfl) ?_ | refine cK rfl ?_ | refine cK (by first | decide | omega) ?_ | refine wK (by omega) (by omega) ?_); conv => whnf)
    have hput := put_ok x
    by_cases hR : pgR x = true
    · rw [if_pos hR] at hput
      rw [if_pos hR]
      have hz := putB_size (pgR_out.1 hR).2.2.2.2
      refine callX_pure hput ?_
      conv => whnf
      repeat ((first | refine bF ?_ | refine bT ?_ | refine dK (by kernel_rfl) ?_ | refine cK rfl ?_ | refine cK (by first | decide | omega) ?_ | refine wK (by omega) (by omega) ?_); conv => whnf)
      refine callX_pure (plan_ok d x.1 (putB x) (by omega)) ?_
      conv => whnf
      repeat ((first | refine bF ?_ | refine bT ?_ | refine dK (by kernel_rfl) ?_ | refine cK rfl ?_ | refine cK (by first | decide | omega) ?_ | refine wK (by omega) (by omega) ?_); conv => whnf)
      refine bcase_n (fun h9 => ?_) (fun h9 => ?_) <;> conv => whnf
      · repeat ((first | refine bF ?_ | refine bT ?_ | refine dK (by kernel_rfl) ?_ | refine cK rfl ?_ | refine cK (by first | decide | omega) ?_ | refine wK (by omega) (by omega) ?_); conv => whnf)
        rw [plan_err h9]
        exact ret_of rfl rfl
      · repeat ((first | refine bF ?_ | refine bT ?_ | refine dK (by kernel_rfl) ?_ | refine cK rfl ?_ | refine cK (by first | decide | omega) ?_ | refine wK (by omega) (by omega) ?_); conv => whnf)
        exact ret_of rfl rfl
    · rw [if_neg hR] at hput
      rw [if_neg hR]
      refine callX_pure hput ?_
      conv => whnf
      repeat ((first | refine bF ?_ | refine bT ?_ | refine dK (by kernel_rfl) ?_ | refine cK rfl ?_ | refine cK (by first | decide | omega) ?_ | refine wK (by omega) (by omega) ?_); conv => whnf)
      exact ret_of rfl rfl
  · repeat ((first | refine bF ?_ | refine bT ?_ | refine dK (by kernel_rfl) ?_ | refine cK rfl ?_ | refine cK (by first | decide | omega) ?_ | refine wK (by omega) (by omega) ?_); conv => whnf)
    refine bcase_n (fun h2 => ?_) (fun h2 => ?_) <;> conv => whnf
    · rw [if_pos (.inr h2)]
      repeat ((first | refine bF ?_ | refine bT ?_ | refine dK (by kernel_rfl) ?_ | refine cK rfl ?_ | refine cK (by first | decide | omega) ?_ | refine wK (by omega) (by omega) ?_); conv => whnf)
      have hput := put_ok x
      by_cases hR : pgR x = true
      · rw [if_pos hR] at hput
        rw [if_pos hR]
        have hz := putB_size (pgR_out.1 hR).2.2.2.2
        refine callX_pure hput ?_
        conv => whnf
        repeat ((first | refine bF ?_ | refine bT ?_ | refine dK (by kernel_rfl) ?_ | refine cK rfl ?_ | refine cK (by first | decide | omega) ?_ | refine wK (by omega) (by omega) ?_); conv => whnf)
        refine callX_pure (plan_ok d x.1 (putB x) (by omega)) ?_
        conv => whnf
        repeat ((first | refine bF ?_ | refine bT ?_ | refine dK (by kernel_rfl) ?_ | refine cK rfl ?_ | refine cK (by first | decide | omega) ?_ | refine wK (by omega) (by omega) ?_); conv => whnf)
        refine bcase_n (fun h9 => ?_) (fun h9 => ?_) <;> conv => whnf
        · repeat ((first | refine bF ?_ | refine bT ?_ | refine dK (by kernel_rfl) ?_ | refine cK rfl ?_ | refine cK (by first | decide | omega) ?_ | refine wK (by omega) (by omega) ?_); conv => whnf)
          rw [plan_err h9]
          exact ret_of rfl rfl
        · repeat ((first | refine bF ?_ | refine bT ?_ | refine dK (by kernel_rfl) ?_ | refine cK rfl ?_ | refine cK (by first | decide | omega) ?_ | refine wK (by omega) (by omega) ?_); conv => whnf)
          exact ret_of rfl rfl
      · rw [if_neg hR] at hput
        rw [if_neg hR]
        refine callX_pure hput ?_
        conv => whnf
        repeat ((first | refine bF ?_ | refine bT ?_ | refine dK (by kernel_rfl) ?_ | refine cK rfl ?_ | refine cK (by first | decide | omega) ?_ | refine wK (by omega) (by omega) ?_); conv => whnf)
        exact ret_of rfl rfl
    · rw [if_neg (fun q => q.elim (fun q => q h1) (fun q => q h2))]
      repeat ((first | refine bF ?_ | refine bT ?_ | refine dK (by kernel_rfl) ?_ | refine cK rfl ?_ | refine cK (by first | decide | omega) ?_ | refine wK (by omega) (by omega) ?_); conv => whnf)
      refine callX_pure (plan_ok d x.1 (nulB 32) (by rw [nulB_size]; decide)) ?_
      conv => whnf
      repeat ((first | refine bF ?_ | refine bT ?_ | refine dK (by kernel_rfl) ?_ | refine cK rfl ?_ | refine cK (by first | decide | omega) ?_ | refine wK (by omega) (by omega) ?_); conv => whnf)
      refine bcase_n (fun h9 => ?_) (fun h9 => ?_) <;> conv => whnf
      · repeat ((first | refine bF ?_ | refine bT ?_ | refine dK (by kernel_rfl) ?_ | refine cK rfl ?_ | refine cK (by first | decide | omega) ?_ | refine wK (by omega) (by omega) ?_); conv => whnf)
        rw [plan_err h9]
        exact ret_of rfl rfl
      · repeat ((first | refine bF ?_ | refine bT ?_ | refine dK (by kernel_rfl) ?_ | refine cK rfl ?_ | refine cK (by first | decide | omega) ?_ | refine wK (by omega) (by omega) ?_); conv => whnf)
        exact ret_of rfl rfl
end Go.Lk

namespace Go.Lk
open Go Go.Proofs Go.RowKit

/-! ### the document's store -/
theorem may_ok (d : DS) : ACall Tryz.prog 22 [encDS d] (.bool (usB d)) := by
  refine acall_of Tryz.func22 1 rfl (by kernel_rfl) ?_
  conv => whnf
  have hm : (d.sec.map encB).length = d.sec.length := List.length_map ..
  repeat ((first | refine bF ?_ | refine bT ?_ | refine dK (by kernel_rfl) ?_ | refine cK rfl ?_ | refine cK (by first | decide | omega) ?_ | refine wK (by omega) (by omega) ?_); conv => whnf)
  refine callX_pure (rdRight_ok d) ?_
  conv => whnf
  repeat ((first | refine bF ?_ | refine bT ?_ | refine dK (by kernel_rfl) ?_ | refine cK rfl ?_ | refine cK (by first | decide | omega) ?_ | refine wK (by omega) (by omega) ?_); conv => whnf)
  refine bcase_intro (fun h1 => ?_) (fun h1 => ?_) <;> conv => whnf
  · have hR := drB_t.1 h1
    repeat ((first | refine bF ?_ | refine bT ?_ | refine dK (by kernel_rfl) ?_ | refine cK rfl ?_ | refine cK (by first | decide | omega) ?_ | refine wK (by omega) (by omega) ?_); conv => whnf)
    refine ret_of rfl (congrArg D.bool ?_)
    by_cases h : (34 : Int) < ((d.sec.map encB).length : Int)
    · rw [decide_eq_true h]; exact (usB_t.2 ⟨hR, by omega⟩).symm
    · rw [decide_eq_false h]; exact (usB_f.2 fun q => by have := q.n; omega).symm
  · repeat ((first | refine bF ?_ | refine bT ?_ | refine dK (by kernel_rfl) ?_ | refine cK rfl ?_ | refine cK (by first | decide | omega) ?_ | refine wK (by omega) (by omega) ?_); conv => whnf)
    exact ret_of rfl (congrArg D.bool (usB_f.2 fun q => drB_f.1 h1 q.dr).symm)
theorem rget12_ok (d : DS) (p : Int) (hU : Us d) (h1 : 1 ≤ p) (h2 : p ≤ 16) : ACall Tryz.prog 57 [encDS d, .int .i64 p] (.str (rdS d (2 * p + 1) ++ rdS d (2 * p + 1 + 1))) := by
  have hR := hU.dr
  have hn := hU.n
  have hc := hR.c1
  have z1 := rdS_size hR (show 0 ≤ 2 * p + 1 by omega) (by omega)
  have z2 := rdS_size hR (show 0 ≤ 2 * p + 1 + 1 by omega) (by omega)
  refine acall_of Tryz.func57 2 rfl (by kernel_rfl) ?_
  conv => whnf
  repeat ((first | refine bF ?_ | refine bT ?_ | refine dK (by kernel_rfl) ?_ | refine cK rfl ?_ | refine cK (by first | decide | omega) ?_ | refine wK (by omega) (by omega) ?_); conv => whnf)
  refine callX_pure (rread_ok d (2 * p + 1) (by omega) (by omega) (by omega)) ?_
  conv => whnf
  repeat ((first | refine bF ?_ | refine bT ?_ | refine dK (by kernel_rfl) ?_ | refine cK rfl ?_ | refine cK (by first | decide | omega) ?_ | refine wK (by omega) (by omega) ?_); conv => whnf)
  rw [show 2 * p + 2 = 2 * p + 1 + 1 by omega]
  refine callX_pure (rread_ok d (2 * p + 1 + 1) (by omega) (by omega) (by omega)) ?_
  conv => whnf
  repeat ((first | refine bF ?_ | refine bT ?_ | refine dK (by kernel_rfl) ?_ | refine cK rfl ?_ | refine cK (by first | decide | omega) ?_ | refine wK (by omega) (by omega) ?_); conv => whnf)
  exact ret_of rfl rfl
theorem getS_no {d : DS} {id : Int} (h : ¬ (Us d ∧ 1 ≤ id ∧ id ≤ 16)) : getS d id = (zP, 1) := by
  have : getJ d id = (ByteArray.empty, 1) := if_neg h
  rw [getS, this, if_pos (by decide)]
theorem getS_yes {d : DS} {id : Int} (h : Us d ∧ 1 ≤ id ∧ id ≤ 16) : getS d id = if (takeM (rdS d (2 * id + 1) ++ rdS d (2 * id + 1 + 1))).2 ≠ 0 then (zP, (takeM (rdS d (2 * id + 1) ++ rdS d (2 * id + 1 + 1))).2) else if (takeM (rdS d (2 * id + 1) ++ rdS d (2 * id + 1 + 1))).1.1 ≠ id then (zP, 9) else ((takeM (rdS d (2 * id + 1) ++ rdS d (2 * id + 1 + 1))).1, 0) := by
  have : getJ d id = (rdS d (2 * id + 1) ++ rdS d (2 * id + 1 + 1), 0) := if_pos h
  rw [getS, this, if_neg (fun q => q rfl)]
theorem rgetS_ok (d : DS) (id : Int) : ACall Tryz.prog 26 [encDS d, .int .i64 id] (.tup [.agg (encP (getS d id).1), .int .i64 (getS d id).2]) := by
  refine acall_of Tryz.func26 2 rfl (by kernel_rfl) ?_
  conv => whnf
  repeat ((first | refine bF ?_ | refine bT ?_ | refine dK (by kernel_rfl) ?_ | refine cK rfl ?_ | refine cK (by first | decide | omega) ?_ | refine wK (by omega) (by omega) ?_); conv => whnf)
  refine callX_pure (may_ok d) ?_
  conv => whnf
  repeat ((first | refine bF ?_ | refine bT ?_ | refine dK (by kernel_rfl) ?_ | refine cK rfl ?_ | refine cK (by first | decide | omega) ?_ | refine wK (by omega) (by omega) ?_); conv => whnf)
  refine bcase_intro (fun h1 => ?_) (fun h1 => ?_) <;> conv => whnf
  · repeat ((first | refine bF ?_ | refine bT ?_ | refine dK (by kernel_rfl) ?_ | refine cK rfl ?_ | refine cK (by first | decide | omega) ?_ | refine wK (by omega) (by omega) ?_); conv => whnf)
    rw [getS_no (fun q => by rw [usB_t.2 q.1] at h1; exact absurd h1 (by decide))]
    exact ret_of rfl rfl
  have hU : Us d := usB_t.1 (by simpa using h1)
  repeat ((first | refine bF ?_ | refine bT ?_ | refine dK (by kernel_rfl) ?_ | refine cK rfl ?_ | refine cK (by first | decide | omega) ?_ | refine wK (by omega) (by omega) ?_); conv => whnf)
  refine bcase_p (fun h2 => ?_) (fun h2 => ?_) <;> conv => whnf
  · repeat ((first | refine bF ?_ | refine bT ?_ | refine dK (by kernel_rfl) ?_ | refine cK rfl ?_ | refine cK (by first | decide | omega) ?_ | refine wK (by omega) (by omega) ?_); conv => whnf)
    rw [getS_no (by omega)]
    exact ret_of rfl rfl
  repeat ((first | refine bF ?_ | refine bT ?_ | refine dK (by kernel_rfl) ?_ | refine cK rfl ?_ | refine cK (by first | decide | omega) ?_ | refine wK (by omega) (by omega) ?_); conv => whnf)
  refine bcase_p (fun h3 => ?_) (fun h3 => ?_) <;> conv => whnf
  · repeat ((first | refine bF ?_ | refine bT ?_ | refine dK (by kernel_rfl) ?_ | refine cK rfl ?_ | refine cK (by first | decide | omega) ?_ | refine wK (by omega) (by omega) ?_); conv => whnf)
    rw [getS_no (by omega)]
    exact ret_of rfl rfl
  repeat ((first | refine bF ?_ | refine bT ?_ | refine dK (by kernel_rfl) ?_ | refine cK rfl ?_ | refine cK (by first | decide | omega) ?_ | refine wK (by omega) (by omega) ?_); conv => whnf)
  rw [getS_yes ⟨hU, by omega, by omega⟩]
  refine callX_pure (rget12_ok d id hU (by omega) (by omega)) ?_
  conv => whnf
  repeat ((first | refine bF ?_ | refine bT ?_ | refine dK (by kernel_rfl) ?_ | refine cK rfl ?_ | refine cK (by first | decide | omega) ?_ | refine wK (by omega) (by omega) ?_); conv => whnf)
  obtain ⟨t, ht⟩ : ∃ t, takeM (rdS d (2 * id + 1) ++ rdS d (2 * id + 1 + 1)) = t := ⟨_, rfl⟩
  have hk := rtake_ok (rdS d (2 * id + 1) ++ rdS d (2 * id + 1 + 1))
  rw [ht] at hk ⊢
  refine callX_pure hk ?_
  conv => whnf
  repeat ((first | refine bF ?_ | refine bT ?_ | refine dK (by kernel_rfl) ?_ | refine cK rfl ?_ | refine cK (by first | decide | omega) ?_ | refine wK (by omega) (by omega) ?_); conv => whnf)
  refine bcase_n (fun h4 => ?_) (fun h4 => ?_) <;> conv => whnf
  · repeat ((first | refine bF ?_ | refine bT ?_ | refine dK (by kernel_rfl) ?_ | refine cK rfl ?_ | refine cK (by first | decide | omega) ?_ | refine wK (by omega) (by omega) ?_); conv => whnf)
    rw [if_pos h4]
    exact ret_of rfl rfl
  rw [if_neg (fun q => q h4)]
  repeat ((first | refine bF ?_ | refine bT ?_ | refine dK (by kernel_rfl) ?_ | refine cK rfl ?_ | refine cK (by first | decide | omega) ?_ | refine wK (by omega) (by omega) ?_); conv => whnf)
  refine bcase_n (fun h5 => ?_) (fun h5 => ?_) <;> conv => whnf
  · repeat ((first | refine bF ?_ | refine bT ?_ | refine dK (by kernel_rfl) ?_ | refine cK rfl ?_ | refine cK (by first | decide | omega) ?_ | refine wK (by omega) (by omega) ?_); conv => whnf)
    rw [if_pos h5]
    exact ret_of rfl rfl
  rw [if_neg (fun q => q h5)]
  repeat ((first | refine bF ?_ | refine bT ?_ | refine dK (by kernel_rfl) ?_ | refine cK rfl ?_ | refine cK (by first | decide | omega) ?_ | refine wK (by omega) (by omega) ?_); conv => whnf)
  exact ret_of rfl rfl
end Go.Lk

namespace Go.Lk
open Go Go.Proofs Go.RowKit

/-! ### a page on a disk at rest -/
/-- sectors of a disk at rest that the journal may use -/
structure Rest (s : List ByteArray) : Prop where
  n : 35 ≤ s.length
  m : s.length ≤ 64
  z : ∀ i, (h : i < s.length) → s[i].size = 16
theorem Rest.dr {s : List ByteArray} (h : Rest s) {l : List Wt} (hl : l.length ≤ 200) (hw : ∀ w ∈ l, okW s.length w = true) : DR ⟨s, l⟩ :=
  ⟨by have := h.n; simp only []; omega, h.m, hl, h.z, fun i hi => hw _ (List.getElem_mem hi)⟩
theorem Rest.us {s : List ByteArray} (h : Rest s) : Us ⟨s, []⟩ := ⟨h.dr (by simp) (by simp), h.n⟩
theorem us_rest {d : DS} (h : Us d) (hc : d.ca = []) : Rest d.sec ∧ d = ⟨d.sec, []⟩ := ⟨⟨h.n, h.dr.s2, h.dr.s⟩, by cases d; simp only at hc; subst hc; rfl⟩
theorem Rest.set {s : List ByteArray} (h : Rest s) (i : Nat) {b : ByteArray} (hb : b.size = 16) : Rest (s.set i b) := by
  refine ⟨by rw [List.length_set]; exact h.n, by rw [List.length_set]; exact h.m, fun j hj => ?_⟩
  rw [List.getElem_set]
  split
  · exact hb
  · exact h.z _ _
theorem step_put {s : List ByteArray} (h : Rest s) {l : List Wt} {n : Int} {b : ByteArray} (hl : l.length < 200) (hw : ∀ w ∈ l, okW s.length w = true) (h0 : 0 ≤ n) (h1 : n < s.length) (hb : b.size = 16) :
    stepJ ⟨s, l⟩ (wJ n b) = ⟨s, l ++ [(n, b)]⟩ ∧ ∀ w ∈ l ++ [(n, b)], okW s.length w = true := by
  have hk : okW s.length (n, b) = true := okW_out.2 ⟨h0, h1, hb⟩
  constructor
  · show (putM ⟨s, l⟩ (n, b)).1 = _
    rw [putM, if_pos ⟨h.dr (by omega) hw, hk⟩, if_neg (by simp only []; omega)]
  · intro w hm
    rcases List.mem_append.1 hm with q | q
    · exact hw w q
    · rw [List.mem_singleton] at q; subst q; exact hk
theorem step_sync {s : List ByteArray} (h : Rest s) {l : List Wt} (hl : l.length ≤ 200) (hw : ∀ w ∈ l, okW s.length w = true) : stepJ ⟨s, l⟩ syJ = ⟨wrS s l, []⟩ := by
  show syncM ⟨s, l⟩ = _
  rw [syncM, if_pos (h.dr hl hw)]
theorem step1 {s : List ByteArray} (h : Rest s) {n : Int} {b : ByteArray} (h0 : 0 ≤ n) (h1 : n < s.length) (hb : b.size = 16) : [wJ n b, syJ].foldl stepJ ⟨s, []⟩ = ⟨s.set n.toNat b, []⟩ := by
  obtain ⟨e1, w1⟩ := step_put h (l := []) (by simp) (by simp) h0 h1 hb
  simp only [List.foldl_cons, List.foldl_nil, e1]
  rw [step_sync h (by simp) w1]
  rfl
theorem step2 {s : List ByteArray} (h : Rest s) {n m : Int} {b c : ByteArray} (h0 : 0 ≤ n) (h1 : n < s.length) (hb : b.size = 16) (h2 : 0 ≤ m) (h3 : m < s.length) (hc : c.size = 16) : [wJ n b, wJ m c, syJ].foldl stepJ ⟨s, []⟩ = ⟨(s.set n.toNat b).set m.toNat c, []⟩ := by
  obtain ⟨e1, w1⟩ := step_put h (l := []) (by simp) (by simp) h0 h1 hb
  obtain ⟨e2, w2⟩ := step_put h (l := [] ++ [(n, b)]) (by simp) w1 h2 h3 hc
  simp only [List.foldl_cons, List.foldl_nil, e1, e2]
  rw [step_sync h (by simp) w2]
  rfl
/-- what a plan leaves -/
def setD (s : List ByteArray) (p : Nat) (a b : ByteArray) : List ByteArray := (((((s.set 1 a).set 2 b).set 0 (headJ p)).set (2 * p + 1) a).set (2 * p + 2) b).set 0 nul16
theorem nul16_size : nul16.size = 16 := nulB_size 16
theorem ext_size {s : ByteArray} (h : s.size = 32) : (s.extract 0 16).size = 16 ∧ (s.extract 16 32).size = 16 := by
  have hb : (bl s).length = 32 := by rw [bl_len]; exact h
  constructor
  · rw [← bl_len, bl_extract, List.length_take, List.length_drop]; omega
  · rw [← bl_len, bl_extract, List.length_take, List.length_drop]; omega
theorem ext_app {s : ByteArray} (h : s.size = 32) : s.extract 0 16 ++ s.extract 16 32 = s := by
  have hb : (bl s).length = 32 := by rw [bl_len]; exact h
  apply bl_ext
  rw [bl_app, bl_extract, bl_extract, List.drop_zero]
  rw [List.take_of_length_le (show ((bl s).drop 16).length ≤ 32 - 16 by rw [List.length_drop]; omega)]
  exact List.take_append_drop 16 (bl s)
theorem plan_runs {s : List ByteArray} (h : Rest s) {p : Nat} (h1 : 1 ≤ p) (h16 : p ≤ 16) {x : ByteArray} (hx : x.size = 32) : (planJ p x).foldl stepJ ⟨s, []⟩ = ⟨setD s p (x.extract 0 16) (x.extract 16 32), []⟩ := by
  obtain ⟨ha, hb⟩ := ext_size hx
  have hn := h.n
  rw [planJ, List.foldl_append, List.foldl_append, List.foldl_append]
  rw [step2 h (by decide) (by omega) ha (by decide) (by omega) hb]
  have r1 := (h.set 1 ha).set 2 hb
  have l1 : ((s.set 1 (x.extract 0 16)).set 2 (x.extract 16 32)).length = s.length := by simp
  rw [show ((1 : Int).toNat) = 1 from rfl, show ((2 : Int).toNat) = 2 from rfl]
  rw [step1 r1 (by decide) (by omega) (headJ_size p)]
  have r2 := r1.set 0 (headJ_size p)
  have l2 : (((s.set 1 (x.extract 0 16)).set 2 (x.extract 16 32)).set 0 (headJ p)).length = s.length := by simp
  rw [show ((0 : Int).toNat) = 0 from rfl]
  rw [step2 r2 (by omega) (by omega) ha (by omega) (by omega) hb]
  rw [show (2 * (p : Int) + 1).toNat = 2 * p + 1 by omega, show (2 * (p : Int) + 1 + 1).toNat = 2 * p + 2 by omega]
  have r3 := (r2.set (2 * p + 1) ha).set (2 * p + 2) hb
  rw [step1 r3 (by decide) (by simp; omega) nul16_size]
  rfl
theorem Rest.setD {s : List ByteArray} (h : Rest s) {p : Nat} {a b : ByteArray} (ha : a.size = 16) (hb : b.size = 16) : Rest (setD s p a b) :=
  (((((h.set 1 ha).set 2 hb).set 0 (headJ_size p)).set _ ha).set _ hb).set 0 nul16_size
theorem setD_len (s : List ByteArray) (p : Nat) (a b : ByteArray) : (setD s p a b).length = s.length := by simp [setD]
/-- a page's bytes, on a disk at rest -/
def raw (s : List ByteArray) (p : Nat) : ByteArray := s[2 * p + 1]?.getD ByteArray.empty ++ s[2 * p + 2]?.getD ByteArray.empty
theorem raw_same {s : List ByteArray} (h : Rest s) {p : Nat} (h1 : 1 ≤ p) (h16 : p ≤ 16) {a b : ByteArray} : raw (setD s p a b) p = a ++ b := by
  have hn := h.n
  simp only [raw, setD, List.getElem?_set, List.length_set]
  simp
  rw [if_pos (by omega), if_pos (by omega)]
  simp
theorem raw_other {s : List ByteArray} {p q : Nat} (h1 : 1 ≤ q) (hne : p ≠ q) {a b : ByteArray} : raw (setD s p a b) q = raw s q := by
  simp only [raw, setD, List.getElem?_set, List.length_set]
  rw [if_neg (by omega), if_neg (by omega), if_neg (by omega), if_neg (by omega), if_neg (by omega), if_neg (by omega), if_neg (by omega), if_neg (by omega), if_neg (by omega), if_neg (by omega), if_neg (by omega), if_neg (by omega)]
end Go.Lk


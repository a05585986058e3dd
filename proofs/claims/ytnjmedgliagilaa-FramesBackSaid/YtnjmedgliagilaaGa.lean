/-
  What is proved here: what the items of dirty do; no condition beyond each theorem's own.
-/
import Derived.Test.YtnjmedgliagilaaFb
import Derived.Test.YtnjmedgliagilaaProg
import Derived.Test.YtnjmedgliagilaaFh
set_option linter.unusedSectionVars false
namespace Go.Lk
open Go
def tt0 : TT := (.node 11 ⟨.str, 1, 16, [.str .empty]⟩ (.node 5 ⟨.int .u8, 1, 1, [.int .u8 0]⟩ (.node 3 ⟨.int .i64, 1, 8, [.int .i64 0]⟩ (.node 2 ⟨.int .i64, 1, 8, [.int .i64 0]⟩ .leaf .leaf) (.node 4 ⟨.bool, 1, 1, [.bool false]⟩ .leaf .leaf)) (.node 9 ⟨.str, 1, 16, [.str .empty]⟩ (.node 6 ⟨.int .u8, 1, 1, [.int .u8 0]⟩ .leaf .leaf) (.node 10 ⟨.str, 1, 16, [.str .empty]⟩ .leaf .leaf))) (.node 17 ⟨.ptr 168, 1, 8, [.nilp]⟩ (.node 15 ⟨.ptr 156, 1, 8, [.nilp]⟩ (.node 12 ⟨.int .u64, 1, 8, [.int .u64 0]⟩ .leaf .leaf) (.node 16 ⟨.ptr 159, 1, 8, [.nilp]⟩ .leaf .leaf)) (.node 22 ⟨.slice 48, 1, 24, [.lst []]⟩ (.node 21 ⟨.int .i32, 1, 4, [.int .i32 0]⟩ .leaf .leaf) (.node 23 ⟨.struct [(0, 22), (1, 3)], 2, 32, [.lst [], .int .i64 0]⟩ .leaf .leaf))))
def tt1 : TT := (.node 32 ⟨.slice 61, 1, 24, [.lst []]⟩ (.node 28 ⟨.slice 46, 1, 24, [.lst []]⟩ (.node 26 ⟨.struct [(0, 25)], 1, 24, [.lst []]⟩ (.node 25 ⟨.slice 75, 1, 24, [.lst []]⟩ .leaf .leaf) (.node 27 ⟨.struct [(0, 25)], 1, 24, [.lst []]⟩ .leaf .leaf)) (.node 30 ⟨.struct [(0, 24), (2, 27), (3, 28), (4, 29)], 5, 104, [.lst [], .int .i64 0, .lst [], .lst [], .lst []]⟩ (.node 29 ⟨.slice 78, 1, 24, [.lst []]⟩ .leaf .leaf) (.node 31 ⟨.struct [(0, 24), (2, 27), (3, 28), (4, 29)], 5, 104, [.lst [], .int .i64 0, .lst [], .lst [], .lst []]⟩ .leaf .leaf))) (.node 36 ⟨.struct [(0, 35)], 1, 24, [.lst []]⟩ (.node 34 ⟨.struct [(0, 32), (1, 3)], 2, 32, [.lst [], .int .i64 0]⟩ (.node 33 ⟨.struct [(0, 32), (1, 3)], 2, 32, [.lst [], .int .i64 0]⟩ .leaf .leaf) (.node 35 ⟨.slice 76, 1, 24, [.lst []]⟩ .leaf .leaf)) (.node 38 ⟨.slice 79, 1, 24, [.lst []]⟩ (.node 37 ⟨.struct [(0, 35)], 1, 24, [.lst []]⟩ .leaf .leaf) (.node 39 ⟨.struct [(0, 34), (2, 37), (3, 28), (4, 38)], 5, 104, [.lst [], .int .i64 0, .lst [], .lst [], .lst []]⟩ .leaf .leaf))))
def tt2 : TT := (.node 69 ⟨.arr 17 3, 17, 136, [.int .i64 0, .int .i64 0, .int .i64 0, .int .i64 0, .int .i64 0, .int .i64 0, .int .i64 0, .int .i64 0, .int .i64 0, .int .i64 0, .int .i64 0, .int .i64 0, .int .i64 0, .int .i64 0, .int .i64 0, .int .i64 0, .int .i64 0]⟩ (.node 48 ⟨.struct [(0, 3), (1, 3), (2, 4)], 3, 24, [.int .i64 0, .int .i64 0, .bool false]⟩ (.node 46 ⟨.struct [(0, 3), (1, 3), (2, 9)], 3, 32, [.int .i64 0, .int .i64 0, .str .empty]⟩ (.node 45 ⟨.struct [(0, 3), (1, 3), (2, 9)], 3, 32, [.int .i64 0, .int .i64 0, .str .empty]⟩ .leaf .leaf) (.node 47 ⟨.struct [(0, 3), (1, 3), (2, 4)], 3, 24, [.int .i64 0, .int .i64 0, .bool false]⟩ .leaf .leaf)) (.node 61 ⟨.struct [(0, 3), (1, 3), (2, 4)], 3, 24, [.int .i64 0, .int .i64 0, .bool false]⟩ (.node 49 ⟨.int .i64, 1, 8, [.int .i64 0]⟩ .leaf .leaf) (.node 68 ⟨.slice 71, 1, 24, [.lst []]⟩ .leaf .leaf))) (.node 75 ⟨.struct [(0, 3), (1, 3)], 2, 16, [.int .i64 0, .int .i64 0]⟩ (.node 71 ⟨.struct [(0, 3), (1, 3), (2, 3), (3, 9), (4, 46)], 7, 72, [.int .i64 0, .int .i64 0, .int .i64 0, .str .empty, .int .i64 0, .int .i64 0, .str .empty]⟩ (.node 70 ⟨.struct [(0, 3), (1, 3), (2, 3), (3, 9), (4, 46)], 7, 72, [.int .i64 0, .int .i64 0, .int .i64 0, .str .empty, .int .i64 0, .int .i64 0, .str .empty]⟩ .leaf .leaf) (.node 74 ⟨.struct [(0, 3), (1, 3)], 2, 16, [.int .i64 0, .int .i64 0]⟩ .leaf .leaf)) (.node 77 ⟨.struct [(0, 3), (1, 3)], 2, 16, [.int .i64 0, .int .i64 0]⟩ (.node 76 ⟨.struct [(0, 3), (1, 3)], 2, 16, [.int .i64 0, .int .i64 0]⟩ .leaf .leaf) (.node 78 ⟨.struct [(0, 3), (1, 3)], 2, 16, [.int .i64 0, .int .i64 0]⟩ .leaf .leaf))))
def tt3 : TT := (.node 145 ⟨.int .u64, 1, 8, [.int .u64 0]⟩ (.node 132 ⟨.arr 16 76, 32, 256, List.replicate 32 (.int .i64 0)⟩ (.node 112 ⟨.arr 17 4, 17, 17, [.bool false, .bool false, .bool false, .bool false, .bool false, .bool false, .bool false, .bool false, .bool false, .bool false, .bool false, .bool false, .bool false, .bool false, .bool false, .bool false, .bool false]⟩ (.node 94 ⟨.slice 3, 1, 24, [.lst []]⟩ .leaf .leaf) (.node 131 ⟨.int .u64, 1, 8, [.int .u64 0]⟩ .leaf .leaf)) (.node 142 ⟨.int .u32, 1, 4, [.int .u32 0]⟩ (.node 135 ⟨.int .i64, 1, 8, [.int .i64 0]⟩ .leaf .leaf) (.node 144 ⟨.int .u64, 1, 8, [.int .u64 0]⟩ .leaf .leaf))) (.node 162 ⟨.int .u8, 1, 1, [.int .u8 0]⟩ (.node 151 ⟨.ptr 145, 1, 8, [.nilp]⟩ (.node 149 ⟨.ptr 3, 1, 8, [.nilp]⟩ .leaf .leaf) (.node 161 ⟨.int .u8, 1, 1, [.int .u8 0]⟩ .leaf .leaf)) (.node 165 ⟨.int .i32, 1, 4, [.int .i32 0]⟩ (.node 164 ⟨.ptr 5, 1, 8, [.nilp]⟩ .leaf .leaf) (.node 166 ⟨.int .i32, 1, 4, [.int .i32 0]⟩ .leaf .leaf))))
def tt : TT := (.node 40 ⟨.struct [(0, 34), (2, 37), (3, 28), (4, 38)], 5, 104, [.lst [], .int .i64 0, .lst [], .lst [], .lst []]⟩ (.node 24 ⟨.struct [(0, 22), (1, 3)], 2, 32, [.lst [], .int .i64 0]⟩ tt0 tt1) (.node 79 ⟨.struct [(0, 3), (1, 3)], 2, 16, [.int .i64 0, .int .i64 0]⟩ tt2 tt3))
def T : Tab := fun t => tt.get t
theorem tabOk : TabOk Go.Proofs.Try.prog T := tabOk_of (by kernel_rfl)
end Go.Lk

set_option linter.unusedVariables false
namespace Go.Lk
open Go Go.Proofs Go.RowKit
theorem mixed : Try.prog.follows .mixedOrders = true := by kernel_rfl
theorem acall_of {f : FuncId} {fn : Func} {args : List D} {d : D} (hf : Try.prog.funcs[f]? = some fn) (n : Nat) (hn : args.length = n) (hc : fnChk fn n = true) (h : AFn T Try.prog fn args d) : ACall Try.prog f args d :=
  acall_sound tabOk mixed hf (by subst hn; exact hc) h
theorem ocall_of {f : FuncId} {fn : Func} {args : List D} {l : List (List D)} {sz : Nat} (hf : Try.prog.funcs[f]? = some fn) (n : Nat) (hn : args.length = n) (hc : fnChk fn n = true) (h : AFnO T Try.prog fn args l sz) : OCall Try.prog f args l sz :=
  ocall_sound tabOk mixed hf (by subst hn; exact hc) h
end Go.Lk

set_option linter.unusedSimpArgs false
set_option linter.unusedVariables false
set_option linter.unnecessarySimpa false
namespace Go.Lk.Dt
open Go Go.Proofs Go.RowKit Go.Lk
def pageB (n : Int) : Bool := decide (1 ≤ n) && decide (n ≤ 16)
def timeB (n : Int) : Bool := decide (0 ≤ n) && decide (n ≤ 2147483647)
theorem isPage_ok (n : Int) : ACall Try.prog 64 [.int .i64 n] (.bool (pageB n)) := by
  refine acall_of Try.func64 1 rfl (by kernel_rfl) ?_
  conv => whnf
  refine bcase_p (fun h => ?_) (fun h => ?_) <;> conv => whnf
  · exact ret_of rfl (by simp [pageB, h])
  · exact ret_of rfl (by simp [pageB, h])
theorem isTime_ok (n : Int) : ACall Try.prog 65 [.int .i64 n] (.bool (timeB n)) := by
  refine acall_of Try.func65 1 rfl (by kernel_rfl) ?_
  conv => whnf
  refine bcase_p (fun h => ?_) (fun h => ?_) <;> conv => whnf
  · exact ret_of rfl (by simp [timeB, h])
  · exact ret_of rfl (by simp [timeB, h])

def placeG (l : List (Int × Int)) (n : Int) (k : Nat) : Int :=
  match l with
  | [] => -1
  | p :: r => if p.1 = n then (k : Int) else placeG r n (k + 1)

theorem place_ok (l : List (Int × Int)) (n : Int) (hl : l.length ≤ 1000000) : ACall Try.prog 57 [encIs l, .int .i64 n] (.int .i64 (placeG l n 0)) := by
  refine acall_of Try.func57 2 rfl (by kernel_rfl) ?_
  conv => whnf
  refine aloop (ι := Nat) (fun k => [(1, .d (.int .i64 n)), (7, .d (encIs l)), (8, .d (.int .i64 (l.map encI).length)), (9, .d (.int .i64 k))]) (fun _ => [])
    (fun k => k ≤ l.length ∧ placeG (l.drop k) n k = placeG l n 0) (fun k => l.length - k) 0 ⟨Nat.zero_le _, rfl⟩ (le0 (le_of_cov ⟨rfl, rfl, rfl, rfl, trivial⟩ trivial ⟨rfl, rfl, rfl, rfl⟩)) ?_
  rintro k ⟨hk, hR⟩
  conv => whnf
  refine bcase_p (fun h => ?_) (fun h => ?_) <;> conv => whnf
  · have hk2 : k < l.length := by simpa using h
    refine idxK_nat (by simpa using hk2) ?_
    conv => whnf
    refine getRow_of (x := encI l[k]) (by simp [hk2]) ?_
    conv => whnf
    refine condK_of rfl ?_
    conv => whnf
    refine condK_of rfl ?_
    conv => whnf
    rw [drop_cons hk2, placeG] at hR
    refine bcase_p (fun h2 => ?_) (fun h2 => ?_) <;> conv => whnf
    · rw [if_pos h2] at hR
      exact ret_of rfl (by rw [← hR]; rfl)
    · rw [if_neg h2] at hR
      refine wrapK_in (w64 (by omega) (by omega)) ?_
      conv => whnf
      exact ⟨k + 1, ⟨by omega, hR⟩, by omega, le0 (le_of_cov ⟨rfl, rfl, rfl, rfl, trivial⟩ trivial ⟨rfl, rfl, rfl, rfl⟩)⟩
  · have : k = l.length := by simp at h; omega
    subst this
    simp [placeG] at hR
    exact ret_of rfl (by rw [← hR]; rfl)

def okAt (l : List (Int × Int)) (i : Nat) : Bool :=
  match l[i]? with
  | none => true
  | some p => pageB p.1 && timeB p.2 && !(decide (0 ≤ placeG (l.take i) p.1 0)) && !(decide (0 < i) && decide (p.2 < (l[i-1]?.getD (0,0)).2))
def rightB (l : List (Int × Int)) : Bool := decide (l.length ≤ 16) && (List.range l.length).all (okAt l)
theorem rightB_no {l : List (Int × Int)} {k : Nat} (hk : k < l.length) (h : okAt l k = false) : rightB l = false := by
  unfold rightB
  have : (List.range l.length).all (okAt l) = false := by
    rw [List.all_eq_false]
    exact ⟨k, by simpa using hk, by simp [h]⟩
  rw [this]; simp

theorem right_ok (l : List (Int × Int)) (hl : l.length ≤ 1000000) : ACall Try.prog 36 [encIs l] (.bool (rightB l)) := by
  refine acall_of Try.func36 1 rfl (by kernel_rfl) ?_
  conv => whnf
  refine bcase_p (fun h0 => ?_) (fun h0 => ?_) <;> conv => whnf
  · simp at h0
    exact ret_of rfl (by simp [rightB]; omega)
  have hlen : l.length ≤ 16 := by simp at h0; omega
  refine aloop (ι := Nat) (fun k => [(0, .d (encIs l)), (8, .d (encIs l)), (9, .d (.int .i64 (l.map encI).length)), (10, .d (.int .i64 k))]) (fun _ => [])
    (fun k => k ≤ l.length ∧ ∀ j, j < k → okAt l j = true) (fun k => l.length - k) 0 ⟨Nat.zero_le _, fun j h => absurd h (Nat.not_lt_zero _)⟩ (le0 (le_of_cov ⟨rfl, rfl, rfl, rfl, trivial⟩ trivial ⟨rfl, rfl, rfl, rfl⟩)) ?_
  rintro k ⟨hk, hR⟩
  conv => whnf
  refine bcase_p (fun h => ?_) (fun h => ?_) <;> conv => whnf
  · have hk2 : k < l.length := by simpa using h
    have hat : okAt l k = (pageB l[k].1 && timeB l[k].2 && !(decide (0 ≤ placeG (l.take k) l[k].1 0)) && !(decide (0 < k) && decide (l[k].2 < (l[k-1]?.getD (0,0)).2))) := by simp [okAt, hk2]
    refine idxK_nat (by simpa using hk2) ?_
    conv => whnf
    refine getRow_of (x := encI l[k]) (by simp [hk2]) ?_
    conv => whnf
    refine condK_of rfl ?_
    conv => whnf
    refine condK_of rfl ?_
    conv => whnf
    refine callX_pure (isPage_ok _) ?_
    conv => whnf
    refine bcase_intro (fun h1 => ?_) (fun h1 => ?_) <;> conv => whnf
    · simp at h1
      exact ret_of rfl (congrArg D.bool (rightB_no hk2 (by rw [hat, h1]; rfl)).symm)
    refine condK_of rfl ?_
    conv => whnf
    refine callX_pure (isTime_ok _) ?_
    conv => whnf
    refine bcase_intro (fun h2 => ?_) (fun h2 => ?_) <;> conv => whnf
    · simp at h2
      exact ret_of rfl (congrArg D.bool (rightB_no hk2 (by rw [hat, h2]; simp)).symm)
    simp at h1 h2
    refine condK_of (fun e he => encI_len he) ?_
    conv => whnf
    refine sliceK_hi (by simpa using Nat.le_of_lt hk2) ?_
    conv => whnf
    refine condK_of rfl ?_
    conv => whnf
    refine callX_pure (d := .int .i64 (placeG (l.take k) l[k].1 0)) (by simpa [encIs, List.map_take] using place_ok (l.take k) l[k].1 (by simp; omega)) ?_
    conv => whnf
    refine condK_of rfl ?_
    conv => whnf
    refine bcase_p (fun h3 => ?_) (fun h3 => ?_) <;> conv => whnf
    · exact ret_of rfl (congrArg D.bool (rightB_no hk2 (by rw [hat]; simp [h3])).symm)
    refine bcase_p (fun h4 => ?_) (fun h4 => ?_) <;> conv => whnf
    · repeat (first | (refine bcase_f rfl ?_; conv => whnf) | (refine bcase_t rfl ?_; conv => whnf) | (refine condK_of rfl ?_; conv => whnf) | (refine condK_of (by decide) ?_; conv => whnf) | (refine condK_of (by omega) ?_; conv => whnf) | (refine wrapK_in (w64 (by omega) (by omega)) ?_; conv => whnf))
      refine idxK_int (by omega) (by simp; omega) ?_
      conv => whnf
      refine getRow_of (x := encI l[k-1]) (by rw [show ((k:Int) - 1).toNat = k - 1 by omega]; simp [show k - 1 < l.length by omega]) ?_
      conv => whnf
      repeat (first | (refine bcase_f rfl ?_; conv => whnf) | (refine bcase_t rfl ?_; conv => whnf) | (refine condK_of rfl ?_; conv => whnf) | (refine condK_of (by decide) ?_; conv => whnf) | (refine condK_of (by omega) ?_; conv => whnf) | (refine wrapK_in (w64 (by omega) (by omega)) ?_; conv => whnf))
      refine bcase_p (fun h5 => ?_) (fun h5 => ?_) <;> conv => whnf
      · refine ret_of rfl ?_
        rw [rightB_no hk2 (by rw [hat]; simp [show k - 1 < l.length by omega, h5]; intros; omega)]
        rfl
      repeat (first | (refine bcase_f rfl ?_; conv => whnf) | (refine bcase_t rfl ?_; conv => whnf) | (refine condK_of rfl ?_; conv => whnf) | (refine condK_of (by decide) ?_; conv => whnf) | (refine condK_of (by omega) ?_; conv => whnf) | (refine wrapK_in (w64 (by omega) (by omega)) ?_; conv => whnf))
      have hok : okAt l k = true := by
        have : k - 1 < l.length := by omega
        simp at h3
        rw [hat]; simp [h1, h2, h3, this]; right; omega
      exact ⟨k + 1, ⟨by omega, fun j hj => (Nat.lt_succ_iff_lt_or_eq.1 hj).elim (hR j) (fun e => e ▸ hok)⟩, by omega, le0 (le_of_cov ⟨rfl, rfl, rfl, rfl, trivial⟩ trivial ⟨rfl, rfl, rfl, rfl⟩)⟩
    · repeat (first | (refine bcase_f rfl ?_; conv => whnf) | (refine bcase_t rfl ?_; conv => whnf) | (refine condK_of rfl ?_; conv => whnf) | (refine condK_of (by decide) ?_; conv => whnf) | (refine condK_of (by omega) ?_; conv => whnf) | (refine wrapK_in (w64 (by omega) (by omega)) ?_; conv => whnf))
      have hok : okAt l k = true := by
        have hk0 : decide (0 < k) = false := by simp; omega
        simp at h3
        rw [hat, h1, h2, hk0]; simp [h3]
      exact ⟨k + 1, ⟨by omega, fun j hj => (Nat.lt_succ_iff_lt_or_eq.1 hj).elim (hR j) (fun e => e ▸ hok)⟩, by omega, le0 (le_of_cov ⟨rfl, rfl, rfl, rfl, trivial⟩ trivial ⟨rfl, rfl, rfl, rfl⟩)⟩
  · have : k = l.length := by simp at h; omega
    subst this
    refine ret_of rfl ?_
    have : (List.range l.length).all (okAt l) = true := by
      rw [List.all_eq_true]
      exact fun x hx => hR x (by simpa using hx)
    simp [rightB, hlen]
    simpa using this
end Go.Lk.Dt

set_option linter.unusedSimpArgs false
set_option linter.unusedVariables false
set_option linter.unnecessarySimpa false
namespace Go.Lk.Dt
open Go Go.Proofs Go.RowKit Go.Lk

theorem rightB_out {l : List (Int × Int)} (h : rightB l = true) : l.length ≤ 16 ∧ ∀ k (hk : k < l.length), okAt l k = true ∧ 1 ≤ l[k].1 ∧ l[k].1 ≤ 16 ∧ 0 ≤ l[k].2 ∧ l[k].2 ≤ 2147483647 := by
  simp only [rightB, Bool.and_eq_true, decide_eq_true_eq, List.all_eq_true, List.mem_range] at h
  refine ⟨h.1, fun k hk => ⟨h.2 k hk, ?_⟩⟩
  have := h.2 k hk
  simp [okAt, hk, pageB, timeB] at this
  omega

def dueF (now age : Int) (it : Int × Int) : Option Int := if age ≤ now - it.2 then some it.1 else none
def dueG (l : List (Int × Int)) (now age : Int) : List Int := if age < 0 ∨ now < 0 ∨ rightB l = false then [] else l.filterMap (dueF now age)

/-! since -/
theorem placeG_lt {l : List (Int × Int)} {n : Int} : ∀ {k : Nat}, placeG l n k < 0 ∨ ∃ i : Nat, placeG l n k = ((k + i : Nat) : Int) ∧ ∃ h : i < l.length, l[i].1 = n := by
  induction l with
  | nil => intro k; exact .inl (show (-1 : Int) < 0 by decide)
  | cons p r ih =>
    intro k
    simp only [placeG]
    by_cases h : p.1 = n
    · exact .inr ⟨0, by simp [h], by simp, by simpa using h⟩
    · rw [if_neg h]
      rcases ih (k := k + 1) with h1 | ⟨i, h1, h2, h3⟩
      · exact .inl h1
      · exact .inr ⟨i + 1, by rw [h1]; simp; omega, by simpa using h2, by simpa using h3⟩

def sinceG (l : List (Int × Int)) (n : Int) : Int × Bool :=
  if rightB l = false ∨ placeG l n 0 < 0 then (0, false) else ((l[(placeG l n 0).toNat]?.getD (0, 0)).2, true)
theorem since_ok (l : List (Int × Int)) (n : Int) (hl : l.length ≤ 1000000) : ACall Try.prog 31 [encIs l, .int .i64 n] (.tup [.int .i64 (sinceG l n).1, .bool (sinceG l n).2]) := by
  refine acall_of Try.func31 2 rfl (by kernel_rfl) ?_
  conv => whnf
  refine callX_pure (right_ok l hl) ?_
  conv => whnf
  refine bcase_intro (fun h => ?_) (fun h => ?_) <;> conv => whnf
  · simp at h
    exact ret_of rfl (by simp [sinceG, h]; rfl)
  refine callX_pure (place_ok l n hl) ?_
  conv => whnf
  refine bcase_p (fun h1 => ?_) (fun h1 => ?_) <;> conv => whnf
  · exact ret_of rfl (by simp [sinceG, h1]; rfl)
  simp at h
  obtain h2 | ⟨i, h2, h3, h4⟩ := placeG_lt (l := l) (n := n) (k := 0)
  · exact absurd h2 h1
  rw [Nat.zero_add] at h2
  refine idxK_int (by omega) (by rw [h2]; simp; omega) ?_
  conv => whnf
  refine getRow_of (x := encI l[i]) (by rw [h2]; simp [h3]) ?_
  conv => whnf
  repeat (first | (refine bcase_f rfl ?_; conv => whnf) | (refine bcase_t rfl ?_; conv => whnf) | (refine condK_of rfl ?_; conv => whnf) | (refine condK_of (by decide) ?_; conv => whnf) | (refine condK_of (by omega) ?_; conv => whnf) | (refine wrapK_in (w64 (by omega) (by omega)) ?_; conv => whnf))
  exact ret_of rfl (by simp [sinceG, h, h2, h3, show ¬ ((i : Int) < 0) by omega]; rfl)

theorem find_ok (l : List (Int × Int)) (n : Int) (hl : l.length ≤ 1000000) : ACall Try.prog 46 [encIs l, .int .i64 n] (.int .i64 (placeG l n 0)) := by
  refine acall_of Try.func46 2 rfl (by kernel_rfl) ?_
  conv => whnf
  refine aloop (ι := Nat) (fun k => [(0, .d (encIs l)), (1, .d (.int .i64 n)), (5, .d (.int .i64 k))]) (fun _ => [])
    (fun k => k ≤ l.length ∧ placeG (l.drop k) n k = placeG l n 0) (fun k => l.length - k) 0 ⟨Nat.zero_le _, rfl⟩ (le0 (le_of_cov ⟨rfl, rfl, rfl, trivial⟩ trivial ⟨rfl, rfl, rfl, rfl⟩)) ?_
  rintro k ⟨hk, hR⟩
  conv => whnf
  refine bcase_p (fun h => ?_) (fun h => ?_) <;> conv => whnf
  · have hk2 : k < l.length := by simpa using h
    refine idxK_nat (by simpa using hk2) ?_
    conv => whnf
    refine getRow_of (x := encI l[k]) (by simp [hk2]) ?_
    conv => whnf
    repeat (first | (refine bcase_f rfl ?_; conv => whnf) | (refine bcase_t rfl ?_; conv => whnf) | (refine condK_of rfl ?_; conv => whnf) | (refine condK_of (by decide) ?_; conv => whnf) | (refine condK_of (by omega) ?_; conv => whnf) | (refine wrapK_in (w64 (by omega) (by omega)) ?_; conv => whnf))
    rw [drop_cons hk2, placeG] at hR
    refine bcase_p (fun h2 => ?_) (fun h2 => ?_) <;> conv => whnf
    · rw [if_pos h2] at hR
      exact ret_of rfl (by rw [← hR]; rfl)
    · rw [if_neg h2] at hR
      repeat (first | (refine bcase_f rfl ?_; conv => whnf) | (refine bcase_t rfl ?_; conv => whnf) | (refine condK_of rfl ?_; conv => whnf) | (refine condK_of (by decide) ?_; conv => whnf) | (refine condK_of (by omega) ?_; conv => whnf) | (refine wrapK_in (w64 (by omega) (by omega)) ?_; conv => whnf))
      exact ⟨k + 1, ⟨by omega, hR⟩, by omega, le0 (le_of_cov ⟨rfl, rfl, rfl, trivial⟩ trivial ⟨rfl, rfl, rfl, rfl⟩)⟩
  · have : k = l.length := by simp at h; omega
    subst this
    simp [placeG] at hR
    exact ret_of rfl (by rw [← hR]; rfl)

theorem same_ok (a b : List (Int × Int)) (ha : a.length ≤ 1000000) (hb : b.length ≤ 1000000) : ACall Try.prog 22 [encIs a, encIs b] (.bool (decide (a = b))) := by
  refine acall_of Try.func22 2 rfl (by kernel_rfl) ?_
  conv => whnf
  refine bcase_n (fun h0 => ?_) (fun h0 => ?_) <;> conv => whnf
  rotate_left
  · have h0' : a.length = b.length := by simp at h0; omega
    refine aloop (ι := Nat) (fun k => [(0, .d (encIs a)), (1, .d (encIs b)), (5, .d (.int .i64 k))]) (fun _ => [])
      (fun k => k ≤ a.length ∧ a.take k = b.take k) (fun k => a.length - k) 0 ⟨Nat.zero_le _, rfl⟩ (le0 (le_of_cov ⟨rfl, rfl, rfl, trivial⟩ trivial ⟨rfl, rfl, rfl, rfl⟩)) ?_
    rintro k ⟨hk, hR⟩
    conv => whnf
    refine bcase_p (fun h => ?_) (fun h => ?_) <;> conv => whnf
    · have hk2 : k < a.length := by simpa using h
      have hk3 : k < b.length := h0' ▸ hk2
      refine idxK_nat (by simpa using hk2) ?_
      conv => whnf
      refine getRow_of (x := encI a[k]) (by simp [hk2]) ?_
      conv => whnf
      repeat (first | (refine bcase_f rfl ?_; conv => whnf) | (refine bcase_t rfl ?_; conv => whnf) | (refine condK_of rfl ?_; conv => whnf) | (refine condK_of (by decide) ?_; conv => whnf) | (refine condK_of (by omega) ?_; conv => whnf) | (refine wrapK_in (w64 (by omega) (by omega)) ?_; conv => whnf))
      refine idxK_nat (by simpa using hk3) ?_
      conv => whnf
      refine getRow_of (x := encI b[k]) (by simp [hk3]) ?_
      conv => whnf
      repeat (first | (refine bcase_f rfl ?_; conv => whnf) | (refine bcase_t rfl ?_; conv => whnf) | (refine condK_of rfl ?_; conv => whnf) | (refine condK_of (by decide) ?_; conv => whnf) | (refine condK_of (by omega) ?_; conv => whnf) | (refine wrapK_in (w64 (by omega) (by omega)) ?_; conv => whnf))
      refine bcase_intro (fun h1 => ?_) (fun h1 => ?_) <;> conv => whnf
      · have hne : a[k] ≠ b[k] := by intro e; rw [e] at h1; simp at h1
        exact ret_of rfl (congrArg D.bool (by simp; intro e; subst e; exact hne rfl))
      · repeat (first | (refine bcase_f rfl ?_; conv => whnf) | (refine bcase_t rfl ?_; conv => whnf) | (refine condK_of rfl ?_; conv => whnf) | (refine condK_of (by decide) ?_; conv => whnf) | (refine condK_of (by omega) ?_; conv => whnf) | (refine wrapK_in (w64 (by omega) (by omega)) ?_; conv => whnf))
        have he : a[k] = b[k] := by simp at h1; first | exact h1 | exact Prod.ext h1.1 h1.2
        exact ⟨k + 1, ⟨by omega, by rw [take_snoc hk2, take_snoc hk3, hR, he]⟩, by omega, le0 (le_of_cov ⟨rfl, rfl, rfl, trivial⟩ trivial ⟨rfl, rfl, rfl, rfl⟩)⟩
    · have : k = a.length := by simp at h; omega
      subst this
      rw [List.take_length, h0', List.take_length] at hR
      exact ret_of rfl (by rw [hR]; simp)
  · exact ret_of rfl (congrArg D.bool (by simp at h0 ⊢; intro e; rw [e] at h0; exact h0 rfl))
end Go.Lk.Dt

set_option linter.unusedSimpArgs false
set_option linter.unusedVariables false
set_option linter.unnecessarySimpa false
namespace Go.Lk.Dt
open Go Go.Proofs Go.RowKit Go.Lk

def lateB (l : List (Int × Int)) (t : Int) : Bool := decide (0 < l.length) && decide (t < (l[l.length - 1]?.getD (0, 0)).2)
def markG (l : List (Int × Int)) (p t : Int) : List (Int × Int) × Int :=
  if rightB l = false ∨ pageB p = false ∨ timeB t = false then (l, 1)
  else if lateB l t = true then (l, 1)
  else if 0 ≤ placeG l p 0 then (l, 0) else (l ++ [(p, t)], 0)

theorem mark_ok (l : List (Int × Int)) (p t : Int) (hl : l.length ≤ 1000000) : ACall Try.prog 43 [encIs l, .int .i64 p, .int .i64 t] (.tup [encIs (markG l p t).1, .int .i64 (markG l p t).2]) := by
  refine acall_of Try.func43 3 rfl (by kernel_rfl) ?_
  conv => whnf
  refine callX_pure (right_ok l hl) ?_
  conv => whnf
  refine bcase_intro (fun h1 => ?_) (fun h1 => ?_) <;> conv => whnf
  · simp at h1
    exact ret_of rfl (by simp [markG, h1]; rfl)
  simp at h1
  refine callX_pure (isPage_ok p) ?_
  conv => whnf
  refine bcase_intro (fun h2 => ?_) (fun h2 => ?_) <;> conv => whnf
  · simp at h2
    exact ret_of rfl (by simp [markG, h2]; rfl)
  simp at h2
  refine callX_pure (isTime_ok t) ?_
  conv => whnf
  refine bcase_intro (fun h3 => ?_) (fun h3 => ?_) <;> conv => whnf
  · simp at h3
    exact ret_of rfl (by simp [markG, h3]; rfl)
  simp at h3
  obtain ⟨hlen, hR⟩ := rightB_out h1
  have hm : (l.map encI).length = l.length := List.length_map ..
  refine bcase_p (fun h4 => ?_) (fun h4 => ?_) <;> conv => whnf
  · simp at h4
    repeat (first | (refine bcase_f rfl ?_; conv => whnf) | (refine bcase_t rfl ?_; conv => whnf) | (refine condK_of rfl ?_; conv => whnf) | (refine condK_of (by decide) ?_; conv => whnf) | (refine condK_of (by omega) ?_; conv => whnf) | (refine wrapK_in (w64 (by omega) (by omega)) ?_; conv => whnf))
    refine idxK_int (by omega) (by omega) ?_
    conv => whnf
    refine getRow_of (x := encI l[l.length - 1]) (by rw [show (((l.map encI).length : Int) - 1).toNat = l.length - 1 by omega]; simp [show l.length - 1 < l.length by omega]) ?_
    conv => whnf
    repeat (first | (refine bcase_f rfl ?_; conv => whnf) | (refine bcase_t rfl ?_; conv => whnf) | (refine condK_of rfl ?_; conv => whnf) | (refine condK_of (by decide) ?_; conv => whnf) | (refine condK_of (by omega) ?_; conv => whnf) | (refine wrapK_in (w64 (by omega) (by omega)) ?_; conv => whnf))
    refine bcase_p (fun h5 => ?_) (fun h5 => ?_) <;> conv => whnf
    · have : lateB l t = true := by simp [lateB, show l.length - 1 < l.length by omega, h4, h5]
      exact ret_of rfl (by simp [markG, this, h1, h2, h3]; rfl)
    have h6 : lateB l t = false := by simp [lateB, show l.length - 1 < l.length by omega]; omega
    refine callX_pure (place_ok l p hl) ?_
    conv => whnf
    refine bcase_p (fun h7 => ?_) (fun h7 => ?_) <;> conv => whnf
    · exact ret_of rfl (by simp [markG, h6, h1, h2, h3, h7]; rfl)
    repeat (first | (refine bcase_f rfl ?_; conv => whnf) | (refine bcase_t rfl ?_; conv => whnf) | (refine condK_of rfl ?_; conv => whnf) | (refine condK_of (by decide) ?_; conv => whnf) | (refine condK_of (by omega) ?_; conv => whnf) | (refine wrapK_in (w64 (by omega) (by omega)) ?_; conv => whnf))
    refine roomK_le 1000100 100 (by omega) (by decide) (by decide) (by decide) ?_
    conv => whnf
    refine condK_of (encI_ok l) ?_
    conv => whnf
    refine roomK_le 1000100 100 (by show 0 + List.length _ ≤ 1000100; omega) (by decide) (by decide) (by decide) ?_
    conv => whnf
    repeat (first | (refine bcase_f rfl ?_; conv => whnf) | (refine bcase_t rfl ?_; conv => whnf) | (refine condK_of rfl ?_; conv => whnf) | (refine condK_of (by decide) ?_; conv => whnf) | (refine condK_of (by omega) ?_; conv => whnf) | (refine wrapK_in (w64 (by omega) (by omega)) ?_; conv => whnf))
    refine roomK_le 1000100 100 (by show List.length _ + 1 ≤ 1000100; simp; omega) (by decide) (by decide) (by decide) ?_
    conv => whnf
    exact ret_of rfl (by simp [markG, h6, h1, h2, h3, h7, encIs]; rfl)
  · simp at h4
    have h6 : lateB l t = false := by simp [lateB, h4]
    refine callX_pure (place_ok l p hl) ?_
    conv => whnf
    refine bcase_p (fun h7 => ?_) (fun h7 => ?_) <;> conv => whnf
    · exact ret_of rfl (by simp [markG, h6, h1, h2, h3, h7]; rfl)
    repeat (first | (refine bcase_f rfl ?_; conv => whnf) | (refine bcase_t rfl ?_; conv => whnf) | (refine condK_of rfl ?_; conv => whnf) | (refine condK_of (by decide) ?_; conv => whnf) | (refine condK_of (by omega) ?_; conv => whnf) | (refine wrapK_in (w64 (by omega) (by omega)) ?_; conv => whnf))
    refine roomK_le 1000100 100 (by omega) (by decide) (by decide) (by decide) ?_
    conv => whnf
    refine condK_of (encI_ok l) ?_
    conv => whnf
    refine roomK_le 1000100 100 (by show 0 + List.length _ ≤ 1000100; omega) (by decide) (by decide) (by decide) ?_
    conv => whnf
    repeat (first | (refine bcase_f rfl ?_; conv => whnf) | (refine bcase_t rfl ?_; conv => whnf) | (refine condK_of rfl ?_; conv => whnf) | (refine condK_of (by decide) ?_; conv => whnf) | (refine condK_of (by omega) ?_; conv => whnf) | (refine wrapK_in (w64 (by omega) (by omega)) ?_; conv => whnf))
    refine roomK_le 1000100 100 (by show List.length _ + 1 ≤ 1000100; simp; omega) (by decide) (by decide) (by decide) ?_
    conv => whnf
    exact ret_of rfl (by simp [markG, h6, h1, h2, h3, h7, encIs]; rfl)
end Go.Lk.Dt

set_option linter.unusedSimpArgs false
set_option linter.unusedVariables false
set_option linter.unnecessarySimpa false
namespace Go.Lk.Dt
open Go Go.Proofs Go.RowKit Go.Lk

theorem erase_snoc {α : Type} {l : List α} {i : Nat} {x : α} : (l ++ [x]).eraseIdx i = if i = l.length then l else l.eraseIdx i ++ [x] := by
  by_cases h : i = l.length
  · subst h; simp [List.eraseIdx_append_of_length_le]
  · rw [if_neg h]
    by_cases h2 : i < l.length
    · rw [List.eraseIdx_append_of_lt_length h2]
    · rw [List.eraseIdx_of_length_le (by simp; omega), List.eraseIdx_of_length_le (by omega)]

def cleanG (l : List (Int × Int)) (p : Int) : List (Int × Int) × Int :=
  if rightB l = false then (l, 1) else if placeG l p 0 < 0 then (l, 3) else (l.eraseIdx (placeG l p 0).toNat, 0)

theorem clean_ok (l : List (Int × Int)) (p : Int) (hl : l.length ≤ 1000000) : ACall Try.prog 59 [encIs l, .int .i64 p] (.tup [encIs (cleanG l p).1, .int .i64 (cleanG l p).2]) := by
  refine acall_of Try.func59 2 rfl (by kernel_rfl) ?_
  conv => whnf
  refine callX_pure (right_ok l hl) ?_
  conv => whnf
  refine bcase_intro (fun h1 => ?_) (fun h1 => ?_) <;> conv => whnf
  · simp at h1
    exact ret_of rfl (by simp [cleanG, h1]; rfl)
  simp at h1
  refine callX_pure (place_ok l p hl) ?_
  conv => whnf
  refine bcase_p (fun h2 => ?_) (fun h2 => ?_) <;> conv => whnf
  · exact ret_of rfl (by simp [cleanG, h1, h2]; rfl)
  obtain h3 | ⟨i, h3, h4, h5⟩ := placeG_lt (l := l) (n := p) (k := 0)
  · exact absurd h3 h2
  rw [Nat.zero_add] at h3
  have hm : (l.map encI).length = l.length := List.length_map ..
  obtain ⟨hlen, hR⟩ := rightB_out h1
  have hc : cleanG l p = (l.eraseIdx i, 0) := by simp [cleanG, h1, h3]
  rw [hc]
  refine aloop (ι := Nat) (fun k => [(6, .d (.int .i64 i)), (7, .own 33), (20, .d (encIs l)), (21, .d (.int .i64 (l.map encI).length)), (22, .d (.int .i64 k))]) (fun k => [(33, .row (((l.take k).eraseIdx i).map encI) 2 false)])
    (fun k => k ≤ l.length) (fun k => l.length - k) 0 (Nat.zero_le _) (le1 (.row 7 33 2) ⟨rfl, rfl⟩ (le_of_cov ⟨by rw [← h3]; rfl, rfl, rfl, rfl, rfl, trivial⟩ ⟨rfl, trivial⟩ ⟨rfl, rfl, rfl, rfl⟩)) ?_
  intro k hk
  conv => whnf
  refine bcase_p (fun h => ?_) (fun h => ?_) <;> conv => whnf
  · have hk2 : k < l.length := by simpa using h
    refine idxK_nat (by simpa using hk2) ?_
    conv => whnf
    refine getRow_of (x := encI l[k]) (by simp [hk2]) ?_
    conv => whnf
    repeat (first | (refine bcase_f rfl ?_; conv => whnf) | (refine bcase_t rfl ?_; conv => whnf) | (refine condK_of rfl ?_; conv => whnf) | (refine condK_of (by decide) ?_; conv => whnf) | (refine condK_of (by omega) ?_; conv => whnf) | (refine wrapK_in (w64 (by omega) (by omega)) ?_; conv => whnf))
    have hmin : min k l.length = k := by omega
    refine bcase_n (fun h6 => ?_) (fun h6 => ?_) <;> conv => whnf
    · repeat (first | (refine bcase_f rfl ?_; conv => whnf) | (refine bcase_t rfl ?_; conv => whnf) | (refine condK_of rfl ?_; conv => whnf) | (refine condK_of (by decide) ?_; conv => whnf) | (refine condK_of (by omega) ?_; conv => whnf) | (refine wrapK_in (w64 (by omega) (by omega)) ?_; conv => whnf))
      refine roomK_le 1000100 100 (by show List.length _ + 1 ≤ 1000100; have := List.length_eraseIdx_le (l.take k) i; simp at this ⊢; omega) (by decide) (by decide) (by decide) ?_
      conv => whnf
      repeat (first | (refine bcase_f rfl ?_; conv => whnf) | (refine bcase_t rfl ?_; conv => whnf) | (refine condK_of rfl ?_; conv => whnf) | (refine condK_of (by decide) ?_; conv => whnf) | (refine condK_of (by omega) ?_; conv => whnf) | (refine wrapK_in (w64 (by omega) (by omega)) ?_; conv => whnf))
      exact ⟨k + 1, by omega, by omega, le0 (le_of_cov ⟨rfl, rfl, rfl, rfl, rfl, trivial⟩ ⟨by
        rw [take_snoc hk2, erase_snoc, if_neg (by simp [hmin]; omega), List.map_append]; rfl, trivial⟩ ⟨rfl, rfl, rfl, rfl⟩)⟩
    · repeat (first | (refine bcase_f rfl ?_; conv => whnf) | (refine bcase_t rfl ?_; conv => whnf) | (refine condK_of rfl ?_; conv => whnf) | (refine condK_of (by decide) ?_; conv => whnf) | (refine condK_of (by omega) ?_; conv => whnf) | (refine wrapK_in (w64 (by omega) (by omega)) ?_; conv => whnf))
      exact ⟨k + 1, by omega, by omega, le0 (le_of_cov ⟨rfl, rfl, rfl, rfl, rfl, trivial⟩ ⟨by
        rw [take_snoc hk2, erase_snoc, if_pos (by simp [hmin]; omega), List.eraseIdx_of_length_le (by simp [hmin]; omega)]; rfl, trivial⟩ ⟨rfl, rfl, rfl, rfl⟩)⟩
  · have : k = l.length := by simp at h; omega
    subst this
    exact ret_of rfl (by rw [List.take_length]; rfl)

def thereB (l : List (Int × Int)) (p : Nat) : Bool := l.any fun x => x.1 == (p : Int)
def cellB (b : Bool) : AV := if b then .tt else .d (.bool false)
def thereA (l : List (Int × Int)) : List AV := (List.range 17).map fun p => cellB (thereB l p)
def lastG (l : List (Int × Int)) (k : Nat) : Int := if k = 0 then 0 else (l[k-1]?.getD (0, 0)).2
theorem killC_cellB (b : Nat) : ∀ (f : Nat → Bool) (r : List Nat), killB.cells b (r.map fun p => cellB (f p)) = r.map fun p => cellB (f p)
  | _, [] => rfl
  | f, x :: r => by
    simp only [List.map_cons, killB.cells, killC_cellB b f r]
    congr 1
    unfold cellB; cases f x <;> rfl
theorem killC_there (b : Nat) (l : List (Int × Int)) : killB.cells b (thereA l) = thereA l := killC_cellB b _ _
theorem thereB_place {l : List (Int × Int)} {p : Nat} : ∀ {k : Nat}, thereB l p = true ↔ 0 ≤ placeG l p k := by
  induction l with
  | nil => intro k; exact ⟨fun h => (by cases h), fun h => absurd h (show ¬ (0 ≤ (-1 : Int)) by decide)⟩
  | cons q r ih =>
    intro k
    have h := ih (k := k + 1)
    simp only [thereB, List.any_cons, placeG] at h ⊢
    by_cases e : q.1 = p
    · simp [e]
    · rw [if_neg e, ← h]; simp [e]
theorem there_set {l : List (Int × Int)} {x : Int × Int} {n : Nat} (hx : x.1 = n) : (thereA l).set n .tt = thereA (l ++ [x]) := by
  apply List.ext_getElem (by simp [thereA])
  intro i h1 h2
  simp only [thereA, List.getElem_set, List.getElem_map, List.getElem_range, thereB, List.any_append, List.any_cons, List.any_nil, Bool.or_false]
  by_cases e : n = i
  · subst e; simp [hx, cellB]
  · rw [if_neg e]
    have : (x.1 == (i : Int)) = false := by rw [hx]; simp; omega
    rw [this, Bool.or_false]

theorem rright_ok (l : List (Int × Int)) (hl : l.length ≤ 1000000) : ACall Try.prog 26 [encIs l] (.bool (rightB l)) := by
  refine acall_of Try.func26 1 rfl (by kernel_rfl) ?_
  conv => whnf
  have hm : (l.map encI).length = l.length := List.length_map ..
  refine bcase_p (fun h0 => ?_) (fun h0 => ?_) <;> conv => whnf
  · exact ret_of rfl (by simp [rightB]; omega)
  refine aloop (ι := Nat) (fun k => [(0, .d (encIs l)), (3, .ptr 3 0 0), (4, .d (.int .i64 (lastG l k))), (5, .d (.int .i64 k))]) (fun k => [(3, .box (thereA (l.take k)) false)])
    (fun k => k ≤ l.length ∧ ∀ j, j < k → okAt l j = true) (fun k => l.length - k) 0 ⟨Nat.zero_le _, fun j h => absurd h (Nat.not_lt_zero _)⟩ (le0 (le_of_cov ⟨rfl, rfl, rfl, rfl, trivial⟩ ⟨rfl, trivial⟩ ⟨rfl, rfl, rfl, rfl⟩)) ?_
  rintro k ⟨hk, hR⟩
  conv => whnf
  refine bcase_p (fun h => ?_) (fun h => ?_) <;> conv => whnf
  · have hk2 : k < l.length := by omega
    have hat : okAt l k = (pageB l[k].1 && timeB l[k].2 && !(decide (0 ≤ placeG (l.take k) l[k].1 0)) && !(decide (0 < k) && decide (l[k].2 < (l[k-1]?.getD (0,0)).2))) := by simp [okAt, hk2]
    refine idxK_nat (by simpa using hk2) ?_
    conv => whnf
    refine getRow_of (x := encI l[k]) (by simp [hk2]) ?_
    conv => whnf
    repeat (first | (refine bcase_f rfl ?_; conv => whnf) | (refine bcase_t rfl ?_; conv => whnf) | (refine condK_of rfl ?_; conv => whnf) | (refine condK_of (by decide) ?_; conv => whnf) | (refine condK_of (by omega) ?_; conv => whnf) | (refine wrapK_in (w64 (by omega) (by omega)) ?_; conv => whnf))
    refine bcase_p (fun h1 => ?_) (fun h1 => ?_) <;> conv => whnf
    · exact ret_of rfl (congrArg D.bool (rightB_no hk2 (by simp [okAt, hk2, pageB]; omega)).symm)
    repeat (first | (refine bcase_f rfl ?_; conv => whnf) | (refine bcase_t rfl ?_; conv => whnf) | (refine condK_of rfl ?_; conv => whnf) | (refine condK_of (by decide) ?_; conv => whnf) | (refine condK_of (by omega) ?_; conv => whnf) | (refine wrapK_in (w64 (by omega) (by omega)) ?_; conv => whnf))
    refine bcase_p (fun h2 => ?_) (fun h2 => ?_) <;> conv => whnf
    · exact ret_of rfl (congrArg D.bool (rightB_no hk2 (by simp [okAt, hk2, pageB]; omega)).symm)
    repeat (first | (refine bcase_f rfl ?_; conv => whnf) | (refine bcase_t rfl ?_; conv => whnf) | (refine condK_of rfl ?_; conv => whnf) | (refine condK_of (by decide) ?_; conv => whnf) | (refine condK_of (by omega) ?_; conv => whnf) | (refine wrapK_in (w64 (by omega) (by omega)) ?_; conv => whnf))
    have hpn : l[k].1 = (l[k].1.toNat : Int) := by omega
    have hth : thereB (l.take k) l[k].1.toNat = true ↔ 0 ≤ placeG (l.take k) l[k].1 0 := by rw [thereB_place (k := 0), ← hpn]
    refine idxK_int (by omega) (by omega) ?_
    conv => whnf
    refine condK_of rfl ?_
    rw [killC_there]
    have hget : (thereA (l.take k))[0 + l[k].1.toNat * (T 4).size]? = some (cellB (thereB (l.take k) l[k].1.toNat)) := by
      rw [show 0 + l[k].1.toNat * (T 4).size = l[k].1.toNat from by rw [show (T 4).size = 1 from rfl]; omega]
      simp only [thereA, List.getElem?_map]
      rw [List.getElem?_range (by omega)]
      rfl
    refine getC_of hget ?_
    cases hb : thereB (l.take k) l[k].1.toNat
    rotate_left
    · conv => whnf
      exact ret_of rfl (congrArg D.bool (rightB_no hk2 (by rw [hat]; simp [hth.1 hb])).symm)
    have hp : ¬ 0 ≤ placeG (l.take k) l[k].1 0 := fun e => by rw [hth.2 e] at hb; cases hb
    have hl0 : 0 < k → lastG l k = l[k-1].2 := fun h => by simp [lastG, show k - 1 < l.length by omega]; omega
    have hl1 : k = 0 → lastG l k = 0 := fun h => by simp [lastG, h]
    conv => whnf
    repeat (first | (refine bcase_f rfl ?_; conv => whnf) | (refine bcase_t rfl ?_; conv => whnf) | (refine condK_of rfl ?_; conv => whnf) | (refine condK_of (by decide) ?_; conv => whnf) | (refine condK_of (by omega) ?_; conv => whnf) | (refine wrapK_in (w64 (by omega) (by omega)) ?_; conv => whnf))
    refine bcase_p (fun h3 => ?_) (fun h3 => ?_) <;> conv => whnf
    · refine ret_of rfl (congrArg D.bool (rightB_no hk2 ?_).symm)
      by_cases e : k = 0
      · rw [hl1 e] at h3
        have : timeB l[k].2 = false := by simp [timeB]; omega
        rw [hat, this]; simp
      · rw [hl0 (by omega)] at h3
        rw [hat]; simp [show k - 1 < l.length by omega, h3]; intros; omega
    repeat (first | (refine bcase_f rfl ?_; conv => whnf) | (refine bcase_t rfl ?_; conv => whnf) | (refine condK_of rfl ?_; conv => whnf) | (refine condK_of (by decide) ?_; conv => whnf) | (refine condK_of (by omega) ?_; conv => whnf) | (refine wrapK_in (w64 (by omega) (by omega)) ?_; conv => whnf))
    refine bcase_p (fun h4 => ?_) (fun h4 => ?_) <;> conv => whnf
    · exact ret_of rfl (congrArg D.bool (rightB_no hk2 (by simp [okAt, hk2, timeB]; omega)).symm)
    repeat (first | (refine bcase_f rfl ?_; conv => whnf) | (refine bcase_t rfl ?_; conv => whnf) | (refine condK_of rfl ?_; conv => whnf) | (refine condK_of (by decide) ?_; conv => whnf) | (refine condK_of (by omega) ?_; conv => whnf) | (refine wrapK_in (w64 (by omega) (by omega)) ?_; conv => whnf))
    have hok : okAt l k = true := by
      have : timeB l[k].2 = true := by
        simp [timeB]
        refine ⟨?_, by omega⟩
        by_cases e : k = 0
        · rw [hl1 e] at h3; omega
        · obtain ⟨k', rfl⟩ : ∃ k', k = k' + 1 := ⟨k - 1, by omega⟩
          have := hR k' (by omega)
          simp [okAt, show k' < l.length by omega, timeB] at this
          rw [hl0 (by omega)] at h3
          simp at h3
          omega
      rw [hat, this]
      simp only [hp, decide_false, Bool.not_false, Bool.and_true]
      have hpg : pageB l[k].1 = true := by simp [pageB]; omega
      rw [hpg]
      by_cases e : k = 0
      · simp [e]
      · rw [hl0 (by omega)] at h3
        simp [show k - 1 < l.length by omega]; right; omega
    refine idxK_int (by omega) (by omega) ?_
    conv => whnf
    refine condK_of rfl ?_
    simp only [killC_there]
    refine bif_of rfl (bif_of rfl (bif_of (by
      rw [show (T 4).size = 1 from rfl, Nat.ble_eq]; simp [thereA]; omega) ?_))
    rw [show 0 + l[k].1.toNat * (T 4).size = l[k].1.toNat from by rw [show (T 4).size = 1 from rfl]; omega]
    conv => whnf
    have hset : (thereA (l.take k)).set l[k].1.toNat .tt = thereA (l.take (k + 1)) := by rw [take_snoc hk2]; exact there_set hpn
    repeat (first | (refine bcase_f rfl ?_; conv => whnf) | (refine bcase_t rfl ?_; conv => whnf) | (refine condK_of rfl ?_; conv => whnf) | (refine condK_of (by decide) ?_; conv => whnf) | (refine condK_of (by omega) ?_; conv => whnf) | (refine wrapK_in (w64 (by omega) (by omega)) ?_; conv => whnf))
    exact ⟨k + 1, ⟨by omega, fun j hj => (Nat.lt_succ_iff_lt_or_eq.1 hj).elim (hR j) (fun e => e ▸ hok)⟩, by omega, le0 (le_of_cov ⟨rfl, rfl, by simp [lastG, hk2]; rfl, rfl, trivial⟩ ⟨by rw [← hset]; rfl, trivial⟩ ⟨rfl, rfl, rfl, rfl⟩)⟩
  · have : k = l.length := by omega
    subst this
    refine ret_of rfl (congrArg D.bool ?_)
    have : (List.range l.length).all (okAt l) = true := by
      rw [List.all_eq_true]
      exact fun x hx => hR x (by simpa using hx)
    rw [rightB, this]
    simp; omega
end Go.Lk.Dt

set_option linter.unusedSimpArgs false
set_option linter.unusedVariables false
set_option linter.unnecessarySimpa false
namespace Go.Lk.Dt
open Go Go.Proofs Go.RowKit Go.Lk

theorem pig : ∀ (n : Nat) (l : List Nat), l.Nodup → (∀ x ∈ l, x < n) → l.length ≤ n
  | 0, [], _, _ => Nat.le_refl _
  | 0, x :: r, _, h => absurd (h x (List.mem_cons_self ..)) (Nat.not_lt_zero _)
  | n + 1, l, hn, h => by
    by_cases hm : n ∈ l
    · have := pig n (l.erase n) (hn.erase n) fun x hx => by
        have := (hn.mem_erase_iff).1 hx
        have := h x this.2
        omega
      rw [List.length_erase_of_mem hm] at this
      omega
    · have := pig n l hn fun x hx => by
        have := h x hx
        have : x ≠ n := fun e => hm (e ▸ hx)
        omega
      omega

theorem okAt_app {l : List (Int × Int)} {x : Int × Int} {i : Nat} (h : i < l.length) : okAt (l ++ [x]) i = okAt l i := by
  unfold okAt
  rw [List.getElem?_append_left h, List.take_append_of_le_length (Nat.le_of_lt h)]
  cases i with
  | zero => simp
  | succ i => rw [List.getElem?_append_left (by omega)]
theorem okAt_last {l : List (Int × Int)} {x : Int × Int} : okAt (l ++ [x]) l.length = (pageB x.1 && timeB x.2 && !(decide (0 ≤ placeG l x.1 0)) && !(lateB l x.2)) := by
  unfold okAt lateB
  rw [List.getElem?_append_right (Nat.le_refl _)]
  simp only [Nat.sub_self, List.getElem?_cons_zero, List.take_left']
  congr 2
  by_cases h : 0 < l.length
  · rw [List.getElem?_append_left (by omega)]
  · simp [h]
theorem rightB_snoc {l : List (Int × Int)} {x : Int × Int} : rightB (l ++ [x]) = true ↔ rightB l = true ∧ l.length < 16 ∧ pageB x.1 = true ∧ timeB x.2 = true ∧ placeG l x.1 0 < 0 ∧ lateB l x.2 = false := by
  simp only [rightB, Bool.and_eq_true, decide_eq_true_eq, List.all_eq_true, List.mem_range, List.length_append, List.length_cons, List.length_nil]
  constructor
  · rintro ⟨h1, h2⟩
    have h3 := h2 l.length (by omega)
    rw [okAt_last] at h3
    simp at h3
    refine ⟨⟨by omega, fun i hi => ?_⟩, by omega, h3.1.1.1, h3.1.1.2, h3.1.2, h3.2⟩
    rw [← okAt_app hi]
    exact h2 i (by omega)
  · rintro ⟨⟨h1, h2⟩, h3, h4, h5, h6, h7⟩
    refine ⟨by omega, fun i hi => ?_⟩
    by_cases e : i < l.length
    · rw [okAt_app e]; exact h2 i e
    · obtain rfl : i = l.length := by omega
      rw [okAt_last]; simp [h4, h5, h6, h7]
theorem rightB_nil : rightB [] = true := rfl

theorem placeG_mem {l : List (Int × Int)} {n : Int} : ∀ {k : Nat}, 0 ≤ placeG l n k ↔ ∃ x ∈ l, x.1 = n := by
  induction l with
  | nil => intro k; exact ⟨fun h => absurd h (show ¬ (0 ≤ (-1 : Int)) by decide), fun ⟨x, h, _⟩ => by cases h⟩
  | cons p r ih =>
    intro k
    simp only [placeG]
    by_cases h : p.1 = n
    · rw [if_pos h]; exact ⟨fun _ => ⟨p, List.mem_cons_self .., h⟩, fun _ => by omega⟩
    · rw [if_neg h, ih]
      constructor
      · rintro ⟨x, h1, h2⟩; exact ⟨x, List.mem_cons_of_mem _ h1, h2⟩
      · rintro ⟨x, h1, h2⟩
        rcases List.mem_cons.1 h1 with rfl | h1
        · exact absurd h2 h
        · exact ⟨x, h1, h2⟩

/-- induction from the right -/
theorem snocRec {α : Type} {motive : List α → Prop} (h0 : motive []) (h1 : ∀ l x, motive l → motive (l ++ [x])) (l : List α) : motive l := by
  have : ∀ n (l : List α), l.length = n → motive l := by
    intro n
    induction n with
    | zero => intro l h; rw [List.length_eq_zero_iff.1 h]; exact h0
    | succ n ih =>
      intro l h
      have hne : l ≠ [] := fun e => by subst e; cases h
      rw [← List.dropLast_concat_getLast hne]
      exact h1 _ _ (ih _ (by simp [h]))
  exact this _ l rfl

theorem rightB_nodup {l : List (Int × Int)} : rightB l = true → (l.map fun x => x.1.toNat).Nodup ∧ ∀ x ∈ l, 1 ≤ x.1 ∧ x.1 ≤ 16 := by
  refine snocRec (motive := fun l => rightB l = true → (l.map fun x => x.1.toNat).Nodup ∧ ∀ x ∈ l, 1 ≤ x.1 ∧ x.1 ≤ 16) (fun _ => ⟨List.nodup_nil, fun x h => by cases h⟩) (fun l x ih h => ?_) l
  obtain ⟨h1, h2, h3, h4, h5, h6⟩ := rightB_snoc.1 h
  obtain ⟨g1, g2⟩ := ih h1
  have hx : 1 ≤ x.1 ∧ x.1 ≤ 16 := by simpa [pageB] using h3
  refine ⟨?_, fun y hy => ?_⟩
  · rw [List.map_append, List.nodup_append]
    refine ⟨g1, by simp, fun a ha b hb e => ?_⟩
    simp only [List.map_cons, List.map_nil, List.mem_singleton] at hb
    subst hb e
    obtain ⟨y, hy, e⟩ := List.mem_map.1 ha
    have := g2 y hy
    have : 0 ≤ placeG l x.1 0 := placeG_mem.2 ⟨y, hy, by omega⟩
    omega
  · rcases List.mem_append.1 hy with hy | hy
    · exact g2 y hy
    · rw [List.mem_singleton.1 hy]; exact hx

/-- with a page that isn't there, there is room -/
theorem right_room {l : List (Int × Int)} {p : Int} (h : rightB l = true) (hp : pageB p = true) (hn : placeG l p 0 < 0) : l.length < 16 := by
  obtain ⟨h1, h2⟩ := rightB_nodup h
  have hp' : 1 ≤ p ∧ p ≤ 16 := by simpa [pageB] using hp
  have := pig 16 ((p.toNat - 1) :: l.map fun x => x.1.toNat - 1) (by
    rw [List.nodup_cons]
    refine ⟨fun hm => ?_, ?_⟩
    · obtain ⟨y, hy, e⟩ := List.mem_map.1 hm
      have := h2 y hy
      have : 0 ≤ placeG l p 0 := placeG_mem.2 ⟨y, hy, by omega⟩
      omega
    · rw [show (l.map fun x => x.1.toNat - 1) = (l.map fun x => x.1.toNat).map (· - 1) by simp]
      refine List.pairwise_map.2 (h1.imp_of_mem fun {a b} ha hb e => ?_)
      obtain ⟨y, hy, rfl⟩ := List.mem_map.1 ha
      obtain ⟨z, hz, rfl⟩ := List.mem_map.1 hb
      have := h2 y hy
      have := h2 z hz
      omega) (by
    intro x hx
    rcases List.mem_cons.1 hx with rfl | hx
    · omega
    · obtain ⟨y, hy, rfl⟩ := List.mem_map.1 hx
      have := h2 y hy
      omega)
  simp at this
  omega

/-- what a mark does -/
theorem mark_right {l : List (Int × Int)} {p t : Int} (h : (markG l p t).2 = 0) : rightB l = true ∧ pageB p = true ∧ timeB t = true ∧ lateB l t = false ∧
    ((0 ≤ placeG l p 0 ∧ (markG l p t).1 = l) ∨ (placeG l p 0 < 0 ∧ (markG l p t).1 = l ++ [(p, t)])) := by
  unfold markG at h ⊢
  by_cases h1 : rightB l = false ∨ pageB p = false ∨ timeB t = false
  · rw [if_pos h1] at h; cases h
  · rw [if_neg h1] at h ⊢
    by_cases h2 : lateB l t = true
    · rw [if_pos h2] at h; cases h
    · rw [if_neg h2] at h ⊢
      simp at h1 h2
      refine ⟨h1.1, h1.2.1, h1.2.2, h2, ?_⟩
      by_cases h3 : 0 ≤ placeG l p 0
      · rw [if_pos h3]; exact .inl ⟨h3, rfl⟩
      · rw [if_neg h3]; exact .inr ⟨by omega, rfl⟩
theorem mark_keeps {l : List (Int × Int)} {p t : Int} (h : (markG l p t).2 = 0) : rightB (markG l p t).1 = true := by
  obtain ⟨h1, h2, h3, h4, h5 | h5⟩ := mark_right h
  · rw [h5.2]; exact h1
  · rw [h5.2]; exact rightB_snoc.2 ⟨h1, right_room h1 h2 h5.1, h2, h3, h5.1, h4⟩
theorem mark_ok2 {l : List (Int × Int)} {p t : Int} (h1 : rightB l = true) (h2 : pageB p = true) (h3 : timeB t = true) (h4 : lateB l t = false) : (markG l p t).2 = 0 := by
  unfold markG
  rw [if_neg (by simp [h1, h2, h3]), if_neg (by simp [h4])]
  split <;> rfl
theorem placeG_app {l : List (Int × Int)} {x : Int × Int} {n : Int} : ∀ {k : Nat}, placeG l n k < 0 → placeG (l ++ [x]) n k = if x.1 = n then ((k + l.length : Nat) : Int) else -1 := by
  induction l with
  | nil => intro k _; simp only [List.nil_append, placeG, List.length_nil, Nat.add_zero]
  | cons p r ih =>
    intro k h
    simp only [placeG, List.cons_append] at h ⊢
    by_cases e : p.1 = n
    · rw [if_pos e] at h; omega
    · rw [if_neg e] at h ⊢
      rw [ih h]
      simp only [List.length_cons]
      split
      · omega
      · rfl
end Go.Lk.Dt

set_option linter.unusedSimpArgs false
set_option linter.unusedVariables false
set_option linter.unnecessarySimpa false
namespace Go.Lk.Dt
open Go Go.Proofs Go.RowKit Go.Lk

theorem mark_same {l : List (Int × Int)} {p t : Int} (h : (markG l p t).2 ≠ 0 ∨ 0 ≤ placeG l p 0) : (markG l p t).1 = l := by
  unfold markG at h ⊢
  by_cases h1 : rightB l = false ∨ pageB p = false ∨ timeB t = false
  · rw [if_pos h1]
  · rw [if_neg h1] at h ⊢
    by_cases h2 : lateB l t = true
    · rw [if_pos h2]
    · rw [if_neg h2] at h ⊢
      by_cases h3 : 0 ≤ placeG l p 0
      · rw [if_pos h3]
      · rw [if_neg h3] at h
        rcases h with h | h
        · exact absurd rfl h
        · exact absurd h h3
theorem mark_len {l : List (Int × Int)} {p t : Int} : (markG l p t).1.length ≤ l.length + 1 := by
  unfold markG
  split
  · simp
  · split
    · simp
    · split <;> simp
theorem clean_snoc {l : List (Int × Int)} {p t : Int} (h : rightB (l ++ [(p, t)]) = true) (hn : placeG l p 0 < 0) : cleanG (l ++ [(p, t)]) p = (l, 0) := by
  unfold cleanG
  rw [if_neg (by simp [h]), placeG_app hn, if_pos rfl, if_neg (by omega), Nat.zero_add]
  rw [erase_snoc, if_pos (by simp)]

end Go.Lk.Dt

set_option linter.unusedSimpArgs false
set_option linter.unusedVariables false
set_option linter.unnecessarySimpa false
namespace Go.Lk.Dt
open Go Go.Proofs Go.RowKit Go.Lk

def RightP (l : List (Int × Int)) : Prop := l.length ≤ 16 ∧ (∀ x ∈ l, pageB x.1 = true ∧ timeB x.2 = true) ∧ l.Pairwise (fun a b => a.1 ≠ b.1) ∧ l.Pairwise (fun a b => a.2 ≤ b.2)
theorem late_le {l : List (Int × Int)} {t : Int} (hs : l.Pairwise (fun a b => a.2 ≤ b.2)) : lateB l t = false ↔ ∀ a ∈ l, a.2 ≤ t := by
  constructor
  · intro h a ha
    obtain ⟨i, hi, rfl⟩ := List.mem_iff_getElem.1 ha
    have hp : 0 < l.length := by omega
    simp [lateB, show l.length - 1 < l.length by omega] at h
    have h := h hp
    by_cases e : i = l.length - 1
    · subst e; exact h
    · have := List.pairwise_iff_getElem.1 hs i (l.length - 1) hi (by omega) (by omega)
      omega
  · intro h
    simp [lateB]
    intro hp
    rw [List.getElem?_eq_getElem (show l.length - 1 < l.length by omega)]
    exact h _ (List.getElem_mem _)
theorem rightB_iff {l : List (Int × Int)} : rightB l = true ↔ RightP l := by
  refine snocRec (motive := fun l => rightB l = true ↔ RightP l) ⟨fun _ => ⟨by simp, fun x h => (by cases h), .nil, .nil⟩, fun _ => rfl⟩ (fun l x ih => ?_) l
  rw [rightB_snoc, ih]
  unfold RightP
  simp only [List.length_append, List.length_cons, List.length_nil, List.mem_append, List.mem_singleton, List.pairwise_append]
  constructor
  · rintro ⟨⟨h1, h2, h3, h4⟩, h5, h6, h7, h8, h9⟩
    refine ⟨by omega, fun y hy => ?_, ⟨h3, by simp, fun a ha b hb e => ?_⟩, ⟨h4, by simp, fun a ha b hb => ?_⟩⟩
    · rcases hy with hy | rfl
      · exact h2 y hy
      · exact ⟨h6, h7⟩
    · subst hb
      have : 0 ≤ placeG l b.1 0 := placeG_mem.2 ⟨a, ha, e⟩
      omega
    · subst hb; exact (late_le h4).1 h9 a ha
  · rintro ⟨h1, h2, ⟨h3, _, h4⟩, ⟨h5, _, h6⟩⟩
    refine ⟨⟨by omega, fun y hy => h2 y (.inl hy), h3, h5⟩, by omega, (h2 x (.inr rfl)).1, (h2 x (.inr rfl)).2, ?_, (late_le h5).2 fun a ha => h6 a ha x rfl⟩
    by_cases h : 0 ≤ placeG l x.1 0
    · obtain ⟨y, hy, e⟩ := placeG_mem.1 h
      exact absurd e (h4 y hy x rfl)
    · omega

/-- what is due is a beginning -/
theorem pre_of_sorted {T : Int} : ∀ {l : List (Int × Int)}, l.Pairwise (fun a b => a.2 ≤ b.2) → ∃ m, m ≤ l.length ∧ (l.filterMap fun it => if it.2 ≤ T then some it.1 else none) = (l.take m).map (·.1) ∧ ∀ i (h : i < l.length), i < m ↔ l[i].2 ≤ T
  | [], _ => ⟨0, by simp, rfl, fun i h => absurd h (Nat.not_lt_zero _)⟩
  | p :: r, hs => by
    obtain ⟨h1, h2⟩ := List.pairwise_cons.1 hs
    by_cases e : p.2 ≤ T
    · obtain ⟨m, k1, k2, k3⟩ := pre_of_sorted (T := T) h2
      refine ⟨m + 1, by simp; omega, by simp [e, k2], fun i h => ?_⟩
      cases i with
      | zero => simp [e]
      | succ i => simpa using k3 i (by simpa using h)
    · refine ⟨0, by simp, ?_, fun i h => ?_⟩
      · rw [List.take_zero, List.map_nil, List.filterMap_eq_nil_iff]
        intro x hx
        rcases List.mem_cons.1 hx with rfl | hx
        · simp [e]
        · have := h1 x hx; simp; omega
      · cases i with
        | zero => simp; omega
        | succ i =>
          have := h1 _ (List.getElem_mem (show i < r.length by simpa using h))
          simp; omega
theorem due_pre {l : List (Int × Int)} {now age : Int} (hr : rightB l = true) (ha : 0 ≤ age) (hn : 0 ≤ now) :
    ∃ m, m ≤ l.length ∧ dueG l now age = (l.take m).map (·.1) ∧ ∀ i (h : i < l.length), i < m ↔ l[i].2 ≤ now - age := by
  obtain ⟨m, h1, h2, h3⟩ := pre_of_sorted (T := now - age) (rightB_iff.1 hr).2.2.2
  refine ⟨m, h1, ?_, h3⟩
  rw [dueG, if_neg (by simp [hr]; omega), ← h2]
  congr 1
  funext x
  simp only [dueF]
  by_cases e : age ≤ now - x.2
  · rw [if_pos e, if_pos (by omega)]
  · rw [if_neg e, if_neg (by omega)]

/-- since when, by what the list has -/
theorem since_yes {l : List (Int × Int)} {p t : Int} (hr : rightB l = true) (h : (p, t) ∈ l) : sinceG l p = (t, true) := by
  have hp : 0 ≤ placeG l p 0 := placeG_mem.2 ⟨_, h, rfl⟩
  obtain h4 | ⟨i, h4, h5, h6⟩ := placeG_lt (l := l) (n := p) (k := 0)
  · omega
  rw [Nat.zero_add] at h4
  have hi : l[i] = (p, t) := by
    obtain ⟨j, hj, e⟩ := List.mem_iff_getElem.1 h
    have hn := List.pairwise_iff_getElem.1 (rightB_iff.1 hr).2.2.1
    by_cases e1 : i = j
    · subst e1; exact e
    · rcases Nat.lt_or_gt_of_ne e1 with h7 | h7
      · exact absurd (by rw [h6, e]) (hn i j h5 hj h7)
      · exact absurd (by rw [h6, e]) (hn j i hj h5 h7)
  simp [sinceG, hr, h4, h5, hi]
theorem since_no {l : List (Int × Int)} {p : Int} (h : ∀ t, (p, t) ∉ l) : sinceG l p = (0, false) := by
  have : placeG l p 0 < 0 := by
    by_cases e : 0 ≤ placeG l p 0
    · obtain ⟨⟨a, b⟩, hy, rfl⟩ := placeG_mem.1 e
      exact absurd hy (h b)
    · omega
  simp [sinceG, this]
theorem place_no {l : List (Int × Int)} {p : Int} (h : ∀ t, (p, t) ∉ l) : placeG l p 0 < 0 := by
  by_cases e : 0 ≤ placeG l p 0
  · obtain ⟨⟨a, b⟩, hy, rfl⟩ := placeG_mem.1 e
    exact absurd hy (h b)
  · omega
theorem place_yes {l : List (Int × Int)} {p t : Int} (h : (p, t) ∈ l) : 0 ≤ placeG l p 0 := placeG_mem.2 ⟨_, h, rfl⟩

theorem erase_filter {p : Int} : ∀ {l : List (Int × Int)} {i : Nat} (h : i < l.length), l.Pairwise (fun a b => a.1 ≠ b.1) → l[i].1 = p → l.eraseIdx i = l.filter (fun x => x.1 != p)
  | a :: r, 0, _, hn, e => by
    obtain ⟨h1, h2⟩ := List.pairwise_cons.1 hn
    have e : a.1 = p := e
    rw [List.eraseIdx_cons_zero, List.filter_cons_of_neg (by simp [e])]
    exact (List.filter_eq_self.2 fun x hx => by have := h1 x hx; rw [e] at this; simp; exact fun e' => this e'.symm).symm
  | a :: r, i + 1, h, hn, e => by
    obtain ⟨h1, h2⟩ := List.pairwise_cons.1 hn
    have hi : i < r.length := by simpa using h
    have e : r[i].1 = p := by simpa using e
    have := h1 _ (List.getElem_mem hi)
    rw [e] at this
    rw [List.eraseIdx_cons_succ, erase_filter hi h2 e, List.filter_cons_of_pos (by simpa using this)]
theorem right_filter {l : List (Int × Int)} (hr : rightB l = true) (f : Int × Int → Bool) : rightB (l.filter f) = true := by
  obtain ⟨h1, h2, h3, h4⟩ := rightB_iff.1 hr
  refine rightB_iff.2 ⟨Nat.le_trans (List.length_filter_le _ _) h1, fun x hx => h2 x (List.mem_filter.1 hx).1, h3.filter f, h4.filter f⟩
/-- what a clean does, of right items -/
theorem clean_right {l : List (Int × Int)} {p : Int} (hr : rightB l = true) : cleanG l p = if 0 ≤ placeG l p 0 then (l.filter (fun x => x.1 != p), 0) else (l, 3) := by
  unfold cleanG
  rw [if_neg (by simp [hr])]
  by_cases h : 0 ≤ placeG l p 0
  · obtain h4 | ⟨i, h4, h5, h6⟩ := placeG_lt (l := l) (n := p) (k := 0)
    · omega
    rw [Nat.zero_add] at h4
    rw [if_neg (by omega), if_pos h, h4, Int.toNat_natCast, erase_filter h5 (rightB_iff.1 hr).2.2.1 h6]
  · rw [if_pos (by omega), if_neg h]
end Go.Lk.Dt


/-
  What is proved here: what functions of the program compute, and what follows; no condition beyond each theorem's own.
-/
import Derived.Test.YtfpmffadpjoogaaGreatBAi
import Derived.Test.YtfpmffadpjoogaaGreatBAk
set_option linter.unusedSimpArgs false
set_option linter.unusedVariables false
set_option linter.unnecessarySimpa false
set_option linter.unusedSectionVars false
namespace Go.Lk
open Go Go.Proofs Go.RowKit

/-! ### the pool -/
theorem FM.tl {f : FX} (h : FM f) : f.tb.length ≤ 1000000 := by have := h.tb.len; omega
theorem FM.dl {f : FX} (h : FM f) : f.dt.length ≤ 1000000 := by have := (Dt.rightB_out h.dt).1; omega
theorem FM.pl {f : FX} (h : FM f) : f.pg.length ≤ 8 := by have := h.ck.most; rw [h.len]; exact this
structure PS where
  f : FX
  d : DS
  now : Int
def encPS (p : PS) : D := .agg [.lst (p.f.fr.map encF), .int .i64 p.f.hand, encIs p.f.tb, .lst (p.f.pg.map encP), encIs p.f.dt, .lst (p.d.sec.map encB), .lst (p.d.ca.map encW), .int .i64 p.now]
def PS.box (p : PS) : List AV := [.d (.lst (p.f.fr.map encF)), .d (.int .i64 p.f.hand), .d (encIs p.f.tb), .d (.lst (p.f.pg.map encP)), .d (encIs p.f.dt), .d (.lst (p.d.sec.map encB)), .d (.lst (p.d.ca.map encW)), .d (.int .i64 p.now)]
def noPS : PS := ⟨noFS, ⟨[], []⟩, 0⟩
noncomputable def openM (d : DS) (n : Int) : PS × Int := if (getJ d 1).2 ≠ 0 ∨ 0 < d.ca.length then (noPS, 1) else if n < 1 ∨ 8 < n then (noPS, 1) else (⟨newFS n.toNat, recM d, 0⟩, 0)
theorem open_ok (d : DS) (n : Int) : ACall Tryz.prog 20 [encDS d, .int .i64 n] (.tup [encPS (openM d n).1, .int .i64 (openM d n).2]) := by
  refine acall_of Tryz.func20 2 rfl (by kernel_rfl) ?_
  conv => whnf
  have hmc : (d.ca.map encW).length = d.ca.length := List.length_map ..
  rw [openM]
  repeat ((first | refine bF ?_ | refine bT ?_ | refine dK (by kernel_rfl) ?_ | refine cK rfl ?_ | refine cK (by first | decide | omega) ?_ | refine wK (by omega) (by omega) ?_); conv => whnf)
  refine callX_pure (getJ_ok d 1) ?_
  conv => whnf
  repeat ((first | refine bF ?_ | refine bT ?_ | refine dK (by kernel_rfl) ?_ | refine cK rfl ?_ | refine cK (by first | decide | omega) ?_ | refine wK (by omega) (by omega) ?_); conv => whnf)
  refine bcase_n (fun h1 => ?_) (fun h1 => ?_) <;> conv => whnf
  · repeat ((first | refine bF ?_ | refine bT ?_ | refine dK (by kernel_rfl) ?_ | refine cK rfl ?_ | refine cK (by first | decide | omega) ?_ | refine wK (by omega) (by omega) ?_); conv => whnf)
    rw [if_pos (.inl h1)]
    exact ret_of rfl rfl
  repeat ((first | refine bF ?_ | refine bT ?_ | refine dK (by kernel_rfl) ?_ | refine cK rfl ?_ | refine cK (by first | decide | omega) ?_ | refine wK (by omega) (by omega) ?_); conv => whnf)
  refine bcase_p (fun h2 => ?_) (fun h2 => ?_) <;> conv => whnf
  · repeat ((first | refine bF ?_ | refine bT ?_ | refine dK (by kernel_rfl) ?_ | refine cK rfl ?_ | refine cK (by first | decide | omega) ?_ | refine wK (by omega) (by omega) ?_); conv => whnf)
    rw [if_pos (.inr (by omega))]
    exact ret_of rfl rfl
  rw [if_neg (fun q => q.elim (fun q => q h1) (fun q => h2 (by omega)))]
  repeat ((first | refine bF ?_ | refine bT ?_ | refine dK (by kernel_rfl) ?_ | refine cK rfl ?_ | refine cK (by first | decide | omega) ?_ | refine wK (by omega) (by omega) ?_); conv => whnf)
  have hn := new_ok n
  by_cases hc : n < 1 ∨ 8 < n
  · rw [if_pos hc, if_pos hc] at hn
    rw [if_pos hc]
    refine callX_pure hn ?_
    conv => whnf
    repeat ((first | refine bF ?_ | refine bT ?_ | refine dK (by kernel_rfl) ?_ | refine cK rfl ?_ | refine cK (by first | decide | omega) ?_ | refine wK (by omega) (by omega) ?_); conv => whnf)
    exact ret_of rfl rfl
  · rw [if_neg hc, if_neg hc] at hn
    rw [if_neg hc]
    refine callX_pure hn ?_
    conv => whnf
    repeat ((first | refine bF ?_ | refine bT ?_ | refine dK (by kernel_rfl) ?_ | refine cK rfl ?_ | refine cK (by first | decide | omega) ?_ | refine wK (by omega) (by omega) ?_); conv => whnf)
    refine callX_pure (recover_ok d) ?_
    conv => whnf
    repeat ((first | refine bF ?_ | refine bT ?_ | refine dK (by kernel_rfl) ?_ | refine cK rfl ?_ | refine cK (by first | decide | omega) ?_ | refine wK (by omega) (by omega) ?_); conv => whnf)
    exact ret_of rfl rfl
def tickP (p : PS) (n : Int) : PS := if n ≤ 0 then p else if 2147483647 - p.now < n then ⟨p.f, p.d, 2147483647⟩ else ⟨p.f, p.d, p.now + n⟩
theorem tick_ok (p : PS) (n : Int) (h0 : 0 ≤ p.now) (h1 : p.now ≤ 2147483647) : ACall Tryz.prog 27 [encPS p, .int .i64 n] (encPS (tickP p n)) := by
  refine acall_of Tryz.func27 2 rfl (by kernel_rfl) ?_
  conv => whnf
  rw [tickP]
  repeat ((first | refine bF ?_ | refine bT ?_ | refine dK (by kernel_rfl) ?_ | refine cK rfl ?_ | refine cK (by first | decide | omega) ?_ | refine wK (by omega) (by omega) ?_); conv => whnf)
  refine bcase_p (fun h2 => ?_) (fun h2 => ?_) <;> conv => whnf
  · repeat ((first | refine bF ?_ | refine bT ?_ | refine dK (by kernel_rfl) ?_ | refine cK rfl ?_ | refine cK (by first | decide | omega) ?_ | refine wK (by omega) (by omega) ?_); conv => whnf)
    rw [if_pos h2]
    exact ret_of rfl rfl
  rw [if_neg h2]
  repeat ((first | refine bF ?_ | refine bT ?_ | refine dK (by kernel_rfl) ?_ | refine cK rfl ?_ | refine cK (by first | decide | omega) ?_ | refine wK (by omega) (by omega) ?_); conv => whnf)
  refine bcase_p (fun h3 => ?_) (fun h3 => ?_) <;> conv => whnf
  · repeat ((first | refine bF ?_ | refine bT ?_ | refine dK (by kernel_rfl) ?_ | refine cK rfl ?_ | refine cK (by first | decide | omega) ?_ | refine wK (by omega) (by omega) ?_); conv => whnf)
    rw [if_pos h3]
    exact ret_of rfl rfl
  rw [if_neg h3]
  repeat ((first | refine bF ?_ | refine bT ?_ | refine dK (by kernel_rfl) ?_ | refine cK rfl ?_ | refine cK (by first | decide | omega) ?_ | refine wK (by omega) (by omega) ?_); conv => whnf)
  exact ret_of rfl rfl
abbrev PAct := Int × Int × ByteArray
def encPA (a : PAct) : List D := [.int .i64 a.1, .int .i64 a.2.1, .str a.2.2]
noncomputable def pinnedM (p : PS) (a : PAct) : PS × Pg × Int :=
  if (findF p.f a.2.1).2 = false ∨ (atF p.f.fr (findF p.f a.2.1).1.toNat).2.1 = 0 then (p, zP, 12)
  else if a.1 = 4 then (if (writeS p.f a.2.1 a.2.2 p.now).2 ≠ 0 then (p, zP, (writeS p.f a.2.1 a.2.2 p.now).2) else (⟨(writeS p.f a.2.1 a.2.2 p.now).1, p.d, p.now⟩, atP (writeS p.f a.2.1 a.2.2 p.now).1.pg (findF p.f a.2.1).1.toNat, 0))
  else if a.1 = 5 then (if (unpinS p.f a.2.1).2 ≠ 0 then (p, zP, (unpinS p.f a.2.1).2) else (⟨(unpinS p.f a.2.1).1, p.d, p.now⟩, zP, 0))
  else (p, atP p.f.pg (findF p.f a.2.1).1.toNat, 0)
theorem writeS_pg {f : FX} {q : Int} {b : ByteArray} {n : Int} (h : (writeS f q b n).2 = 0) : (writeS f q b n).1.pg.length = f.pg.length := by
  rw [writeS] at h ⊢
  repeat' split
  all_goals first | rfl | simp
theorem pinned_ok (p : PS) (a : PAct) (hF : FM p.f) (h1 : 1 ≤ a.2.1) (h16 : a.2.1 ≤ 16) :
    ACall Tryz.prog 46 [encPS p, .agg (encPA a)] (.tup [encPS (pinnedM p a).1, .agg (encP (pinnedM p a).2.1), .int .i64 (pinnedM p a).2.2]) := by
  have hfind := Find_ok p.f a.2.1 hF.tl hF.dl
  have hmf : (p.f.fr.map encF).length = p.f.fr.length := List.length_map ..
  have hmp : (p.f.pg.map encP).length = p.f.pg.length := List.length_map ..
  refine acall_of Tryz.func46 2 rfl (by kernel_rfl) ?_
  conv => whnf
  rw [pinnedM]
  repeat ((first | refine bF ?_ | refine bT ?_ | refine dK (by kernel_rfl) ?_ | refine cK rfl ?_ | refine cK (by first | decide | omega) ?_ | refine wK (by omega) (by omega) ?_); conv => whnf)
  rcases hF.find_cases (show a.2.1 ≠ 0 by omega) with ⟨_, hno⟩ | ⟨i, _, hA⟩
  · rw [findF_no hF hno (by omega)] at hfind ⊢
    refine callX_pure hfind ?_
    conv => whnf
    repeat ((first | refine bF ?_ | refine bT ?_ | refine dK (by kernel_rfl) ?_ | refine cK rfl ?_ | refine cK (by first | decide | omega) ?_ | refine wK (by omega) (by omega) ?_); conv => whnf)
    rw [if_pos (.inl rfl)]
    exact ret_of rfl rfl
  rw [findF_at hA] at hfind ⊢
  have hi := hA.hi
  have hip := hA.hp
  refine callX_pure hfind ?_
  conv => whnf
  repeat ((first | refine bF ?_ | refine bT ?_ | refine dK (by kernel_rfl) ?_ | refine cK rfl ?_ | refine cK (by first | decide | omega) ?_ | refine wK (by omega) (by omega) ?_); conv => whnf)
  rw [Int.toNat_natCast, atF_eq hi]
  refine idxK_nat (by omega) ?_
  conv => whnf
  refine getRow_of (x := encF p.f.fr[i]) (by simp [hi]) ?_
  conv => whnf
  repeat ((first | refine bF ?_ | refine bT ?_ | refine dK (by kernel_rfl) ?_ | refine cK rfl ?_ | refine cK (by first | decide | omega) ?_ | refine wK (by omega) (by omega) ?_); conv => whnf)
  refine bcase_p (fun h2 => ?_) (fun h2 => ?_) <;> conv => whnf
  · repeat ((first | refine bF ?_ | refine bT ?_ | refine dK (by kernel_rfl) ?_ | refine cK rfl ?_ | refine cK (by first | decide | omega) ?_ | refine wK (by omega) (by omega) ?_); conv => whnf)
    rw [if_pos (.inr h2)]
    exact ret_of rfl rfl
  rw [if_neg (fun q => q.elim (fun q => by cases q) h2)]
  repeat ((first | refine bF ?_ | refine bT ?_ | refine dK (by kernel_rfl) ?_ | refine cK rfl ?_ | refine cK (by first | decide | omega) ?_ | refine wK (by omega) (by omega) ?_); conv => whnf)
  refine bcase_p (fun h3 => ?_) (fun h3 => ?_) <;> conv => whnf
  · rw [if_pos h3]
    repeat ((first | refine bF ?_ | refine bT ?_ | refine dK (by kernel_rfl) ?_ | refine cK rfl ?_ | refine cK (by first | decide | omega) ?_ | refine wK (by omega) (by omega) ?_); conv => whnf)
    refine callX_pure (write_ok p.f a.2.1 a.2.2 p.now hF.tl hF.dl) ?_
    conv => whnf
    repeat ((first | refine bF ?_ | refine bT ?_ | refine dK (by kernel_rfl) ?_ | refine cK rfl ?_ | refine cK (by first | decide | omega) ?_ | refine wK (by omega) (by omega) ?_); conv => whnf)
    have hpg := @writeS_pg p.f a.2.1 a.2.2 p.now
    obtain ⟨r, hr⟩ : ∃ r, writeS p.f a.2.1 a.2.2 p.now = r := ⟨_, rfl⟩
    rw [hr] at hpg ⊢
    refine bcase_n (fun h4 => ?_) (fun h4 => ?_) <;> conv => whnf
    · repeat ((first | refine bF ?_ | refine bT ?_ | refine dK (by kernel_rfl) ?_ | refine cK rfl ?_ | refine cK (by first | decide | omega) ?_ | refine wK (by omega) (by omega) ?_); conv => whnf)
      rw [if_pos h4]
      exact ret_of rfl rfl
    rw [if_neg (fun q => q h4)]
    repeat ((first | refine bF ?_ | refine bT ?_ | refine dK (by kernel_rfl) ?_ | refine cK rfl ?_ | refine cK (by first | decide | omega) ?_ | refine wK (by omega) (by omega) ?_); conv => whnf)
    refine bcase_p (fun h5 => ?_) (fun h5 => ?_) <;> conv => whnf
    · omega
    have hmr : (r.1.pg.map encP).length = r.1.pg.length := List.length_map ..
    have hir : i < r.1.pg.length := by have := hpg (by omega); omega
    repeat ((first | refine bF ?_ | refine bT ?_ | refine dK (by kernel_rfl) ?_ | refine cK rfl ?_ | refine cK (by first | decide | omega) ?_ | refine wK (by omega) (by omega) ?_); conv => whnf)
    refine idxK_nat (by omega) ?_
    conv => whnf
    refine getRow_of (x := encP r.1.pg[i]) (by simp [hir]) ?_
    conv => whnf
    repeat ((first | refine bF ?_ | refine bT ?_ | refine dK (by kernel_rfl) ?_ | refine cK rfl ?_ | refine cK (by first | decide | omega) ?_ | refine wK (by omega) (by omega) ?_); conv => whnf)
    rw [atP_eq hir]
    exact ret_of rfl rfl
  · rw [if_neg h3]
    repeat ((first | refine bF ?_ | refine bT ?_ | refine dK (by kernel_rfl) ?_ | refine cK rfl ?_ | refine cK (by first | decide | omega) ?_ | refine wK (by omega) (by omega) ?_); conv => whnf)
    refine bcase_p (fun h4 => ?_) (fun h4 => ?_) <;> conv => whnf
    · rw [if_pos h4]
      repeat ((first | refine bF ?_ | refine bT ?_ | refine dK (by kernel_rfl) ?_ | refine cK rfl ?_ | refine cK (by first | decide | omega) ?_ | refine wK (by omega) (by omega) ?_); conv => whnf)
      refine callX_pure (unpin_ok p.f a.2.1 hF.tl hF.dl) ?_
      conv => whnf
      repeat ((first | refine bF ?_ | refine bT ?_ | refine dK (by kernel_rfl) ?_ | refine cK rfl ?_ | refine cK (by first | decide | omega) ?_ | refine wK (by omega) (by omega) ?_); conv => whnf)
      obtain ⟨r, hr⟩ : ∃ r, unpinS p.f a.2.1 = r := ⟨_, rfl⟩
      rw [hr]
      refine bcase_n (fun h5 => ?_) (fun h5 => ?_) <;> conv => whnf
      · repeat ((first | refine bF ?_ | refine bT ?_ | refine dK (by kernel_rfl) ?_ | refine cK rfl ?_ | refine cK (by first | decide | omega) ?_ | refine wK (by omega) (by omega) ?_); conv => whnf)
        rw [if_pos h5]
        exact ret_of rfl rfl
      rw [if_neg (fun q => q h5)]
      repeat ((first | refine bF ?_ | refine bT ?_ | refine dK (by kernel_rfl) ?_ | refine cK rfl ?_ | refine cK (by first | decide | omega) ?_ | refine wK (by omega) (by omega) ?_); conv => whnf)
      refine bcase_t (decide_eq_true h4) ?_
      conv => whnf
      repeat ((first | refine bF ?_ | refine bT ?_ | refine dK (by kernel_rfl) ?_ | refine cK rfl ?_ | refine cK (by first | decide | omega) ?_ | refine wK (by omega) (by omega) ?_); conv => whnf)
      exact ret_of rfl rfl
    · rw [if_neg h4]
      repeat ((first | refine bF ?_ | refine bT ?_ | refine dK (by kernel_rfl) ?_ | refine cK rfl ?_ | refine cK (by first | decide | omega) ?_ | refine wK (by omega) (by omega) ?_); conv => whnf)
      refine idxK_nat (by omega) ?_
      conv => whnf
      refine getRow_of (x := encP p.f.pg[i]) (by simp [hip]) ?_
      conv => whnf
      repeat ((first | refine bF ?_ | refine bT ?_ | refine dK (by kernel_rfl) ?_ | refine cK rfl ?_ | refine cK (by first | decide | omega) ?_ | refine wK (by omega) (by omega) ?_); conv => whnf)
      rw [atP_eq hip]
      exact ret_of rfl rfl
noncomputable def wbM (p : PS) (id : Int) : PS × List Jo × Int :=
  if (findF p.f id).2 = false then (p, [], 3)
  else if (cleanF p.f id).2 ≠ 0 then (p, [], (cleanF p.f id).2)
  else if (setS p.d (atP p.f.pg (findF p.f id).1.toNat)).2 ≠ 0 then (p, [], (setS p.d (atP p.f.pg (findF p.f id).1.toNat)).2)
  else (⟨(cleanF p.f id).1, (setS p.d (atP p.f.pg (findF p.f id).1.toNat)).1, p.now⟩, stepsS p.d (atP p.f.pg (findF p.f id).1.toNat), 0)
theorem writeBack_ok (p : PS) (id : Int) (hF : FM p.f) (h0 : id ≠ 0) :
    ACall Tryz.prog 85 [encPS p, .int .i64 id] (.tup [encPS (wbM p id).1, .lst ((wbM p id).2.1.map encJ), .int .i64 (wbM p id).2.2]) := by
  have hfind := Find_ok p.f id hF.tl hF.dl
  have hmp : (p.f.pg.map encP).length = p.f.pg.length := List.length_map ..
  refine acall_of Tryz.func85 2 rfl (by kernel_rfl) ?_
  conv => whnf
  rw [wbM]
  repeat ((first | refine bF ?_ | refine bT ?_ | refine dK (by kernel_rfl) ?_ | refine cK rfl ?_ | refine cK (by first | decide | omega) ?_ | refine wK (by omega) (by omega) ?_); conv => whnf)
  rcases hF.find_cases h0 with ⟨_, hno⟩ | ⟨i, _, hA⟩
  · rw [findF_no hF hno h0] at hfind ⊢
    refine callX_pure hfind ?_
    conv => whnf
    repeat ((first | refine bF ?_ | refine bT ?_ | refine dK (by kernel_rfl) ?_ | refine cK rfl ?_ | refine cK (by first | decide | omega) ?_ | refine wK (by omega) (by omega) ?_); conv => whnf)
    rw [if_pos rfl]
    exact ret_of rfl rfl
  rw [findF_at hA] at hfind ⊢
  have hip := hA.hp
  refine callX_pure hfind ?_
  conv => whnf
  repeat ((first | refine bF ?_ | refine bT ?_ | refine dK (by kernel_rfl) ?_ | refine cK rfl ?_ | refine cK (by first | decide | omega) ?_ | refine wK (by omega) (by omega) ?_); conv => whnf)
  rw [if_neg (show ¬ true = false by decide), Int.toNat_natCast, atP_eq hip]
  obtain ⟨x, hx⟩ : ∃ x, p.f.pg[i] = x := ⟨_, rfl⟩
  rw [hx]
  refine idxK_nat (by omega) ?_
  conv => whnf
  refine getRow_of (x := encP x) (by simp [hip, hx]) ?_
  conv => whnf
  repeat ((first | refine bF ?_ | refine bT ?_ | refine dK (by kernel_rfl) ?_ | refine cK rfl ?_ | refine cK (by first | decide | omega) ?_ | refine wK (by omega) (by omega) ?_); conv => whnf)
  refine callX_pure (clean_ok p.f id hF.tl hF.dl) ?_
  conv => whnf
  repeat ((first | refine bF ?_ | refine bT ?_ | refine dK (by kernel_rfl) ?_ | refine cK rfl ?_ | refine cK (by first | decide | omega) ?_ | refine wK (by omega) (by omega) ?_); conv => whnf)
  refine bcase_n (fun h2 => ?_) (fun h2 => ?_) <;> conv => whnf
  · repeat ((first | refine bF ?_ | refine bT ?_ | refine dK (by kernel_rfl) ?_ | refine cK rfl ?_ | refine cK (by first | decide | omega) ?_ | refine wK (by omega) (by omega) ?_); conv => whnf)
    rw [if_pos h2]
    exact ret_of rfl rfl
  rw [if_neg (fun q => q h2)]
  repeat ((first | refine bF ?_ | refine bT ?_ | refine dK (by kernel_rfl) ?_ | refine cK rfl ?_ | refine cK (by first | decide | omega) ?_ | refine wK (by omega) (by omega) ?_); conv => whnf)
  refine callX_pure (setS_ok p.d x) ?_
  conv => whnf
  repeat ((first | refine bF ?_ | refine bT ?_ | refine dK (by kernel_rfl) ?_ | refine cK rfl ?_ | refine cK (by first | decide | omega) ?_ | refine wK (by omega) (by omega) ?_); conv => whnf)
  refine bcase_n (fun h3 => ?_) (fun h3 => ?_) <;> conv => whnf
  · repeat ((first | refine bF ?_ | refine bT ?_ | refine dK (by kernel_rfl) ?_ | refine cK rfl ?_ | refine cK (by first | decide | omega) ?_ | refine wK (by omega) (by omega) ?_); conv => whnf)
    rw [if_pos h3]
    exact ret_of rfl rfl
  rw [if_neg (fun q => q h3)]
  repeat ((first | refine bF ?_ | refine bT ?_ | refine dK (by kernel_rfl) ?_ | refine cK rfl ?_ | refine cK (by first | decide | omega) ?_ | refine wK (by omega) (by omega) ?_); conv => whnf)
  refine callX_pure (stepsS_ok p.d x) ?_
  conv => whnf
  repeat ((first | refine bF ?_ | refine bT ?_ | refine dK (by kernel_rfl) ?_ | refine cK rfl ?_ | refine cK (by first | decide | omega) ?_ | refine wK (by omega) (by omega) ?_); conv => whnf)
  exact ret_of rfl rfl
end Go.Lk

namespace Go.Lk
open Go Go.Proofs Go.RowKit

/-! ### room -/
def cleanD (f : FX) (id : Int) : FX := ⟨f.fr, f.hand, f.tb, f.pg, f.dt.filter fun x => x.1 != id⟩
theorem since_place {l : List (Int × Int)} {n : Int} (h : (Dt.sinceG l n).2 = true) : 0 ≤ Dt.placeG l n 0 := by
  rw [Dt.sinceG] at h
  split at h
  · cases h
  · omega
theorem cleanF_at {f : FX} {p : Int} {i : Nat} (hA : AtF f p i) : cleanF f p = if 0 ≤ Dt.placeG f.dt p 0 then (cleanD f p, 0) else (f, 12) := by
  have hR := hA.right
  have e : lookS f p = ((i : Int), 0) := by
    rw [lookS, if_pos (fm_iff.2 hR), (find_mem hR.tb).2 ⟨hA.p1, hA.mem⟩]; rfl
  rw [cleanF, e, if_neg (fun q => q rfl), Dt.clean_right hR.dt]
  by_cases h : 0 ≤ Dt.placeG f.dt p 0
  · rw [if_pos h, if_pos h]; rfl
  · rw [if_neg h, if_neg h]; rfl
theorem cleanD_fm {f : FX} (h : FM f) (p : Int) : FM (cleanD f p) := by
  obtain ⟨c1, c2⟩ := clean_cases (p := p) h.dt
  by_cases hp : 0 ≤ Dt.placeG f.dt p 0
  · rw [Dt.clean_right h.dt, if_pos hp] at c1 c2
    exact h.dirt c1 fun y hy => ((c2 y).1 hy).1
  · have e : f.dt.filter (fun x => x.1 != p) = f.dt := by
      rw [List.filter_eq_self]
      intro x hx
      simp only [bne_iff_ne, ne_eq]
      intro q
      exact hp (Dt.placeG_mem.2 ⟨x, hx, q⟩)
    rw [cleanD, e]; exact h
theorem cleanD_lt {f : FX} {p : Int} (h : 0 ≤ Dt.placeG f.dt p 0) : (cleanD f p).dt.length < f.dt.length := by
  obtain ⟨x, hx, e⟩ := Dt.placeG_mem.1 h
  show (f.dt.filter _).length < _
  rw [List.length_filter_lt_length_iff_exists]
  exact ⟨x, hx, by simp [e]⟩
theorem stepsS_len (d : DS) (x : Pg) : (stepsS d x).length ≤ 10 := by
  rw [stepsS]; split
  · split
    · exact planM_len _ _ _
    · simp
  · exact planM_len _ _ _
theorem wb_at {p : PS} {id : Int} {i : Nat} (hA : AtF p.f id i) : wbM p id = if 0 ≤ Dt.placeG p.f.dt id 0 then (if (setS p.d (p.f.pg[i]'hA.hp)).2 ≠ 0 then (p, [], (setS p.d (p.f.pg[i]'hA.hp)).2) else (⟨cleanD p.f id, (setS p.d (p.f.pg[i]'hA.hp)).1, p.now⟩, stepsS p.d (p.f.pg[i]'hA.hp), 0)) else (p, [], 12) := by
  rw [wbM, findF_at hA, if_neg (show ¬ true = false by decide), Int.toNat_natCast, atP_eq hA.hp, cleanF_at hA]
  by_cases h : 0 ≤ Dt.placeG p.f.dt id 0
  · rw [if_pos h, if_pos h, if_neg (fun q => q rfl)]
  · rw [if_neg h, if_neg h, if_pos (show (12 : Int) ≠ 0 by decide)]
noncomputable def mrM : Nat → PS → List Jo → PS × List Jo × Int
  | 0, p, l => (p, l, 99)
  | n + 1, p, l =>
    if (roomS p.f).2.2.2 ≠ 0 then (p, l, (roomS p.f).2.2.2)
    else if (roomS p.f).2.2.1 = false then (⟨(roomS p.f).1, p.d, p.now⟩, l, 0)
    else if (wbM ⟨(roomS p.f).1, p.d, p.now⟩ (roomS p.f).2.1.1).2.2 ≠ 0 then (⟨(roomS p.f).1, p.d, p.now⟩, l, (wbM ⟨(roomS p.f).1, p.d, p.now⟩ (roomS p.f).2.1.1).2.2)
    else mrM n (wbM ⟨(roomS p.f).1, p.d, p.now⟩ (roomS p.f).2.1.1).1 (l ++ (wbM ⟨(roomS p.f).1, p.d, p.now⟩ (roomS p.f).2.1.1).2.1)
noncomputable def makeM (p : PS) : PS × List Jo × Int := mrM 17 p []
/-- who is told dirty is in a frame, and is dirty -/
theorem room_dirty {f : FX} (h : FM f) (he : (roomS f).2.2.2 = 0) (hd : (roomS f).2.2.1 = true) :
    ∃ i, AtF (roomS f).1 (roomS f).2.1.1 i ∧ 0 ≤ Dt.placeG (roomS f).1.dt (roomS f).2.1.1 0 ∧ (roomS f).1.dt = f.dt := by
  rcases room_cases h with ⟨i, hi, _, e⟩ | ⟨_, _, e⟩ | ⟨_, l, a, p, hA, hs, hA2, _, e⟩
  · rw [e] at hd; cases hd
  · rw [e] at hd; cases hd
  · by_cases hq : (Dt.sinceG f.dt p).2 = true
    · rw [if_pos hq] at e
      rw [e]
      have hpg : (f.pg[a]'hA.hp).1 = p := hA.pg
      exact ⟨a, by simp only []; rw [hpg]; exact hA2, by simp only []; rw [hpg]; exact since_place hq, rfl⟩
    · rw [if_neg hq] at e; rw [e] at hd; cases hd
structure MRI (p0 : PS) (s : Nat × PS × List Jo) : Prop where
  fm : FM s.2.1.f
  lt : s.2.1.f.dt.length < s.1
  n : s.1 ≤ 17
  len : s.2.2.length + 10 * s.1 ≤ 170
  eq : makeM p0 = mrM s.1 s.2.1 s.2.2
set_option maxHeartbeats 4000000 in
theorem makeRoom_ok (p : PS) (hF : FM p.f) : ACall Tryz.prog 124 [encPS p] (.tup [encPS (makeM p).1, .lst ((makeM p).2.1.map encJ), .int .i64 (makeM p).2.2]) := by
  refine acall_of Tryz.func124 1 rfl (by kernel_rfl) ?_
  conv => whnf
  refine aloop (ι := Nat × PS × List Jo) (fun s => [(1, .ptr 1 0 0), (2, .ptr 2 0 0), (5, .own 47)]) (fun s => [(1, .box s.2.1.box false), (2, .box [.nil, .d (.int .i64 0), .nil, .nil, .nil, .nil, .nil, .d (.int .i64 0)] false), (47, .row (s.2.2.map encJ) 3 false)])
    (MRI p) (fun s => s.1) (17, p, []) ⟨hF, by have := hF.dl; have := (Dt.rightB_out hF.dt).1; simp only []; omega, by simp only []; omega, by simp, rfl⟩ (le1 (.row 5 47 3) ⟨rfl, rfl⟩ (le_of_cov ⟨rfl, rfl, rfl, trivial⟩ ⟨rfl, rfl, rfl, trivial⟩ ⟨rfl, rfl, rfl, rfl⟩)) ?_
  rintro ⟨n, q, l⟩ ⟨hq, hlt, hn, hlen, he⟩
  simp only at hq hlt hn hlen he ⊢
  rw [he]
  obtain ⟨k, rfl⟩ : ∃ k, n = k + 1 := ⟨n - 1, by omega⟩
  rw [mrM]
  conv => whnf
  repeat ((first | refine bF ?_ | refine bT ?_ | refine dK (by kernel_rfl) ?_ | refine cK rfl ?_ | refine cK (by first | decide | omega) ?_ | refine wK (by omega) (by omega) ?_); conv => whnf)
  refine callX_pure (room_ok q.f hq.tl hq.dl) ?_
  conv => whnf
  repeat ((first | refine bF ?_ | refine bT ?_ | refine dK (by kernel_rfl) ?_ | refine cK rfl ?_ | refine cK (by first | decide | omega) ?_ | refine wK (by omega) (by omega) ?_); conv => whnf)
  have hrd := @room_dirty q.f hq
  obtain ⟨r, hr⟩ : ∃ r, roomS q.f = r := ⟨_, rfl⟩
  rw [hr] at hrd ⊢
  refine bcase_n (fun h1 => ?_) (fun h1 => ?_) <;> conv => whnf
  · repeat ((first | refine bF ?_ | refine bT ?_ | refine dK (by kernel_rfl) ?_ | refine cK rfl ?_ | refine cK (by first | decide | omega) ?_ | refine wK (by omega) (by omega) ?_); conv => whnf)
    rw [if_pos h1]
    exact ret_of rfl rfl
  rw [if_neg (fun q => q h1)]
  repeat ((first | refine bF ?_ | refine bT ?_ | refine dK (by kernel_rfl) ?_ | refine cK rfl ?_ | refine cK (by first | decide | omega) ?_ | refine wK (by omega) (by omega) ?_); conv => whnf)
  refine bcase_intro (fun h2 => ?_) (fun h2 => ?_) <;> conv => whnf
  · repeat ((first | refine bF ?_ | refine bT ?_ | refine dK (by kernel_rfl) ?_ | refine cK rfl ?_ | refine cK (by first | decide | omega) ?_ | refine wK (by omega) (by omega) ?_); conv => whnf)
    rw [if_pos (by simpa using h2)]
    exact ret_of rfl rfl
  have h2 : r.2.2.1 = true := by simpa using h2
  rw [if_neg (by rw [h2]; decide)]
  obtain ⟨i, hA, hd, hdt⟩ := hrd h1 h2
  have hid : r.2.1.1 ≠ 0 := by have := hA.p1; omega
  repeat ((first | refine bF ?_ | refine bT ?_ | refine dK (by kernel_rfl) ?_ | refine cK rfl ?_ | refine cK (by first | decide | omega) ?_ | refine wK (by omega) (by omega) ?_); conv => whnf)
  refine callX_pure (writeBack_ok ⟨r.1, q.d, q.now⟩ r.2.1.1 hA.right hid) ?_
  conv => whnf
  repeat ((first | refine bF ?_ | refine bT ?_ | refine dK (by kernel_rfl) ?_ | refine cK rfl ?_ | refine cK (by first | decide | omega) ?_ | refine wK (by omega) (by omega) ?_); conv => whnf)
  have hw := @wb_at ⟨r.1, q.d, q.now⟩ r.2.1.1 i hA
  obtain ⟨w, hwd⟩ : ∃ w, wbM ⟨r.1, q.d, q.now⟩ r.2.1.1 = w := ⟨_, rfl⟩
  rw [hwd] at hw ⊢
  refine bcase_n (fun h3 => ?_) (fun h3 => ?_) <;> conv => whnf
  · repeat ((first | refine bF ?_ | refine bT ?_ | refine dK (by kernel_rfl) ?_ | refine cK rfl ?_ | refine cK (by first | decide | omega) ?_ | refine wK (by omega) (by omega) ?_); conv => whnf)
    rw [if_pos h3]
    exact ret_of rfl rfl
  rw [if_neg (fun q => q h3)]
  have hd' : 0 ≤ Dt.placeG (PS.mk r.1 q.d q.now).f.dt r.2.1.1 0 := hd
  rw [if_pos hd'] at hw
  have hg : w.1.f = cleanD r.1 r.2.1.1 ∧ w.2.1.length ≤ 10 := by
    split at hw
    · rename_i g
      rw [hw] at h3
      exact absurd h3 g
    · rw [hw]; exact ⟨rfl, stepsS_len _ _⟩
  have hfm := cleanD_fm hA.right r.2.1.1
  have hln := cleanD_lt hd
  have hmw : (w.2.1.map encJ).length = w.2.1.length := List.length_map ..
  have hml : (l.map encJ).length = l.length := List.length_map ..
  repeat ((first | refine bF ?_ | refine bT ?_ | refine dK (by kernel_rfl) ?_ | refine cK rfl ?_ | refine cK (by first | decide | omega) ?_ | refine wK (by omega) (by omega) ?_); conv => whnf)
  refine condK_of (encJ_ok _) ?_
  conv => whnf
  refine roomK_le 1000 1000 (by omega) (by decide) (by decide) (by decide) ?_
  conv => whnf
  refine ⟨(k, w.1, l ++ w.2.1), ⟨by simp only []; rw [hg.1]; exact hfm, by simp only []; rw [hg.1]; rw [hdt] at hln; omega, by simp only []; omega, by simp only [List.length_append]; omega, ?_⟩, by simp only []; omega, le0 (le_of_cov ⟨?_, ?_, ?_, trivial⟩ ⟨?_, ?_, ?_, trivial⟩ ⟨?_, ?_, ?_, ?_⟩)⟩
  · simp only []
    rw [he, mrM, hr, if_neg (fun q => q h1), if_neg (by rw [h2]; decide), hwd, if_neg (fun q => q h3)]
  rotate_left 5
  · rw [List.map_append]; kernel_rfl
  all_goals kernel_rfl
end Go.Lk

namespace Go.Lk
open Go Go.Proofs Go.RowKit

/-! ### frames stay right -/
theorem room_fm {f : FX} (h : FM f) : FM (roomS f).1 := by
  rcases room_cases h with ⟨i, hi, _, e⟩ | ⟨_, _, e⟩ | ⟨_, l, a, p, hA, hs, hA2, _, e⟩
  · rw [e]; exact h
  · rw [e]; exact h
  · rw [e]; split
    · exact hA2.right
    · exact FM.rel hA2
theorem clean_fm {f : FX} (h : FM f) (id : Int) : FM (cleanF f id).1 := by
  rcases look_split f id with e | ⟨i, e, hA⟩
  · rw [cleanF, if_pos e]; exact h
  · rw [cleanF_at hA]; split
    · exact cleanD_fm h id
    · exact h
theorem wb_fm {p : PS} (h : FM p.f) (id : Int) : FM (wbM p id).1.f := by
  rw [wbM]
  split
  · exact h
  split
  · exact h
  split
  · exact h
  · exact clean_fm h id
theorem mr_fm : ∀ (n : Nat) (p : PS) (l : List Jo), FM p.f → FM (mrM n p l).1.f
  | 0, p, l, h => h
  | n + 1, p, l, h => by
    rw [mrM]
    split
    · exact h
    split
    · exact room_fm h
    split
    · exact room_fm h
    · exact mr_fm n _ _ (wb_fm (p := ⟨(roomS p.f).1, p.d, p.now⟩) (room_fm h) _)
theorem make_fm {p : PS} (h : FM p.f) : FM (makeM p).1.f := mr_fm 17 p [] h
abbrev R4 := PS × Pg × List Jo × Int
def encR4 (r : R4) : D := .tup [encPS r.1, .agg (encP r.2.1), .lst (r.2.2.1.map encJ), .int .i64 r.2.2.2]
noncomputable def poolLoad (p : PS) (x : Pg) (fresh : Bool) : R4 :=
  if (makeM p).2.2 ≠ 0 then ((makeM p).1, zP, [], (makeM p).2.2)
  else if (loadS (makeM p).1.f x (makeM p).1.now fresh).2 ≠ 0 then ((makeM p).1, zP, [], (loadS (makeM p).1.f x (makeM p).1.now fresh).2)
  else (⟨(loadS (makeM p).1.f x (makeM p).1.now fresh).1, (makeM p).1.d, (makeM p).1.now⟩, x, (makeM p).2.1, 0)
theorem poolLoad_ok (p : PS) (x : Pg) (fresh : Bool) (hF : FM p.f) : ACall Tryz.prog 80 [encPS p, .agg (encP x), .bool fresh] (encR4 (poolLoad p x fresh)) := by
  have hfm := make_fm hF
  refine acall_of Tryz.func80 3 rfl (by kernel_rfl) ?_
  conv => whnf
  rw [poolLoad]
  repeat ((first | refine bF ?_ | refine bT ?_ | refine dK (by kernel_rfl) ?_ | refine cK rfl ?_ | refine cK (by first | decide | omega) ?_ | refine wK (by omega) (by omega) ?_); conv => whnf)
  refine callX_pure (makeRoom_ok p hF) ?_
  conv => whnf
  repeat ((first | refine bF ?_ | refine bT ?_ | refine dK (by kernel_rfl) ?_ | refine cK rfl ?_ | refine cK (by first | decide | omega) ?_ | refine wK (by omega) (by omega) ?_); conv => whnf)
  obtain ⟨r, hr⟩ : ∃ r, makeM p = r := ⟨_, rfl⟩
  rw [hr] at hfm ⊢
  refine bcase_n (fun h1 => ?_) (fun h1 => ?_) <;> conv => whnf
  · repeat ((first | refine bF ?_ | refine bT ?_ | refine dK (by kernel_rfl) ?_ | refine cK rfl ?_ | refine cK (by first | decide | omega) ?_ | refine wK (by omega) (by omega) ?_); conv => whnf)
    rw [if_pos h1]
    exact ret_of rfl rfl
  rw [if_neg (fun q => q h1)]
  repeat ((first | refine bF ?_ | refine bT ?_ | refine dK (by kernel_rfl) ?_ | refine cK rfl ?_ | refine cK (by first | decide | omega) ?_ | refine wK (by omega) (by omega) ?_); conv => whnf)
  refine callX_pure (load_ok r.1.f x r.1.now fresh hfm.tl hfm.dl) ?_
  conv => whnf
  repeat ((first | refine bF ?_ | refine bT ?_ | refine dK (by kernel_rfl) ?_ | refine cK rfl ?_ | refine cK (by first | decide | omega) ?_ | refine wK (by omega) (by omega) ?_); conv => whnf)
  obtain ⟨g, hg⟩ : ∃ g, loadS r.1.f x r.1.now fresh = g := ⟨_, rfl⟩
  rw [hg]
  refine bcase_n (fun h2 => ?_) (fun h2 => ?_) <;> conv => whnf
  · repeat ((first | refine bF ?_ | refine bT ?_ | refine dK (by kernel_rfl) ?_ | refine cK rfl ?_ | refine cK (by first | decide | omega) ?_ | refine wK (by omega) (by omega) ?_); conv => whnf)
    rw [if_pos h2]
    exact ret_of rfl rfl
  rw [if_neg (fun q => q h2)]
  repeat ((first | refine bF ?_ | refine bT ?_ | refine dK (by kernel_rfl) ?_ | refine cK rfl ?_ | refine cK (by first | decide | omega) ?_ | refine wK (by omega) (by omega) ?_); conv => whnf)
  exact ret_of rfl rfl
noncomputable def poolFetch (p : PS) (id : Int) : R4 :=
  if (findF p.f id).2 = true then (if (pinS p.f id).2 ≠ 0 then (p, zP, [], (pinS p.f id).2) else (⟨(pinS p.f id).1, p.d, p.now⟩, atP (pinS p.f id).1.pg (findF p.f id).1.toNat, [], 0))
  else if (getS p.d id).2 ≠ 0 then (p, zP, [], (getS p.d id).2) else poolLoad p (getS p.d id).1 false
theorem pinS_pg {f : FX} {q : Int} : (pinS f q).1.pg = f.pg := by
  rw [pinS]
  repeat' split
  all_goals rfl
theorem poolFetch_ok (p : PS) (id : Int) (hF : FM p.f) (h0 : id ≠ 0) : ACall Tryz.prog 41 [encPS p, .int .i64 id] (encR4 (poolFetch p id)) := by
  have hfind := Find_ok p.f id hF.tl hF.dl
  refine acall_of Tryz.func41 2 rfl (by kernel_rfl) ?_
  conv => whnf
  rw [poolFetch]
  repeat ((first | refine bF ?_ | refine bT ?_ | refine dK (by kernel_rfl) ?_ | refine cK rfl ?_ | refine cK (by first | decide | omega) ?_ | refine wK (by omega) (by omega) ?_); conv => whnf)
  rcases hF.find_cases h0 with ⟨_, hno⟩ | ⟨i, _, hA⟩
  · rw [findF_no hF hno h0] at hfind ⊢
    refine callX_pure hfind ?_
    conv => whnf
    repeat ((first | refine bF ?_ | refine bT ?_ | refine dK (by kernel_rfl) ?_ | refine cK rfl ?_ | refine cK (by first | decide | omega) ?_ | refine wK (by omega) (by omega) ?_); conv => whnf)
    rw [if_neg (show ¬ false = true by decide)]
    refine callX_pure (getS_ok p.d id) ?_
    conv => whnf
    repeat ((first | refine bF ?_ | refine bT ?_ | refine dK (by kernel_rfl) ?_ | refine cK rfl ?_ | refine cK (by first | decide | omega) ?_ | refine wK (by omega) (by omega) ?_); conv => whnf)
    obtain ⟨g, hg⟩ : ∃ g, getS p.d id = g := ⟨_, rfl⟩
    rw [hg]
    refine bcase_n (fun h1 => ?_) (fun h1 => ?_) <;> conv => whnf
    · repeat ((first | refine bF ?_ | refine bT ?_ | refine dK (by kernel_rfl) ?_ | refine cK rfl ?_ | refine cK (by first | decide | omega) ?_ | refine wK (by omega) (by omega) ?_); conv => whnf)
      rw [if_pos h1]
      exact ret_of rfl rfl
    rw [if_neg (fun q => q h1)]
    repeat ((first | refine bF ?_ | refine bT ?_ | refine dK (by kernel_rfl) ?_ | refine cK rfl ?_ | refine cK (by first | decide | omega) ?_ | refine wK (by omega) (by omega) ?_); conv => whnf)
    refine callX_pure (poolLoad_ok p g.1 false hF) ?_
    conv => whnf
    repeat ((first | refine bF ?_ | refine bT ?_ | refine dK (by kernel_rfl) ?_ | refine cK rfl ?_ | refine cK (by first | decide | omega) ?_ | refine wK (by omega) (by omega) ?_); conv => whnf)
    exact ret_of rfl rfl
  · rw [findF_at hA] at hfind ⊢
    have hip := hA.hp
    refine callX_pure hfind ?_
    conv => whnf
    repeat ((first | refine bF ?_ | refine bT ?_ | refine dK (by kernel_rfl) ?_ | refine cK rfl ?_ | refine cK (by first | decide | omega) ?_ | refine wK (by omega) (by omega) ?_); conv => whnf)
    rw [if_pos rfl]
    refine callX_pure (pin_ok p.f id hF.tl hF.dl) ?_
    conv => whnf
    repeat ((first | refine bF ?_ | refine bT ?_ | refine dK (by kernel_rfl) ?_ | refine cK rfl ?_ | refine cK (by first | decide | omega) ?_ | refine wK (by omega) (by omega) ?_); conv => whnf)
    have hpg := @pinS_pg p.f id
    obtain ⟨r, hr⟩ : ∃ r, pinS p.f id = r := ⟨_, rfl⟩
    rw [hr] at hpg ⊢
    refine bcase_n (fun h1 => ?_) (fun h1 => ?_) <;> conv => whnf
    · repeat ((first | refine bF ?_ | refine bT ?_ | refine dK (by kernel_rfl) ?_ | refine cK rfl ?_ | refine cK (by first | decide | omega) ?_ | refine wK (by omega) (by omega) ?_); conv => whnf)
      rw [if_pos h1]
      exact ret_of rfl rfl
    rw [if_neg (fun q => q h1)]
    have hir : i < r.1.pg.length := by rw [hpg]; exact hip
    have hmr : (r.1.pg.map encP).length = r.1.pg.length := List.length_map ..
    repeat ((first | refine bF ?_ | refine bT ?_ | refine dK (by kernel_rfl) ?_ | refine cK rfl ?_ | refine cK (by first | decide | omega) ?_ | refine wK (by omega) (by omega) ?_); conv => whnf)
    refine idxK_nat (by omega) ?_
    conv => whnf
    refine getRow_of (x := encP r.1.pg[i]) (by simp [hir]) ?_
    conv => whnf
    repeat ((first | refine bF ?_ | refine bT ?_ | refine dK (by kernel_rfl) ?_ | refine cK rfl ?_ | refine cK (by first | decide | omega) ?_ | refine wK (by omega) (by omega) ?_); conv => whnf)
    rw [Int.toNat_natCast, atP_eq hir]
    exact ret_of rfl rfl
noncomputable def poolCreate (p : PS) (id : Int) : R4 :=
  if (findF p.f id).2 = true then (p, zP, [], 4)
  else if (getS p.d id).2 = 3 then poolLoad p (id, 1, ByteArray.empty) true
  else if (getS p.d id).2 = 0 then (p, zP, [], 4) else (p, zP, [], (getS p.d id).2)
theorem poolCreate_ok (p : PS) (id : Int) (hF : FM p.f) (h0 : id ≠ 0) : ACall Tryz.prog 42 [encPS p, .int .i64 id] (encR4 (poolCreate p id)) := by
  have hfind := Find_ok p.f id hF.tl hF.dl
  refine acall_of Tryz.func42 2 rfl (by kernel_rfl) ?_
  conv => whnf
  rw [poolCreate]
  repeat ((first | refine bF ?_ | refine bT ?_ | refine dK (by kernel_rfl) ?_ | refine cK rfl ?_ | refine cK (by first | decide | omega) ?_ | refine wK (by omega) (by omega) ?_); conv => whnf)
  rcases hF.find_cases h0 with ⟨_, hno⟩ | ⟨i, _, hA⟩
  · rw [findF_no hF hno h0] at hfind ⊢
    refine callX_pure hfind ?_
    conv => whnf
    repeat ((first | refine bF ?_ | refine bT ?_ | refine dK (by kernel_rfl) ?_ | refine cK rfl ?_ | refine cK (by first | decide | omega) ?_ | refine wK (by omega) (by omega) ?_); conv => whnf)
    rw [if_neg (show ¬ false = true by decide)]
    refine callX_pure (getS_ok p.d id) ?_
    conv => whnf
    repeat ((first | refine bF ?_ | refine bT ?_ | refine dK (by kernel_rfl) ?_ | refine cK rfl ?_ | refine cK (by first | decide | omega) ?_ | refine wK (by omega) (by omega) ?_); conv => whnf)
    obtain ⟨g, hg⟩ : ∃ g, getS p.d id = g := ⟨_, rfl⟩
    rw [hg]
    refine bcase_p (fun h1 => ?_) (fun h1 => ?_) <;> conv => whnf
    · repeat ((first | refine bF ?_ | refine bT ?_ | refine dK (by kernel_rfl) ?_ | refine cK rfl ?_ | refine cK (by first | decide | omega) ?_ | refine wK (by omega) (by omega) ?_); conv => whnf)
      rw [if_pos h1]
      refine callX_pure (poolLoad_ok p (id, 1, ByteArray.empty) true hF) ?_
      conv => whnf
      repeat ((first | refine bF ?_ | refine bT ?_ | refine dK (by kernel_rfl) ?_ | refine cK rfl ?_ | refine cK (by first | decide | omega) ?_ | refine wK (by omega) (by omega) ?_); conv => whnf)
      exact ret_of rfl rfl
    rw [if_neg h1]
    repeat ((first | refine bF ?_ | refine bT ?_ | refine dK (by kernel_rfl) ?_ | refine cK rfl ?_ | refine cK (by first | decide | omega) ?_ | refine wK (by omega) (by omega) ?_); conv => whnf)
    refine bcase_p (fun h2 => ?_) (fun h2 => ?_) <;> conv => whnf
    · repeat ((first | refine bF ?_ | refine bT ?_ | refine dK (by kernel_rfl) ?_ | refine cK rfl ?_ | refine cK (by first | decide | omega) ?_ | refine wK (by omega) (by omega) ?_); conv => whnf)
      rw [if_pos h2]
      exact ret_of rfl rfl
    rw [if_neg h2]
    repeat ((first | refine bF ?_ | refine bT ?_ | refine dK (by kernel_rfl) ?_ | refine cK rfl ?_ | refine cK (by first | decide | omega) ?_ | refine wK (by omega) (by omega) ?_); conv => whnf)
    exact ret_of rfl rfl
  · rw [findF_at hA] at hfind ⊢
    refine callX_pure hfind ?_
    conv => whnf
    repeat ((first | refine bF ?_ | refine bT ?_ | refine dK (by kernel_rfl) ?_ | refine cK rfl ?_ | refine cK (by first | decide | omega) ?_ | refine wK (by omega) (by omega) ?_); conv => whnf)
    rw [if_pos rfl]
    exact ret_of rfl rfl
end Go.Lk

namespace Go.Lk
open Go Go.Proofs Go.RowKit

noncomputable def delTail (p next : PS) (id : Int) : R4 :=
  if (getS p.d id).2 = 3 then (next, zP, [], 0)
  else if (delD p.d id).2 ≠ 0 then (p, zP, [], (delD p.d id).2)
  else (⟨next.f, (delD p.d id).1, next.now⟩, zP, stepsS p.d (id, 0, ByteArray.empty), 0)
noncomputable def poolRemove (p : PS) (id : Int) : R4 :=
  if (findF p.f id).2 = true then
    (if 0 < (atF p.f.fr (findF p.f id).1.toNat).2.1 then (p, zP, [], 6)
     else if (dropS p.f id).2 ≠ 0 then (p, zP, [], (dropS p.f id).2) else delTail p ⟨(dropS p.f id).1, p.d, p.now⟩ id)
  else if (getS p.d id).2 ≠ 0 then (p, zP, [], 3) else delTail p p id
set_option maxHeartbeats 4000000 in
theorem poolRemove_ok (p : PS) (id : Int) (hF : FM p.f) (h0 : id ≠ 0) : ACall Tryz.prog 43 [encPS p, .int .i64 id] (encR4 (poolRemove p id)) := by
  have hfind := Find_ok p.f id hF.tl hF.dl
  have hmf : (p.f.fr.map encF).length = p.f.fr.length := List.length_map ..
  refine acall_of Tryz.func43 2 rfl (by kernel_rfl) ?_
  conv => whnf
  rw [poolRemove]
  repeat ((first | refine bF ?_ | refine bT ?_ | refine dK (by kernel_rfl) ?_ | refine cK rfl ?_ | refine cK (by first | decide | omega) ?_ | refine wK (by omega) (by omega) ?_); conv => whnf)
  obtain ⟨g, hg⟩ : ∃ g, getS p.d id = g := ⟨_, rfl⟩
  rcases hF.find_cases h0 with ⟨_, hno⟩ | ⟨i, _, hA⟩
  · rw [findF_no hF hno h0] at hfind ⊢
    refine callX_pure hfind ?_
    conv => whnf
    repeat ((first | refine bF ?_ | refine bT ?_ | refine dK (by kernel_rfl) ?_ | refine cK rfl ?_ | refine cK (by first | decide | omega) ?_ | refine wK (by omega) (by omega) ?_); conv => whnf)
    rw [if_neg (show ¬ false = true by decide)]
    refine callX_pure (getS_ok p.d id) ?_
    conv => whnf
    repeat ((first | refine bF ?_ | refine bT ?_ | refine dK (by kernel_rfl) ?_ | refine cK rfl ?_ | refine cK (by first | decide | omega) ?_ | refine wK (by omega) (by omega) ?_); conv => whnf)
    rw [hg]
    refine bcase_n (fun h1 => ?_) (fun h1 => ?_) <;> conv => whnf
    · repeat ((first | refine bF ?_ | refine bT ?_ | refine dK (by kernel_rfl) ?_ | refine cK rfl ?_ | refine cK (by first | decide | omega) ?_ | refine wK (by omega) (by omega) ?_); conv => whnf)
      rw [if_pos h1]
      exact ret_of rfl rfl
    rw [if_neg (fun q => q h1)]
    repeat ((first | refine bF ?_ | refine bT ?_ | refine dK (by kernel_rfl) ?_ | refine cK rfl ?_ | refine cK (by first | decide | omega) ?_ | refine wK (by omega) (by omega) ?_); conv => whnf)
    rw [delTail, hg]
    refine bcase_p (fun k1 => ?_) (fun k1 => ?_) <;> conv => whnf
    · repeat ((first | refine bF ?_ | refine bT ?_ | refine dK (by kernel_rfl) ?_ | refine cK rfl ?_ | refine cK (by first | decide | omega) ?_ | refine wK (by omega) (by omega) ?_); conv => whnf)
      rw [if_pos k1]
      exact ret_of rfl rfl
    rw [if_neg k1]
    repeat ((first | refine bF ?_ | refine bT ?_ | refine dK (by kernel_rfl) ?_ | refine cK rfl ?_ | refine cK (by first | decide | omega) ?_ | refine wK (by omega) (by omega) ?_); conv => whnf)
    refine callX_pure (delD_ok p.d id) ?_
    conv => whnf
    repeat ((first | refine bF ?_ | refine bT ?_ | refine dK (by kernel_rfl) ?_ | refine cK rfl ?_ | refine cK (by first | decide | omega) ?_ | refine wK (by omega) (by omega) ?_); conv => whnf)
    obtain ⟨e, he⟩ : ∃ e, delD p.d id = e := ⟨_, rfl⟩
    rw [he]
    refine bcase_n (fun k2 => ?_) (fun k2 => ?_) <;> conv => whnf
    · repeat ((first | refine bF ?_ | refine bT ?_ | refine dK (by kernel_rfl) ?_ | refine cK rfl ?_ | refine cK (by first | decide | omega) ?_ | refine wK (by omega) (by omega) ?_); conv => whnf)
      rw [if_pos k2]
      exact ret_of rfl rfl
    rw [if_neg (fun q => q k2)]
    repeat ((first | refine bF ?_ | refine bT ?_ | refine dK (by kernel_rfl) ?_ | refine cK rfl ?_ | refine cK (by first | decide | omega) ?_ | refine wK (by omega) (by omega) ?_); conv => whnf)
    refine callX_pure (stepsS_ok p.d (id, 0, ByteArray.empty)) ?_
    conv => whnf
    repeat ((first | refine bF ?_ | refine bT ?_ | refine dK (by kernel_rfl) ?_ | refine cK rfl ?_ | refine cK (by first | decide | omega) ?_ | refine wK (by omega) (by omega) ?_); conv => whnf)
    exact ret_of rfl rfl
  · rw [findF_at hA] at hfind ⊢
    have hi := hA.hi
    refine callX_pure hfind ?_
    conv => whnf
    repeat ((first | refine bF ?_ | refine bT ?_ | refine dK (by kernel_rfl) ?_ | refine cK rfl ?_ | refine cK (by first | decide | omega) ?_ | refine wK (by omega) (by omega) ?_); conv => whnf)
    rw [if_pos rfl, Int.toNat_natCast, atF_eq hi]
    refine idxK_nat (by omega) ?_
    conv => whnf
    refine getRow_of (x := encF p.f.fr[i]) (by simp [hi]) ?_
    conv => whnf
    repeat ((first | refine bF ?_ | refine bT ?_ | refine dK (by kernel_rfl) ?_ | refine cK rfl ?_ | refine cK (by first | decide | omega) ?_ | refine wK (by omega) (by omega) ?_); conv => whnf)
    refine bcase_p (fun h1 => ?_) (fun h1 => ?_) <;> conv => whnf
    · repeat ((first | refine bF ?_ | refine bT ?_ | refine dK (by kernel_rfl) ?_ | refine cK rfl ?_ | refine cK (by first | decide | omega) ?_ | refine wK (by omega) (by omega) ?_); conv => whnf)
      rw [if_pos h1]
      exact ret_of rfl rfl
    rw [if_neg h1]
    repeat ((first | refine bF ?_ | refine bT ?_ | refine dK (by kernel_rfl) ?_ | refine cK rfl ?_ | refine cK (by first | decide | omega) ?_ | refine wK (by omega) (by omega) ?_); conv => whnf)
    refine callX_pure (getS_ok p.d id) ?_
    conv => whnf
    repeat ((first | refine bF ?_ | refine bT ?_ | refine dK (by kernel_rfl) ?_ | refine cK rfl ?_ | refine cK (by first | decide | omega) ?_ | refine wK (by omega) (by omega) ?_); conv => whnf)
    rw [hg]
    repeat ((first | refine bF ?_ | refine bT ?_ | refine dK (by kernel_rfl) ?_ | refine cK rfl ?_ | refine cK (by first | decide | omega) ?_ | refine wK (by omega) (by omega) ?_); conv => whnf)
    refine callX_pure (drop_ok p.f id hF.tl hF.dl) ?_
    conv => whnf
    repeat ((first | refine bF ?_ | refine bT ?_ | refine dK (by kernel_rfl) ?_ | refine cK rfl ?_ | refine cK (by first | decide | omega) ?_ | refine wK (by omega) (by omega) ?_); conv => whnf)
    obtain ⟨r, hr⟩ : ∃ r, dropS p.f id = r := ⟨_, rfl⟩
    rw [hr]
    refine bcase_n (fun h2 => ?_) (fun h2 => ?_) <;> conv => whnf
    · repeat ((first | refine bF ?_ | refine bT ?_ | refine dK (by kernel_rfl) ?_ | refine cK rfl ?_ | refine cK (by first | decide | omega) ?_ | refine wK (by omega) (by omega) ?_); conv => whnf)
      rw [if_pos h2]
      exact ret_of rfl rfl
    rw [if_neg (fun q => q h2)]
    repeat ((first | refine bF ?_ | refine bT ?_ | refine dK (by kernel_rfl) ?_ | refine cK rfl ?_ | refine cK (by first | decide | omega) ?_ | refine wK (by omega) (by omega) ?_); conv => whnf)
    rw [delTail, hg]
    refine bcase_p (fun k1 => ?_) (fun k1 => ?_) <;> conv => whnf
    · repeat ((first | refine bF ?_ | refine bT ?_ | refine dK (by kernel_rfl) ?_ | refine cK rfl ?_ | refine cK (by first | decide | omega) ?_ | refine wK (by omega) (by omega) ?_); conv => whnf)
      rw [if_pos k1]
      exact ret_of rfl rfl
    rw [if_neg k1]
    repeat ((first | refine bF ?_ | refine bT ?_ | refine dK (by kernel_rfl) ?_ | refine cK rfl ?_ | refine cK (by first | decide | omega) ?_ | refine wK (by omega) (by omega) ?_); conv => whnf)
    refine callX_pure (delD_ok p.d id) ?_
    conv => whnf
    repeat ((first | refine bF ?_ | refine bT ?_ | refine dK (by kernel_rfl) ?_ | refine cK rfl ?_ | refine cK (by first | decide | omega) ?_ | refine wK (by omega) (by omega) ?_); conv => whnf)
    obtain ⟨e, he⟩ : ∃ e, delD p.d id = e := ⟨_, rfl⟩
    rw [he]
    refine bcase_n (fun k2 => ?_) (fun k2 => ?_) <;> conv => whnf
    · repeat ((first | refine bF ?_ | refine bT ?_ | refine dK (by kernel_rfl) ?_ | refine cK rfl ?_ | refine cK (by first | decide | omega) ?_ | refine wK (by omega) (by omega) ?_); conv => whnf)
      rw [if_pos k2]
      exact ret_of rfl rfl
    rw [if_neg (fun q => q k2)]
    repeat ((first | refine bF ?_ | refine bT ?_ | refine dK (by kernel_rfl) ?_ | refine cK rfl ?_ | refine cK (by first | decide | omega) ?_ | refine wK (by omega) (by omega) ?_); conv => whnf)
    refine callX_pure (stepsS_ok p.d (id, 0, ByteArray.empty)) ?_
    conv => whnf
    repeat ((first | refine bF ?_ | refine bT ?_ | refine dK (by kernel_rfl) ?_ | refine cK rfl ?_ | refine cK (by first | decide | omega) ?_ | refine wK (by omega) (by omega) ?_); conv => whnf)
    exact ret_of rfl rfl
noncomputable def poolFlush (p : PS) (id : Int) : R4 :=
  if (findF p.f id).2 = false then (if (getS p.d id).2 ≠ 0 then (p, zP, [], 3) else (p, zP, [], 0))
  else if (Dt.sinceG p.f.dt id).2 = false then (p, zP, [], 0)
  else if (wbM p id).2.2 ≠ 0 then (p, zP, [], (wbM p id).2.2) else ((wbM p id).1, zP, (wbM p id).2.1, 0)
theorem poolFlush_ok (p : PS) (id : Int) (hF : FM p.f) (h0 : id ≠ 0) : ACall Tryz.prog 44 [encPS p, .int .i64 id] (encR4 (poolFlush p id)) := by
  refine acall_of Tryz.func44 2 rfl (by kernel_rfl) ?_
  conv => whnf
  rw [poolFlush]
  repeat ((first | refine bF ?_ | refine bT ?_ | refine dK (by kernel_rfl) ?_ | refine cK rfl ?_ | refine cK (by first | decide | omega) ?_ | refine wK (by omega) (by omega) ?_); conv => whnf)
  refine callX_pure (Find_ok p.f id hF.tl hF.dl) ?_
  conv => whnf
  repeat ((first | refine bF ?_ | refine bT ?_ | refine dK (by kernel_rfl) ?_ | refine cK rfl ?_ | refine cK (by first | decide | omega) ?_ | refine wK (by omega) (by omega) ?_); conv => whnf)
  refine bcase_intro (fun h1 => ?_) (fun h1 => ?_) <;> conv => whnf
  · rw [if_pos (by simpa using h1)]
    repeat ((first | refine bF ?_ | refine bT ?_ | refine dK (by kernel_rfl) ?_ | refine cK rfl ?_ | refine cK (by first | decide | omega) ?_ | refine wK (by omega) (by omega) ?_); conv => whnf)
    refine callX_pure (getS_ok p.d id) ?_
    conv => whnf
    repeat ((first | refine bF ?_ | refine bT ?_ | refine dK (by kernel_rfl) ?_ | refine cK rfl ?_ | refine cK (by first | decide | omega) ?_ | refine wK (by omega) (by omega) ?_); conv => whnf)
    obtain ⟨g, hg⟩ : ∃ g, getS p.d id = g := ⟨_, rfl⟩
    rw [hg]
    refine bcase_n (fun h2 => ?_) (fun h2 => ?_) <;> conv => whnf
    · repeat ((first | refine bF ?_ | refine bT ?_ | refine dK (by kernel_rfl) ?_ | refine cK rfl ?_ | refine cK (by first | decide | omega) ?_ | refine wK (by omega) (by omega) ?_); conv => whnf)
      rw [if_pos h2]
      exact ret_of rfl rfl
    rw [if_neg (fun q => q h2)]
    repeat ((first | refine bF ?_ | refine bT ?_ | refine dK (by kernel_rfl) ?_ | refine cK rfl ?_ | refine cK (by first | decide | omega) ?_ | refine wK (by omega) (by omega) ?_); conv => whnf)
    exact ret_of rfl rfl
  rw [if_neg (by simpa using h1)]
  repeat ((first | refine bF ?_ | refine bT ?_ | refine dK (by kernel_rfl) ?_ | refine cK rfl ?_ | refine cK (by first | decide | omega) ?_ | refine wK (by omega) (by omega) ?_); conv => whnf)
  refine callX_pure (Dt.since_ok p.f.dt id hF.dl) ?_
  conv => whnf
  repeat ((first | refine bF ?_ | refine bT ?_ | refine dK (by kernel_rfl) ?_ | refine cK rfl ?_ | refine cK (by first | decide | omega) ?_ | refine wK (by omega) (by omega) ?_); conv => whnf)
  refine bcase_intro (fun h3 => ?_) (fun h3 => ?_) <;> conv => whnf
  · rw [if_pos (by simpa using h3)]
    repeat ((first | refine bF ?_ | refine bT ?_ | refine dK (by kernel_rfl) ?_ | refine cK rfl ?_ | refine cK (by first | decide | omega) ?_ | refine wK (by omega) (by omega) ?_); conv => whnf)
    exact ret_of rfl rfl
  rw [if_neg (by simpa using h3)]
  repeat ((first | refine bF ?_ | refine bT ?_ | refine dK (by kernel_rfl) ?_ | refine cK rfl ?_ | refine cK (by first | decide | omega) ?_ | refine wK (by omega) (by omega) ?_); conv => whnf)
  refine callX_pure (writeBack_ok p id hF h0) ?_
  conv => whnf
  repeat ((first | refine bF ?_ | refine bT ?_ | refine dK (by kernel_rfl) ?_ | refine cK rfl ?_ | refine cK (by first | decide | omega) ?_ | refine wK (by omega) (by omega) ?_); conv => whnf)
  obtain ⟨w, hw⟩ : ∃ w, wbM p id = w := ⟨_, rfl⟩
  rw [hw]
  refine bcase_n (fun h4 => ?_) (fun h4 => ?_) <;> conv => whnf
  · repeat ((first | refine bF ?_ | refine bT ?_ | refine dK (by kernel_rfl) ?_ | refine cK rfl ?_ | refine cK (by first | decide | omega) ?_ | refine wK (by omega) (by omega) ?_); conv => whnf)
    rw [if_pos h4]
    exact ret_of rfl rfl
  rw [if_neg (fun q => q h4)]
  repeat ((first | refine bF ?_ | refine bT ?_ | refine dK (by kernel_rfl) ?_ | refine cK rfl ?_ | refine cK (by first | decide | omega) ?_ | refine wK (by omega) (by omega) ?_); conv => whnf)
  exact ret_of rfl rfl
end Go.Lk

namespace Go.Lk.Dt
open Go Go.Proofs Go.RowKit Go.Lk
theorem due_ok (l : List (Int × Int)) (now age : Int) (hl : l.length ≤ 1000000) (hn : now ≤ 9223372036854775807) : ACall Tryz.prog 86 [encIs l, .int .i64 now, .int .i64 age] (encNs (dueG l now age)) := by
  refine acall_of Tryz.func86 3 rfl (by kernel_rfl) ?_
  conv => whnf
  refine bcase_p (fun h1 => ?_) (fun h1 => ?_) <;> conv => whnf
  · exact ret_of rfl (by simp [dueG, h1]; rfl)
  refine bcase_p (fun h2 => ?_) (fun h2 => ?_) <;> conv => whnf
  · exact ret_of rfl (by simp [dueG, h2]; rfl)
  refine callX_pure (right_ok l hl) ?_
  conv => whnf
  refine bcase_intro (fun h3 => ?_) (fun h3 => ?_) <;> conv => whnf
  · exact ret_of rfl (by simp at h3; simp [dueG, h3]; rfl)
  simp at h3
  obtain ⟨hlen, hR⟩ := rightB_out h3
  have hG : dueG l now age = l.filterMap (dueF now age) := by simp [dueG, h1, h2, h3]
  refine aloop (ι := Nat) (fun k => [(1, .d (.int .i64 now)), (2, .d (.int .i64 age)), (7, .own 37), (21, .d (encIs l)), (22, .d (.int .i64 (l.map encI).length)), (23, .d (.int .i64 k))]) (fun k => [(37, .row (((l.take k).filterMap (dueF now age)).map enc1) 1 false)])
    (fun k => k ≤ l.length) (fun k => l.length - k) 0 (Nat.zero_le _) (le1 (.row 7 37 1) ⟨rfl, rfl⟩ (le_of_cov ⟨rfl, rfl, rfl, rfl, rfl, rfl, trivial⟩ ⟨rfl, trivial⟩ ⟨rfl, rfl, rfl, rfl⟩)) ?_
  intro k hk
  conv => whnf
  refine bcase_p (fun h => ?_) (fun h => ?_) <;> conv => whnf
  · have hk2 : k < l.length := by simpa using h
    obtain ⟨hok, b1, b2, b3, b4⟩ := hR k hk2
    refine idxK_nat (by simpa using hk2) ?_
    conv => whnf
    refine getRow_of (x := encI l[k]) (by simp [hk2]) ?_
    conv => whnf
    refine condK_of rfl ?_
    conv => whnf
    repeat ((first | refine bF ?_ | refine bT ?_ | refine dK (by kernel_rfl) ?_ | refine cK rfl ?_ | refine cK (by first | decide | omega) ?_ | refine wK (by omega) (by omega) ?_); conv => whnf)
    have hcov (x : List (Int × Int)) (hx : l.take (k + 1) = x) : True := trivial
    refine bcase_p (fun h5 => ?_) (fun h5 => ?_) <;> conv => whnf
    · repeat ((first | refine bF ?_ | refine bT ?_ | refine dK (by kernel_rfl) ?_ | refine cK rfl ?_ | refine cK (by first | decide | omega) ?_ | refine wK (by omega) (by omega) ?_); conv => whnf)
      have hl2 := List.length_filterMap_le (dueF now age) (l.take k)
      refine roomK_le 100 100 (by show List.length _ + 1 ≤ 100; simp at hl2 ⊢; omega) (by decide) (by decide) (by decide) ?_
      conv => whnf
      repeat ((first | refine bF ?_ | refine bT ?_ | refine dK (by kernel_rfl) ?_ | refine cK rfl ?_ | refine cK (by first | decide | omega) ?_ | refine wK (by omega) (by omega) ?_); conv => whnf)
      exact ⟨k + 1, by omega, by omega, le0 (le_of_cov ⟨rfl, rfl, rfl, rfl, rfl, rfl, trivial⟩ ⟨by rw [take_snoc hk2, List.filterMap_append, List.map_append]; simp [dueF, h5]; rfl, trivial⟩ ⟨rfl, rfl, rfl, rfl⟩)⟩
    · repeat ((first | refine bF ?_ | refine bT ?_ | refine dK (by kernel_rfl) ?_ | refine cK rfl ?_ | refine cK (by first | decide | omega) ?_ | refine wK (by omega) (by omega) ?_); conv => whnf)
      exact ⟨k + 1, by omega, by omega, le0 (le_of_cov ⟨rfl, rfl, rfl, rfl, rfl, rfl, trivial⟩ ⟨by rw [take_snoc hk2, List.filterMap_append]; simp [dueF, h5]; rfl, trivial⟩ ⟨rfl, rfl, rfl, rfl⟩)⟩
  · have : k = l.length := by simp at h; omega
    subst this
    exact ret_of rfl (by rw [hG, List.take_length]; rfl)

end Go.Lk.Dt

namespace Go.Lk
open Go Go.Proofs Go.RowKit

noncomputable def ageL (p : PS) : List Int → PS → List Jo → R4
  | [], q, l => (q, zP, l, 0)
  | id :: r, q, l => if (wbM q id).2.2 ≠ 0 then (p, zP, [], (wbM q id).2.2) else ageL p r (wbM q id).1 (l ++ (wbM q id).2.1)
noncomputable def poolAge (p : PS) (least : Int) : R4 := ageL p (Dt.dueG p.f.dt p.now least) p []
theorem wb_len (p : PS) (id : Int) : (wbM p id).2.1.length ≤ 10 := by
  rw [wbM]
  repeat' split
  all_goals first | exact stepsS_len _ _ | simp
theorem due_ids {l : List (Int × Int)} {now age id : Int} (h : id ∈ Dt.dueG l now age) : Dt.rightB l = true ∧ ∃ t, (id, t) ∈ l ∧ age ≤ now - t := by
  rw [Dt.dueG] at h
  split at h
  · cases h
  · rename_i q
    obtain ⟨x, hx, e⟩ := List.mem_filterMap.1 h
    rw [Dt.dueF] at e
    split at e
    · rename_i g
      cases e
      refine ⟨?_, x.2, hx, g⟩
      cases hb : Dt.rightB l with
      | true => rfl
      | false => exact absurd (.inr (.inr hb)) q
    · cases e
theorem due_len {l : List (Int × Int)} {now age : Int} (h : Dt.rightB l = true) : (Dt.dueG l now age).length ≤ 16 := by
  have h16 := (Dt.rightB_out h).1
  rw [Dt.dueG]
  split
  · simp
  · exact Nat.le_trans (List.length_filterMap_le _ _) h16
theorem right_id {l : List (Int × Int)} (h : Dt.rightB l = true) {x : Int × Int} (hx : x ∈ l) : 1 ≤ x.1 ∧ x.1 ≤ 16 ∧ 0 ≤ x.2 := by
  obtain ⟨i, hi, rfl⟩ := List.mem_iff_getElem.1 hx
  have := (Dt.rightB_out h).2 i hi
  exact ⟨this.2.1, this.2.2.1, this.2.2.2.1⟩
structure AGI (p : PS) (ids : List Int) (s : Nat × PS × List Jo) : Prop where
  le : s.1 ≤ ids.length
  fm : FM s.2.1.f
  len : s.2.2.length ≤ 10 * s.1
  eq : ageL p ids p [] = ageL p (ids.drop s.1) s.2.1 s.2.2
set_option maxHeartbeats 4000000 in
theorem poolAge_ok (p : PS) (least : Int) (hF : FM p.f) (hn : p.now ≤ 2147483647) : ACall Tryz.prog 45 [encPS p, .int .i64 least] (encR4 (poolAge p least)) := by
  have hne : ∀ id ∈ Dt.dueG p.f.dt p.now least, id ≠ 0 := fun id h => by
    obtain ⟨h1, t, h2, _⟩ := due_ids h
    have := right_id h1 h2
    omega
  have hl16 := due_len (now := p.now) (age := least) hF.dt
  refine acall_of Tryz.func45 2 rfl (by kernel_rfl) ?_
  conv => whnf
  repeat ((first | refine bF ?_ | refine bT ?_ | refine dK (by kernel_rfl) ?_ | refine cK rfl ?_ | refine cK (by first | decide | omega) ?_ | refine wK (by omega) (by omega) ?_); conv => whnf)
  refine callX_pure (Dt.due_ok p.f.dt p.now least hF.dl (by omega)) ?_
  conv => whnf
  repeat ((first | refine bF ?_ | refine bT ?_ | refine dK (by kernel_rfl) ?_ | refine cK rfl ?_ | refine cK (by first | decide | omega) ?_ | refine wK (by omega) (by omega) ?_); conv => whnf)
  rw [poolAge]
  obtain ⟨ids, hids⟩ : ∃ ids, Dt.dueG p.f.dt p.now least = ids := ⟨_, rfl⟩
  rw [hids] at hne hl16 ⊢
  have hmi : (ids.map enc1).length = ids.length := List.length_map ..
  refine aloop (ι := Nat × PS × List Jo) (fun s => [(2, .ptr 2 0 0), (4, .ptr 4 0 0), (5, .ptr 5 0 0), (8, .ptr 8 0 0), (9, .own 43), (22, .d (encNs ids)), (23, .d (.int .i64 (ids.map enc1).length)), (24, .d (.int .i64 s.1))])
    (fun s => [(2, .box p.box false), (4, .box [.nil, .d (.int .i64 0), .nil, .nil, .nil, .nil, .nil, .d (.int .i64 0)] false), (5, .box [.d (.int .i64 0), .d (.int .i64 0), .d (.str ByteArray.empty)] false), (8, .box s.2.1.box false), (43, .row (s.2.2.map encJ) 3 false)])
    (AGI p ids) (fun s => ids.length - s.1) (0, p, []) ⟨by simp, hF, by simp, rfl⟩ (le1 (.row 9 43 3) ⟨rfl, rfl⟩ (le_of_cov ⟨rfl, rfl, rfl, rfl, rfl, rfl, rfl, rfl, trivial⟩ ⟨rfl, rfl, rfl, rfl, rfl, trivial⟩ ⟨rfl, rfl, rfl, rfl⟩)) ?_
  rintro ⟨k, q, l⟩ ⟨hk, hq, hlen, he⟩
  simp only at hk hq hlen he ⊢
  rw [he]
  conv => whnf
  refine bcase_p (fun h5 => ?_) (fun h5 => ?_) <;> conv => whnf
  · have hk2 : k < ids.length := by omega
    rw [List.drop_eq_getElem_cons hk2, ageL]
    have hid := hne ids[k] (List.getElem_mem hk2)
    have hwf := wb_fm hq ids[k]
    have hwl := wb_len q ids[k]
    refine idxK_nat (by omega) ?_
    conv => whnf
    refine getRow_of (x := enc1 ids[k]) (by simp [hk2]) ?_
    conv => whnf
    repeat ((first | refine bF ?_ | refine bT ?_ | refine dK (by kernel_rfl) ?_ | refine cK rfl ?_ | refine cK (by first | decide | omega) ?_ | refine wK (by omega) (by omega) ?_); conv => whnf)
    refine callX_pure (writeBack_ok q ids[k] hq hid) ?_
    conv => whnf
    repeat ((first | refine bF ?_ | refine bT ?_ | refine dK (by kernel_rfl) ?_ | refine cK rfl ?_ | refine cK (by first | decide | omega) ?_ | refine wK (by omega) (by omega) ?_); conv => whnf)
    obtain ⟨w, hw⟩ : ∃ w, wbM q ids[k] = w := ⟨_, rfl⟩
    rw [hw] at hwf hwl ⊢
    refine bcase_n (fun h6 => ?_) (fun h6 => ?_) <;> conv => whnf
    · repeat ((first | refine bF ?_ | refine bT ?_ | refine dK (by kernel_rfl) ?_ | refine cK rfl ?_ | refine cK (by first | decide | omega) ?_ | refine wK (by omega) (by omega) ?_); conv => whnf)
      rw [if_pos h6]
      exact ret_of rfl rfl
    rw [if_neg (fun q => q h6)]
    have hmw : (w.2.1.map encJ).length = w.2.1.length := List.length_map ..
    have hml : (l.map encJ).length = l.length := List.length_map ..
    repeat ((first | refine bF ?_ | refine bT ?_ | refine dK (by kernel_rfl) ?_ | refine cK rfl ?_ | refine cK (by first | decide | omega) ?_ | refine wK (by omega) (by omega) ?_); conv => whnf)
    refine condK_of (encJ_ok _) ?_
    conv => whnf
    refine roomK_le 1000 1000 (by omega) (by decide) (by decide) (by decide) ?_
    conv => whnf
    repeat ((first | refine bF ?_ | refine bT ?_ | refine dK (by kernel_rfl) ?_ | refine cK rfl ?_ | refine cK (by first | decide | omega) ?_ | refine wK (by omega) (by omega) ?_); conv => whnf)
    refine ⟨(k + 1, w.1, l ++ w.2.1), ⟨by simp only []; omega, hwf, by simp only [List.length_append]; omega, ?_⟩, by simp only []; omega, le0 (le_of_cov ⟨?_, ?_, ?_, ?_, ?_, ?_, ?_, ?_, trivial⟩ ⟨?_, ?_, ?_, ?_, ?_, trivial⟩ ⟨?_, ?_, ?_, ?_⟩)⟩
    · simp only []
      rw [he, List.drop_eq_getElem_cons hk2, ageL, hw, if_neg (fun q => q h6)]
    rotate_left 12
    · rw [List.map_append]; kernel_rfl
    all_goals kernel_rfl
  · repeat ((first | refine bF ?_ | refine bT ?_ | refine dK (by kernel_rfl) ?_ | refine cK rfl ?_ | refine cK (by first | decide | omega) ?_ | refine wK (by omega) (by omega) ?_); conv => whnf)
    rw [List.drop_of_length_le (by omega), ageL]
    exact ret_of rfl rfl
noncomputable def poolDo (p : PS) (a : PAct) : R4 :=
  if a.1 < 1 ∨ 8 < a.1 then (p, zP, [], 1)
  else if a.1 ≠ 8 ∧ (a.2.1 < 1 ∨ 16 < a.2.1) then (p, zP, [], 1)
  else if a.1 = 1 then poolFetch p a.2.1
  else if a.1 = 2 then poolCreate p a.2.1
  else if a.1 = 6 then poolRemove p a.2.1
  else if a.1 = 7 then poolFlush p a.2.1
  else if a.1 = 8 then poolAge p a.2.1
  else ((pinnedM p a).1, (pinnedM p a).2.1, [], (pinnedM p a).2.2)
set_option maxHeartbeats 4000000 in
theorem poolDo_ok (p : PS) (a : PAct) (hF : FM p.f) (hn : p.now ≤ 2147483647) : ACall Tryz.prog 18 [encPS p, .agg (encPA a)] (encR4 (poolDo p a)) := by
  refine acall_of Tryz.func18 2 rfl (by kernel_rfl) ?_
  conv => whnf
  rw [poolDo]
  repeat ((first | refine bF ?_ | refine bT ?_ | refine dK (by kernel_rfl) ?_ | refine cK rfl ?_ | refine cK (by first | decide | omega) ?_ | refine wK (by omega) (by omega) ?_); conv => whnf)
  refine bcase_p (fun h1 => ?_) (fun h1 => ?_) <;> conv => whnf
  · repeat ((first | refine bF ?_ | refine bT ?_ | refine dK (by kernel_rfl) ?_ | refine cK rfl ?_ | refine cK (by first | decide | omega) ?_ | refine wK (by omega) (by omega) ?_); conv => whnf)
    rw [if_pos (.inl h1)]
    exact ret_of rfl rfl
  repeat ((first | refine bF ?_ | refine bT ?_ | refine dK (by kernel_rfl) ?_ | refine cK rfl ?_ | refine cK (by first | decide | omega) ?_ | refine wK (by omega) (by omega) ?_); conv => whnf)
  refine bcase_p (fun h2 => ?_) (fun h2 => ?_) <;> conv => whnf
  · repeat ((first | refine bF ?_ | refine bT ?_ | refine dK (by kernel_rfl) ?_ | refine cK rfl ?_ | refine cK (by first | decide | omega) ?_ | refine wK (by omega) (by omega) ?_); conv => whnf)
    rw [if_pos (.inr h2)]
    exact ret_of rfl rfl
  rw [if_neg (by omega)]
  repeat ((first | refine bF ?_ | refine bT ?_ | refine dK (by kernel_rfl) ?_ | refine cK rfl ?_ | refine cK (by first | decide | omega) ?_ | refine wK (by omega) (by omega) ?_); conv => whnf)
  refine bcase_n (fun h3 => ?_) (fun h3 => ?_) <;> conv => whnf
  · repeat ((first | refine bF ?_ | refine bT ?_ | refine dK (by kernel_rfl) ?_ | refine cK rfl ?_ | refine cK (by first | decide | omega) ?_ | refine wK (by omega) (by omega) ?_); conv => whnf)
    refine bcase_p (fun h4 => ?_) (fun h4 => ?_) <;> conv => whnf
    · repeat ((first | refine bF ?_ | refine bT ?_ | refine dK (by kernel_rfl) ?_ | refine cK rfl ?_ | refine cK (by first | decide | omega) ?_ | refine wK (by omega) (by omega) ?_); conv => whnf)
      rw [if_pos ⟨h3, .inl h4⟩]
      exact ret_of rfl rfl
    repeat ((first | refine bF ?_ | refine bT ?_ | refine dK (by kernel_rfl) ?_ | refine cK rfl ?_ | refine cK (by first | decide | omega) ?_ | refine wK (by omega) (by omega) ?_); conv => whnf)
    refine bcase_p (fun h5 => ?_) (fun h5 => ?_) <;> conv => whnf
    · repeat ((first | refine bF ?_ | refine bT ?_ | refine dK (by kernel_rfl) ?_ | refine cK rfl ?_ | refine cK (by first | decide | omega) ?_ | refine wK (by omega) (by omega) ?_); conv => whnf)
      rw [if_pos ⟨h3, .inr h5⟩]
      exact ret_of rfl rfl
    rw [if_neg (fun q => by omega)]
    have h0 : a.2.1 ≠ 0 := by omega
    repeat ((first | refine bF ?_ | refine bT ?_ | refine dK (by kernel_rfl) ?_ | refine cK rfl ?_ | refine cK (by first | decide | omega) ?_ | refine wK (by omega) (by omega) ?_); conv => whnf)
    refine bcase_p (fun k1 => ?_) (fun k1 => ?_) <;> conv => whnf
    · repeat ((first | refine bF ?_ | refine bT ?_ | refine dK (by kernel_rfl) ?_ | refine cK rfl ?_ | refine cK (by first | decide | omega) ?_ | refine wK (by omega) (by omega) ?_); conv => whnf)
      rw [if_pos k1]
      refine callX_pure (poolFetch_ok p a.2.1 hF h0) ?_
      conv => whnf
      repeat ((first | refine bF ?_ | refine bT ?_ | refine dK (by kernel_rfl) ?_ | refine cK rfl ?_ | refine cK (by first | decide | omega) ?_ | refine wK (by omega) (by omega) ?_); conv => whnf)
      exact ret_of rfl rfl
    rw [if_neg k1]
    repeat ((first | refine bF ?_ | refine bT ?_ | refine dK (by kernel_rfl) ?_ | refine cK rfl ?_ | refine cK (by first | decide | omega) ?_ | refine wK (by omega) (by omega) ?_); conv => whnf)
    refine bcase_p (fun k2 => ?_) (fun k2 => ?_) <;> conv => whnf
    · repeat ((first | refine bF ?_ | refine bT ?_ | refine dK (by kernel_rfl) ?_ | refine cK rfl ?_ | refine cK (by first | decide | omega) ?_ | refine wK (by omega) (by omega) ?_); conv => whnf)
      rw [if_pos k2]
      refine callX_pure (poolCreate_ok p a.2.1 hF h0) ?_
      conv => whnf
      repeat ((first | refine bF ?_ | refine bT ?_ | refine dK (by kernel_rfl) ?_ | refine cK rfl ?_ | refine cK (by first | decide | omega) ?_ | refine wK (by omega) (by omega) ?_); conv => whnf)
      exact ret_of rfl rfl
    rw [if_neg k2]
    repeat ((first | refine bF ?_ | refine bT ?_ | refine dK (by kernel_rfl) ?_ | refine cK rfl ?_ | refine cK (by first | decide | omega) ?_ | refine wK (by omega) (by omega) ?_); conv => whnf)
    refine bcase_p (fun k3 => ?_) (fun k3 => ?_) <;> conv => whnf
    · repeat ((first | refine bF ?_ | refine bT ?_ | refine dK (by kernel_rfl) ?_ | refine cK rfl ?_ | refine cK (by first | decide | omega) ?_ | refine wK (by omega) (by omega) ?_); conv => whnf)
      rw [if_pos k3]
      refine callX_pure (poolRemove_ok p a.2.1 hF h0) ?_
      conv => whnf
      repeat ((first | refine bF ?_ | refine bT ?_ | refine dK (by kernel_rfl) ?_ | refine cK rfl ?_ | refine cK (by first | decide | omega) ?_ | refine wK (by omega) (by omega) ?_); conv => whnf)
      exact ret_of rfl rfl
    rw [if_neg k3]
    repeat ((first | refine bF ?_ | refine bT ?_ | refine dK (by kernel_rfl) ?_ | refine cK rfl ?_ | refine cK (by first | decide | omega) ?_ | refine wK (by omega) (by omega) ?_); conv => whnf)
    refine bcase_p (fun k4 => ?_) (fun k4 => ?_) <;> conv => whnf
    · repeat ((first | refine bF ?_ | refine bT ?_ | refine dK (by kernel_rfl) ?_ | refine cK rfl ?_ | refine cK (by first | decide | omega) ?_ | refine wK (by omega) (by omega) ?_); conv => whnf)
      rw [if_pos k4]
      refine callX_pure (poolFlush_ok p a.2.1 hF h0) ?_
      conv => whnf
      repeat ((first | refine bF ?_ | refine bT ?_ | refine dK (by kernel_rfl) ?_ | refine cK rfl ?_ | refine cK (by first | decide | omega) ?_ | refine wK (by omega) (by omega) ?_); conv => whnf)
      exact ret_of rfl rfl
    rw [if_neg k4, if_neg h3]
    repeat ((first | refine bF ?_ | refine bT ?_ | refine dK (by kernel_rfl) ?_ | refine cK rfl ?_ | refine cK (by first | decide | omega) ?_ | refine wK (by omega) (by omega) ?_); conv => whnf)
    refine bcase_f (decide_eq_false h3) ?_
    conv => whnf
    repeat ((first | refine bF ?_ | refine bT ?_ | refine dK (by kernel_rfl) ?_ | refine cK rfl ?_ | refine cK (by first | decide | omega) ?_ | refine wK (by omega) (by omega) ?_); conv => whnf)
    refine callX_pure (pinned_ok p a hF (by omega) (by omega)) ?_
    conv => whnf
    repeat ((first | refine bF ?_ | refine bT ?_ | refine dK (by kernel_rfl) ?_ | refine cK rfl ?_ | refine cK (by first | decide | omega) ?_ | refine wK (by omega) (by omega) ?_); conv => whnf)
    exact ret_of rfl rfl
  · repeat ((first | refine bF ?_ | refine bT ?_ | refine dK (by kernel_rfl) ?_ | refine cK rfl ?_ | refine cK (by first | decide | omega) ?_ | refine wK (by omega) (by omega) ?_); conv => whnf)
    rw [if_neg (fun q => q.1 h3), if_neg (by omega), if_neg (by omega), if_neg (by omega), if_neg (by omega), if_pos h3]
    refine bcase_f (decide_eq_false (by omega)) ?_
    conv => whnf
    repeat ((first | refine bF ?_ | refine bT ?_ | refine dK (by kernel_rfl) ?_ | refine cK rfl ?_ | refine cK (by first | decide | omega) ?_ | refine wK (by omega) (by omega) ?_); conv => whnf)
    refine bcase_f (decide_eq_false (by omega)) ?_
    conv => whnf
    repeat ((first | refine bF ?_ | refine bT ?_ | refine dK (by kernel_rfl) ?_ | refine cK rfl ?_ | refine cK (by first | decide | omega) ?_ | refine wK (by omega) (by omega) ?_); conv => whnf)
    refine bcase_f (decide_eq_false (by omega)) ?_
    conv => whnf
    repeat ((first | refine bF ?_ | refine bT ?_ | refine dK (by kernel_rfl) ?_ | refine cK rfl ?_ | refine cK (by first | decide | omega) ?_ | refine wK (by omega) (by omega) ?_); conv => whnf)
    refine bcase_f (decide_eq_false (by omega)) ?_
    conv => whnf
    repeat ((first | refine bF ?_ | refine bT ?_ | refine dK (by kernel_rfl) ?_ | refine cK rfl ?_ | refine cK (by first | decide | omega) ?_ | refine wK (by omega) (by omega) ?_); conv => whnf)
    refine bcase_t (decide_eq_true h3) ?_
    conv => whnf
    repeat ((first | refine bF ?_ | refine bT ?_ | refine dK (by kernel_rfl) ?_ | refine cK rfl ?_ | refine cK (by first | decide | omega) ?_ | refine wK (by omega) (by omega) ?_); conv => whnf)
    refine callX_pure (poolAge_ok p a.2.1 hF hn) ?_
    conv => whnf
    repeat ((first | refine bF ?_ | refine bT ?_ | refine dK (by kernel_rfl) ?_ | refine cK rfl ?_ | refine cK (by first | decide | omega) ?_ | refine wK (by omega) (by omega) ?_); conv => whnf)
    exact ret_of rfl rfl
end Go.Lk

namespace Go.Lk
open Go Go.Proofs Go.RowKit

def putD (s : List ByteArray) (x : Pg) : List ByteArray := setD s x.1.toNat ((putB x).extract 0 16) ((putB x).extract 16 32)
def rmD (s : List ByteArray) (p : Nat) : List ByteArray := setD s p ((nulB 32).extract 0 16) ((nulB 32).extract 16 32)
noncomputable def getR (s : List ByteArray) (p : Nat) : Pg × Int :=
  if (takeM (raw s p)).2 ≠ 0 then (zP, (takeM (raw s p)).2) else if (takeM (raw s p)).1.1 ≠ (p : Int) then (zP, 9) else ((takeM (raw s p)).1, 0)
theorem getS_rest {s : List ByteArray} (h : Rest s) {p : Nat} (h1 : 1 ≤ p) (h16 : p ≤ 16) : getS ⟨s, []⟩ p = getR s p := by
  rw [getS_yes ⟨h.us, by omega, by omega⟩]
  have e : rdS ⟨s, []⟩ (2 * (p : Int) + 1) ++ rdS ⟨s, []⟩ (2 * (p : Int) + 1 + 1) = raw s p := by
    simp only [rdS, pick, List.foldl_nil, raw]
    rw [show (2 * (p : Int) + 1).toNat = 2 * p + 1 by omega, show (2 * (p : Int) + 1 + 1).toNat = 2 * p + 2 by omega]
  rw [e, getR]
theorem commit_rest {s : List ByteArray} (h : Rest s) {p : Nat} (h1 : 1 ≤ p) (h16 : p ≤ 16) {x : ByteArray} (hx : x.size = 32) : commitM ⟨s, []⟩ p x = (⟨setD s p (x.extract 0 16) (x.extract 16 32), []⟩, 0) ∧ planM ⟨s, []⟩ p x = (planJ p x, 0) := by
  have e : planM ⟨s, []⟩ p x = (planJ p x, 0) := by rw [planM, if_pos ⟨h.us, ⟨by omega, by omega⟩, hx⟩, Int.toNat_natCast]
  refine ⟨?_, e⟩
  rw [commitM, e, if_pos rfl, runM]
  simp only [Int.toNat_natCast, List.take_length]
  rw [plan_runs h h1 h16 hx]
theorem run_app {d : DS} {a b : List Jo} : runM d (a ++ b) ((a ++ b).length : Nat) = runM (runM d a (a.length : Nat)) b (b.length : Nat) := by
  simp only [runM, Int.toNat_natCast, List.take_length, List.foldl_append]
theorem pg_nat {x : Pg} (h : pgR x = true) : ∃ p : Nat, x.1 = (p : Int) ∧ 1 ≤ p ∧ p ≤ 16 := by
  have := pgR_out.1 h
  exact ⟨x.1.toNat, by omega, by omega, by omega⟩
theorem setS_rest {s : List ByteArray} (h : Rest s) {x : Pg} (hx : pgR x = true) : setS ⟨s, []⟩ x = (⟨putD s x, []⟩, 0) ∧ stepsS ⟨s, []⟩ x = planJ x.1.toNat (putB x) ∧ Rest (putD s x) ∧ (putD s x).length = s.length := by
  have hv := pgR_out.1 hx
  obtain ⟨p, ep, h1, h16⟩ := pg_nat hx
  have hz := putB_size hv.2.2.2.2
  obtain ⟨z1, z2⟩ := ext_size hz
  obtain ⟨c1, c2⟩ := commit_rest h h1 h16 hz
  refine ⟨?_, ?_, Rest.setD h z1 z2, setD_len _ _ _ _⟩
  · rw [setS, if_pos hx, ep, c1, putD, ep, Int.toNat_natCast]
  · rw [stepsS, if_pos (.inl (by omega)), if_pos hx, ep, c2, Int.toNat_natCast]
theorem delD_rest {s : List ByteArray} (h : Rest s) {p : Nat} (h1 : 1 ≤ p) (h16 : p ≤ 16) : delD ⟨s, []⟩ p = (⟨rmD s p, []⟩, 0) ∧ stepsS ⟨s, []⟩ ((p : Int), 0, ByteArray.empty) = planJ p (nulB 32) ∧ Rest (rmD s p) ∧ (rmD s p).length = s.length := by
  have hz : (nulB 32).size = 32 := nulB_size 32
  obtain ⟨z1, z2⟩ := ext_size hz
  obtain ⟨c1, c2⟩ := commit_rest h h1 h16 hz
  refine ⟨by rw [delD, c1]; rfl, ?_, Rest.setD h z1 z2, setD_len _ _ _ _⟩
  rw [stepsS, if_neg (by simp), c2]
theorem get_put {s : List ByteArray} (h : Rest s) {x : Pg} (hx : pgR x = true) {q : Nat} (h1 : 1 ≤ q) (h16 : q ≤ 16) : getR (putD s x) q = if x.1 = (q : Int) then (x, 0) else getR s q := by
  obtain ⟨p, ep, p1, p16⟩ := pg_nat hx
  have hz := putB_size (pgR_out.1 hx).2.2.2.2
  rw [putD, ep, Int.toNat_natCast]
  by_cases e : p = q
  · subst e
    rw [if_pos rfl, getR, raw_same h p1 p16, ext_app hz, take_put hx, if_neg (fun q => q rfl), if_neg (fun q => q ep)]
  · rw [if_neg (by omega), getR, raw_other h1 e]; rfl
theorem get_rm {s : List ByteArray} (h : Rest s) {p q : Nat} (p1 : 1 ≤ p) (p16 : p ≤ 16) (h1 : 1 ≤ q) (h16 : q ≤ 16) : getR (rmD s p) q = if p = q then (zP, 3) else getR s q := by
  have hz : (nulB 32).size = 32 := nulB_size 32
  rw [rmD]
  by_cases e : p = q
  · subst e
    rw [if_pos rfl, getR, raw_same h p1 p16, ext_app hz, take_nul, if_pos (show (3 : Int) ≠ 0 by decide)]
  · rw [if_neg e, getR, raw_other h1 e]; rfl
/-- a new disk has no page -/
theorem new_rest : Rest (List.replicate 35 nul16) := ⟨by simp, by simp, fun i h => by rw [List.getElem_replicate]; exact nul16_size⟩
theorem nul_app : nul16 ++ nul16 = nulB 32 := bl_ext (by
  rw [bl_app, show bl nul16 = _ from nulB_list 16, show bl (nulB 32) = _ from nulB_list 32]; rfl)
theorem get_new {q : Nat} (h16 : q ≤ 16) : getR (List.replicate 35 nul16) q = (zP, 3) := by
  have e : raw (List.replicate 35 nul16) q = nulB 32 := by
    simp only [raw, List.getElem?_replicate]
    rw [if_pos (by omega), if_pos (by omega), Option.getD_some, nul_app]
  rw [getR, e, take_nul, if_pos (show (3 : Int) ≠ 0 by decide)]
/-- nothing to mend, where nothing is on the way -/
theorem rec_rest {s : List ByteArray} (h : Rest s) (h0 : s[0]?.getD ByteArray.empty = nul16) : recM ⟨s, []⟩ = ⟨s, []⟩ := by
  have e : repairM ⟨s, []⟩ = [] := by
    rw [repairM, if_pos h.us, if_pos]
    exact h0
  rw [recM, e]; rfl
theorem setD_0 {s : List ByteArray} (h : Rest s) {p : Nat} {a b : ByteArray} : (setD s p a b)[0]?.getD ByteArray.empty = nul16 := by
  have := h.n
  simp only [setD, List.getElem?_set, List.length_set]
  rw [if_pos trivial, if_pos (by omega)]; rfl
end Go.Lk

namespace Go.Lk
open Go Go.Proofs Go.RowKit

/-! ### what the pool's acts do, plainly -/
theorem find_none {f : FX} (h : FM f) {p : Int} (hp : p ≠ 0) (hn : ∀ i (hi : i < f.fr.length), f.fr[i].1 ≠ p) : Tb.findS f.tb p = (0, false) := by
  rcases h.find_cases hp with ⟨e, _⟩ | ⟨i, _, hA⟩
  · exact e
  · exact absurd hA.fr (hn i hA.hi)
/-- a dirty page is in a frame -/
theorem dirty_in {f : FX} (h : FM f) {x : Int × Int} (hx : x ∈ f.dt) : ∃ i, AtF f x.1 i := by
  obtain ⟨k, hk⟩ := h.dirty x hx
  have hv := right_id h.dt hx
  obtain ⟨i, _, hi, e⟩ := h.frame hv.1 hk
  exact ⟨i, atF_of h (by omega) hi e⟩
theorem mark_new {f : FX} (h : FM f) {p t : Int} (hp1 : 1 ≤ p) (hp16 : p ≤ 16) (h0 : 0 ≤ t) (h1 : t ≤ 2147483647) (hn : ∀ i (hi : i < f.fr.length), f.fr[i].1 ≠ p) (ht : ∀ x ∈ f.dt, x.2 ≤ t) : Dt.markG f.dt p t = (f.dt ++ [(p, t)], 0) := by
  have hpl : ¬ 0 ≤ Dt.placeG f.dt p 0 := fun q => by
    obtain ⟨x, hx, e⟩ := Dt.placeG_mem.1 q
    obtain ⟨i, hA⟩ := dirty_in h hx
    exact hn i hA.hi (hA.fr.trans e)
  have hl : Dt.lateB f.dt t = false := by
    unfold Dt.lateB
    by_cases hz : 0 < f.dt.length
    · have hm := List.getElem_mem (show f.dt.length - 1 < f.dt.length by omega)
      have := ht _ hm
      rw [List.getElem?_eq_getElem (by omega), Option.getD_some]
      simp; omega
    · simp [hz]
  rw [Dt.markG, if_neg, if_neg (by rw [hl]; decide), if_neg hpl]
  intro q
  rcases q with q | q | q
  · rw [h.dt] at q; cases q
  · simp [Dt.pageB] at q; omega
  · simp [Dt.timeB] at q; omega
theorem mark_old {f : FX} (h : FM f) {p t : Int} (hp1 : 1 ≤ p) (hp16 : p ≤ 16) (h0 : 0 ≤ t) (h1 : t ≤ 2147483647) (hd : 0 ≤ Dt.placeG f.dt p 0) (ht : ∀ x ∈ f.dt, x.2 ≤ t) : Dt.markG f.dt p t = (f.dt, 0) := by
  have hl : Dt.lateB f.dt t = false := by
    unfold Dt.lateB
    by_cases hz : 0 < f.dt.length
    · have hm := List.getElem_mem (show f.dt.length - 1 < f.dt.length by omega)
      have := ht _ hm
      rw [List.getElem?_eq_getElem (by omega), Option.getD_some]
      simp; omega
    · simp [hz]
  rw [Dt.markG, if_neg, if_neg (by rw [hl]; decide), if_pos hd]
  intro q
  rcases q with q | q | q
  · rw [h.dt] at q; cases q
  · simp [Dt.pageB] at q; omega
  · simp [Dt.timeB] at q; omega
theorem load_yes {f : FX} {p : Pg} {now : Int} (fresh : Bool) (h : FM f) (hp : pgR p = true) (h0 : 0 ≤ now) (h1 : now ≤ 2147483647) (hn : ∀ i (hi : i < f.fr.length), f.fr[i].1 ≠ p.1) (hf : ∃ i, ∃ hi : i < f.fr.length, f.fr[i].1 = 0) (ht : ∀ x ∈ f.dt, x.2 ≤ now) :
    ∃ i, ∃ hi : i < f.fr.length, f.fr[i].1 = 0 ∧ loadS f p now fresh = ({ inS f p i with dt := bif fresh then f.dt ++ [(p.1, now)] else f.dt }, 0) ∧
      FM { inS f p i with dt := bif fresh then f.dt ++ [(p.1, now)] else f.dt } ∧ AtF { inS f p i with dt := bif fresh then f.dt ++ [(p.1, now)] else f.dt } p.1 i := by
  have hv := pgR_out.1 hp
  have hfn := find_none h (show p.1 ≠ 0 by omega) hn
  rcases freeT_cases f.fr with ⟨_, hno⟩ | ⟨i, e, hi, hz⟩
  · obtain ⟨i, hi, hz⟩ := hf
    exact absurd hz (hno i hi)
  have hmk := mark_new h hv.1 hv.2.1 h0 h1 hn ht
  obtain ⟨l', e1, _⟩ := in_tb h hv.1 hv.2.1 hi hfn
  have hM := FM.loaded (l := bif fresh then f.dt ++ [(p.1, now)] else f.dt) h hp hi hz hfn (by
    cases fresh with
    | false => exact h.dt
    | true =>
      have := Dt.mark_keeps (l := f.dt) (p := p.1) (t := now) (by rw [hmk])
      rwa [hmk] at this) (by
    intro y hy
    cases fresh with
    | false => exact .inl hy
    | true =>
      rcases List.mem_append.1 hy with q | q
      · exact .inl q
      · rw [List.mem_singleton] at q; subst q; exact .inr rfl)
  refine ⟨i, hi, hz, ?_, hM.1, hM.2⟩
  rw [loadS, if_neg, hfn, if_neg (show ¬ false = true by decide), e, if_neg (show ¬ true = false by decide), Int.toNat_natCast, e1, if_neg (fun q => q rfl)]
  · cases fresh with
    | false => rw [if_neg (by decide)]; rfl
    | true => rw [if_pos rfl, hmk, if_neg (fun q => q rfl)]; rfl
  · intro q
    rcases q with q | q | q | q
    · exact q (fm_iff.2 h)
    · rw [hp] at q; cases q
    · omega
    · omega
theorem make_free {p : PS} (h : FM p.f) (hf : ∃ i, ∃ hi : i < p.f.fr.length, p.f.fr[i].1 = 0) : makeM p = (p, [], 0) := by
  rcases room_cases h with ⟨i, hi, _, e⟩ | ⟨hno, _⟩ | ⟨hno, _⟩
  · show mrM (16 + 1) p [] = _
    rw [mrM, e, if_neg (fun q => q rfl), if_pos rfl]
  · obtain ⟨i, hi, hz⟩ := hf; exact absurd hz (hno i hi)
  · obtain ⟨i, hi, hz⟩ := hf; exact absurd hz (hno i hi)
theorem make_busy {p : PS} (h : FM p.f) (hno : ∀ i (hi : i < p.f.fr.length), p.f.fr[i].1 ≠ 0) (hpin : ∀ i (hi : i < p.f.fr.length), p.f.fr[i].2.1 ≠ 0) : makeM p = (p, [], 6) := by
  rcases room_cases h with ⟨i, hi, hz, e⟩ | ⟨_, _, e⟩ | ⟨_, l, a, q, hA, _, _, h0, _⟩
  · exact absurd hz (hno i hi)
  · show mrM (16 + 1) p [] = _
    rw [mrM, e, if_pos (show (6 : Int) ≠ 0 by decide)]
  · exact absurd h0 (hpin a hA.hi)
theorem writeS_yes {f : FX} {p : Int} {i : Nat} (hA : AtF f p i) {b : ByteArray} {now : Int} (h0 : 0 ≤ now) (h1 : now ≤ 2147483647) (hp : (f.fr[i]'hA.hi).2.1 ≠ 0) (hb : b.size ≤ 16) (hv : (f.pg[i]'hA.hp).2.1 < 2147483647) (hd : 0 ≤ Dt.placeG f.dt p 0) (ht : ∀ x ∈ f.dt, x.2 ≤ now) :
    writeS f p b now = (⟨f.fr, f.hand, f.tb, f.pg.set i (wrPg (f.pg[i]'hA.hp) b), f.dt⟩, 0) := by
  have hR := hA.right
  have e : lookS f p = ((i : Int), 0) := by
    rw [lookS, if_pos (fm_iff.2 hR), (find_mem hR.tb).2 ⟨hA.p1, hA.mem⟩]; rfl
  have hm := mark_old hR hA.p1 hA.p16 h0 h1 hd ht
  rw [writeS, e, if_neg (fun q => q rfl), Int.toNat_natCast, atF_eq hA.hi, if_neg hp, if_neg (by omega), atP_eq hA.hp, if_neg (by omega), hm, if_neg (fun q => q rfl)]
theorem unpinS_yes {f : FX} {p : Int} {i : Nat} (hA : AtF f p i) (hp : (f.fr[i]'hA.hi).2.1 ≠ 0) : unpinS f p = (withF f i (downPin (f.fr[i]'hA.hi)), 0) := by
  have hR := hA.right
  have e : lookS f p = ((i : Int), 0) := by
    rw [lookS, if_pos (fm_iff.2 hR), (find_mem hR.tb).2 ⟨hA.p1, hA.mem⟩]; rfl
  rw [unpinS, e, if_neg (fun q => q rfl), Int.toNat_natCast, atF_eq hA.hi, if_neg hp]
theorem pinS_yes {f : FX} {p : Int} {i : Nat} (hA : AtF f p i) (hp : (f.fr[i]'hA.hi).2.1 < 2147483647) : pinS f p = (withF f i (upPin (f.fr[i]'hA.hi)), 0) := by
  have hR := hA.right
  have e : lookS f p = ((i : Int), 0) := by
    rw [lookS, if_pos (fm_iff.2 hR), (find_mem hR.tb).2 ⟨hA.p1, hA.mem⟩]; rfl
  rw [pinS, e, if_neg (fun q => q rfl), Int.toNat_natCast, atF_eq hA.hi, if_neg (by omega)]
/-- one frame alone has no pins, and its page is dirty: it is written back, and goes -/
theorem make_one {p : PS} (h : FM p.f) {id : Int} {i : Nat} (hA : AtF p.f id i) (hno : ∀ j (hj : j < p.f.fr.length), p.f.fr[j].1 ≠ 0) (hpin : ∀ j (hj : j < p.f.fr.length), j ≠ i → p.f.fr[j].2.1 ≠ 0) (h0 : (p.f.fr[i]'hA.hi).2.1 = 0)
    (hd : 0 ≤ Dt.placeG p.f.dt id 0) (hr : Rest p.d.sec) (hc : p.d.ca = []) :
    ∃ f', makeM p = (⟨f', ⟨putD p.d.sec (p.f.pg[i]'hA.hp), []⟩, p.now⟩, planJ id.toNat (putB (p.f.pg[i]'hA.hp)), 0) ∧ FM f' ∧ f'.fr.length = p.f.fr.length ∧ (∃ hi : i < f'.fr.length, f'.fr[i].1 = 0) ∧
      (∀ j (hj : j < p.f.fr.length) (hj' : j < f'.fr.length), j ≠ i → f'.fr[j].1 = p.f.fr[j].1 ∧ f'.fr[j].2.1 = p.f.fr[j].2.1) ∧ f'.pg = p.f.pg.set i noPg ∧ (∀ x ∈ f'.dt, x ∈ p.f.dt) := by
  have h1 := hA.p1
  have hi := hA.hi
  rcases room_cases h with ⟨j, hj, hz, e⟩ | ⟨_, hb, e⟩ | ⟨_, l, a, q, hA1, hs, hA2, h00, e⟩
  · exact absurd hz (hno j hj)
  · exact absurd h0 (hb i hi)
  have ea : a = i := Classical.byContradiction fun hne => hpin a hA1.hi hne h00
  subst ea
  have eq : q = id := hA1.fr.symm.trans hA.fr
  subst eq
  obtain ⟨o1, o2, o3, o4, o5⟩ := hs.out
  have hsin : (Dt.sinceG p.f.dt q).2 = true := by
    rw [Dt.sinceG, if_neg]
    rintro (g | g)
    · rw [h.dt] at g; cases g
    · omega
  rw [if_pos hsin] at e
  have hpg : (p.f.pg[a]'hA.hp).1 = q := hA.pg
  obtain ⟨s1, s2, s3, s4⟩ := setS_rest hr hA.pgr
  have hd2 : p.d = ⟨p.d.sec, []⟩ := by
    obtain ⟨f, ⟨s, c⟩, n⟩ := p
    simp only at hc
    subst hc
    rfl
  have hw := wb_at (p := ⟨swept p.f (l, a), p.d, p.now⟩) hA2
  have hpl : 0 ≤ Dt.placeG (PS.mk (swept p.f (l, a)) p.d p.now).f.dt q 0 := hd
  rw [if_pos hpl] at hw
  have hw2 : wbM ⟨swept p.f (l, a), p.d, p.now⟩ q = (⟨cleanD (swept p.f (l, a)) q, ⟨putD p.d.sec (p.f.pg[a]'hA.hp), []⟩, p.now⟩, planJ q.toNat (putB (p.f.pg[a]'hA.hp)), 0) := by
    rw [hw]
    show (if (setS p.d (p.f.pg[a]'hA.hp)).2 ≠ 0 then _ else _) = _
    have q1 : setS p.d (p.f.pg[a]'hA.hp) = (⟨putD p.d.sec (p.f.pg[a]'hA.hp), []⟩, 0) := by rw [hd2]; exact s1
    have q2 : stepsS p.d (p.f.pg[a]'hA.hp) = planJ q.toNat (putB (p.f.pg[a]'hA.hp)) := by rw [hd2, s2, hpg]
    rw [if_neg (by rw [q1]; exact fun q => q rfl)]
    show ((⟨cleanD (swept p.f (l, a)) q, (setS p.d (p.f.pg[a]'hA.hp)).1, p.now⟩ : PS), stepsS p.d (p.f.pg[a]'hA.hp), (0 : Int)) = _
    rw [q1, q2]
  have hF2 := cleanD_fm hA2.right q
  obtain ⟨f2, hf2⟩ : ∃ f2, cleanD (swept p.f (l, a)) q = f2 := ⟨_, rfl⟩
  have e2fr : f2.fr = l := by rw [← hf2]; rfl
  have e2pg : f2.pg = p.f.pg := by rw [← hf2]; rfl
  have e2dt : f2.dt = p.f.dt.filter fun x => x.1 != q := by rw [← hf2]; rfl
  rw [hf2] at hw2 hF2
  have hlen : l.length = p.f.fr.length := o1
  have same : ∀ j (hj : j < f2.fr.length) (hj' : j < p.f.fr.length), f2.fr[j].1 = p.f.fr[j].1 ∧ f2.fr[j].2.1 = p.f.fr[j].2.1 := fun j hj hj' => by
    have := o3 j hj' (by rw [hlen]; exact hj')
    simp only [e2fr]
    exact this
  have hl2 : f2.fr.length = p.f.fr.length := by rw [e2fr, hlen]
  have hno2 : ¬ 0 ≤ Dt.placeG f2.dt q 0 := fun g => by
    obtain ⟨x, hx, ex⟩ := Dt.placeG_mem.1 g
    rw [e2dt] at hx
    have := (List.mem_filter.1 hx).2
    simp [ex] at this
  rcases room_cases hF2 with ⟨j, hj, hz, e'⟩ | ⟨_, hb, e'⟩ | ⟨_, l2, b, q2, hB1, hs2, hB2, h02, e'⟩
  · rw [(same j hj (by omega)).1] at hz
    exact absurd hz (hno j (by omega))
  · have := hb a (by omega)
    rw [(same a (by omega) hi).2] at this
    exact absurd h0 this
  have eb : b = a := Classical.byContradiction fun hne => by
    rw [(same b hB1.hi (by rw [← hl2]; exact hB1.hi)).2] at h02
    exact hpin b (by rw [← hl2]; exact hB1.hi) hne h02
  subst eb
  have eq2 : q2 = q := hB1.fr.symm.trans ((same b hB1.hi hi).1.trans hA.fr)
  subst eq2
  obtain ⟨u1, u2, u3, u4, u5⟩ := hs2.out
  have hsin2 : ¬ (Dt.sinceG f2.dt q2).2 = true := fun g => hno2 (since_place g)
  rw [if_neg hsin2] at e'
  refine ⟨relS (swept f2 (l2, b)) b q2, ?_, FM.rel hB2, ?_, ?_, ?_, ?_, ?_⟩
  · show mrM (16 + 1) p [] = _
    rw [mrM, e, if_neg (fun q => q rfl), if_neg (show ¬ true = false by decide)]
    simp only [hpg]
    rw [hw2, if_neg (fun q => q rfl)]
    show mrM (15 + 1) _ _ = _
    rw [mrM]
    simp only [e', List.nil_append]
    rw [if_neg (fun q => q rfl), if_pos trivial]
  · show (l2.set b (0, 0, false)).length = _
    rw [List.length_set, ← hl2]; exact u1
  · refine ⟨by show b < (l2.set b (0, 0, false)).length; rw [List.length_set]; exact u4, ?_⟩
    show ((l2.set b (0, 0, false))[b]'(by rw [List.length_set]; exact u4)).1 = 0
    rw [List.getElem_set_self]
  · intro j hj hj' hne
    have hj2 : j < l2.length := by have : j < (l2.set b (0, 0, false)).length := hj'; rwa [List.length_set] at this
    show ((l2.set b (0, 0, false))[j]'(by rw [List.length_set]; exact hj2)).1 = _ ∧ ((l2.set b (0, 0, false))[j]'(by rw [List.length_set]; exact hj2)).2.1 = _
    rw [List.getElem_set_ne (fun q => hne q.symm)]
    have t1 := u3 j (by omega) hj2
    have t2 := same j (by omega) hj
    exact ⟨t1.1.trans t2.1, t1.2.trans t2.2⟩
  · show f2.pg.set b noPg = _
    rw [e2pg]
  · intro x hx
    have hx : x ∈ (Dt.cleanG f2.dt q2).1 := hx
    rw [Dt.clean_right hF2.dt] at hx
    have : x ∈ f2.dt := by
      split at hx
      · exact (List.mem_filter.1 hx).1
      · exact hx
    rw [e2dt] at this
    exact (List.mem_filter.1 this).1
end Go.Lk

namespace Go.Lk
open Go Go.Proofs Go.RowKit

/-! ### a fixed run -/
structure PJ (p : PS) : Prop where
  fm : FM p.f
  rest : Rest p.d.sec
  ca : p.d.ca = []
  z0 : p.d.sec[0]?.getD ByteArray.empty = nul16
  n0 : 0 ≤ p.now
  n1 : p.now ≤ 2147483647
  dt : ∀ x ∈ p.f.dt, x.2 ≤ p.now
theorem PJ.d {p : PS} (h : PJ p) : p.d = ⟨p.d.sec, []⟩ := by
  obtain ⟨f, ⟨s, c⟩, n⟩ := p
  have := h.ca
  simp only at this
  subst this
  rfl
theorem PJ.get {p : PS} (h : PJ p) {q : Nat} (h1 : 1 ≤ q) (h16 : q ≤ 16) : getS p.d q = getR p.d.sec q := by
  have := getS_rest h.rest h1 h16
  rw [← h.d] at this; exact this
theorem PJ.get' {p : PS} (h : PJ p) {q : Int} (h1 : 1 ≤ q) (h16 : q ≤ 16) : getS p.d q = getR p.d.sec q.toNat := by
  have := h.get (q := q.toNat) (by omega) (by omega)
  rwa [Int.toNat_of_nonneg (by omega)] at this
def pg1' (id : Int) : Pg := (id, 1, ByteArray.empty)
theorem pg1_ok {id : Int} (h1 : 1 ≤ id) (h16 : id ≤ 16) : pgR (pg1' id) = true := pgR_out.2 ⟨h1, h16, show (1 : Int) ≤ 1 by decide, show (1 : Int) ≤ 2147483647 by decide, show ByteArray.empty.size ≤ 16 by decide⟩
theorem do_create {p : PS} {id : Int} {b : ByteArray} (h1 : 1 ≤ id) (h16 : id ≤ 16) : poolDo p (2, id, b) = poolCreate p id := by
  rw [poolDo, if_neg (by simp only []; omega), if_neg (by simp only []; omega), if_neg (show ¬ (2 : Int) = 1 by decide), if_pos rfl]
theorem do_fetch {p : PS} {id : Int} {b : ByteArray} (h1 : 1 ≤ id) (h16 : id ≤ 16) : poolDo p (1, id, b) = poolFetch p id := by
  rw [poolDo, if_neg (by simp only []; omega), if_neg (by simp only []; omega), if_pos rfl]
theorem do_pinned {p : PS} {k id : Int} {b : ByteArray} (h1 : 1 ≤ id) (h16 : id ≤ 16) (hk : k = 3 ∨ k = 4 ∨ k = 5) : poolDo p (k, id, b) = ((pinnedM p (k, id, b)).1, (pinnedM p (k, id, b)).2.1, [], (pinnedM p (k, id, b)).2.2) := by
  rw [poolDo, if_neg (by simp only []; omega), if_neg (by simp only []; omega), if_neg (by simp only []; omega), if_neg (by simp only []; omega), if_neg (by simp only []; omega), if_neg (by simp only []; omega), if_neg (by simp only []; omega)]
theorem create_step {p : PS} (h : PJ p) {id : Int} (h1 : 1 ≤ id) (h16 : id ≤ 16) (hn : ∀ i (hi : i < p.f.fr.length), p.f.fr[i].1 ≠ id) (hz : getR p.d.sec id.toNat = (zP, 3)) : poolCreate p id = poolLoad p (pg1' id) true := by
  rw [poolCreate, findF_no h.fm hn (by omega), if_neg (show ¬ false = true by decide), h.get' h1 h16, hz, if_pos rfl]; rfl
theorem load_after {p r : PS} {l : List Jo} {x : Pg} (hm : makeM p = (r, l, 0)) (hr : FM r.f) (hx : pgR x = true) (h0 : 0 ≤ r.now) (h1 : r.now ≤ 2147483647) (fresh : Bool) (hn : ∀ i (hi : i < r.f.fr.length), r.f.fr[i].1 ≠ x.1) (hf : ∃ i, ∃ hi : i < r.f.fr.length, r.f.fr[i].1 = 0) (ht : ∀ y ∈ r.f.dt, y.2 ≤ r.now) :
    ∃ i, ∃ hi : i < r.f.fr.length, r.f.fr[i].1 = 0 ∧ poolLoad p x fresh = (⟨{ inS r.f x i with dt := bif fresh then r.f.dt ++ [(x.1, r.now)] else r.f.dt }, r.d, r.now⟩, x, l, 0) ∧
      FM { inS r.f x i with dt := bif fresh then r.f.dt ++ [(x.1, r.now)] else r.f.dt } ∧ AtF { inS r.f x i with dt := bif fresh then r.f.dt ++ [(x.1, r.now)] else r.f.dt } x.1 i := by
  obtain ⟨i, hi, hz, e, m1, m2⟩ := load_yes fresh hr hx h0 h1 hn hf ht
  refine ⟨i, hi, hz, ?_, m1, m2⟩
  rw [poolLoad, hm, if_neg (fun q => q rfl)]
  simp only []
  rw [e, if_neg (fun q => q rfl)]
theorem pinned_at {p : PS} {a : PAct} {i : Nat} (hA : AtF p.f a.2.1 i) (hp : (p.f.fr[i]'hA.hi).2.1 ≠ 0) : pinnedM p a =
    if a.1 = 4 then (if (writeS p.f a.2.1 a.2.2 p.now).2 ≠ 0 then (p, zP, (writeS p.f a.2.1 a.2.2 p.now).2) else (⟨(writeS p.f a.2.1 a.2.2 p.now).1, p.d, p.now⟩, atP (writeS p.f a.2.1 a.2.2 p.now).1.pg i, 0))
    else if a.1 = 5 then (if (unpinS p.f a.2.1).2 ≠ 0 then (p, zP, (unpinS p.f a.2.1).2) else (⟨(unpinS p.f a.2.1).1, p.d, p.now⟩, zP, 0))
    else (p, p.f.pg[i]'hA.hp, 0) := by
  rw [pinnedM, findF_at hA, if_neg, Int.toNat_natCast, atP_eq hA.hp]
  rintro (g | g)
  · cases g
  · rw [Int.toNat_natCast, atF_eq hA.hi] at g; exact hp g
end Go.Lk

namespace Go.Lk
open Go Go.Proofs Go.RowKit

/-! ### a pool is a map of pages -/
def ud {α : Type} (P : Nat → α) (q : Nat) (x : α) : Nat → α := fun k => if k = q then x else P k
theorem ud_at {α : Type} (P : Nat → α) (q : Nat) (x : α) : ud P q x q = x := if_pos rfl
theorem ud_ne {α : Type} (P : Nat → α) {q k : Nat} (x : α) (h : k ≠ q) : ud P q x k = P k := if_neg h
structure OnD (s : List ByteArray) (l : List (Int × Int)) (P : Nat → Pg) (v : Int) : Prop where
  dsk : ∀ q : Nat, 1 ≤ q → q ≤ 16 → (∀ x ∈ l, x.1 ≠ (q : Int)) → getR s q = if (P q).1 = 0 then (zP, 3) else (P q, 0)
  okp : ∀ q : Nat, 1 ≤ q → q ≤ 16 → P q = zP ∨ (pgR (P q) = true ∧ (P q).1 = (q : Int))
  vb : ∀ q, (P q).2.1 ≤ v
structure Inv (p : PS) (P : Nat → Pg) (W : Nat → Int) (v u : Int) : Prop where
  pj : PJ p
  pins : PinsL p.f.fr W
  at_ : ∀ (q : Nat) (i : Nat) (hA : AtF p.f (q : Int) i), p.f.pg[i]'hA.hp = P q
  on : OnD p.d.sec p.f.dt P v
  ub : ∀ q, W q ≤ u
theorem OnD.nz {s l P v} (h : OnD s l P v) {q : Nat} (h1 : 1 ≤ q) (h16 : q ≤ 16) (hz : (P q).1 ≠ 0) : pgR (P q) = true ∧ (P q).1 = (q : Int) := by
  rcases h.okp q h1 h16 with e | e
  · rw [e] at hz; exact absurd rfl hz
  · exact e
theorem OnD.zz {s l P v} (h : OnD s l P v) {q : Nat} (h1 : 1 ≤ q) (h16 : q ≤ 16) (hz : (P q).1 = 0) : P q = zP := by
  rcases h.okp q h1 h16 with e | ⟨_, e⟩
  · exact e
  · omega
theorem Inv.out {p P W v u} (h : Inv p P W v u) {q : Nat} (h1 : 1 ≤ q) (hn : ∀ i (hi : i < p.f.fr.length), p.f.fr[i].1 ≠ (q : Int)) : ∀ x ∈ p.f.dt, x.1 ≠ (q : Int) := fun x hx e => by
  obtain ⟨i, hA⟩ := dirty_in h.pj.fm hx
  exact hn i hA.hi (hA.fr.trans e)
theorem Inv.wout {p P W v u} (h : Inv p P W v u) {q : Nat} (h1 : 1 ≤ q) (h16 : q ≤ 16) (hn : ∀ i (hi : i < p.f.fr.length), p.f.fr[i].1 ≠ (q : Int)) : W q = 0 := by
  rcases h.pins q h1 h16 with ⟨i, hi, e, _⟩ | ⟨_, e⟩
  · exact absurd e (hn i hi)
  · exact e
theorem Inv.wat {p P W v u} (h : Inv p P W v u) {q i : Nat} (hA : AtF p.f (q : Int) i) : W q = (p.f.fr[i]'hA.hi).2.1 := by
  have := h.pins.at hA
  rwa [Int.toNat_natCast] at this
/-- the clock's hand goes round -/
theorem Inv.swp {p P W v u} (h : Inv p P W v u) {l : List Fr} {a : Nat} (hs : Swp p.f.fr p.f.hand.toNat l a) : Inv ⟨swept p.f (l, a), p.d, p.now⟩ P W v u := by
  obtain ⟨o1, o2, o3, o4⟩ := hs.out
  have hm := h.pj.fm.swp (q := (l, a)) hs
  refine ⟨⟨hm, h.pj.rest, h.pj.ca, h.pj.z0, h.pj.n0, h.pj.n1, h.pj.dt⟩, PinsL.same h.pins o1 o3, fun q i hA => ?_, h.on, h.ub⟩
  have hi : i < l.length := hA.hi
  have hq : (q : Int) ≠ 0 := by have := hA.p1; omega
  have e : l[i].1 = (q : Int) := hA.fr
  exact h.at_ q i (atF_of h.pj.fm hq (by omega) (by rw [← (o3 i (by omega) hi).1]; exact e))
/-- a page is written back -/
theorem Inv.clean {p P W v u} (h : Inv p P W v u) {q i : Nat} (hA : AtF p.f (q : Int) i) : Inv ⟨cleanD p.f q, ⟨putD p.d.sec (p.f.pg[i]'hA.hp), []⟩, p.now⟩ P W v u := by
  have hm := cleanD_fm h.pj.fm q
  obtain ⟨s1, s2, s3, s4⟩ := setS_rest h.pj.rest hA.pgr
  have hpg := hA.pg
  have hq : 1 ≤ q := by have := hA.p1; omega
  refine ⟨⟨hm, s3, rfl, setD_0 h.pj.rest, h.pj.n0, h.pj.n1, fun x hx => h.pj.dt x (List.mem_filter.1 hx).1⟩, h.pins, fun k j hB => ?_, ⟨fun k h1 h16 hn => ?_, h.on.okp, h.on.vb⟩, h.ub⟩
  · exact h.at_ k j (atF_of h.pj.fm (by have := hB.p1; omega) hB.hi hB.fr)
  · show getR (putD p.d.sec (p.f.pg[i]'hA.hp)) k = _
    rw [get_put h.pj.rest hA.pgr h1 h16]
    by_cases e : (p.f.pg[i]'hA.hp).1 = (k : Int)
    · rw [if_pos e]
      have ek : q = k := by omega
      subst ek
      rw [← h.at_ q i hA, if_neg (by omega)]
    · rw [if_neg e]
      refine h.on.dsk k h1 h16 fun x hx ex => hn x (List.mem_filter.2 ⟨hx, ?_⟩) ex
      simp only [bne_iff_ne, ne_eq]
      omega
/-- a page leaves its frame -/
theorem Inv.rel {p P W v u} (h : Inv p P W v u) {q i : Nat} (hA : AtF p.f (q : Int) i) (h0 : (p.f.fr[i]'hA.hi).2.1 = 0) {s' : List ByteArray} {P' : Nat → Pg} (hs : Rest s') (hz : s'[0]?.getD ByteArray.empty = nul16)
    (hP : ∀ k, k ≠ q → P' k = P k) (hg : ∀ k, 1 ≤ k → k ≤ 16 → k ≠ q → getR s' k = getR p.d.sec k) (hq : getR s' q = if (P' q).1 = 0 then (zP, 3) else (P' q, 0)) (hok : P' q = zP ∨ (pgR (P' q) = true ∧ (P' q).1 = (q : Int))) (hv : (P' q).2.1 ≤ v) :
    Inv ⟨relS p.f i q, ⟨s', []⟩, p.now⟩ P' W v u := by
  have hm := FM.rel hA
  have hq1 : 1 ≤ q := by have := hA.p1; omega
  have hi := hA.hi
  obtain ⟨c1, c2⟩ := clean_cases (p := (q : Int)) h.pj.fm.dt
  have hd : ∀ x, x ∈ (relS p.f i q).dt ↔ x ∈ p.f.dt ∧ x.1 ≠ (q : Int) := c2
  have hfr : (relS p.f i q).fr = p.f.fr.set i (0, 0, false) := rfl
  have hpg : (relS p.f i q).pg = p.f.pg.set i noPg := rfl
  refine ⟨⟨hm, hs, rfl, hz, h.pj.n0, h.pj.n1, fun x hx => h.pj.dt x ((hd x).1 hx).1⟩, ?_, fun k j hB => ?_, ⟨fun k h1 h16 hn => ?_, fun k h1 h16 => ?_, fun k => ?_⟩, h.ub⟩
  · show PinsL (p.f.fr.set i (0, 0, false)) W
    refine PinsL.set h.pins hi hA.uniq fun k h1 h16 => ⟨fun e => ?_, fun _ e => ?_, fun _ _ => rfl⟩
    · have e : (0 : Int) = k := e
      omega
    · have ek : k = q := by rw [hA.fr] at e; omega
      subst ek
      rw [h.wat hA, h0]
  · have hj : j < (p.f.fr.set i (0, 0, false)).length := hB.hi
    have ef : (p.f.fr.set i (0, 0, false))[j].1 = (k : Int) := hB.fr
    have hk1 := hB.p1
    have hne : i ≠ j := fun e => by
      subst e
      rw [List.getElem_set_self] at ef
      have ef : (0 : Int) = k := ef
      omega
    rw [List.getElem_set_ne hne] at ef
    have hj' : j < p.f.fr.length := by rw [List.length_set] at hj; exact hj
    have hC := atF_of h.pj.fm (by omega) hj' ef
    have hj2 : j < (p.f.pg.set i noPg).length := hB.hp
    show (p.f.pg.set i noPg)[j]'hj2 = _
    rw [List.getElem_set_ne hne, h.at_ k j hC, hP]
    intro e
    subst e
    exact hne (hA.uni hj' ef).symm
  · show getR s' k = _
    by_cases e : k = q
    · subst e; exact hq
    · rw [hg k h1 h16 e, hP k e]
      exact h.on.dsk k h1 h16 fun x hx ex => hn x ((hd x).2 ⟨hx, by omega⟩) ex
  · by_cases e : k = q
    · subst e; exact hok
    · rw [hP k e]; exact h.on.okp k h1 h16
  · by_cases e : k = q
    · subst e; exact hv
    · rw [hP k e]; exact h.on.vb k
theorem Inv.rel0 {p P W v u} (h : Inv p P W v u) {q i : Nat} (hA : AtF p.f (q : Int) i) (h0 : (p.f.fr[i]'hA.hi).2.1 = 0) (hn : ∀ x ∈ p.f.dt, x.1 ≠ (q : Int)) : Inv ⟨relS p.f i q, p.d, p.now⟩ P W v u := by
  have hq1 : 1 ≤ q := by have := hA.p1; omega
  have hq16 : q ≤ 16 := by have := hA.p16; omega
  have := h.rel hA h0 (s' := p.d.sec) (P' := P) h.pj.rest h.pj.z0 (fun _ _ => rfl) (fun _ _ _ _ => rfl) (h.on.dsk q hq1 hq16 hn) (h.on.okp q hq1 hq16) (h.on.vb q)
  rw [← h.pj.d] at this; exact this
/-- a page that is in no frame goes from the disk -/
theorem Inv.rm {p P W v u} (h : Inv p P W v u) {q : Nat} (h1 : 1 ≤ q) (h16 : q ≤ 16) (hv : 0 ≤ v) (hn : ∀ i (hi : i < p.f.fr.length), p.f.fr[i].1 ≠ (q : Int)) : Inv ⟨p.f, ⟨rmD p.d.sec q, []⟩, p.now⟩ (ud P q zP) W v u := by
  obtain ⟨d1, d2, d3, d4⟩ := delD_rest h.pj.rest h1 h16
  refine ⟨⟨h.pj.fm, d3, rfl, setD_0 h.pj.rest, h.pj.n0, h.pj.n1, h.pj.dt⟩, h.pins, fun k j hA => ?_, ⟨fun k k1 k16 hk => ?_, fun k k1 k16 => ?_, fun k => ?_⟩, h.ub⟩
  · have : k ≠ q := fun e => by subst e; exact hn j hA.hi hA.fr
    rw [ud_ne _ _ this]; exact h.at_ k j hA
  · show getR (rmD p.d.sec q) k = _
    rw [get_rm h.pj.rest h1 h16 k1 k16]
    by_cases e : q = k
    · subst e; rw [if_pos rfl, ud_at, if_pos (show zP.1 = 0 from rfl)]
    · rw [if_neg e, ud_ne _ _ (fun q => e q.symm)]; exact h.on.dsk k k1 k16 hk
  · by_cases e : k = q
    · subst e; rw [ud_at]; exact .inl rfl
    · rw [ud_ne _ _ e]; exact h.on.okp k k1 k16
  · by_cases e : k = q
    · subst e; rw [ud_at]; exact hv
    · rw [ud_ne _ _ e]; exact h.on.vb k
/-- pins -/
theorem Inv.pin {p P W v u} (h : Inv p P W v u) {q i : Nat} (hA : AtF p.f (q : Int) i) {y : Fr} (hy : frOk y = true) (h1 : y.1 = (q : Int)) {u' : Int} (hu : y.2.1 ≤ u') (huu : u ≤ u') : Inv ⟨withF p.f i y, p.d, p.now⟩ P (ud W q y.2.1) v u' := by
  have hm := FM.pins hA hy h1
  have hi := hA.hi
  refine ⟨⟨hm, h.pj.rest, h.pj.ca, h.pj.z0, h.pj.n0, h.pj.n1, h.pj.dt⟩, ?_, fun k j hB => ?_, h.on, fun k => ?_⟩
  · show PinsL (p.f.fr.set i y) _
    refine PinsL.set h.pins hi hA.uniq fun k k1 k16 => ⟨fun e => ?_, fun e1 e2 => ?_, fun e1 e2 => ?_⟩
    · have : k = q := by omega
      subst this; exact ud_at _ _ _
    · rw [hA.fr] at e2; omega
    · exact ud_ne _ _ (by omega)
  · have hj : j < (p.f.fr.set i y).length := hB.hi
    have ef : (p.f.fr.set i y)[j].1 = (k : Int) := hB.fr
    have hj' : j < p.f.fr.length := by rw [List.length_set] at hj; exact hj
    refine h.at_ k j (atF_of h.pj.fm (by have := hB.p1; omega) hj' ?_)
    by_cases e : i = j
    · subst e
      rw [List.getElem_set_self] at ef
      rw [hA.fr, ← h1, ef]
    · rw [List.getElem_set_ne e] at ef; exact ef
  · by_cases e : k = q
    · subst e; rw [ud_at]; exact hu
    · rw [ud_ne _ _ e]; have := h.ub k; omega
/-- a page is written -/
theorem Inv.wr {p P W v u} (h : Inv p P W v u) {q i : Nat} (hA : AtF p.f (q : Int) i) {b : ByteArray} (hb : b.size ≤ 16) (hv : v < 2147483647) {l : List (Int × Int)} (hr : Dt.rightB l = true) (hl : ∀ y ∈ l, (y ∈ p.f.dt ∨ y.1 = (q : Int)) ∧ y.2 ≤ p.now) (hl2 : ∀ y ∈ p.f.dt, y ∈ l) (hd : ∃ y ∈ l, y.1 = (q : Int)) :
    Inv ⟨⟨p.f.fr, p.f.hand, p.f.tb, p.f.pg.set i (wrPg (p.f.pg[i]'hA.hp) b), l⟩, p.d, p.now⟩ (ud P q (wrPg (P q) b)) W (v + 1) u := by
  have hi := hA.hi
  have hip := hA.hp
  have hg := pgR_out.1 hA.pgr
  have ePg := h.at_ q i hA
  have hvq := h.on.vb q
  rw [← ePg] at hvq
  have hx : pgR (wrPg (p.f.pg[i]'hA.hp) b) = true := pgR_out.2 ⟨hg.1, hg.2.1, by show 1 ≤ (p.f.pg[i]'hA.hp).2.1 + 1; omega, by show (p.f.pg[i]'hA.hp).2.1 + 1 ≤ _; omega, hb⟩
  have hm := FM.wrote hA hx hA.pg hr fun y hy => (hl y hy).1
  refine ⟨⟨hm, h.pj.rest, h.pj.ca, h.pj.z0, h.pj.n0, h.pj.n1, fun x hx => (hl x hx).2⟩, h.pins, fun k j hB => ?_, ⟨fun k k1 k16 hk => ?_, fun k k1 k16 => ?_, fun k => ?_⟩, h.ub⟩
  · have hC := atF_of h.pj.fm (by have := hB.p1; omega) hB.hi hB.fr
    have hj2 : j < (p.f.pg.set i (wrPg (p.f.pg[i]'hA.hp) b)).length := hB.hp
    show (p.f.pg.set i (wrPg (p.f.pg[i]'hA.hp) b))[j]'hj2 = _
    by_cases e : k = q
    · subst e
      have : j = i := hA.uni hC.hi hC.fr
      subst this
      rw [List.getElem_set_self, ud_at, ePg]
    · have hne : i ≠ j := fun e2 => by
        subst e2
        have := hA.fr.symm.trans hC.fr
        omega
      rw [List.getElem_set_ne hne, ud_ne _ _ e]; exact h.at_ k j hC
  · have hne : k ≠ q := fun e => by subst e; obtain ⟨y, hy, ey⟩ := hd; exact hk y hy ey
    rw [ud_ne _ _ hne]
    exact h.on.dsk k k1 k16 fun x hx => hk x (hl2 x hx)
  · by_cases e : k = q
    · subst e
      rw [ud_at, ← ePg]
      exact .inr ⟨hx, hA.pg⟩
    · rw [ud_ne _ _ e]; exact h.on.okp k k1 k16
  · by_cases e : k = q
    · subst e
      rw [ud_at, ← ePg]
      show (p.f.pg[i]'hA.hp).2.1 + 1 ≤ _
      omega
    · rw [ud_ne _ _ e]; have := h.on.vb k; omega
/-- a page comes into a free frame -/
theorem Inv.load {p P W v u} (h : Inv p P W v u) {q i : Nat} (h1 : 1 ≤ q) (h16 : q ≤ 16) (hi : i < p.f.fr.length) (hz : p.f.fr[i].1 = 0) (hn : ∀ j (hj : j < p.f.fr.length), p.f.fr[j].1 ≠ (q : Int)) {x : Pg} (hx : pgR x = true) (hxq : x.1 = (q : Int)) (fresh : Bool) (hf : fresh = false → x = P q) (hv : x.2.1 ≤ v) (hu : 1 ≤ u)
    (hm : FM { inS p.f x i with dt := bif fresh then p.f.dt ++ [(x.1, p.now)] else p.f.dt }) :
    Inv ⟨{ inS p.f x i with dt := bif fresh then p.f.dt ++ [(x.1, p.now)] else p.f.dt }, p.d, p.now⟩ (ud P q x) (ud W q 1) v u := by
  refine ⟨⟨hm, h.pj.rest, h.pj.ca, h.pj.z0, h.pj.n0, h.pj.n1, fun y hy => ?_⟩, ?_, fun k j hB => ?_, ⟨fun k k1 k16 hk => ?_, fun k k1 k16 => ?_, fun k => ?_⟩, fun k => ?_⟩
  · cases fresh with
    | false => exact h.pj.dt y hy
    | true =>
      rcases List.mem_append.1 hy with e | e
      · exact h.pj.dt y e
      · rw [List.mem_singleton] at e; subst e; exact Int.le_refl _
  · show PinsL (p.f.fr.set i (x.1, 1, true)) _
    refine PinsL.set h.pins hi (fun j hj e0 e1 => absurd (e1.trans hz) e0) fun k k1 k16 => ⟨fun e => ?_, fun _ e => ?_, fun e _ => ?_⟩
    · have e : x.1 = (k : Int) := e
      have : k = q := by omega
      subst this; exact ud_at _ _ _
    · rw [hz] at e; omega
    · have e : x.1 ≠ (k : Int) := e
      exact ud_ne _ _ (by omega)
  · have hj : j < (p.f.fr.set i (x.1, 1, true)).length := hB.hi
    have ef : (p.f.fr.set i (x.1, 1, true))[j].1 = (k : Int) := hB.fr
    have hj' : j < p.f.fr.length := by rw [List.length_set] at hj; exact hj
    have hk1 := hB.p1
    have hj2 : j < (p.f.pg.set i x).length := hB.hp
    show (p.f.pg.set i x)[j]'hj2 = _
    by_cases e : i = j
    · subst e
      rw [List.getElem_set_self] at ef ⊢
      have ef : x.1 = (k : Int) := ef
      have : k = q := by omega
      subst this; rw [ud_at]
    · rw [List.getElem_set_ne e] at ef ⊢
      have : k ≠ q := fun e2 => by subst e2; exact hn j hj' ef
      rw [ud_ne _ _ this]
      exact h.at_ k j (atF_of h.pj.fm (by omega) hj' ef)
  · have hk' : ∀ y ∈ p.f.dt, y.1 ≠ (k : Int) := fun y hy => hk y (by
      cases fresh with
      | false => exact hy
      | true => exact List.mem_append_left _ hy)
    by_cases e : k = q
    · subst e
      cases fresh with
      | true => exact absurd hxq (hk (x.1, p.now) (List.mem_append_right _ (List.mem_singleton.2 rfl)))
      | false =>
        rw [ud_at]
        have := h.on.dsk k k1 k16 hk'
        rwa [← hf rfl] at this
    · rw [ud_ne _ _ e]; exact h.on.dsk k k1 k16 hk'
  · by_cases e : k = q
    · subst e; rw [ud_at]; exact .inr ⟨hx, hxq⟩
    · rw [ud_ne _ _ e]; exact h.on.okp k k1 k16
  · by_cases e : k = q
    · subst e; rw [ud_at]; exact hv
    · rw [ud_ne _ _ e]; exact h.on.vb k
  · by_cases e : k = q
    · subst e; rw [ud_at]; exact hu
    · rw [ud_ne _ _ e]; exact h.ub k
end Go.Lk


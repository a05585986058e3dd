/-
  What is proved here: what the library's sort, and the functions that use it, compute.
-/
import Derived.Test.YtjbhlhfdkhdmjaaFh
import Derived.Shelf.Sort.Plain
import Derived.Shelf.Slices.In.SortNone
import Derived.Test.YtjbhlhfdkhdmjaaProg
import Derived.Test.YtjbhlhfdkhdmjaaTa
set_option linter.unusedSectionVars false
set_option linter.unusedSimpArgs false
set_option linter.unusedVariables false
set_option linter.unnecessarySimpa false
namespace Go.Lk
open Go Go.Proofs Go.RowKit Go.Shelf Go.Sort

/-- the library's sort of ints, as a step on a row of the caller's -/
def sortI (l : List Int) : List Int := l.mergeSort fun x y => decide (x ≤ y)
theorem enc1_flat (zs : List Int) (i : Nat) (d : D) (h : (zs.map enc1)[i]? = some [d]) : ∃ z, zs[i]? = some z ∧ d = .int .i64 z := by
  rw [List.getElem?_map] at h
  cases hz : zs[i]? with
  | none => simp [hz] at h
  | some z =>
    simp [hz, enc1] at h
    exact ⟨z, rfl, h.symm⟩

theorem rowAt_ints {M : Mem} {cs : Array Value} {zs : List Int} (h : RowAt M cs (zs.map enc1) 1) {j : Nat} (hj : j < zs.length) : cs[j]? = some (.int .i64 zs[j]) := by
  obtain ⟨v, hv, hd⟩ := h.den j 0 (enc1 zs[j]) (.int .i64 zs[j]) (by simp [hj]) rfl
  rw [Nat.mul_one, Nat.add_zero] at hv
  cases hd
  exact hv

theorem sort_ecall {P : Program} {ρ : Ren} (Ly : Lays.n189 P ρ) (hok : FnOk P (ρ.f 189)) (hnone : ∀ (p : Option Addr) (cap : Nat) (w : World), Calls P (ρ.f 189) #[.slice p 0 cap] w fun e w' => e = .returned (.tuple #[]) ∧ w' = w)
    {hp : Nat → Option Blk} {b : Nat} {zs : List Int} (hb : hp b = some (.row (zs.map enc1) 1 false)) (hz : zs.length < 4611686018427387904) :
    ECall P (ρ.f 189) [.own b] hp ⟨.tup [], [(b, .row ((sortI zs).map enc1) 1 false)], none⟩ := by
  refine ⟨hok, fun own M ι w vs ho ha hh hvs => ?_⟩
  obtain ⟨v, rfl⟩ : ∃ v, vs = #[v] := by
    have := hvs.1
    simp at this
    exact Array.size_eq_one_iff.1 this
  have hv : DenA M ι (.own b) v := hvs.2 0 _ v rfl rfl
  have hlen : (sortI zs).length = zs.length := List.length_mergeSort ..
  have hne : hp b ≠ none := by rw [hb]; simp
  cases hv with
  | own _ L cap hL hn hc =>
    obtain ⟨ho1, cs, Ty, q1, q2, q3, q4, q5, q6, q7⟩ := hh.at_ b _ L hb hL
    rw [List.length_map] at q4
    have q7' := q7.2 rfl
    have hH : Holds (Value.int .i64) w L.blk 0 zs.toArray := by
      intro j hj
      have hj : j < zs.length := by simpa using hj
      rw [Nat.zero_add]
      refine ⟨?_, ?_⟩
      · rw [cell_of_heap q1, rowAt_ints q6 hj, getElem!_pos zs.toArray j (by simpa using hj)]
        simp
      · simp [World.frozen?, q1]
    have hblk : L.blk < w.heap.size := (Array.getElem?_eq_some_iff.1 q1).1
    rw [← q4]
    refine (Any.slices_Sort_int Ly L.blk 0 cap zs w hH hblk hz).mono fun e w' hq => ?_
    obtain ⟨rfl, n, os, rfl⟩ := hq
    have hsame : ∀ c, c ≠ L.blk → c < w.heap.size → (grow (putRow (Value.int .i64) (Sort.ahead w n) L.blk 0 (sortI zs).toArray) os).heap[c]? = w.heap[c]? := by
      intro c hc hlt
      simp only [grow, putRow, mapBlock, Sort.ahead]
      rw [Array.getElem?_append_left (by simpa using hlt), Array.getElem?_modify, if_neg (fun e => hc e.symm)]
    have hat : (grow (putRow (Value.int .i64) (Sort.ahead w n) L.blk 0 (sortI zs).toArray) os).heap[L.blk]? = some (.cells (putCells (Value.int .i64) 0 (sortI zs).toArray cs) Ty (0, 0)) := by
      simp only [grow, putRow, mapBlock, Sort.ahead]
      rw [Array.getElem?_append_left (by simpa using hblk), Array.getElem?_modify, if_pos rfl, q1]
      rfl
    refine ⟨_, M, ι, rfl, ⟨rfl, rfl, rfl, by simp [grow, putRow, mapBlock, Sort.ahead], fun c hc => ?_⟩, .refl M, ?_, .refl _ _, ?_, fun _ _ => rfl, .tup [] #[] rfl fun i x v h => by simp at h⟩
    · by_cases hlt : c < w.heap.size
      · exact hsame c (fun e => hc (e ▸ ho1)) hlt
      · exact absurd (ho c (by omega)) hc
    · intro b' o v hM
      have hne' : b' ≠ L.blk := fun e => by rw [e, q7' o] at hM; cases hM
      have := ha b' o v hM
      unfold World.cell? at this ⊢
      have hlt : b' < w.heap.size := by
        cases hx : w.heap[b']? with
        | none => rw [hx] at this; simp at this
        | some x => exact (Array.getElem?_eq_some_iff.1 hx).1
      rw [show (zs.mergeSort fun x y => decide (x ≤ y)) = sortI zs from rfl, hsame b' hne' hlt]
      exact this
    · refine hh.set b _ hne (.refl M) (fun e => by rw [hL] at e; cases e) (fun L' hL' => ?_) (fun b' L' hbb hL' => ?_)
      · rw [hL] at hL'
        cases hL'
        refine ⟨_, Ty, hat, by simp [putCells, q2], q3, by simp [hlen, q4], by simpa [hlen] using q5, ⟨fun i e h => ?_, fun i j e d h1 h2 => ?_⟩, fun h => (by cases h), fun _ => q7'⟩
        · rw [List.getElem?_map] at h
          cases hx : (sortI zs)[i]? with
          | none => simp [hx] at h
          | some x => simp [hx] at h; subst h; rfl
        · rw [List.getElem?_map] at h1
          cases hx : (sortI zs)[i]? with
          | none => simp [hx] at h1
          | some x =>
            simp [hx] at h1
            subst h1
            cases j with
            | succ j => simp [enc1] at h2
            | zero =>
              simp [enc1] at h2
              subst h2
              obtain ⟨hi, hx'⟩ := List.getElem?_eq_some_iff.1 hx
              have hics : i < cs.size := by
                have : zs.length * 1 ≤ L.size := by simpa using q5
                omega
              refine ⟨.int .i64 x, ?_, .int _ _⟩
              rw [Nat.mul_one, Nat.add_zero]
              simp only [putCells, Array.getElem?_mapIdx]
              rw [Array.getElem?_eq_getElem hics]
              simp only [Option.map_some, Option.some.injEq]
              rw [if_pos ⟨Nat.zero_le _, by simpa using hi⟩, Nat.sub_zero, getElem!_pos (sortI zs).toArray i (by simpa using hi)]
              simp [hx']
      · have hne' : L'.blk ≠ L.blk := fun e => hbb (hh.inj b' b L' L hL' hL e)
        have hlt := hh.lt hL'
        exact ⟨hsame _ hne' hlt, fun B' hB' hfr o => hh.closed hL' B' hB' hfr o⟩
  | ownE _ a0 hL =>
    obtain ⟨sz2, fr2, e0⟩ := hh.virt b hL
    rw [hb] at e0
    have hzs : zs = [] := by
      cases zs with
      | nil => rfl
      | cons z r => cases e0
    subst hzs
    refine (hnone a0 0 w).mono fun e w' hq => ?_
    obtain ⟨rfl, rfl⟩ := hq
    refine ⟨_, M, ι, rfl, .refl _ _, .refl M, ha, .refl _ _, ?_, fun _ _ => rfl, .tup [] #[] rfl fun i x v h => by simp at h⟩
    have : (⟨.tup [], [(b, .row ((sortI []).map enc1) 1 false)], none⟩ : Eff).hp hp = hp := by
      rw [show sortI [] = [] by simp [sortI]]
      show upd hp b (some (.row [] 1 false)) = hp
      funext c
      by_cases e : c = b
      · subst e; rw [upd_same, hb]; rfl
      · rw [upd_other _ _ e]
    rw [this]; exact hh
  | ownL _ _ hL => exact absurd ((hh.dom b).2 hL) hne
end Go.Lk

namespace Go.Lk
open Go Go.Proofs Go.Shelf
def sortRen : Ren :=
{
  f := fun x =>
    match x with
    | 189 => 19
    | 125 => 28
    | 257 => 27
    | 128 => 38
    | 129 => 39
    | 294 => 29
    | 295 => 30
    | 296 => 31
    | 297 => 32
    | 298 => 33
    | 299 => 34
    | 216 => 35
    | 300 => 36
    | 301 => 37
    | 328 => 40
    | 329 => 41
    | 330 => 42
    | 331 => 43
    | 332 => 44
    | 215 => 45
    | 343 => 46
    | n => n,
  t := fun x =>
    match x with
    | 28 => 31
    | 3 => 3
    | 46 => 60
    | 0 => 0
    | 51 => 69
    | 53 => 71
    | 4 => 4
    | 183 => 63
    | 182 => 62
    | 131 => 46
    | 5 => 5
    | 9 => 9
    | 218 => 72
    | 222 => 76
    | 228 => 79
    | 229 => 80
    | n => n,
  g := fun x => x }

theorem sortLays : Lays.n189 Try.prog sortRen :=
{ mixed := by kernel_rfl, f125 := Eq.trans Try.func28 (congrArg some (by kernel_rfl)),
  f128 := Eq.trans Try.func38 (congrArg some (by kernel_rfl)),
  f129 := Eq.trans Try.func39 (congrArg some (by kernel_rfl)),
  f189 := Eq.trans Try.func19 (congrArg some (by kernel_rfl)),
  f215 := Eq.trans Try.func45 (congrArg some (by kernel_rfl)),
  f216 := Eq.trans Try.func35 (congrArg some (by kernel_rfl)),
  f257 := Eq.trans Try.func27 (congrArg some (by kernel_rfl)),
  f294 := Eq.trans Try.func29 (congrArg some (by kernel_rfl)),
  f295 := Eq.trans Try.func30 (congrArg some (by kernel_rfl)),
  f296 := Eq.trans Try.func31 (congrArg some (by kernel_rfl)),
  f297 := Eq.trans Try.func32 (congrArg some (by kernel_rfl)),
  f298 := Eq.trans Try.func33 (congrArg some (by kernel_rfl)),
  f299 := Eq.trans Try.func34 (congrArg some (by kernel_rfl)),
  f300 := Eq.trans Try.func36 (congrArg some (by kernel_rfl)),
  f301 := Eq.trans Try.func37 (congrArg some (by kernel_rfl)),
  f328 := Eq.trans Try.func40 (congrArg some (by kernel_rfl)),
  f329 := Eq.trans Try.func41 (congrArg some (by kernel_rfl)),
  f330 := Eq.trans Try.func42 (congrArg some (by kernel_rfl)),
  f331 := Eq.trans Try.func43 (congrArg some (by kernel_rfl)),
  f332 := Eq.trans Try.func44 (congrArg some (by kernel_rfl)),
  f343 := Eq.trans Try.func46 (congrArg some (by kernel_rfl)), t0 := Try.underlying0,
  a0 := Try.isAgg0, z0 := Try.sizeOf0, v0 := Try.zeroValue0, t3 := Try.underlying3, a3 := Try.isAgg3, z3 := Try.sizeOf3,
  v3 := Try.zeroValue3, t4 := Try.underlying4, a4 := Try.isAgg4, z4 := Try.sizeOf4, v4 := Try.zeroValue4,
  t5 := Try.underlying5, a5 := Try.isAgg5, z5 := Try.sizeOf5, v5 := Try.zeroValue5, t9 := Try.underlying9,
  a9 := Try.isAgg9, z9 := Try.sizeOf9, v9 := Try.zeroValue9, t28 := Try.underlying31, a28 := Try.isAgg31,
  z28 := Try.sizeOf31, v28 := Try.zeroValue31, t46 := Try.underlying60, a46 := Try.isAgg60, z46 := Try.sizeOf60,
  v46 := Try.zeroValue60, t51 := Try.underlying69, a51 := Try.isAgg69, z51 := Try.sizeOf69, v51 := Try.zeroValue69,
  t53 := Try.underlying71, a53 := Try.isAgg71, z53 := Try.sizeOf71, v53 := Try.zeroValue71, t131 := Try.underlying46,
  a131 := Try.isAgg46, z131 := Try.sizeOf46, v131 := Try.zeroValue46, t182 := Try.underlying62, a182 := Try.isAgg62,
  z182 := Try.sizeOf62, v182 := Try.zeroValue62, t183 := Try.underlying63, a183 := Try.isAgg63, z183 := Try.sizeOf63,
  v183 := Try.zeroValue63, t218 := Try.underlying72, a218 := Try.isAgg72, z218 := Try.sizeOf72, v218 := Try.zeroValue72,
  t222 := Try.underlying76, a222 := Try.isAgg76, z222 := Try.sizeOf76, v222 := Try.zeroValue76,
  t228 := Try.underlying79, a228 := Try.isAgg79, z228 := Try.sizeOf79, v228 := Try.zeroValue79,
  t229 := Try.underlying80, a229 := Try.isAgg80, z229 := Try.sizeOf80, v229 := Try.zeroValue80 }

theorem sort_ok {hp : Nat → Option Blk} {b : Nat} {zs : List Int} (hb : hp b = some (.row (zs.map enc1) 1 false)) (hz : zs.length < 4611686018427387904) :
    ECall Try.prog 19 [.own b] hp ⟨.tup [], [(b, .row ((sortI zs).map enc1) 1 false)], none⟩ :=
  sort_ecall sortLays ⟨Try.f19, Try.func19, rfl, by kernel_rfl⟩ (fun p cap w => Any.slices_Sort_int_none sortLays p cap w) hb hz
end Go.Lk

set_option linter.unusedSimpArgs false
set_option linter.unusedVariables false
set_option linter.unnecessarySimpa false
namespace Go.Lk
open Go Go.Proofs Go.RowKit

noncomputable def findS (l : Slots) (p : Int) : Int × Bool := if rightB l = false ∨ (placeT l p).2 = false then (0, false) else ((at' l (placeT l p).1.toNat).2, true)
theorem find_ok (l : Slots) (p : Int) (hl : l.length ≤ 1000000) : ACall Try.prog 16 [encT l, .int .i64 p] (.tup [.int .i64 (findS l p).1, .bool (findS l p).2]) := by
  refine acall_of Try.func16 2 rfl (by kernel_rfl) ?_
  conv => whnf
  repeat (first | (refine bcase_f rfl ?_; conv => whnf) | (refine bcase_t rfl ?_; conv => whnf) | (refine condK_of rfl ?_; conv => whnf) | (refine condK_of (by decide) ?_; conv => whnf) | (refine condK_of (by omega) ?_; conv => whnf) | (refine wrapK_in (w64 (by omega) (by omega)) ?_; conv => whnf))
  refine callX_pure (right_ok l hl) ?_
  conv => whnf
  refine bcase_intro (fun h1 => ?_) (fun h1 => ?_) <;> conv => whnf
  · repeat (first | (refine bcase_f rfl ?_; conv => whnf) | (refine bcase_t rfl ?_; conv => whnf) | (refine condK_of rfl ?_; conv => whnf) | (refine condK_of (by decide) ?_; conv => whnf) | (refine condK_of (by omega) ?_; conv => whnf) | (refine wrapK_in (w64 (by omega) (by omega)) ?_; conv => whnf))
    simp at h1
    exact ret_of rfl (by simp [findS, h1]; rfl)
  simp at h1
  repeat (first | (refine bcase_f rfl ?_; conv => whnf) | (refine bcase_t rfl ?_; conv => whnf) | (refine condK_of rfl ?_; conv => whnf) | (refine condK_of (by decide) ?_; conv => whnf) | (refine condK_of (by omega) ?_; conv => whnf) | (refine wrapK_in (w64 (by omega) (by omega)) ?_; conv => whnf))
  refine callX_pure (place_ok l p hl) ?_
  conv => whnf
  refine bcase_intro (fun h3 => ?_) (fun h3 => ?_) <;> conv => whnf
  · repeat (first | (refine bcase_f rfl ?_; conv => whnf) | (refine bcase_t rfl ?_; conv => whnf) | (refine condK_of rfl ?_; conv => whnf) | (refine condK_of (by decide) ?_; conv => whnf) | (refine condK_of (by omega) ?_; conv => whnf) | (refine wrapK_in (w64 (by omega) (by omega)) ?_; conv => whnf))
    simp at h3
    exact ret_of rfl (by simp [findS, h3]; rfl)
  simp at h3
  obtain ⟨a, ha, ha2, ha3⟩ := placeT_t h3
  rw [ha]
  repeat (first | (refine bcase_f rfl ?_; conv => whnf) | (refine bcase_t rfl ?_; conv => whnf) | (refine condK_of rfl ?_; conv => whnf) | (refine condK_of (by decide) ?_; conv => whnf) | (refine condK_of (by omega) ?_; conv => whnf) | (refine wrapK_in (w64 (by omega) (by omega)) ?_; conv => whnf))
  refine idxK_nat (by simpa using ha2) ?_
  conv => whnf
  refine getRow_of (x := encI l[a]) (by simp [ha2]) ?_
  conv => whnf
  repeat (first | (refine bcase_f rfl ?_; conv => whnf) | (refine bcase_t rfl ?_; conv => whnf) | (refine condK_of rfl ?_; conv => whnf) | (refine condK_of (by decide) ?_; conv => whnf) | (refine condK_of (by omega) ?_; conv => whnf) | (refine wrapK_in (w64 (by omega) (by omega)) ?_; conv => whnf))
  exact ret_of rfl (by simp [findS, h1, h3, ha, at_eq ha2]; rfl)

def pageF (x : Int × Int) : Option Int := if freeB x = true then none else some x.1
noncomputable def pagesS (l : Slots) : List Int := if rightB l = false then [] else sortI (l.filterMap pageF)
theorem pages_ok (l : Slots) (hl : l.length ≤ 1000000) : ACall Try.prog 9 [encT l] (encNs (pagesS l)) := by
  refine acall_of Try.func9 1 rfl (by kernel_rfl) ?_
  conv => whnf
  repeat (first | (refine bcase_f rfl ?_; conv => whnf) | (refine bcase_t rfl ?_; conv => whnf) | (refine condK_of rfl ?_; conv => whnf) | (refine condK_of (by decide) ?_; conv => whnf) | (refine condK_of (by omega) ?_; conv => whnf) | (refine wrapK_in (w64 (by omega) (by omega)) ?_; conv => whnf))
  refine callX_pure (right_ok l hl) ?_
  conv => whnf
  refine bcase_intro (fun h1 => ?_) (fun h1 => ?_) <;> conv => whnf
  · repeat (first | (refine bcase_f rfl ?_; conv => whnf) | (refine bcase_t rfl ?_; conv => whnf) | (refine condK_of rfl ?_; conv => whnf) | (refine condK_of (by decide) ?_; conv => whnf) | (refine condK_of (by omega) ?_; conv => whnf) | (refine wrapK_in (w64 (by omega) (by omega)) ?_; conv => whnf))
    simp at h1
    exact ret_of rfl (by simp [pagesS, h1]; rfl)
  simp at h1
  have hlen := (rightB_t.1 h1).len
  have hm : (l.map encI).length = l.length := List.length_map ..
  repeat (first | (refine bcase_f rfl ?_; conv => whnf) | (refine bcase_t rfl ?_; conv => whnf) | (refine condK_of rfl ?_; conv => whnf) | (refine condK_of (by decide) ?_; conv => whnf) | (refine condK_of (by omega) ?_; conv => whnf) | (refine wrapK_in (w64 (by omega) (by omega)) ?_; conv => whnf))
  refine aloop (ι := Nat) (fun k => [(3, .own 23), (10, .d (encIs l)), (11, .d (.int .i64 (l.map encI).length)), (12, .d (.int .i64 k))]) (fun k => [(23, .row (((l.take k).filterMap pageF).map enc1) 1 false)])
    (fun k => k ≤ l.length) (fun k => l.length - k) 0 (Nat.zero_le _) (le1 (.row 3 23 1) ⟨rfl, rfl⟩ (le_of_cov ⟨rfl, rfl, rfl, rfl, trivial⟩ ⟨rfl, trivial⟩ ⟨rfl, rfl, rfl, rfl⟩)) ?_
  intro k hk
  conv => whnf
  refine bcase_p (fun h => ?_) (fun h => ?_) <;> conv => whnf
  · have hk2 : k < l.length := by omega
    refine idxK_nat (by omega) ?_
    conv => whnf
    refine getRow_of (x := encI l[k]) (by simp [hk2]) ?_
    conv => whnf
    repeat (first | (refine bcase_f rfl ?_; conv => whnf) | (refine bcase_t rfl ?_; conv => whnf) | (refine condK_of rfl ?_; conv => whnf) | (refine condK_of (by decide) ?_; conv => whnf) | (refine condK_of (by omega) ?_; conv => whnf) | (refine wrapK_in (w64 (by omega) (by omega)) ?_; conv => whnf))
    refine callX_pure (free_ok l[k]) ?_
    conv => whnf
    refine bcase_intro (fun h2 => ?_) (fun h2 => ?_) <;> conv => whnf
    · repeat (first | (refine bcase_f rfl ?_; conv => whnf) | (refine bcase_t rfl ?_; conv => whnf) | (refine condK_of rfl ?_; conv => whnf) | (refine condK_of (by decide) ?_; conv => whnf) | (refine condK_of (by omega) ?_; conv => whnf) | (refine wrapK_in (w64 (by omega) (by omega)) ?_; conv => whnf))
      simp at h2
      have hl2 := List.length_filterMap_le pageF (l.take k)
      refine roomK_le 100 100 (by show List.length _ + 1 ≤ 100; simp at hl2 ⊢; omega) (by decide) (by decide) (by decide) ?_
      conv => whnf
      repeat (first | (refine bcase_f rfl ?_; conv => whnf) | (refine bcase_t rfl ?_; conv => whnf) | (refine condK_of rfl ?_; conv => whnf) | (refine condK_of (by decide) ?_; conv => whnf) | (refine condK_of (by omega) ?_; conv => whnf) | (refine wrapK_in (w64 (by omega) (by omega)) ?_; conv => whnf))
      exact ⟨k + 1, by omega, by omega, le0 (le_of_cov ⟨rfl, rfl, rfl, rfl, trivial⟩ ⟨by rw [take_snoc hk2, List.filterMap_append, List.map_append]; simp [pageF, h2]; rfl, trivial⟩ ⟨rfl, rfl, rfl, rfl⟩)⟩
    · repeat (first | (refine bcase_f rfl ?_; conv => whnf) | (refine bcase_t rfl ?_; conv => whnf) | (refine condK_of rfl ?_; conv => whnf) | (refine condK_of (by decide) ?_; conv => whnf) | (refine condK_of (by omega) ?_; conv => whnf) | (refine wrapK_in (w64 (by omega) (by omega)) ?_; conv => whnf))
      simp at h2
      exact ⟨k + 1, by omega, by omega, le0 (le_of_cov ⟨rfl, rfl, rfl, rfl, trivial⟩ ⟨by rw [take_snoc hk2, List.filterMap_append, List.map_append]; simp [pageF, h2]; rfl, trivial⟩ ⟨rfl, rfl, rfl, rfl⟩)⟩
  have hl2 := List.length_filterMap_le pageF (l.take k)
  have hk3 : k = l.length := by omega
  refine callX_heap (sort_ok (zs := (l.take k).filterMap pageF) rfl (by simp at hl2; omega)) ?_
  conv => whnf
  refine ret_of rfl ?_
  rw [hk3, List.take_length, oneD1]
  show D.lst _ = encNs _
  simp [pagesS, h1, encNs]

theorem ref_ok (l : Slots) : ACall Try.prog 7 [encT l] (if l.length ≤ 40 then .tup [encT l, .bool true] else .tup [encT [], .bool false]) := by
  refine acall_of Try.func7 1 rfl (by kernel_rfl) ?_
  conv => whnf
  have hm : (l.map encI).length = l.length := List.length_map ..
  repeat (first | (refine bcase_f rfl ?_; conv => whnf) | (refine bcase_t rfl ?_; conv => whnf) | (refine condK_of rfl ?_; conv => whnf) | (refine condK_of (by decide) ?_; conv => whnf) | (refine condK_of (by omega) ?_; conv => whnf) | (refine wrapK_in (w64 (by omega) (by omega)) ?_; conv => whnf))
  refine bcase_p (fun h0 => ?_) (fun h0 => ?_) <;> conv => whnf
  · repeat (first | (refine bcase_f rfl ?_; conv => whnf) | (refine bcase_t rfl ?_; conv => whnf) | (refine condK_of rfl ?_; conv => whnf) | (refine condK_of (by decide) ?_; conv => whnf) | (refine condK_of (by omega) ?_; conv => whnf) | (refine wrapK_in (w64 (by omega) (by omega)) ?_; conv => whnf))
    exact ret_of rfl (by rw [if_neg (by omega)]; rfl)
  repeat (first | (refine bcase_f rfl ?_; conv => whnf) | (refine bcase_t rfl ?_; conv => whnf) | (refine condK_of rfl ?_; conv => whnf) | (refine condK_of (by decide) ?_; conv => whnf) | (refine condK_of (by omega) ?_; conv => whnf) | (refine wrapK_in (w64 (by omega) (by omega)) ?_; conv => whnf))
  refine aloop (ι := Nat) (fun k => [(2, .ptr 2 0 0), (4, .ptr 4 0 0), (13, .d (encIs l)), (14, .d (.int .i64 (l.map encI).length)), (15, .d (.int .i64 k))]) (fun k => [(2, .box [.nil] false), (4, .box [.own 23] false), (23, .row ((l.take k).map encI) 2 false)])
    (fun k => k ≤ l.length) (fun k => l.length - k) 0 (Nat.zero_le _) (le1 (.cell 4 0 23 2) ⟨⟨rfl, rfl⟩, rfl, rfl⟩ (le_of_cov ⟨rfl, rfl, rfl, rfl, rfl, trivial⟩ ⟨rfl, rfl, rfl, trivial⟩ ⟨rfl, rfl, rfl, rfl⟩)) ?_
  intro k hk
  conv => whnf
  refine bcase_p (fun h => ?_) (fun h => ?_) <;> conv => whnf
  · have hk2 : k < l.length := by omega
    refine idxK_nat (by omega) ?_
    conv => whnf
    refine getRow_of (x := encI l[k]) (by simp [hk2]) ?_
    conv => whnf
    repeat (first | (refine bcase_f rfl ?_; conv => whnf) | (refine bcase_t rfl ?_; conv => whnf) | (refine condK_of rfl ?_; conv => whnf) | (refine condK_of (by decide) ?_; conv => whnf) | (refine condK_of (by omega) ?_; conv => whnf) | (refine wrapK_in (w64 (by omega) (by omega)) ?_; conv => whnf))
    refine roomK_le 1000001 100 (by show List.length _ + 1 ≤ 1000001; simp; omega) (by decide) (by decide) (by decide) ?_
    conv => whnf
    repeat (first | (refine bcase_f rfl ?_; conv => whnf) | (refine bcase_t rfl ?_; conv => whnf) | (refine condK_of rfl ?_; conv => whnf) | (refine condK_of (by decide) ?_; conv => whnf) | (refine condK_of (by omega) ?_; conv => whnf) | (refine wrapK_in (w64 (by omega) (by omega)) ?_; conv => whnf))
    exact ⟨k + 1, by omega, by omega, le0 (le_of_cov ⟨rfl, rfl, rfl, rfl, rfl, trivial⟩ ⟨rfl, rfl, by rw [take_snoc hk2, List.map_append]; rfl, trivial⟩ ⟨rfl, rfl, rfl, rfl⟩)⟩
  · have : k = l.length := by omega
    subst this
    repeat (first | (refine bcase_f rfl ?_; conv => whnf) | (refine bcase_t rfl ?_; conv => whnf) | (refine condK_of rfl ?_; conv => whnf) | (refine condK_of (by decide) ?_; conv => whnf) | (refine condK_of (by omega) ?_; conv => whnf) | (refine wrapK_in (w64 (by omega) (by omega)) ?_; conv => whnf))
    exact ret_of rfl (by rw [if_pos (by omega), List.take_length]; rfl)

theorem rfind_ok (l : Slots) (p : Int) (hl : l.length ≤ 1000000) : ACall Try.prog 11 [encT l, .int .i64 p] (.int .i64 (if p = 0 then -1 else placeG l p 0)) := by
  refine acall_of Try.func11 2 rfl (by kernel_rfl) ?_
  conv => whnf
  refine bcase_p (fun h0 => ?_) (fun h0 => ?_) <;> conv => whnf
  · exact ret_of rfl (by rw [if_pos h0]; rfl)
  rw [if_neg h0]
  refine aloop (ι := Nat) (fun k => [(1, .d (.int .i64 p)), (2, .ptr 2 0 0), (5, .d (.int .i64 k))]) (fun _ => [(2, .box [.d (encIs l)] false)])
    (fun k => k ≤ l.length ∧ placeG (l.drop k) p k = placeG l p 0) (fun k => l.length - k) 0 ⟨Nat.zero_le _, rfl⟩ (le0 (le_of_cov ⟨rfl, rfl, rfl, trivial⟩ ⟨rfl, trivial⟩ ⟨rfl, rfl, rfl, rfl⟩)) ?_
  rintro k ⟨hk, hR⟩
  conv => whnf
  repeat (first | (refine bcase_f rfl ?_; conv => whnf) | (refine bcase_t rfl ?_; conv => whnf) | (refine condK_of rfl ?_; conv => whnf) | (refine condK_of (by decide) ?_; conv => whnf) | (refine condK_of (by omega) ?_; conv => whnf) | (refine wrapK_in (w64 (by omega) (by omega)) ?_; conv => whnf))
  refine bcase_p (fun h => ?_) (fun h => ?_) <;> conv => whnf
  · have hk2 : k < l.length := by simpa using h
    repeat (first | (refine bcase_f rfl ?_; conv => whnf) | (refine bcase_t rfl ?_; conv => whnf) | (refine condK_of rfl ?_; conv => whnf) | (refine condK_of (by decide) ?_; conv => whnf) | (refine condK_of (by omega) ?_; conv => whnf) | (refine wrapK_in (w64 (by omega) (by omega)) ?_; conv => whnf))
    refine idxK_nat (by simpa using hk2) ?_
    conv => whnf
    refine getRow_of (x := encI l[k]) (by simp [hk2]) ?_
    conv => whnf
    repeat (first | (refine bcase_f rfl ?_; conv => whnf) | (refine bcase_t rfl ?_; conv => whnf) | (refine condK_of rfl ?_; conv => whnf) | (refine condK_of (by decide) ?_; conv => whnf) | (refine condK_of (by omega) ?_; conv => whnf) | (refine wrapK_in (w64 (by omega) (by omega)) ?_; conv => whnf))
    rw [drop_cons hk2, placeG] at hR
    refine bcase_p (fun h2 => ?_) (fun h2 => ?_) <;> conv => whnf
    · rw [if_pos h2] at hR
      exact ret_of rfl (by rw [← hR]; rfl)
    · rw [if_neg h2] at hR
      repeat (first | (refine bcase_f rfl ?_; conv => whnf) | (refine bcase_t rfl ?_; conv => whnf) | (refine condK_of rfl ?_; conv => whnf) | (refine condK_of (by decide) ?_; conv => whnf) | (refine condK_of (by omega) ?_; conv => whnf) | (refine wrapK_in (w64 (by omega) (by omega)) ?_; conv => whnf))
      exact ⟨k + 1, ⟨by omega, hR⟩, by omega, le0 (le_of_cov ⟨rfl, rfl, rfl, trivial⟩ ⟨rfl, trivial⟩ ⟨rfl, rfl, rfl, rfl⟩)⟩
  · have : k = l.length := by simp at h; omega
    subst this
    simp [placeG] at hR
    exact ret_of rfl (by rw [← hR]; rfl)

def countG (l : Slots) (p : Int) : Nat := l.countP fun x => x.1 == p
theorem there_ok (l : Slots) (p : Int) (hl : l.length ≤ 1000000) : ACall Try.prog 20 [encT l, .int .i64 p] (.int .i64 (countG l p)) := by
  refine acall_of Try.func20 2 rfl (by kernel_rfl) ?_
  conv => whnf
  refine aloop (ι := Nat) (fun k => [(1, .d (.int .i64 p)), (2, .ptr 2 0 0), (5, .d (.int .i64 (countG (l.take k) p))), (6, .d (.int .i64 k))]) (fun _ => [(2, .box [.d (encIs l)] false)])
    (fun k => k ≤ l.length) (fun k => l.length - k) 0 (Nat.zero_le _) (le0 (le_of_cov ⟨rfl, rfl, rfl, rfl, trivial⟩ ⟨rfl, trivial⟩ ⟨rfl, rfl, rfl, rfl⟩)) ?_
  intro k hk
  have hc : countG (l.take k) p ≤ l.length := Nat.le_trans List.countP_le_length (by simp; omega)
  conv => whnf
  repeat (first | (refine bcase_f rfl ?_; conv => whnf) | (refine bcase_t rfl ?_; conv => whnf) | (refine condK_of rfl ?_; conv => whnf) | (refine condK_of (by decide) ?_; conv => whnf) | (refine condK_of (by omega) ?_; conv => whnf) | (refine wrapK_in (w64 (by omega) (by omega)) ?_; conv => whnf))
  refine bcase_p (fun h => ?_) (fun h => ?_) <;> conv => whnf
  · have hk2 : k < l.length := by simpa using h
    repeat (first | (refine bcase_f rfl ?_; conv => whnf) | (refine bcase_t rfl ?_; conv => whnf) | (refine condK_of rfl ?_; conv => whnf) | (refine condK_of (by decide) ?_; conv => whnf) | (refine condK_of (by omega) ?_; conv => whnf) | (refine wrapK_in (w64 (by omega) (by omega)) ?_; conv => whnf))
    refine idxK_nat (by simpa using hk2) ?_
    conv => whnf
    refine getRow_of (x := encI l[k]) (by simp [hk2]) ?_
    conv => whnf
    repeat (first | (refine bcase_f rfl ?_; conv => whnf) | (refine bcase_t rfl ?_; conv => whnf) | (refine condK_of rfl ?_; conv => whnf) | (refine condK_of (by decide) ?_; conv => whnf) | (refine condK_of (by omega) ?_; conv => whnf) | (refine wrapK_in (w64 (by omega) (by omega)) ?_; conv => whnf))
    have hcs : countG (l.take (k + 1)) p = countG (l.take k) p + (if l[k].1 = p then 1 else 0) := by
      unfold countG; rw [take_snoc hk2, List.countP_append, List.countP_cons, List.countP_nil]; simp only [beq_iff_eq, Nat.zero_add]
    refine bcase_p (fun h2 => ?_) (fun h2 => ?_) <;> conv => whnf
    · repeat (first | (refine bcase_f rfl ?_; conv => whnf) | (refine bcase_t rfl ?_; conv => whnf) | (refine condK_of rfl ?_; conv => whnf) | (refine condK_of (by decide) ?_; conv => whnf) | (refine condK_of (by omega) ?_; conv => whnf) | (refine wrapK_in (w64 (by omega) (by omega)) ?_; conv => whnf))
      exact ⟨k + 1, by omega, by omega, le0 (le_of_cov ⟨rfl, rfl, by
        show AV.d (.int .i64 ((countG (l.take k) p : Int) + 1)) = AV.d (.int .i64 (countG (l.take (k + 1)) p)); rw [hcs, if_pos h2]; rfl, rfl, trivial⟩ ⟨rfl, trivial⟩ ⟨rfl, rfl, rfl, rfl⟩)⟩
    · repeat (first | (refine bcase_f rfl ?_; conv => whnf) | (refine bcase_t rfl ?_; conv => whnf) | (refine condK_of rfl ?_; conv => whnf) | (refine condK_of (by decide) ?_; conv => whnf) | (refine condK_of (by omega) ?_; conv => whnf) | (refine wrapK_in (w64 (by omega) (by omega)) ?_; conv => whnf))
      exact ⟨k + 1, by omega, by omega, le0 (le_of_cov ⟨rfl, rfl, by
        show AV.d (.int .i64 (countG (l.take k) p)) = AV.d (.int .i64 (countG (l.take (k + 1)) p)); rw [hcs, if_neg h2]; rfl, rfl, trivial⟩ ⟨rfl, trivial⟩ ⟨rfl, rfl, rfl, rfl⟩)⟩
  · have : k = l.length := by simp at h; omega
    subst this
    exact ret_of rfl (by rw [List.take_length]; rfl)

theorem same_ok (a b : Slots) (ha : a.length ≤ 1000000) (hb : b.length ≤ 1000000) : ACall Try.prog 17 [encT a, encT b] (.bool (decide (a = b))) := by
  refine acall_of Try.func17 2 rfl (by kernel_rfl) ?_
  conv => whnf
  repeat (first | (refine bcase_f rfl ?_; conv => whnf) | (refine bcase_t rfl ?_; conv => whnf) | (refine condK_of rfl ?_; conv => whnf) | (refine condK_of (by decide) ?_; conv => whnf) | (refine condK_of (by omega) ?_; conv => whnf) | (refine wrapK_in (w64 (by omega) (by omega)) ?_; conv => whnf))
  refine bcase_n (fun h0 => ?_) (fun h0 => ?_) <;> conv => whnf
  rotate_left
  · have h0' : a.length = b.length := by simp at h0; omega
    refine aloop (ι := Nat) (fun k => [(2, .ptr 2 0 0), (3, .ptr 3 0 0), (5, .d (.int .i64 k))]) (fun _ => [(2, .box [.d (encIs a)] false), (3, .box [.d (encIs b)] false)])
      (fun k => k ≤ a.length ∧ a.take k = b.take k) (fun k => a.length - k) 0 ⟨Nat.zero_le _, rfl⟩ (le0 (le_of_cov ⟨rfl, rfl, rfl, trivial⟩ ⟨rfl, rfl, trivial⟩ ⟨rfl, rfl, rfl, rfl⟩)) ?_
    rintro k ⟨hk, hR⟩
    conv => whnf
    repeat (first | (refine bcase_f rfl ?_; conv => whnf) | (refine bcase_t rfl ?_; conv => whnf) | (refine condK_of rfl ?_; conv => whnf) | (refine condK_of (by decide) ?_; conv => whnf) | (refine condK_of (by omega) ?_; conv => whnf) | (refine wrapK_in (w64 (by omega) (by omega)) ?_; conv => whnf))
    refine bcase_p (fun h => ?_) (fun h => ?_) <;> conv => whnf
    · have hk2 : k < a.length := by simpa using h
      have hk3 : k < b.length := h0' ▸ hk2
      repeat (first | (refine bcase_f rfl ?_; conv => whnf) | (refine bcase_t rfl ?_; conv => whnf) | (refine condK_of rfl ?_; conv => whnf) | (refine condK_of (by decide) ?_; conv => whnf) | (refine condK_of (by omega) ?_; conv => whnf) | (refine wrapK_in (w64 (by omega) (by omega)) ?_; conv => whnf))
      refine idxK_nat (by simpa using hk2) ?_
      conv => whnf
      refine getRow_of (x := encI a[k]) (by simp [hk2]) ?_
      conv => whnf
      repeat (first | (refine bcase_f rfl ?_; conv => whnf) | (refine bcase_t rfl ?_; conv => whnf) | (refine condK_of rfl ?_; conv => whnf) | (refine condK_of (by decide) ?_; conv => whnf) | (refine condK_of (by omega) ?_; conv => whnf) | (refine wrapK_in (w64 (by omega) (by omega)) ?_; conv => whnf))
      refine idxK_nat (by simpa using hk3) ?_
      conv => whnf
      refine getRow_of (x := encI b[k]) (by simp [hk3]) ?_
      conv => whnf
      repeat (first | (refine bcase_f rfl ?_; conv => whnf) | (refine bcase_t rfl ?_; conv => whnf) | (refine condK_of rfl ?_; conv => whnf) | (refine condK_of (by decide) ?_; conv => whnf) | (refine condK_of (by omega) ?_; conv => whnf) | (refine wrapK_in (w64 (by omega) (by omega)) ?_; conv => whnf))
      refine bcase_intro (fun h1 => ?_) (fun h1 => ?_) <;> conv => whnf
      · have hne : a[k] ≠ b[k] := by intro e; rw [e] at h1; simp at h1
        exact ret_of rfl (congrArg D.bool (by simp; intro e; subst e; exact hne rfl))
      · repeat (first | (refine bcase_f rfl ?_; conv => whnf) | (refine bcase_t rfl ?_; conv => whnf) | (refine condK_of rfl ?_; conv => whnf) | (refine condK_of (by decide) ?_; conv => whnf) | (refine condK_of (by omega) ?_; conv => whnf) | (refine wrapK_in (w64 (by omega) (by omega)) ?_; conv => whnf))
        have he : a[k] = b[k] := by simp at h1; exact Prod.ext h1.1 h1.2
        exact ⟨k + 1, ⟨by omega, by rw [take_snoc hk2, take_snoc hk3, hR, he]⟩, by omega, le0 (le_of_cov ⟨rfl, rfl, rfl, trivial⟩ ⟨rfl, rfl, trivial⟩ ⟨rfl, rfl, rfl, rfl⟩)⟩
    · have : k = a.length := by simp at h; omega
      subst this
      rw [List.take_length, h0', List.take_length] at hR
      exact ret_of rfl (by rw [hR]; simp)
  · exact ret_of rfl (congrArg D.bool (by simp at h0 ⊢; intro e; rw [e] at h0; exact h0 rfl))
end Go.Lk


/-
  What is proved here: what the functions of the table do; no condition beyond each theorem's own.
-/
import Derived.Test.YtnjmedgliagilaaFh
import Derived.Shelf.Sort.Plain
import Derived.Test.YtnjmedgliagilaaGa
import Derived.Shelf.Slices.In.SortNone
import Derived.Test.YtnjmedgliagilaaProg
set_option linter.unusedSectionVars false
set_option linter.unusedSimpArgs false
set_option linter.unusedVariables false
set_option linter.unnecessarySimpa false
namespace Go.Lk
open Go Go.Proofs Go.RowKit Go.Shelf Go.Sort

/-- the library's sort of ints, as a step on a row of the caller's -/
def sortI (l : List Int) : List Int := l.mergeSort fun x y => decide (x ≤ y)
theorem enc1_flat (zs : List Int) (i : Nat) (d : D) (h : (zs.map enc1)[i]? = some [d]) : ∃ z, zs[i]? = some z ∧ d = .int .i64 z := by
  rw [List.getElem?_map] at h
  cases hz : zs[i]? with
  | none => simp [hz] at h
  | some z =>
    simp [hz, enc1] at h
    exact ⟨z, rfl, h.symm⟩

theorem rowAt_ints {M : Mem} {cs : Array Value} {zs : List Int} (h : RowAt M cs (zs.map enc1) 1) {j : Nat} (hj : j < zs.length) : cs[j]? = some (.int .i64 zs[j]) := by
  obtain ⟨v, hv, hd⟩ := h.den j 0 (enc1 zs[j]) (.int .i64 zs[j]) (by simp [hj]) rfl
  rw [Nat.mul_one, Nat.add_zero] at hv
  cases hd
  exact hv

theorem sort_ecall {P : Program} {ρ : Ren} (Ly : Lays.n189 P ρ) (hok : FnOk P (ρ.f 189)) (hnone : ∀ (p : Option Addr) (cap : Nat) (w : World), Calls P (ρ.f 189) #[.slice p 0 cap] w fun e w' => e = .returned (.tuple #[]) ∧ w' = w)
    {hp : Nat → Option Blk} {b : Nat} {zs : List Int} (hb : hp b = some (.row (zs.map enc1) 1 false)) (hz : zs.length < 4611686018427387904) :
    ECall P (ρ.f 189) [.own b] hp ⟨.tup [], [(b, .row ((sortI zs).map enc1) 1 false)], none⟩ := by
  refine ⟨hok, fun own M ι w vs ho ha hh hvs => ?_⟩
  obtain ⟨v, rfl⟩ : ∃ v, vs = #[v] := by
    have := hvs.1
    simp at this
    exact Array.size_eq_one_iff.1 this
  have hv : DenA M ι (.own b) v := hvs.2 0 _ v rfl rfl
  have hlen : (sortI zs).length = zs.length := List.length_mergeSort ..
  have hne : hp b ≠ none := by rw [hb]; simp
  cases hv with
  | own _ L cap hL hn hc =>
    obtain ⟨ho1, cs, Ty, q1, q2, q3, q4, q5, q6, q7⟩ := hh.at_ b _ L hb hL
    rw [List.length_map] at q4
    have q7' := q7.2 rfl
    have hH : Holds (Value.int .i64) w L.blk 0 zs.toArray := by
      intro j hj
      have hj : j < zs.length := by simpa using hj
      rw [Nat.zero_add]
      refine ⟨?_, ?_⟩
      · rw [cell_of_heap q1, rowAt_ints q6 hj, getElem!_pos zs.toArray j (by simpa using hj)]
        simp
      · simp [World.frozen?, q1]
    have hblk : L.blk < w.heap.size := (Array.getElem?_eq_some_iff.1 q1).1
    rw [← q4]
    refine (Any.slices_Sort_int Ly L.blk 0 cap zs w hH hblk hz).mono fun e w' hq => ?_
    obtain ⟨rfl, n, os, rfl⟩ := hq
    have hsame : ∀ c, c ≠ L.blk → c < w.heap.size → (grow (putRow (Value.int .i64) (Sort.ahead w n) L.blk 0 (sortI zs).toArray) os).heap[c]? = w.heap[c]? := by
      intro c hc hlt
      simp only [grow, putRow, mapBlock, Sort.ahead]
      rw [Array.getElem?_append_left (by simpa using hlt), Array.getElem?_modify, if_neg (fun e => hc e.symm)]
    have hat : (grow (putRow (Value.int .i64) (Sort.ahead w n) L.blk 0 (sortI zs).toArray) os).heap[L.blk]? = some (.cells (putCells (Value.int .i64) 0 (sortI zs).toArray cs) Ty (0, 0)) := by
      simp only [grow, putRow, mapBlock, Sort.ahead]
      rw [Array.getElem?_append_left (by simpa using hblk), Array.getElem?_modify, if_pos rfl, q1]
      rfl
    refine ⟨_, M, ι, rfl, ⟨rfl, rfl, rfl, by simp [grow, putRow, mapBlock, Sort.ahead], fun c hc => ?_⟩, .refl M, ?_, .refl _ _, ?_, fun _ _ => rfl, .tup [] #[] rfl fun i x v h => by simp at h⟩
    · by_cases hlt : c < w.heap.size
      · exact hsame c (fun e => hc (e ▸ ho1)) hlt
      · exact absurd (ho c (by omega)) hc
    · intro b' o v hM
      have hne' : b' ≠ L.blk := fun e => by rw [e, q7' o] at hM; cases hM
      have := ha b' o v hM
      unfold World.cell? at this ⊢
      have hlt : b' < w.heap.size := by
        cases hx : w.heap[b']? with
        | none => rw [hx] at this; simp at this
        | some x => exact (Array.getElem?_eq_some_iff.1 hx).1
      rw [show (zs.mergeSort fun x y => decide (x ≤ y)) = sortI zs from rfl, hsame b' hne' hlt]
      exact this
    · refine hh.set b _ hne (.refl M) (fun e => by rw [hL] at e; cases e) (fun L' hL' => ?_) (fun b' L' hbb hL' => ?_)
      · rw [hL] at hL'
        cases hL'
        refine ⟨_, Ty, hat, by simp [putCells, q2], q3, by simp [hlen, q4], by simpa [hlen] using q5, ⟨fun i e h => ?_, fun i j e d h1 h2 => ?_⟩, fun h => (by cases h), fun _ => q7'⟩
        · rw [List.getElem?_map] at h
          cases hx : (sortI zs)[i]? with
          | none => simp [hx] at h
          | some x => simp [hx] at h; subst h; rfl
        · rw [List.getElem?_map] at h1
          cases hx : (sortI zs)[i]? with
          | none => simp [hx] at h1
          | some x =>
            simp [hx] at h1
            subst h1
            cases j with
            | succ j => simp [enc1] at h2
            | zero =>
              simp [enc1] at h2
              subst h2
              obtain ⟨hi, hx'⟩ := List.getElem?_eq_some_iff.1 hx
              have hics : i < cs.size := by
                have : zs.length * 1 ≤ L.size := by simpa using q5
                omega
              refine ⟨.int .i64 x, ?_, .int _ _⟩
              rw [Nat.mul_one, Nat.add_zero]
              simp only [putCells, Array.getElem?_mapIdx]
              rw [Array.getElem?_eq_getElem hics]
              simp only [Option.map_some, Option.some.injEq]
              rw [if_pos ⟨Nat.zero_le _, by simpa using hi⟩, Nat.sub_zero, getElem!_pos (sortI zs).toArray i (by simpa using hi)]
              simp [hx']
      · have hne' : L'.blk ≠ L.blk := fun e => hbb (hh.inj b' b L' L hL' hL e)
        have hlt := hh.lt hL'
        exact ⟨hsame _ hne' hlt, fun B' hB' hfr o => hh.closed hL' B' hB' hfr o⟩
  | ownE _ a0 hL =>
    obtain ⟨sz2, fr2, e0⟩ := hh.virt b hL
    rw [hb] at e0
    have hzs : zs = [] := by
      cases zs with
      | nil => rfl
      | cons z r => cases e0
    subst hzs
    refine (hnone a0 0 w).mono fun e w' hq => ?_
    obtain ⟨rfl, rfl⟩ := hq
    refine ⟨_, M, ι, rfl, .refl _ _, .refl M, ha, .refl _ _, ?_, fun _ _ => rfl, .tup [] #[] rfl fun i x v h => by simp at h⟩
    have : (⟨.tup [], [(b, .row ((sortI []).map enc1) 1 false)], none⟩ : Eff).hp hp = hp := by
      rw [show sortI [] = [] by simp [sortI]]
      show upd hp b (some (.row [] 1 false)) = hp
      funext c
      by_cases e : c = b
      · subst e; rw [upd_same, hb]; rfl
      · rw [upd_other _ _ e]
    rw [this]; exact hh
  | ownL _ _ hL => exact absurd ((hh.dom b).2 hL) hne
end Go.Lk

set_option linter.unusedSimpArgs false
set_option linter.unusedVariables false
set_option linter.unnecessarySimpa false
namespace Go.Lk.Tb
open Go Go.Proofs Go.RowKit Go.Lk
abbrev Slots := List (Int × Int)
def encS (x : Int × Int) : D := .agg (encI x)
def encT (l : Slots) : D := .agg [encIs l]
def freeB (x : Int × Int) : Bool := decide (x.1 = 0) && decide (x.2 = 0)
def fitsB (p f : Int) : Bool := decide (1 ≤ p) && (decide (p ≤ 2147483647) && (decide (0 ≤ f) && decide (f ≤ 2147483647)))

theorem free_ok (x : Int × Int) : ACall Try.prog 60 [encS x] (.bool (freeB x)) := by
  refine acall_of Try.func60 1 rfl (by kernel_rfl) ?_
  conv => whnf
  repeat (first | (refine bcase_f rfl ?_; conv => whnf) | (refine bcase_t rfl ?_; conv => whnf) | (refine condK_of rfl ?_; conv => whnf) | (refine condK_of (by decide) ?_; conv => whnf) | (refine condK_of (by omega) ?_; conv => whnf) | (refine wrapK_in (w64 (by omega) (by omega)) ?_; conv => whnf))
  refine bcase_p (fun h => ?_) (fun h => ?_) <;> conv => whnf
  · repeat (first | (refine bcase_f rfl ?_; conv => whnf) | (refine bcase_t rfl ?_; conv => whnf) | (refine condK_of rfl ?_; conv => whnf) | (refine condK_of (by decide) ?_; conv => whnf) | (refine condK_of (by omega) ?_; conv => whnf) | (refine wrapK_in (w64 (by omega) (by omega)) ?_; conv => whnf))
    exact ret_of rfl (by simp [freeB, h])
  · repeat (first | (refine bcase_f rfl ?_; conv => whnf) | (refine bcase_t rfl ?_; conv => whnf) | (refine condK_of rfl ?_; conv => whnf) | (refine condK_of (by decide) ?_; conv => whnf) | (refine condK_of (by omega) ?_; conv => whnf) | (refine wrapK_in (w64 (by omega) (by omega)) ?_; conv => whnf))
    exact ret_of rfl (by simp [freeB, h])
theorem fits_ok (p f : Int) : ACall Try.prog 61 [.int .i64 p, .int .i64 f] (.bool (fitsB p f)) := by
  refine acall_of Try.func61 2 rfl (by kernel_rfl) ?_
  conv => whnf
  refine bcase_p (fun h => ?_) (fun h => ?_) <;> conv => whnf
  · refine bcase_p (fun h2 => ?_) (fun h2 => ?_) <;> conv => whnf
    · refine bcase_p (fun h3 => ?_) (fun h3 => ?_) <;> conv => whnf
      · exact ret_of rfl (by simp [fitsB, h, h2, h3])
      · exact ret_of rfl (by simp [fitsB, h, h2, h3])
    · repeat (first | (refine bcase_f rfl ?_; conv => whnf) | (refine bcase_t rfl ?_; conv => whnf) | (refine condK_of rfl ?_; conv => whnf) | (refine condK_of (by decide) ?_; conv => whnf) | (refine condK_of (by omega) ?_; conv => whnf) | (refine wrapK_in (w64 (by omega) (by omega)) ?_; conv => whnf))
      exact ret_of rfl (by simp [fitsB, h, h2])
  · repeat (first | (refine bcase_f rfl ?_; conv => whnf) | (refine bcase_t rfl ?_; conv => whnf) | (refine condK_of rfl ?_; conv => whnf) | (refine condK_of (by decide) ?_; conv => whnf) | (refine condK_of (by omega) ?_; conv => whnf) | (refine wrapK_in (w64 (by omega) (by omega)) ?_; conv => whnf))
    exact ret_of rfl (by simp [fitsB, h])
theorem home_ok (n : Int) (h : 0 ≤ n) : ACall Try.prog 62 [.int .i64 n] (.int .i64 (n % 16)) := by
  refine acall_of Try.func62 1 rfl (by kernel_rfl) ?_
  conv => whnf
  refine divK_rem (by decide) h ?_
  conv => whnf
  exact ret_of rfl rfl
theorem behind_ok (n : Int) (h : 0 ≤ n) (h1 : n ≤ 100) : ACall Try.prog 63 [.int .i64 n] (.int .i64 ((n + 1) % 16)) := by
  refine acall_of Try.func63 1 rfl (by kernel_rfl) ?_
  conv => whnf
  repeat (first | (refine bcase_f rfl ?_; conv => whnf) | (refine bcase_t rfl ?_; conv => whnf) | (refine condK_of rfl ?_; conv => whnf) | (refine condK_of (by decide) ?_; conv => whnf) | (refine condK_of (by omega) ?_; conv => whnf) | (refine wrapK_in (w64 (by omega) (by omega)) ?_; conv => whnf))
  refine divK_rem (by decide) (by omega) ?_
  conv => whnf
  exact ret_of rfl rfl
theorem way_ok (a b : Int) (h : 0 ≤ a) (h1 : a ≤ 15) (h2 : 0 ≤ b) (h3 : b ≤ 15) : ACall Try.prog 72 [.int .i64 a, .int .i64 b] (.int .i64 ((b - a + 16) % 16)) := by
  refine acall_of Try.func72 2 rfl (by kernel_rfl) ?_
  conv => whnf
  repeat (first | (refine bcase_f rfl ?_; conv => whnf) | (refine bcase_t rfl ?_; conv => whnf) | (refine condK_of rfl ?_; conv => whnf) | (refine condK_of (by decide) ?_; conv => whnf) | (refine condK_of (by omega) ?_; conv => whnf) | (refine wrapK_in (w64 (by omega) (by omega)) ?_; conv => whnf))
  refine divK_rem (by decide) (by omega) ?_
  conv => whnf
  exact ret_of rfl rfl

theorem clone_ok (l : Slots) (hl : l.length ≤ 1000000) : OCall Try.prog 69 [encIs l] (l.map encI) 2 := by
  refine ocall_of Try.func69 1 rfl (by kernel_rfl) ?_
  conv => whnf
  refine nilK_of ?_
  conv => whnf
  intro r hr
  conv => whnf
  refine bcase_intro (fun h => ?_) (fun h => ?_) <;> conv => whnf
  · have := hr h
    exact ⟨2, rfl, .inr ⟨rfl, this⟩⟩
  · repeat (first | (refine bcase_f rfl ?_; conv => whnf) | (refine bcase_t rfl ?_; conv => whnf) | (refine condK_of rfl ?_; conv => whnf) | (refine condK_of (by decide) ?_; conv => whnf) | (refine condK_of (by omega) ?_; conv => whnf) | (refine wrapK_in (w64 (by omega) (by omega)) ?_; conv => whnf))
    refine condK_of (encI_ok l) ?_
    conv => whnf
    refine roomK_le 1000100 100 (by show 0 + List.length _ ≤ 1000100; simp; omega) (by decide) (by decide) (by decide) ?_
    conv => whnf
    exact ⟨2, rfl, .inl ⟨5, rfl, rfl⟩⟩

theorem new_ok : ACall Try.prog 40 [] (encT (List.replicate 16 (0, 0))) := by
  refine acall_of Try.func40 0 rfl (by kernel_rfl) ?_
  conv => whnf
  repeat (first | (refine bcase_f rfl ?_; conv => whnf) | (refine bcase_t rfl ?_; conv => whnf) | (refine condK_of rfl ?_; conv => whnf) | (refine condK_of (by decide) ?_; conv => whnf) | (refine condK_of (by omega) ?_; conv => whnf) | (refine wrapK_in (w64 (by omega) (by omega)) ?_; conv => whnf))
  refine roomK_le 100 100 (by decide) (by decide) (by decide) (by decide) ?_
  conv => whnf
  repeat (first | (refine bcase_f rfl ?_; conv => whnf) | (refine bcase_t rfl ?_; conv => whnf) | (refine condK_of rfl ?_; conv => whnf) | (refine condK_of (by decide) ?_; conv => whnf) | (refine condK_of (by omega) ?_; conv => whnf) | (refine wrapK_in (w64 (by omega) (by omega)) ?_; conv => whnf))
  exact ret_of rfl rfl

def placeG (l : Slots) (n : Int) (k : Nat) : Int :=
  match l with
  | [] => -1
  | p :: r => if p.1 = n then (k : Int) else placeG r n (k + 1)
def placeT (l : Slots) (p : Int) : Int × Bool := if p < 1 ∨ placeG l p 0 < 0 then (0, false) else (placeG l p 0, true)
theorem place_ok (l : Slots) (n : Int) (hl : l.length ≤ 1000000) : ACall Try.prog 66 [encT l, .int .i64 n] (.tup [.int .i64 (placeT l n).1, .bool (placeT l n).2]) := by
  refine acall_of Try.func66 2 rfl (by kernel_rfl) ?_
  conv => whnf
  refine bcase_p (fun h0 => ?_) (fun h0 => ?_) <;> conv => whnf
  · exact ret_of rfl (by simp [placeT, h0]; rfl)
  repeat (first | (refine bcase_f rfl ?_; conv => whnf) | (refine bcase_t rfl ?_; conv => whnf) | (refine condK_of rfl ?_; conv => whnf) | (refine condK_of (by decide) ?_; conv => whnf) | (refine condK_of (by omega) ?_; conv => whnf) | (refine wrapK_in (w64 (by omega) (by omega)) ?_; conv => whnf))
  refine aloop (ι := Nat) (fun k => [(1, .d (.int .i64 n)), (11, .d (encIs l)), (12, .d (.int .i64 (l.map encI).length)), (13, .d (.int .i64 k))]) (fun _ => [])
    (fun k => k ≤ l.length ∧ placeG (l.drop k) n k = placeG l n 0) (fun k => l.length - k) 0 ⟨Nat.zero_le _, rfl⟩ (le0 (le_of_cov ⟨rfl, rfl, rfl, rfl, trivial⟩ trivial ⟨rfl, rfl, rfl, rfl⟩)) ?_
  rintro k ⟨hk, hR⟩
  conv => whnf
  refine bcase_p (fun h => ?_) (fun h => ?_) <;> conv => whnf
  · have hk2 : k < l.length := by simpa using h
    refine idxK_nat (by simpa using hk2) ?_
    conv => whnf
    refine getRow_of (x := encI l[k]) (by simp [hk2]) ?_
    conv => whnf
    repeat (first | (refine bcase_f rfl ?_; conv => whnf) | (refine bcase_t rfl ?_; conv => whnf) | (refine condK_of rfl ?_; conv => whnf) | (refine condK_of (by decide) ?_; conv => whnf) | (refine condK_of (by omega) ?_; conv => whnf) | (refine wrapK_in (w64 (by omega) (by omega)) ?_; conv => whnf))
    rw [drop_cons hk2, placeG] at hR
    refine bcase_p (fun h2 => ?_) (fun h2 => ?_) <;> conv => whnf
    · rw [if_pos h2] at hR
      refine ret_of rfl ?_
      have : placeT l n = ((k : Int), true) := by rw [placeT, ← hR, if_neg (by omega)]
      rw [this]; rfl
    · rw [if_neg h2] at hR
      repeat (first | (refine bcase_f rfl ?_; conv => whnf) | (refine bcase_t rfl ?_; conv => whnf) | (refine condK_of rfl ?_; conv => whnf) | (refine condK_of (by decide) ?_; conv => whnf) | (refine condK_of (by omega) ?_; conv => whnf) | (refine wrapK_in (w64 (by omega) (by omega)) ?_; conv => whnf))
      exact ⟨k + 1, ⟨by omega, hR⟩, by omega, le0 (le_of_cov ⟨rfl, rfl, rfl, rfl, trivial⟩ trivial ⟨rfl, rfl, rfl, rfl⟩)⟩
  · have : k = l.length := by simp at h; omega
    subst this
    simp [placeG] at hR
    refine ret_of rfl ?_
    have : placeT l n = (0, false) := by rw [placeT, ← hR, if_pos (by omega)]
    rw [this]; rfl

/-! ### what is a table -/
def at' (l : Slots) (i : Nat) : Int × Int := l[i]?.getD (0, 0)
theorem at_eq {l : Slots} {i : Nat} (h : i < l.length) : at' l i = l[i] := by simp [at', h]
def homeN (p : Int) : Nat := (p % 16).toNat
def wayN (a b : Nat) : Nat := (b + 16 - a) % 16
def SlotP (x : Int × Int) : Prop := freeB x = true ∨ fitsB x.1 x.2 = true
def PlaceP (l : Slots) (i : Nat) : Prop := freeB (at' l i) = true ∨ ((∀ j, j < i → (at' l j).1 ≠ (at' l i).1) ∧ ∀ d, d < wayN (homeN (at' l i).1) i → freeB (at' l ((homeN (at' l i).1 + d) % 16)) = false)
structure RT (l : Slots) : Prop where
  len : l.length = 16
  slots : ∀ i, i < 16 → SlotP (at' l i)
  places : ∀ i, i < 16 → PlaceP l i
open Classical in
noncomputable def rightB (l : Slots) : Bool := decide (RT l)
theorem rightB_t {l : Slots} : rightB l = true ↔ RT l := by simp [rightB]
theorem rightB_f {l : Slots} : rightB l = false ↔ ¬ RT l := by simp [rightB]
theorem fits_out {p f : Int} : fitsB p f = true ↔ 1 ≤ p ∧ p ≤ 2147483647 ∧ 0 ≤ f ∧ f ≤ 2147483647 := by simp [fitsB]
theorem free_out {x : Int × Int} : freeB x = true ↔ x.1 = 0 ∧ x.2 = 0 := by simp [freeB]

theorem right_ok (l : Slots) (hl : l.length ≤ 1000000) : ACall Try.prog 35 [encT l] (.bool (rightB l)) := by
  refine acall_of Try.func35 1 rfl (by kernel_rfl) ?_
  conv => whnf
  have hm : (l.map encI).length = l.length := List.length_map ..
  repeat (first | (refine bcase_f rfl ?_; conv => whnf) | (refine bcase_t rfl ?_; conv => whnf) | (refine condK_of rfl ?_; conv => whnf) | (refine condK_of (by decide) ?_; conv => whnf) | (refine condK_of (by omega) ?_; conv => whnf) | (refine wrapK_in (w64 (by omega) (by omega)) ?_; conv => whnf))
  refine bcase_n (fun h0 => ?_) (fun h0 => ?_) <;> conv => whnf
  · exact ret_of rfl (congrArg D.bool (rightB_f.2 fun h => h0 (by rw [hm, h.len]; rfl)).symm)
  have hlen : l.length = 16 := by omega
  repeat (first | (refine bcase_f rfl ?_; conv => whnf) | (refine bcase_t rfl ?_; conv => whnf) | (refine condK_of rfl ?_; conv => whnf) | (refine condK_of (by decide) ?_; conv => whnf) | (refine condK_of (by omega) ?_; conv => whnf) | (refine wrapK_in (w64 (by omega) (by omega)) ?_; conv => whnf))
  refine aloop (ι := Nat) (fun k => [(1, .ptr 1 0 0), (15, .d (encIs l)), (16, .d (.int .i64 (l.map encI).length)), (17, .d (.int .i64 k))]) (fun _ => [(1, .box [.d (encIs l)] false)])
    (fun k => k ≤ 16 ∧ ∀ j, j < k → SlotP (at' l j)) (fun k => 16 - k) 0 ⟨Nat.zero_le _, fun j h => absurd h (Nat.not_lt_zero _)⟩ (le0 (le_of_cov ⟨rfl, rfl, rfl, rfl, trivial⟩ ⟨rfl, trivial⟩ ⟨rfl, rfl, rfl, rfl⟩)) ?_
  rintro k ⟨hk, hR⟩
  conv => whnf
  refine bcase_p (fun h => ?_) (fun h => ?_) <;> conv => whnf
  · have hk2 : k < l.length := by omega
    have hat := at_eq hk2
    have hlast (hs : SlotP l[k]) : ∀ j, j < k + 1 → SlotP (at' l j) := fun j hj => (Nat.lt_succ_iff_lt_or_eq.1 hj).elim (hR j) (fun e => by subst e; rw [hat]; exact hs)
    refine idxK_nat (by omega) ?_
    conv => whnf
    refine getRow_of (x := encI l[k]) (by simp [hk2]) ?_
    conv => whnf
    repeat (first | (refine bcase_f rfl ?_; conv => whnf) | (refine bcase_t rfl ?_; conv => whnf) | (refine condK_of rfl ?_; conv => whnf) | (refine condK_of (by decide) ?_; conv => whnf) | (refine condK_of (by omega) ?_; conv => whnf) | (refine wrapK_in (w64 (by omega) (by omega)) ?_; conv => whnf))
    refine callX_pure (free_ok l[k]) ?_
    conv => whnf
    refine bcase_intro (fun h1 => ?_) (fun h1 => ?_) <;> conv => whnf
    · repeat (first | (refine bcase_f rfl ?_; conv => whnf) | (refine bcase_t rfl ?_; conv => whnf) | (refine condK_of rfl ?_; conv => whnf) | (refine condK_of (by decide) ?_; conv => whnf) | (refine condK_of (by omega) ?_; conv => whnf) | (refine wrapK_in (w64 (by omega) (by omega)) ?_; conv => whnf))
      refine callX_pure (fits_ok _ _) ?_
      conv => whnf
      refine bcase_intro (fun h2 => ?_) (fun h2 => ?_) <;> conv => whnf
      · refine ret_of rfl (congrArg D.bool (rightB_f.2 fun h => ?_).symm)
        have := h.slots k (by omega)
        rw [hat] at this
        simp [SlotP] at this h1 h2
        rw [h1, h2] at this
        simp at this
      · repeat (first | (refine bcase_f rfl ?_; conv => whnf) | (refine bcase_t rfl ?_; conv => whnf) | (refine condK_of rfl ?_; conv => whnf) | (refine condK_of (by decide) ?_; conv => whnf) | (refine condK_of (by omega) ?_; conv => whnf) | (refine wrapK_in (w64 (by omega) (by omega)) ?_; conv => whnf))
        simp at h2
        exact ⟨k + 1, ⟨by omega, hlast (.inr h2)⟩, by omega, le0 (le_of_cov ⟨rfl, rfl, rfl, rfl, trivial⟩ ⟨rfl, trivial⟩ ⟨rfl, rfl, rfl, rfl⟩)⟩
    · repeat (first | (refine bcase_f rfl ?_; conv => whnf) | (refine bcase_t rfl ?_; conv => whnf) | (refine condK_of rfl ?_; conv => whnf) | (refine condK_of (by decide) ?_; conv => whnf) | (refine condK_of (by omega) ?_; conv => whnf) | (refine wrapK_in (w64 (by omega) (by omega)) ?_; conv => whnf))
      simp at h1
      exact ⟨k + 1, ⟨by omega, hlast (.inl h1)⟩, by omega, le0 (le_of_cov ⟨rfl, rfl, rfl, rfl, trivial⟩ ⟨rfl, trivial⟩ ⟨rfl, rfl, rfl, rfl⟩)⟩
  have hS : ∀ j, j < 16 → SlotP (at' l j) := fun j hj => hR j (by omega)
  clear hR hk h
  repeat (first | (refine bcase_f rfl ?_; conv => whnf) | (refine bcase_t rfl ?_; conv => whnf) | (refine condK_of rfl ?_; conv => whnf) | (refine condK_of (by decide) ?_; conv => whnf) | (refine condK_of (by omega) ?_; conv => whnf) | (refine wrapK_in (w64 (by omega) (by omega)) ?_; conv => whnf))
  refine aloop (ι := Nat) (fun k => [(1, .ptr 1 0 0), (34, .d (encIs l)), (35, .d (.int .i64 (l.map encI).length)), (36, .d (.int .i64 k))]) (fun _ => [(1, .box [.d (encIs l)] false)])
    (fun k => k ≤ 16 ∧ ∀ j, j < k → PlaceP l j) (fun k => 16 - k) 0 ⟨Nat.zero_le _, fun j h => absurd h (Nat.not_lt_zero _)⟩ (le0 (le_of_cov ⟨rfl, rfl, rfl, rfl, trivial⟩ ⟨rfl, trivial⟩ ⟨rfl, rfl, rfl, rfl⟩)) ?_
  rintro k ⟨hk, hR⟩
  conv => whnf
  refine bcase_p (fun h => ?_) (fun h => ?_) <;> conv => whnf
  · have hk2 : k < l.length := by omega
    have hat := at_eq hk2
    have hlast (hs : PlaceP l k) : ∀ j, j < k + 1 → PlaceP l j := fun j hj => (Nat.lt_succ_iff_lt_or_eq.1 hj).elim (hR j) (fun e => by subst e; exact hs)
    have hsl := hS k (by omega)
    refine idxK_nat (by omega) ?_
    conv => whnf
    refine getRow_of (x := encI l[k]) (by simp [hk2]) ?_
    conv => whnf
    repeat (first | (refine bcase_f rfl ?_; conv => whnf) | (refine bcase_t rfl ?_; conv => whnf) | (refine condK_of rfl ?_; conv => whnf) | (refine condK_of (by decide) ?_; conv => whnf) | (refine condK_of (by omega) ?_; conv => whnf) | (refine wrapK_in (w64 (by omega) (by omega)) ?_; conv => whnf))
    refine callX_pure (free_ok l[k]) ?_
    conv => whnf
    refine bcase_intro (fun h1 => ?_) (fun h1 => ?_) <;> conv => whnf
    · repeat (first | (refine bcase_f rfl ?_; conv => whnf) | (refine bcase_t rfl ?_; conv => whnf) | (refine condK_of rfl ?_; conv => whnf) | (refine condK_of (by decide) ?_; conv => whnf) | (refine condK_of (by omega) ?_; conv => whnf) | (refine wrapK_in (w64 (by omega) (by omega)) ?_; conv => whnf))
      exact ⟨k + 1, ⟨by omega, hlast (.inl (by rw [hat]; exact h1))⟩, by omega, le0 (le_of_cov ⟨rfl, rfl, rfl, rfl, trivial⟩ ⟨rfl, trivial⟩ ⟨rfl, rfl, rfl, rfl⟩)⟩
    have hfit : 1 ≤ l[k].1 := by
      rcases hsl with h2 | h2
      · rw [hat, h1] at h2; cases h2
      · rw [hat] at h2; exact (fits_out.1 h2).1
    repeat (first | (refine bcase_f rfl ?_; conv => whnf) | (refine bcase_t rfl ?_; conv => whnf) | (refine condK_of rfl ?_; conv => whnf) | (refine condK_of (by decide) ?_; conv => whnf) | (refine condK_of (by omega) ?_; conv => whnf) | (refine wrapK_in (w64 (by omega) (by omega)) ?_; conv => whnf))
    refine condK_of (fun e he => encI_len he) ?_
    conv => whnf
    refine sliceK_hi (by omega) ?_
    conv => whnf
    repeat (first | (refine bcase_f rfl ?_; conv => whnf) | (refine bcase_t rfl ?_; conv => whnf) | (refine condK_of rfl ?_; conv => whnf) | (refine condK_of (by decide) ?_; conv => whnf) | (refine condK_of (by omega) ?_; conv => whnf) | (refine wrapK_in (w64 (by omega) (by omega)) ?_; conv => whnf))
    have hlt : (List.drop 0 (List.take k (l.map encI))).length = k := by simp; omega
    refine aloop (ι := Nat) (fun q => [(1, .ptr 1 0 0), (5, .d (.int .i64 k)), (6, .ptr 6 0 0), (34, .d (encIs l)), (35, .d (.int .i64 (l.map encI).length)), (36, .d (.int .i64 k)), (46, .d (.lst (List.drop 0 (List.take k (l.map encI))))), (47, .d (.int .i64 (List.drop 0 (List.take k (l.map encI))).length)), (48, .d (.int .i64 q))]) (fun _ => [(1, .box [.d (encIs l)] false), (6, .box [.d (.int .i64 l[k].1), .d (.int .i64 l[k].2)] false)])
      (fun q => q ≤ k ∧ ∀ j, j < q → (at' l j).1 ≠ (at' l k).1) (fun q => k - q) 0 ⟨Nat.zero_le _, fun j h => absurd h (Nat.not_lt_zero _)⟩ (le0 (le_of_cov ⟨rfl, rfl, rfl, rfl, rfl, rfl, rfl, rfl, rfl, trivial⟩ ⟨rfl, rfl, trivial⟩ ⟨rfl, rfl, rfl, rfl⟩)) ?_
    rintro q ⟨hq, hQ⟩
    conv => whnf
    refine bcase_p (fun h2 => ?_) (fun h2 => ?_) <;> conv => whnf
    · have hq2 : q < k := by omega
      have hq3 : q < l.length := by omega
      refine idxK_nat (by omega) ?_
      conv => whnf
      refine getRow_of (x := encI l[q]) (by rw [List.drop_zero, List.getElem?_take_of_lt hq2, List.getElem?_map, List.getElem?_eq_getElem hq3]; rfl) ?_
      conv => whnf
      repeat (first | (refine bcase_f rfl ?_; conv => whnf) | (refine bcase_t rfl ?_; conv => whnf) | (refine condK_of rfl ?_; conv => whnf) | (refine condK_of (by decide) ?_; conv => whnf) | (refine condK_of (by omega) ?_; conv => whnf) | (refine wrapK_in (w64 (by omega) (by omega)) ?_; conv => whnf))
      refine bcase_p (fun h3 => ?_) (fun h3 => ?_) <;> conv => whnf
      · refine ret_of rfl (congrArg D.bool (rightB_f.2 fun h => ?_).symm)
        rcases h.places k (by omega) with h4 | ⟨h4, _⟩
        · rw [hat, h1] at h4; cases h4
        · exact h4 q hq2 (by rw [at_eq hq3, hat, h3])
      · repeat (first | (refine bcase_f rfl ?_; conv => whnf) | (refine bcase_t rfl ?_; conv => whnf) | (refine condK_of rfl ?_; conv => whnf) | (refine condK_of (by decide) ?_; conv => whnf) | (refine condK_of (by omega) ?_; conv => whnf) | (refine wrapK_in (w64 (by omega) (by omega)) ?_; conv => whnf))
        exact ⟨q + 1, ⟨by omega, fun j hj => (Nat.lt_succ_iff_lt_or_eq.1 hj).elim (hQ j) (fun e => by subst e; rw [at_eq hq3, hat]; exact h3)⟩, by omega, le0 (le_of_cov ⟨rfl, rfl, rfl, rfl, rfl, rfl, rfl, rfl, rfl, trivial⟩ ⟨rfl, rfl, trivial⟩ ⟨rfl, rfl, rfl, rfl⟩)⟩
    have hQk : ∀ j, j < k → (at' l j).1 ≠ (at' l k).1 := fun j hj => hQ j (by omega)
    clear hQ hq h2
    repeat (first | (refine bcase_f rfl ?_; conv => whnf) | (refine bcase_t rfl ?_; conv => whnf) | (refine condK_of rfl ?_; conv => whnf) | (refine condK_of (by decide) ?_; conv => whnf) | (refine condK_of (by omega) ?_; conv => whnf) | (refine wrapK_in (w64 (by omega) (by omega)) ?_; conv => whnf))
    refine callX_pure (home_ok l[k].1 (by omega)) ?_
    conv => whnf
    have hhm : ((homeN l[k].1 : Nat) : Int) = l[k].1 % 16 := by simp [homeN]; omega
    have hh16 : homeN l[k].1 < 16 := by simp [homeN]; omega
    refine aloop (ι := Nat) (fun d => [(1, .ptr 1 0 0), (5, .d (.int .i64 k)), (9, .d (.int .i64 (((homeN l[k].1 + d) % 16 : Nat) : Int))), (34, .d (encIs l)), (35, .d (.int .i64 (l.map encI).length)), (36, .d (.int .i64 k))]) (fun _ => [(1, .box [.d (encIs l)] false)])
      (fun d => d ≤ wayN (homeN l[k].1) k ∧ ∀ d', d' < d → freeB (at' l ((homeN l[k].1 + d') % 16)) = false) (fun d => 16 - d) 0 ⟨Nat.zero_le _, fun j h => absurd h (Nat.not_lt_zero _)⟩ (le0 (le_of_cov ⟨rfl, rfl, by
        show _ = AV.d (.int .i64 (((homeN l[k].1 + 0) % 16 : Nat) : Int)); rw [show (((homeN l[k].1 + 0) % 16 : Nat) : Int) = l[k].1 % 16 by omega]; rfl, rfl, rfl, rfl, trivial⟩ ⟨rfl, trivial⟩ ⟨rfl, rfl, rfl, rfl⟩)) ?_
    rintro d ⟨hd, hD⟩
    conv => whnf
    have hw16 : wayN (homeN l[k].1) k < 16 := by simp [wayN]; omega
    refine bcase_n (fun h2 => ?_) (fun h2 => ?_) <;> conv => whnf
    · have hd2 : d < wayN (homeN l[k].1) k := by
        by_cases e : d = wayN (homeN l[k].1) k
        · exfalso; apply h2; rw [e]; simp only [wayN]; omega
        · omega
      have hj : (homeN l[k].1 + d) % 16 < l.length := by omega
      repeat (first | (refine bcase_f rfl ?_; conv => whnf) | (refine bcase_t rfl ?_; conv => whnf) | (refine condK_of rfl ?_; conv => whnf) | (refine condK_of (by decide) ?_; conv => whnf) | (refine condK_of (by omega) ?_; conv => whnf) | (refine wrapK_in (w64 (by omega) (by omega)) ?_; conv => whnf))
      refine idxK_nat (by omega) ?_
      conv => whnf
      refine getRow_of (x := encI l[(homeN l[k].1 + d) % 16]) (by simp [hj]) ?_
      conv => whnf
      repeat (first | (refine bcase_f rfl ?_; conv => whnf) | (refine bcase_t rfl ?_; conv => whnf) | (refine condK_of rfl ?_; conv => whnf) | (refine condK_of (by decide) ?_; conv => whnf) | (refine condK_of (by omega) ?_; conv => whnf) | (refine wrapK_in (w64 (by omega) (by omega)) ?_; conv => whnf))
      refine callX_pure (free_ok l[(homeN l[k].1 + d) % 16]) ?_
      conv => whnf
      refine bcase_intro (fun h3 => ?_) (fun h3 => ?_) <;> conv => whnf
      · refine ret_of rfl (congrArg D.bool (rightB_f.2 fun h => ?_).symm)
        rcases h.places k (by omega) with h4 | ⟨_, h4⟩
        · rw [hat, h1] at h4; cases h4
        · rw [hat] at h4
          have := h4 d hd2
          rw [at_eq hj, h3] at this
          cases this
      · refine callX_pure (behind_ok (((homeN l[k].1 + d) % 16 : Nat) : Int) (by omega) (by omega)) ?_
        conv => whnf
        exact ⟨d + 1, ⟨by omega, fun j hj' => (Nat.lt_succ_iff_lt_or_eq.1 hj').elim (hD j) (fun e => by subst e; rw [at_eq hj]; exact h3)⟩, by omega, le0 (le_of_cov ⟨rfl, rfl, by
          show _ = AV.d (.int .i64 (((homeN l[k].1 + (d + 1)) % 16 : Nat) : Int))
          rw [show (((homeN l[k].1 + (d + 1)) % 16 : Nat) : Int) = ((((homeN l[k].1 + d) % 16 : Nat) : Int) + 1) % 16 by omega]; rfl, rfl, rfl, rfl, trivial⟩ ⟨rfl, trivial⟩ ⟨rfl, rfl, rfl, rfl⟩)⟩
    · have hd3 : d = wayN (homeN l[k].1) k := by simp only [wayN] at hd hw16 ⊢; omega
      repeat (first | (refine bcase_f rfl ?_; conv => whnf) | (refine bcase_t rfl ?_; conv => whnf) | (refine condK_of rfl ?_; conv => whnf) | (refine condK_of (by decide) ?_; conv => whnf) | (refine condK_of (by omega) ?_; conv => whnf) | (refine wrapK_in (w64 (by omega) (by omega)) ?_; conv => whnf))
      refine ⟨k + 1, ⟨by omega, hlast (.inr ⟨hQk, ?_⟩)⟩, by omega, le0 (le_of_cov ⟨rfl, rfl, rfl, rfl, trivial⟩ ⟨rfl, trivial⟩ ⟨rfl, rfl, rfl, rfl⟩)⟩
      rw [hat, ← hd3]; exact hD
  exact ret_of rfl (congrArg D.bool (rightB_t.2 ⟨hlen, hS, fun j hj => hR j (by omega)⟩).symm)
end Go.Lk.Tb

set_option linter.unusedSimpArgs false
set_option linter.unusedVariables false
set_option linter.unnecessarySimpa false
namespace Go.Lk.Tb
open Go Go.Proofs Go.RowKit Go.Lk

theorem placeG_lt {l : Slots} {n : Int} : ∀ {k : Nat}, placeG l n k < 0 ∨ ∃ i : Nat, placeG l n k = ((k + i : Nat) : Int) ∧ ∃ h : i < l.length, l[i].1 = n := by
  induction l with
  | nil => intro k; exact .inl (show (-1 : Int) < 0 by decide)
  | cons p r ih =>
    intro k
    simp only [placeG]
    by_cases h : p.1 = n
    · exact .inr ⟨0, by simp [h], by simp, by simpa using h⟩
    · rw [if_neg h]
      rcases ih (k := k + 1) with h1 | ⟨i, h1, h2, h3⟩
      · exact .inl h1
      · exact .inr ⟨i + 1, by rw [h1]; simp; omega, by simpa using h2, by simpa using h3⟩

def ffree (l : Slots) (h d : Nat) : Nat → Option Nat
  | 0 => none
  | n + 1 => if freeB (at' l ((h + d) % 16)) = true then some ((h + d) % 16) else ffree l h (d + 1) n
noncomputable def putS (l : Slots) (p f : Int) : Slots × Int :=
  if rightB l = false ∨ fitsB p f = false then (l, 1) else if (placeT l p).2 = true then (l, 4) else match ffree l (homeN p) 0 16 with
    | some i => (l.set i (p, f), 0)
    | none => (l, 7)

theorem set_enc (l : Slots) (i : Nat) (x : Int × Int) : (l.map encI).set i (encI x) = (l.set i x).map encI := by rw [List.map_set]

theorem put_ok (l : Slots) (p f : Int) (hl : l.length ≤ 1000000) : ACall Try.prog 42 [encT l, .int .i64 p, .int .i64 f] (.tup [encT (putS l p f).1, .int .i64 (putS l p f).2]) := by
  refine acall_of Try.func42 3 rfl (by kernel_rfl) ?_
  conv => whnf
  repeat (first | (refine bcase_f rfl ?_; conv => whnf) | (refine bcase_t rfl ?_; conv => whnf) | (refine condK_of rfl ?_; conv => whnf) | (refine condK_of (by decide) ?_; conv => whnf) | (refine condK_of (by omega) ?_; conv => whnf) | (refine wrapK_in (w64 (by omega) (by omega)) ?_; conv => whnf))
  refine callX_pure (right_ok l hl) ?_
  conv => whnf
  refine bcase_intro (fun h1 => ?_) (fun h1 => ?_) <;> conv => whnf
  · repeat (first | (refine bcase_f rfl ?_; conv => whnf) | (refine bcase_t rfl ?_; conv => whnf) | (refine condK_of rfl ?_; conv => whnf) | (refine condK_of (by decide) ?_; conv => whnf) | (refine condK_of (by omega) ?_; conv => whnf) | (refine wrapK_in (w64 (by omega) (by omega)) ?_; conv => whnf))
    simp at h1
    exact ret_of rfl (by simp [putS, h1]; rfl)
  simp at h1
  refine callX_pure (fits_ok p f) ?_
  conv => whnf
  refine bcase_intro (fun h2 => ?_) (fun h2 => ?_) <;> conv => whnf
  · repeat (first | (refine bcase_f rfl ?_; conv => whnf) | (refine bcase_t rfl ?_; conv => whnf) | (refine condK_of rfl ?_; conv => whnf) | (refine condK_of (by decide) ?_; conv => whnf) | (refine condK_of (by omega) ?_; conv => whnf) | (refine wrapK_in (w64 (by omega) (by omega)) ?_; conv => whnf))
    simp at h2
    exact ret_of rfl (by simp [putS, h2]; rfl)
  simp at h2
  repeat (first | (refine bcase_f rfl ?_; conv => whnf) | (refine bcase_t rfl ?_; conv => whnf) | (refine condK_of rfl ?_; conv => whnf) | (refine condK_of (by decide) ?_; conv => whnf) | (refine condK_of (by omega) ?_; conv => whnf) | (refine wrapK_in (w64 (by omega) (by omega)) ?_; conv => whnf))
  refine callX_pure (place_ok l p hl) ?_
  conv => whnf
  refine bcase_intro (fun h3 => ?_) (fun h3 => ?_) <;> conv => whnf
  · repeat (first | (refine bcase_f rfl ?_; conv => whnf) | (refine bcase_t rfl ?_; conv => whnf) | (refine condK_of rfl ?_; conv => whnf) | (refine condK_of (by decide) ?_; conv => whnf) | (refine condK_of (by omega) ?_; conv => whnf) | (refine wrapK_in (w64 (by omega) (by omega)) ?_; conv => whnf))
    exact ret_of rfl (by simp [putS, h1, h2, h3]; rfl)
  have hp := fits_out.1 h2
  have hlen := (rightB_t.1 h1).len
  have hm : (l.map encI).length = l.length := List.length_map ..
  have hhm : ((homeN p : Nat) : Int) = p % 16 := by simp [homeN]; omega
  have hh16 : homeN p < 16 := by simp [homeN]; omega
  refine callX_pure (home_ok p (by omega)) ?_
  conv => whnf
  refine aloop (ι := Nat) (fun d => [(1, .d (.int .i64 p)), (2, .d (.int .i64 f)), (3, .ptr 3 0 0), (6, .ptr 6 0 0), (10, .d (.int .i64 (((homeN p + d) % 16 : Nat) : Int))), (32, .d (.int .i64 d))]) (fun _ => [(3, .box [.d (encIs l)] false), (6, .box [.nil] false)])
    (fun d => d ≤ 16 ∧ ffree l (homeN p) d (16 - d) = ffree l (homeN p) 0 16) (fun d => 16 - d) 0 ⟨Nat.zero_le _, rfl⟩ (le0 (le_of_cov ⟨rfl, rfl, rfl, rfl, by
      show AV.d (.int .i64 (p % 16)) = AV.d (.int .i64 (((homeN p + 0) % 16 : Nat) : Int)); rw [show (((homeN p + 0) % 16 : Nat) : Int) = p % 16 by omega], rfl, trivial⟩ ⟨rfl, rfl, trivial⟩ ⟨rfl, rfl, rfl, rfl⟩)) ?_
  rintro d ⟨hd, hD⟩
  conv => whnf
  refine bcase_p (fun h => ?_) (fun h => ?_) <;> conv => whnf
  · have hj : (homeN p + d) % 16 < l.length := by omega
    rw [show 16 - d = (16 - (d + 1)) + 1 by omega, ffree, at_eq hj] at hD
    repeat (first | (refine bcase_f rfl ?_; conv => whnf) | (refine bcase_t rfl ?_; conv => whnf) | (refine condK_of rfl ?_; conv => whnf) | (refine condK_of (by decide) ?_; conv => whnf) | (refine condK_of (by omega) ?_; conv => whnf) | (refine wrapK_in (w64 (by omega) (by omega)) ?_; conv => whnf))
    refine idxK_nat (by omega) ?_
    conv => whnf
    refine getRow_of (x := encI l[(homeN p + d) % 16]) (by simp [hj]) ?_
    conv => whnf
    repeat (first | (refine bcase_f rfl ?_; conv => whnf) | (refine bcase_t rfl ?_; conv => whnf) | (refine condK_of rfl ?_; conv => whnf) | (refine condK_of (by decide) ?_; conv => whnf) | (refine condK_of (by omega) ?_; conv => whnf) | (refine wrapK_in (w64 (by omega) (by omega)) ?_; conv => whnf))
    refine callX_pure (free_ok l[(homeN p + d) % 16]) ?_
    conv => whnf
    refine bcase_intro (fun h4 => ?_) (fun h4 => ?_) <;> conv => whnf
    · rw [if_pos h4] at hD
      have hput : putS l p f = (l.set ((homeN p + d) % 16) (p, f), 0) := by simp [putS, h1, h2, h3, ← hD]
      rw [hput]
      repeat (first | (refine bcase_f rfl ?_; conv => whnf) | (refine bcase_t rfl ?_; conv => whnf) | (refine condK_of rfl ?_; conv => whnf) | (refine condK_of (by decide) ?_; conv => whnf) | (refine condK_of (by omega) ?_; conv => whnf) | (refine wrapK_in (w64 (by omega) (by omega)) ?_; conv => whnf))
      refine callX_own (clone_ok l hl) ?_
      conv => whnf
      refine idxK_nat (by omega) ?_
      conv => whnf
      refine getRow_of (x := encI l[(homeN p + d) % 16]) (by simp [hj]) ?_
      conv => whnf
      repeat (first | (refine bcase_f rfl ?_; conv => whnf) | (refine bcase_t rfl ?_; conv => whnf) | (refine condK_of rfl ?_; conv => whnf) | (refine condK_of (by decide) ?_; conv => whnf) | (refine condK_of (by omega) ?_; conv => whnf) | (refine wrapK_in (w64 (by omega) (by omega)) ?_; conv => whnf))
      refine ret_of rfl ?_
      show D.tup [.agg [.lst ((l.map encI).set _ (encI (p, f)))], .int .i64 0] = _
      rw [set_enc]; rfl
    · rw [if_neg (by simp [h4])] at hD
      refine callX_pure (behind_ok (((homeN p + d) % 16 : Nat) : Int) (by omega) (by omega)) ?_
      conv => whnf
      repeat (first | (refine bcase_f rfl ?_; conv => whnf) | (refine bcase_t rfl ?_; conv => whnf) | (refine condK_of rfl ?_; conv => whnf) | (refine condK_of (by decide) ?_; conv => whnf) | (refine condK_of (by omega) ?_; conv => whnf) | (refine wrapK_in (w64 (by omega) (by omega)) ?_; conv => whnf))
      exact ⟨d + 1, ⟨by omega, hD⟩, by omega, le0 (le_of_cov ⟨rfl, rfl, rfl, rfl, by
        show _ = AV.d (.int .i64 (((homeN p + (d + 1)) % 16 : Nat) : Int))
        rw [show (((homeN p + (d + 1)) % 16 : Nat) : Int) = ((((homeN p + d) % 16 : Nat) : Int) + 1) % 16 by omega]; rfl, rfl, trivial⟩ ⟨rfl, rfl, trivial⟩ ⟨rfl, rfl, rfl, rfl⟩)⟩
  · have hd2 : d = 16 := by omega
    subst hd2
    have hput : putS l p f = (l, 7) := by
      simp only [putS, h1, h2, h3, ← hD]; rfl
    rw [hput]
    repeat (first | (refine bcase_f rfl ?_; conv => whnf) | (refine bcase_t rfl ?_; conv => whnf) | (refine condK_of rfl ?_; conv => whnf) | (refine condK_of (by decide) ?_; conv => whnf) | (refine condK_of (by omega) ?_; conv => whnf) | (refine wrapK_in (w64 (by omega) (by omega)) ?_; conv => whnf))
    exact ret_of rfl rfl
end Go.Lk.Tb

set_option linter.unusedSimpArgs false
set_option linter.unusedVariables false
set_option linter.unnecessarySimpa false
namespace Go.Lk.Tb
open Go Go.Proofs Go.RowKit Go.Lk

def delG (l : Slots) (hole i : Nat) : Nat → Slots
  | 0 => l
  | n + 1 => if freeB (at' l ((i + 1) % 16)) = true then l
    else if wayN (homeN (at' l ((i + 1) % 16)).1) hole < wayN (homeN (at' l ((i + 1) % 16)).1) ((i + 1) % 16) then delG ((l.set hole (at' l ((i + 1) % 16))).set ((i + 1) % 16) (0, 0)) ((i + 1) % 16) ((i + 1) % 16) n
    else delG l hole ((i + 1) % 16) n
noncomputable def delS (l : Slots) (p : Int) : Slots × Int :=
  if rightB l = false then (l, 1) else if (placeT l p).2 = false then (l, 3) else (delG (l.set (placeT l p).1.toNat (0, 0)) (placeT l p).1.toNat (placeT l p).1.toNat 15, 0)

theorem way_eq {a b : Nat} (ha : a < 16) (hb : b < 16) : ((b : Int) - (a : Int) + 16) % 16 = ((wayN a b : Nat) : Int) := by simp only [wayN]; omega
theorem placeT_t {l : Slots} {p : Int} (h : (placeT l p).2 = true) : ∃ i : Nat, (placeT l p).1 = i ∧ ∃ h : i < l.length, l[i].1 = p := by
  unfold placeT at h ⊢
  by_cases e : p < 1 ∨ placeG l p 0 < 0
  · rw [if_pos e] at h; cases h
  · rw [if_neg e]
    obtain h4 | ⟨i, h4, h5, h6⟩ := placeG_lt (l := l) (n := p) (k := 0)
    · exact absurd (.inr h4) e
    · exact ⟨i, by simpa using h4, h5, h6⟩
theorem slot_zero : SlotP (0, 0) := .inl rfl

theorem del_ok (l : Slots) (p : Int) (hl : l.length ≤ 1000000) : ACall Try.prog 58 [encT l, .int .i64 p] (.tup [encT (delS l p).1, .int .i64 (delS l p).2]) := by
  refine acall_of Try.func58 2 rfl (by kernel_rfl) ?_
  conv => whnf
  repeat (first | (refine bcase_f rfl ?_; conv => whnf) | (refine bcase_t rfl ?_; conv => whnf) | (refine condK_of rfl ?_; conv => whnf) | (refine condK_of (by decide) ?_; conv => whnf) | (refine condK_of (by omega) ?_; conv => whnf) | (refine wrapK_in (w64 (by omega) (by omega)) ?_; conv => whnf))
  refine callX_pure (right_ok l hl) ?_
  conv => whnf
  refine bcase_intro (fun h1 => ?_) (fun h1 => ?_) <;> conv => whnf
  · repeat (first | (refine bcase_f rfl ?_; conv => whnf) | (refine bcase_t rfl ?_; conv => whnf) | (refine condK_of rfl ?_; conv => whnf) | (refine condK_of (by decide) ?_; conv => whnf) | (refine condK_of (by omega) ?_; conv => whnf) | (refine wrapK_in (w64 (by omega) (by omega)) ?_; conv => whnf))
    simp at h1
    exact ret_of rfl (by simp [delS, h1]; rfl)
  simp at h1
  repeat (first | (refine bcase_f rfl ?_; conv => whnf) | (refine bcase_t rfl ?_; conv => whnf) | (refine condK_of rfl ?_; conv => whnf) | (refine condK_of (by decide) ?_; conv => whnf) | (refine condK_of (by omega) ?_; conv => whnf) | (refine wrapK_in (w64 (by omega) (by omega)) ?_; conv => whnf))
  refine callX_pure (place_ok l p hl) ?_
  conv => whnf
  refine bcase_intro (fun h3 => ?_) (fun h3 => ?_) <;> conv => whnf
  · repeat (first | (refine bcase_f rfl ?_; conv => whnf) | (refine bcase_t rfl ?_; conv => whnf) | (refine condK_of rfl ?_; conv => whnf) | (refine condK_of (by decide) ?_; conv => whnf) | (refine condK_of (by omega) ?_; conv => whnf) | (refine wrapK_in (w64 (by omega) (by omega)) ?_; conv => whnf))
    simp at h3
    exact ret_of rfl (by simp [delS, h1, h3]; rfl)
  simp at h3
  have hR := rightB_t.1 h1
  have hlen := hR.len
  have hm : (l.map encI).length = l.length := List.length_map ..
  obtain ⟨a, ha, ha2, ha3⟩ := placeT_t h3
  have hdel : delS l p = (delG (l.set a (0, 0)) a a 15, 0) := by simp [delS, h1, h3, ha]
  rw [hdel, ha]
  repeat (first | (refine bcase_f rfl ?_; conv => whnf) | (refine bcase_t rfl ?_; conv => whnf) | (refine condK_of rfl ?_; conv => whnf) | (refine condK_of (by decide) ?_; conv => whnf) | (refine condK_of (by omega) ?_; conv => whnf) | (refine wrapK_in (w64 (by omega) (by omega)) ?_; conv => whnf))
  refine callX_own (clone_ok l hl) ?_
  conv => whnf
  repeat (first | (refine bcase_f rfl ?_; conv => whnf) | (refine bcase_t rfl ?_; conv => whnf) | (refine condK_of rfl ?_; conv => whnf) | (refine condK_of (by decide) ?_; conv => whnf) | (refine condK_of (by omega) ?_; conv => whnf) | (refine wrapK_in (w64 (by omega) (by omega)) ?_; conv => whnf))
  refine idxK_nat (by omega) ?_
  conv => whnf
  refine getRow_of (x := encI l[a]) (by simp [ha2]) ?_
  conv => whnf
  refine aloop (ι := Nat × Slots × Nat × Nat) (fun s => [(4, .ptr 4 0 0), (6, .d (.int .i64 s.2.2.1)), (8, .own 26), (9, .d (.int .i64 s.2.2.2)), (32, .d (.int .i64 s.1))]) (fun s => [(4, .box [.nil] false), (26, .row (s.2.1.map encI) 2 false)])
    (fun s => s.1 ≤ 15 ∧ s.2.1.length = 16 ∧ s.2.2.1 < 16 ∧ s.2.2.2 < 16 ∧ (∀ j, j < 16 → SlotP (at' s.2.1 j)) ∧ delG s.2.1 s.2.2.1 s.2.2.2 (15 - s.1) = delG (l.set a (0, 0)) a a 15) (fun s => 15 - s.1) (0, l.set a (0, 0), a, a)
    ⟨Nat.zero_le _, by simp [hlen], by simp only []; omega, by simp only []; omega, fun j hj => ?_, rfl⟩ (le0 (le_of_cov ⟨rfl, rfl, rfl, rfl, rfl, trivial⟩ ⟨rfl, by
      show some (Blk.row ((l.map encI).set a (encI (0, 0))) 2 false) = _; rw [set_enc], trivial⟩ ⟨rfl, rfl, rfl, rfl⟩)) ?_
  · show SlotP (at' (l.set a (0, 0)) j)
    unfold at'
    rw [List.getElem?_set]
    split
    · first | exact slot_zero | (split <;> exact slot_zero)
    · exact hR.slots j hj
  rintro ⟨n, l', h, i⟩ ⟨hn, hlen', hh, hi, hS, hD⟩
  simp only at hn hlen' hh hi hS hD ⊢
  have hm' : (l'.map encI).length = l'.length := List.length_map ..
  conv => whnf
  refine bcase_p (fun hlt => ?_) (fun hlt => ?_) <;> conv => whnf
  · rw [show 15 - n = (15 - (n + 1)) + 1 by omega, delG] at hD
    have hj16 : (i + 1) % 16 < 16 := by omega
    have hj : (i + 1) % 16 < l'.length := by omega
    generalize hij : (i + 1) % 16 = i' at hD hj hj16
    have hcast : ((i : Int) + 1) % 16 = (i' : Int) := by omega
    rw [at_eq hj] at hD
    refine callX_pure (d := .int .i64 (i' : Int)) (by rw [← hcast]; exact behind_ok (i : Int) (by omega) (by omega)) ?_
    conv => whnf
    repeat (first | (refine bcase_f rfl ?_; conv => whnf) | (refine bcase_t rfl ?_; conv => whnf) | (refine condK_of rfl ?_; conv => whnf) | (refine condK_of (by decide) ?_; conv => whnf) | (refine condK_of (by omega) ?_; conv => whnf) | (refine wrapK_in (w64 (by omega) (by omega)) ?_; conv => whnf))
    refine idxK_nat (by omega) ?_
    conv => whnf
    refine getRow_of (x := encI l'[i']) (by simp [hj]) ?_
    conv => whnf
    repeat (first | (refine bcase_f rfl ?_; conv => whnf) | (refine bcase_t rfl ?_; conv => whnf) | (refine condK_of rfl ?_; conv => whnf) | (refine condK_of (by decide) ?_; conv => whnf) | (refine condK_of (by omega) ?_; conv => whnf) | (refine wrapK_in (w64 (by omega) (by omega)) ?_; conv => whnf))
    refine callX_pure (free_ok l'[i']) ?_
    conv => whnf
    refine bcase_intro (fun h4 => ?_) (fun h4 => ?_) <;> conv => whnf
    · rw [if_pos h4] at hD
      rw [← hD]
      repeat (first | (refine bcase_f rfl ?_; conv => whnf) | (refine bcase_t rfl ?_; conv => whnf) | (refine condK_of rfl ?_; conv => whnf) | (refine condK_of (by decide) ?_; conv => whnf) | (refine condK_of (by omega) ?_; conv => whnf) | (refine wrapK_in (w64 (by omega) (by omega)) ?_; conv => whnf))
      exact ret_of rfl rfl
    rw [if_neg (by simp [h4])] at hD
    have hp1 : 1 ≤ l'[i'].1 := by
      rcases hS i' hj16 with h2 | h2
      · rw [at_eq hj, h4] at h2; cases h2
      · rw [at_eq hj] at h2; exact (fits_out.1 h2).1
    have hhm : ((homeN l'[i'].1 : Nat) : Int) = l'[i'].1 % 16 := by simp [homeN]; omega
    have hh16 : homeN l'[i'].1 < 16 := by simp [homeN]; omega
    repeat (first | (refine bcase_f rfl ?_; conv => whnf) | (refine bcase_t rfl ?_; conv => whnf) | (refine condK_of rfl ?_; conv => whnf) | (refine condK_of (by decide) ?_; conv => whnf) | (refine condK_of (by omega) ?_; conv => whnf) | (refine wrapK_in (w64 (by omega) (by omega)) ?_; conv => whnf))
    refine idxK_nat (by omega) ?_
    conv => whnf
    refine getRow_of (x := encI l'[i']) (by simp [hj]) ?_
    conv => whnf
    repeat (first | (refine bcase_f rfl ?_; conv => whnf) | (refine bcase_t rfl ?_; conv => whnf) | (refine condK_of rfl ?_; conv => whnf) | (refine condK_of (by decide) ?_; conv => whnf) | (refine condK_of (by omega) ?_; conv => whnf) | (refine wrapK_in (w64 (by omega) (by omega)) ?_; conv => whnf))
    refine callX_pure (d := .int .i64 ((homeN l'[i'].1 : Nat) : Int)) (by rw [hhm]; exact home_ok l'[i'].1 (by omega)) ?_
    conv => whnf
    repeat (first | (refine bcase_f rfl ?_; conv => whnf) | (refine bcase_t rfl ?_; conv => whnf) | (refine condK_of rfl ?_; conv => whnf) | (refine condK_of (by decide) ?_; conv => whnf) | (refine condK_of (by omega) ?_; conv => whnf) | (refine wrapK_in (w64 (by omega) (by omega)) ?_; conv => whnf))
    refine callX_pure (d := .int .i64 ((wayN (homeN l'[i'].1) h : Nat) : Int)) (by rw [← way_eq hh16 hh]; exact way_ok _ _ (by omega) (by omega) (by omega) (by omega)) ?_
    conv => whnf
    repeat (first | (refine bcase_f rfl ?_; conv => whnf) | (refine bcase_t rfl ?_; conv => whnf) | (refine condK_of rfl ?_; conv => whnf) | (refine condK_of (by decide) ?_; conv => whnf) | (refine condK_of (by omega) ?_; conv => whnf) | (refine wrapK_in (w64 (by omega) (by omega)) ?_; conv => whnf))
    refine callX_pure (d := .int .i64 ((wayN (homeN l'[i'].1) i' : Nat) : Int)) (by rw [← way_eq hh16 hj16]; exact way_ok _ _ (by omega) (by omega) (by omega) (by omega)) ?_
    conv => whnf
    refine bcase_p (fun h5 => ?_) (fun h5 => ?_) <;> conv => whnf
    · rw [if_pos (by omega)] at hD
      repeat (first | (refine bcase_f rfl ?_; conv => whnf) | (refine bcase_t rfl ?_; conv => whnf) | (refine condK_of rfl ?_; conv => whnf) | (refine condK_of (by decide) ?_; conv => whnf) | (refine condK_of (by omega) ?_; conv => whnf) | (refine wrapK_in (w64 (by omega) (by omega)) ?_; conv => whnf))
      refine idxK_nat (by omega) ?_
      conv => whnf
      refine getRow_of (x := encI l'[i']) (by simp [hj]) ?_
      conv => whnf
      repeat (first | (refine bcase_f rfl ?_; conv => whnf) | (refine bcase_t rfl ?_; conv => whnf) | (refine condK_of rfl ?_; conv => whnf) | (refine condK_of (by decide) ?_; conv => whnf) | (refine condK_of (by omega) ?_; conv => whnf) | (refine wrapK_in (w64 (by omega) (by omega)) ?_; conv => whnf))
      refine idxK_nat (by omega) ?_
      conv => whnf
      refine getRow_of (x := encI (at' l' h)) (by simp [at', show h < l'.length by omega]) ?_
      conv => whnf
      repeat (first | (refine bcase_f rfl ?_; conv => whnf) | (refine bcase_t rfl ?_; conv => whnf) | (refine condK_of rfl ?_; conv => whnf) | (refine condK_of (by decide) ?_; conv => whnf) | (refine condK_of (by omega) ?_; conv => whnf) | (refine wrapK_in (w64 (by omega) (by omega)) ?_; conv => whnf))
      refine idxK_nat (by rw [List.length_set]; omega) ?_
      conv => whnf
      refine getRow_of (x := encI (at' (l'.set h l'[i']) i')) ?_ ?_
      · show ((l'.map encI).set h (encI l'[i']))[i']? = _
        rw [set_enc, List.getElem?_map, at', List.getElem?_eq_getElem (by simpa using hj)]; rfl
      conv => whnf
      repeat (first | (refine bcase_f rfl ?_; conv => whnf) | (refine bcase_t rfl ?_; conv => whnf) | (refine condK_of rfl ?_; conv => whnf) | (refine condK_of (by decide) ?_; conv => whnf) | (refine condK_of (by omega) ?_; conv => whnf) | (refine wrapK_in (w64 (by omega) (by omega)) ?_; conv => whnf))
      refine ⟨(n + 1, (l'.set h l'[i']).set i' (0, 0), i', i'), ⟨by simp only []; omega, by simpa using hlen', hj16, hj16, fun j hj' => ?_, hD⟩, by simp only []; omega, le0 (le_of_cov ⟨rfl, rfl, rfl, rfl, rfl, trivial⟩ ⟨rfl, by
        show some (Blk.row (((l'.map encI).set h (encI l'[i'])).set i' (encI (0, 0))) 2 false) = _; rw [set_enc, set_enc], trivial⟩ ⟨rfl, rfl, rfl, rfl⟩)⟩
      unfold at'
      simp only []
      rw [List.getElem?_set]
      split
      · first | exact slot_zero | (split <;> exact slot_zero)
      · rw [List.getElem?_set]
        have h6 := hS i' hj16
        rw [at_eq hj] at h6
        split
        · first | exact h6 | (split; exact h6; exact slot_zero)
        · exact hS j hj'
    · rw [if_neg (by omega)] at hD
      repeat (first | (refine bcase_f rfl ?_; conv => whnf) | (refine bcase_t rfl ?_; conv => whnf) | (refine condK_of rfl ?_; conv => whnf) | (refine condK_of (by decide) ?_; conv => whnf) | (refine condK_of (by omega) ?_; conv => whnf) | (refine wrapK_in (w64 (by omega) (by omega)) ?_; conv => whnf))
      exact ⟨(n + 1, l', h, i'), ⟨by simp only []; omega, hlen', hh, hj16, hS, hD⟩, by simp only []; omega, le0 (le_of_cov ⟨rfl, rfl, rfl, rfl, rfl, trivial⟩ ⟨rfl, rfl, trivial⟩ ⟨rfl, rfl, rfl, rfl⟩)⟩
  · have : n = 15 := by omega
    subst this
    replace hD : l' = delG (l.set a (0, 0)) a a 15 := hD
    rw [← hD]
    repeat (first | (refine bcase_f rfl ?_; conv => whnf) | (refine bcase_t rfl ?_; conv => whnf) | (refine condK_of rfl ?_; conv => whnf) | (refine condK_of (by decide) ?_; conv => whnf) | (refine condK_of (by omega) ?_; conv => whnf) | (refine wrapK_in (w64 (by omega) (by omega)) ?_; conv => whnf))
    exact ret_of rfl rfl
end Go.Lk.Tb

namespace Go.Lk
open Go Go.Proofs Go.Shelf
def sortRen : Ren :=
{
  f := fun x =>
    match x with
    | 189 => 67
    | 125 => 74
    | 257 => 73
    | 128 => 85
    | 129 => 86
    | 294 => 76
    | 295 => 77
    | 296 => 78
    | 297 => 79
    | 298 => 80
    | 299 => 81
    | 216 => 82
    | 300 => 83
    | 301 => 84
    | 328 => 87
    | 329 => 88
    | 330 => 89
    | 331 => 90
    | 332 => 91
    | 215 => 92
    | 343 => 93
    | n => n,
  t := fun x =>
    match x with
    | 28 => 94
    | 3 => 3
    | 46 => 131
    | 0 => 0
    | 51 => 142
    | 53 => 144
    | 4 => 4
    | 183 => 136
    | 182 => 135
    | 131 => 53
    | 5 => 5
    | 9 => 9
    | 218 => 145
    | 222 => 149
    | 228 => 151
    | 229 => 152
    | n => n,
  g := fun x => x }

theorem sortLays : Lays.n189 Try.prog sortRen :=
{ mixed := by kernel_rfl, f125 := Eq.trans Try.func74 (congrArg some (by kernel_rfl)),
  f128 := Eq.trans Try.func85 (congrArg some (by kernel_rfl)),
  f129 := Eq.trans Try.func86 (congrArg some (by kernel_rfl)),
  f189 := Eq.trans Try.func67 (congrArg some (by kernel_rfl)),
  f215 := Eq.trans Try.func92 (congrArg some (by kernel_rfl)),
  f216 := Eq.trans Try.func82 (congrArg some (by kernel_rfl)),
  f257 := Eq.trans Try.func73 (congrArg some (by kernel_rfl)),
  f294 := Eq.trans Try.func76 (congrArg some (by kernel_rfl)),
  f295 := Eq.trans Try.func77 (congrArg some (by kernel_rfl)),
  f296 := Eq.trans Try.func78 (congrArg some (by kernel_rfl)),
  f297 := Eq.trans Try.func79 (congrArg some (by kernel_rfl)),
  f298 := Eq.trans Try.func80 (congrArg some (by kernel_rfl)),
  f299 := Eq.trans Try.func81 (congrArg some (by kernel_rfl)),
  f300 := Eq.trans Try.func83 (congrArg some (by kernel_rfl)),
  f301 := Eq.trans Try.func84 (congrArg some (by kernel_rfl)),
  f328 := Eq.trans Try.func87 (congrArg some (by kernel_rfl)),
  f329 := Eq.trans Try.func88 (congrArg some (by kernel_rfl)),
  f330 := Eq.trans Try.func89 (congrArg some (by kernel_rfl)),
  f331 := Eq.trans Try.func90 (congrArg some (by kernel_rfl)),
  f332 := Eq.trans Try.func91 (congrArg some (by kernel_rfl)),
  f343 := Eq.trans Try.func93 (congrArg some (by kernel_rfl)), t0 := Try.underlying0,
  a0 := Try.isAgg0, z0 := Try.sizeOf0, v0 := Try.zeroValue0, t3 := Try.underlying3, a3 := Try.isAgg3, z3 := Try.sizeOf3,
  v3 := Try.zeroValue3, t4 := Try.underlying4, a4 := Try.isAgg4, z4 := Try.sizeOf4, v4 := Try.zeroValue4,
  t5 := Try.underlying5, a5 := Try.isAgg5, z5 := Try.sizeOf5, v5 := Try.zeroValue5, t9 := Try.underlying9,
  a9 := Try.isAgg9, z9 := Try.sizeOf9, v9 := Try.zeroValue9, t28 := Try.underlying94, a28 := Try.isAgg94,
  z28 := Try.sizeOf94, v28 := Try.zeroValue94, t46 := Try.underlying131, a46 := Try.isAgg131, z46 := Try.sizeOf131,
  v46 := Try.zeroValue131, t51 := Try.underlying142, a51 := Try.isAgg142, z51 := Try.sizeOf142, v51 := Try.zeroValue142,
  t53 := Try.underlying144, a53 := Try.isAgg144, z53 := Try.sizeOf144, v53 := Try.zeroValue144,
  t131 := Try.underlying53, a131 := Try.isAgg53, z131 := Try.sizeOf53, v131 := Try.zeroValue53,
  t182 := Try.underlying135, a182 := Try.isAgg135, z182 := Try.sizeOf135, v182 := Try.zeroValue135,
  t183 := Try.underlying136, a183 := Try.isAgg136, z183 := Try.sizeOf136, v183 := Try.zeroValue136,
  t218 := Try.underlying145, a218 := Try.isAgg145, z218 := Try.sizeOf145, v218 := Try.zeroValue145,
  t222 := Try.underlying149, a222 := Try.isAgg149, z222 := Try.sizeOf149, v222 := Try.zeroValue149,
  t228 := Try.underlying151, a228 := Try.isAgg151, z228 := Try.sizeOf151, v228 := Try.zeroValue151,
  t229 := Try.underlying152, a229 := Try.isAgg152, z229 := Try.sizeOf152, v229 := Try.zeroValue152 }

theorem sort_ok {hp : Nat → Option Blk} {b : Nat} {zs : List Int} (hb : hp b = some (.row (zs.map enc1) 1 false)) (hz : zs.length < 4611686018427387904) :
    ECall Try.prog 67 [.own b] hp ⟨.tup [], [(b, .row ((sortI zs).map enc1) 1 false)], none⟩ :=
  sort_ecall sortLays ⟨Try.f67, Try.func67, rfl, by kernel_rfl⟩ (fun p cap w => Any.slices_Sort_int_none sortLays p cap w) hb hz
end Go.Lk

set_option linter.unusedSimpArgs false
set_option linter.unusedVariables false
set_option linter.unnecessarySimpa false
namespace Go.Lk.Tb
open Go Go.Proofs Go.RowKit Go.Lk

noncomputable def findS (l : Slots) (p : Int) : Int × Bool := if rightB l = false ∨ (placeT l p).2 = false then (0, false) else ((at' l (placeT l p).1.toNat).2, true)
theorem find_ok (l : Slots) (p : Int) (hl : l.length ≤ 1000000) : ACall Try.prog 38 [encT l, .int .i64 p] (.tup [.int .i64 (findS l p).1, .bool (findS l p).2]) := by
  refine acall_of Try.func38 2 rfl (by kernel_rfl) ?_
  conv => whnf
  repeat (first | (refine bcase_f rfl ?_; conv => whnf) | (refine bcase_t rfl ?_; conv => whnf) | (refine condK_of rfl ?_; conv => whnf) | (refine condK_of (by decide) ?_; conv => whnf) | (refine condK_of (by omega) ?_; conv => whnf) | (refine wrapK_in (w64 (by omega) (by omega)) ?_; conv => whnf))
  refine callX_pure (right_ok l hl) ?_
  conv => whnf
  refine bcase_intro (fun h1 => ?_) (fun h1 => ?_) <;> conv => whnf
  · repeat (first | (refine bcase_f rfl ?_; conv => whnf) | (refine bcase_t rfl ?_; conv => whnf) | (refine condK_of rfl ?_; conv => whnf) | (refine condK_of (by decide) ?_; conv => whnf) | (refine condK_of (by omega) ?_; conv => whnf) | (refine wrapK_in (w64 (by omega) (by omega)) ?_; conv => whnf))
    simp at h1
    exact ret_of rfl (by simp [findS, h1]; rfl)
  simp at h1
  repeat (first | (refine bcase_f rfl ?_; conv => whnf) | (refine bcase_t rfl ?_; conv => whnf) | (refine condK_of rfl ?_; conv => whnf) | (refine condK_of (by decide) ?_; conv => whnf) | (refine condK_of (by omega) ?_; conv => whnf) | (refine wrapK_in (w64 (by omega) (by omega)) ?_; conv => whnf))
  refine callX_pure (place_ok l p hl) ?_
  conv => whnf
  refine bcase_intro (fun h3 => ?_) (fun h3 => ?_) <;> conv => whnf
  · repeat (first | (refine bcase_f rfl ?_; conv => whnf) | (refine bcase_t rfl ?_; conv => whnf) | (refine condK_of rfl ?_; conv => whnf) | (refine condK_of (by decide) ?_; conv => whnf) | (refine condK_of (by omega) ?_; conv => whnf) | (refine wrapK_in (w64 (by omega) (by omega)) ?_; conv => whnf))
    simp at h3
    exact ret_of rfl (by simp [findS, h3]; rfl)
  simp at h3
  obtain ⟨a, ha, ha2, ha3⟩ := placeT_t h3
  rw [ha]
  repeat (first | (refine bcase_f rfl ?_; conv => whnf) | (refine bcase_t rfl ?_; conv => whnf) | (refine condK_of rfl ?_; conv => whnf) | (refine condK_of (by decide) ?_; conv => whnf) | (refine condK_of (by omega) ?_; conv => whnf) | (refine wrapK_in (w64 (by omega) (by omega)) ?_; conv => whnf))
  refine idxK_nat (by simpa using ha2) ?_
  conv => whnf
  refine getRow_of (x := encI l[a]) (by simp [ha2]) ?_
  conv => whnf
  repeat (first | (refine bcase_f rfl ?_; conv => whnf) | (refine bcase_t rfl ?_; conv => whnf) | (refine condK_of rfl ?_; conv => whnf) | (refine condK_of (by decide) ?_; conv => whnf) | (refine condK_of (by omega) ?_; conv => whnf) | (refine wrapK_in (w64 (by omega) (by omega)) ?_; conv => whnf))
  exact ret_of rfl (by simp [findS, h1, h3, ha, at_eq ha2]; rfl)

def pageF (x : Int × Int) : Option Int := if freeB x = true then none else some x.1
noncomputable def pagesS (l : Slots) : List Int := if rightB l = false then [] else sortI (l.filterMap pageF)
theorem pages_ok (l : Slots) (hl : l.length ≤ 1000000) : ACall Try.prog 39 [encT l] (encNs (pagesS l)) := by
  refine acall_of Try.func39 1 rfl (by kernel_rfl) ?_
  conv => whnf
  repeat (first | (refine bcase_f rfl ?_; conv => whnf) | (refine bcase_t rfl ?_; conv => whnf) | (refine condK_of rfl ?_; conv => whnf) | (refine condK_of (by decide) ?_; conv => whnf) | (refine condK_of (by omega) ?_; conv => whnf) | (refine wrapK_in (w64 (by omega) (by omega)) ?_; conv => whnf))
  refine callX_pure (right_ok l hl) ?_
  conv => whnf
  refine bcase_intro (fun h1 => ?_) (fun h1 => ?_) <;> conv => whnf
  · repeat (first | (refine bcase_f rfl ?_; conv => whnf) | (refine bcase_t rfl ?_; conv => whnf) | (refine condK_of rfl ?_; conv => whnf) | (refine condK_of (by decide) ?_; conv => whnf) | (refine condK_of (by omega) ?_; conv => whnf) | (refine wrapK_in (w64 (by omega) (by omega)) ?_; conv => whnf))
    simp at h1
    exact ret_of rfl (by simp [pagesS, h1]; rfl)
  simp at h1
  have hlen := (rightB_t.1 h1).len
  have hm : (l.map encI).length = l.length := List.length_map ..
  repeat (first | (refine bcase_f rfl ?_; conv => whnf) | (refine bcase_t rfl ?_; conv => whnf) | (refine condK_of rfl ?_; conv => whnf) | (refine condK_of (by decide) ?_; conv => whnf) | (refine condK_of (by omega) ?_; conv => whnf) | (refine wrapK_in (w64 (by omega) (by omega)) ?_; conv => whnf))
  refine aloop (ι := Nat) (fun k => [(3, .own 23), (10, .d (encIs l)), (11, .d (.int .i64 (l.map encI).length)), (12, .d (.int .i64 k))]) (fun k => [(23, .row (((l.take k).filterMap pageF).map enc1) 1 false)])
    (fun k => k ≤ l.length) (fun k => l.length - k) 0 (Nat.zero_le _) (le1 (.row 3 23 1) ⟨rfl, rfl⟩ (le_of_cov ⟨rfl, rfl, rfl, rfl, trivial⟩ ⟨rfl, trivial⟩ ⟨rfl, rfl, rfl, rfl⟩)) ?_
  intro k hk
  conv => whnf
  refine bcase_p (fun h => ?_) (fun h => ?_) <;> conv => whnf
  · have hk2 : k < l.length := by omega
    refine idxK_nat (by omega) ?_
    conv => whnf
    refine getRow_of (x := encI l[k]) (by simp [hk2]) ?_
    conv => whnf
    repeat (first | (refine bcase_f rfl ?_; conv => whnf) | (refine bcase_t rfl ?_; conv => whnf) | (refine condK_of rfl ?_; conv => whnf) | (refine condK_of (by decide) ?_; conv => whnf) | (refine condK_of (by omega) ?_; conv => whnf) | (refine wrapK_in (w64 (by omega) (by omega)) ?_; conv => whnf))
    refine callX_pure (free_ok l[k]) ?_
    conv => whnf
    refine bcase_intro (fun h2 => ?_) (fun h2 => ?_) <;> conv => whnf
    · repeat (first | (refine bcase_f rfl ?_; conv => whnf) | (refine bcase_t rfl ?_; conv => whnf) | (refine condK_of rfl ?_; conv => whnf) | (refine condK_of (by decide) ?_; conv => whnf) | (refine condK_of (by omega) ?_; conv => whnf) | (refine wrapK_in (w64 (by omega) (by omega)) ?_; conv => whnf))
      simp at h2
      have hl2 := List.length_filterMap_le pageF (l.take k)
      refine roomK_le 100 100 (by show List.length _ + 1 ≤ 100; simp at hl2 ⊢; omega) (by decide) (by decide) (by decide) ?_
      conv => whnf
      repeat (first | (refine bcase_f rfl ?_; conv => whnf) | (refine bcase_t rfl ?_; conv => whnf) | (refine condK_of rfl ?_; conv => whnf) | (refine condK_of (by decide) ?_; conv => whnf) | (refine condK_of (by omega) ?_; conv => whnf) | (refine wrapK_in (w64 (by omega) (by omega)) ?_; conv => whnf))
      exact ⟨k + 1, by omega, by omega, le0 (le_of_cov ⟨rfl, rfl, rfl, rfl, trivial⟩ ⟨by rw [take_snoc hk2, List.filterMap_append, List.map_append]; simp [pageF, h2]; rfl, trivial⟩ ⟨rfl, rfl, rfl, rfl⟩)⟩
    · repeat (first | (refine bcase_f rfl ?_; conv => whnf) | (refine bcase_t rfl ?_; conv => whnf) | (refine condK_of rfl ?_; conv => whnf) | (refine condK_of (by decide) ?_; conv => whnf) | (refine condK_of (by omega) ?_; conv => whnf) | (refine wrapK_in (w64 (by omega) (by omega)) ?_; conv => whnf))
      simp at h2
      exact ⟨k + 1, by omega, by omega, le0 (le_of_cov ⟨rfl, rfl, rfl, rfl, trivial⟩ ⟨by rw [take_snoc hk2, List.filterMap_append, List.map_append]; simp [pageF, h2]; rfl, trivial⟩ ⟨rfl, rfl, rfl, rfl⟩)⟩
  have hl2 := List.length_filterMap_le pageF (l.take k)
  have hk3 : k = l.length := by omega
  refine callX_heap (sort_ok (zs := (l.take k).filterMap pageF) rfl (by simp at hl2; omega)) ?_
  conv => whnf
  refine ret_of rfl ?_
  rw [hk3, List.take_length, oneD1]
  show D.lst _ = encNs _
  simp [pagesS, h1, encNs]

theorem rfind_ok (l : Slots) (p : Int) (hl : l.length ≤ 1000000) : ACall Try.prog 27 [encT l, .int .i64 p] (.int .i64 (if p = 0 then -1 else placeG l p 0)) := by
  refine acall_of Try.func27 2 rfl (by kernel_rfl) ?_
  conv => whnf
  refine bcase_p (fun h0 => ?_) (fun h0 => ?_) <;> conv => whnf
  · exact ret_of rfl (by rw [if_pos h0]; rfl)
  rw [if_neg h0]
  refine aloop (ι := Nat) (fun k => [(1, .d (.int .i64 p)), (2, .ptr 2 0 0), (5, .d (.int .i64 k))]) (fun _ => [(2, .box [.d (encIs l)] false)])
    (fun k => k ≤ l.length ∧ placeG (l.drop k) p k = placeG l p 0) (fun k => l.length - k) 0 ⟨Nat.zero_le _, rfl⟩ (le0 (le_of_cov ⟨rfl, rfl, rfl, trivial⟩ ⟨rfl, trivial⟩ ⟨rfl, rfl, rfl, rfl⟩)) ?_
  rintro k ⟨hk, hR⟩
  conv => whnf
  repeat (first | (refine bcase_f rfl ?_; conv => whnf) | (refine bcase_t rfl ?_; conv => whnf) | (refine condK_of rfl ?_; conv => whnf) | (refine condK_of (by decide) ?_; conv => whnf) | (refine condK_of (by omega) ?_; conv => whnf) | (refine wrapK_in (w64 (by omega) (by omega)) ?_; conv => whnf))
  refine bcase_p (fun h => ?_) (fun h => ?_) <;> conv => whnf
  · have hk2 : k < l.length := by simpa using h
    repeat (first | (refine bcase_f rfl ?_; conv => whnf) | (refine bcase_t rfl ?_; conv => whnf) | (refine condK_of rfl ?_; conv => whnf) | (refine condK_of (by decide) ?_; conv => whnf) | (refine condK_of (by omega) ?_; conv => whnf) | (refine wrapK_in (w64 (by omega) (by omega)) ?_; conv => whnf))
    refine idxK_nat (by simpa using hk2) ?_
    conv => whnf
    refine getRow_of (x := encI l[k]) (by simp [hk2]) ?_
    conv => whnf
    repeat (first | (refine bcase_f rfl ?_; conv => whnf) | (refine bcase_t rfl ?_; conv => whnf) | (refine condK_of rfl ?_; conv => whnf) | (refine condK_of (by decide) ?_; conv => whnf) | (refine condK_of (by omega) ?_; conv => whnf) | (refine wrapK_in (w64 (by omega) (by omega)) ?_; conv => whnf))
    rw [drop_cons hk2, placeG] at hR
    refine bcase_p (fun h2 => ?_) (fun h2 => ?_) <;> conv => whnf
    · rw [if_pos h2] at hR
      exact ret_of rfl (by rw [← hR]; rfl)
    · rw [if_neg h2] at hR
      repeat (first | (refine bcase_f rfl ?_; conv => whnf) | (refine bcase_t rfl ?_; conv => whnf) | (refine condK_of rfl ?_; conv => whnf) | (refine condK_of (by decide) ?_; conv => whnf) | (refine condK_of (by omega) ?_; conv => whnf) | (refine wrapK_in (w64 (by omega) (by omega)) ?_; conv => whnf))
      exact ⟨k + 1, ⟨by omega, hR⟩, by omega, le0 (le_of_cov ⟨rfl, rfl, rfl, trivial⟩ ⟨rfl, trivial⟩ ⟨rfl, rfl, rfl, rfl⟩)⟩
  · have : k = l.length := by simp at h; omega
    subst this
    simp [placeG] at hR
    exact ret_of rfl (by rw [← hR]; rfl)

def countG (l : Slots) (p : Int) : Nat := l.countP fun x => x.1 == p
theorem there_ok (l : Slots) (p : Int) (hl : l.length ≤ 1000000) : ACall Try.prog 53 [encT l, .int .i64 p] (.int .i64 (countG l p)) := by
  refine acall_of Try.func53 2 rfl (by kernel_rfl) ?_
  conv => whnf
  refine aloop (ι := Nat) (fun k => [(1, .d (.int .i64 p)), (2, .ptr 2 0 0), (5, .d (.int .i64 (countG (l.take k) p))), (6, .d (.int .i64 k))]) (fun _ => [(2, .box [.d (encIs l)] false)])
    (fun k => k ≤ l.length) (fun k => l.length - k) 0 (Nat.zero_le _) (le0 (le_of_cov ⟨rfl, rfl, rfl, rfl, trivial⟩ ⟨rfl, trivial⟩ ⟨rfl, rfl, rfl, rfl⟩)) ?_
  intro k hk
  have hc : countG (l.take k) p ≤ l.length := Nat.le_trans List.countP_le_length (by simp; omega)
  conv => whnf
  repeat (first | (refine bcase_f rfl ?_; conv => whnf) | (refine bcase_t rfl ?_; conv => whnf) | (refine condK_of rfl ?_; conv => whnf) | (refine condK_of (by decide) ?_; conv => whnf) | (refine condK_of (by omega) ?_; conv => whnf) | (refine wrapK_in (w64 (by omega) (by omega)) ?_; conv => whnf))
  refine bcase_p (fun h => ?_) (fun h => ?_) <;> conv => whnf
  · have hk2 : k < l.length := by simpa using h
    repeat (first | (refine bcase_f rfl ?_; conv => whnf) | (refine bcase_t rfl ?_; conv => whnf) | (refine condK_of rfl ?_; conv => whnf) | (refine condK_of (by decide) ?_; conv => whnf) | (refine condK_of (by omega) ?_; conv => whnf) | (refine wrapK_in (w64 (by omega) (by omega)) ?_; conv => whnf))
    refine idxK_nat (by simpa using hk2) ?_
    conv => whnf
    refine getRow_of (x := encI l[k]) (by simp [hk2]) ?_
    conv => whnf
    repeat (first | (refine bcase_f rfl ?_; conv => whnf) | (refine bcase_t rfl ?_; conv => whnf) | (refine condK_of rfl ?_; conv => whnf) | (refine condK_of (by decide) ?_; conv => whnf) | (refine condK_of (by omega) ?_; conv => whnf) | (refine wrapK_in (w64 (by omega) (by omega)) ?_; conv => whnf))
    have hcs : countG (l.take (k + 1)) p = countG (l.take k) p + (if l[k].1 = p then 1 else 0) := by
      unfold countG; rw [take_snoc hk2, List.countP_append, List.countP_cons, List.countP_nil]; simp only [beq_iff_eq, Nat.zero_add]
    refine bcase_p (fun h2 => ?_) (fun h2 => ?_) <;> conv => whnf
    · repeat (first | (refine bcase_f rfl ?_; conv => whnf) | (refine bcase_t rfl ?_; conv => whnf) | (refine condK_of rfl ?_; conv => whnf) | (refine condK_of (by decide) ?_; conv => whnf) | (refine condK_of (by omega) ?_; conv => whnf) | (refine wrapK_in (w64 (by omega) (by omega)) ?_; conv => whnf))
      exact ⟨k + 1, by omega, by omega, le0 (le_of_cov ⟨rfl, rfl, by
        show AV.d (.int .i64 ((countG (l.take k) p : Int) + 1)) = AV.d (.int .i64 (countG (l.take (k + 1)) p)); rw [hcs, if_pos h2]; rfl, rfl, trivial⟩ ⟨rfl, trivial⟩ ⟨rfl, rfl, rfl, rfl⟩)⟩
    · repeat (first | (refine bcase_f rfl ?_; conv => whnf) | (refine bcase_t rfl ?_; conv => whnf) | (refine condK_of rfl ?_; conv => whnf) | (refine condK_of (by decide) ?_; conv => whnf) | (refine condK_of (by omega) ?_; conv => whnf) | (refine wrapK_in (w64 (by omega) (by omega)) ?_; conv => whnf))
      exact ⟨k + 1, by omega, by omega, le0 (le_of_cov ⟨rfl, rfl, by
        show AV.d (.int .i64 (countG (l.take k) p)) = AV.d (.int .i64 (countG (l.take (k + 1)) p)); rw [hcs, if_neg h2]; rfl, rfl, trivial⟩ ⟨rfl, trivial⟩ ⟨rfl, rfl, rfl, rfl⟩)⟩
  · have : k = l.length := by simp at h; omega
    subst this
    exact ret_of rfl (by rw [List.take_length]; rfl)

theorem same_ok (a b : Slots) (ha : a.length ≤ 1000000) (hb : b.length ≤ 1000000) : ACall Try.prog 21 [encT a, encT b] (.bool (decide (a = b))) := by
  refine acall_of Try.func21 2 rfl (by kernel_rfl) ?_
  conv => whnf
  repeat (first | (refine bcase_f rfl ?_; conv => whnf) | (refine bcase_t rfl ?_; conv => whnf) | (refine condK_of rfl ?_; conv => whnf) | (refine condK_of (by decide) ?_; conv => whnf) | (refine condK_of (by omega) ?_; conv => whnf) | (refine wrapK_in (w64 (by omega) (by omega)) ?_; conv => whnf))
  refine bcase_n (fun h0 => ?_) (fun h0 => ?_) <;> conv => whnf
  rotate_left
  · have h0' : a.length = b.length := by simp at h0; omega
    refine aloop (ι := Nat) (fun k => [(2, .ptr 2 0 0), (3, .ptr 3 0 0), (5, .d (.int .i64 k))]) (fun _ => [(2, .box [.d (encIs a)] false), (3, .box [.d (encIs b)] false)])
      (fun k => k ≤ a.length ∧ a.take k = b.take k) (fun k => a.length - k) 0 ⟨Nat.zero_le _, rfl⟩ (le0 (le_of_cov ⟨rfl, rfl, rfl, trivial⟩ ⟨rfl, rfl, trivial⟩ ⟨rfl, rfl, rfl, rfl⟩)) ?_
    rintro k ⟨hk, hR⟩
    conv => whnf
    repeat (first | (refine bcase_f rfl ?_; conv => whnf) | (refine bcase_t rfl ?_; conv => whnf) | (refine condK_of rfl ?_; conv => whnf) | (refine condK_of (by decide) ?_; conv => whnf) | (refine condK_of (by omega) ?_; conv => whnf) | (refine wrapK_in (w64 (by omega) (by omega)) ?_; conv => whnf))
    refine bcase_p (fun h => ?_) (fun h => ?_) <;> conv => whnf
    · have hk2 : k < a.length := by simpa using h
      have hk3 : k < b.length := h0' ▸ hk2
      repeat (first | (refine bcase_f rfl ?_; conv => whnf) | (refine bcase_t rfl ?_; conv => whnf) | (refine condK_of rfl ?_; conv => whnf) | (refine condK_of (by decide) ?_; conv => whnf) | (refine condK_of (by omega) ?_; conv => whnf) | (refine wrapK_in (w64 (by omega) (by omega)) ?_; conv => whnf))
      refine idxK_nat (by simpa using hk2) ?_
      conv => whnf
      refine getRow_of (x := encI a[k]) (by simp [hk2]) ?_
      conv => whnf
      repeat (first | (refine bcase_f rfl ?_; conv => whnf) | (refine bcase_t rfl ?_; conv => whnf) | (refine condK_of rfl ?_; conv => whnf) | (refine condK_of (by decide) ?_; conv => whnf) | (refine condK_of (by omega) ?_; conv => whnf) | (refine wrapK_in (w64 (by omega) (by omega)) ?_; conv => whnf))
      refine idxK_nat (by simpa using hk3) ?_
      conv => whnf
      refine getRow_of (x := encI b[k]) (by simp [hk3]) ?_
      conv => whnf
      repeat (first | (refine bcase_f rfl ?_; conv => whnf) | (refine bcase_t rfl ?_; conv => whnf) | (refine condK_of rfl ?_; conv => whnf) | (refine condK_of (by decide) ?_; conv => whnf) | (refine condK_of (by omega) ?_; conv => whnf) | (refine wrapK_in (w64 (by omega) (by omega)) ?_; conv => whnf))
      refine bcase_intro (fun h1 => ?_) (fun h1 => ?_) <;> conv => whnf
      · have hne : a[k] ≠ b[k] := by intro e; rw [e] at h1; simp at h1
        exact ret_of rfl (congrArg D.bool (by simp; intro e; subst e; exact hne rfl))
      · repeat (first | (refine bcase_f rfl ?_; conv => whnf) | (refine bcase_t rfl ?_; conv => whnf) | (refine condK_of rfl ?_; conv => whnf) | (refine condK_of (by decide) ?_; conv => whnf) | (refine condK_of (by omega) ?_; conv => whnf) | (refine wrapK_in (w64 (by omega) (by omega)) ?_; conv => whnf))
        have he : a[k] = b[k] := by simp at h1; exact Prod.ext h1.1 h1.2
        exact ⟨k + 1, ⟨by omega, by rw [take_snoc hk2, take_snoc hk3, hR, he]⟩, by omega, le0 (le_of_cov ⟨rfl, rfl, rfl, trivial⟩ ⟨rfl, rfl, trivial⟩ ⟨rfl, rfl, rfl, rfl⟩)⟩
    · have : k = a.length := by simp at h; omega
      subst this
      rw [List.take_length, h0', List.take_length] at hR
      exact ret_of rfl (by rw [hR]; simp)
  · exact ret_of rfl (congrArg D.bool (by simp at h0 ⊢; intro e; rw [e] at h0; exact h0 rfl))
end Go.Lk.Tb


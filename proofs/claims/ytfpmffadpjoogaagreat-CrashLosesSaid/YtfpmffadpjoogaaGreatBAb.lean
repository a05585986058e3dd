/-
  What is proved here: what functions of the program compute, and what follows; no condition beyond each theorem's own.
-/
import Derived.Test.YtfpmffadpjoogaaGreatBAa
import Derived.Laws.CopyRow
import Derived.Laws.MakeOwn
import Derived.Great.BuildSlice
set_option linter.unusedSimpArgs false
set_option linter.unusedVariables false
set_option linter.unnecessarySimpa false
set_option linter.unusedSectionVars false
namespace Go.Lk
open Go Go.RowKit

def Blk.fr : Blk → Bool
  | .row _ _ fr => fr
  | .box _ fr => fr

theorem RowAt.mono {M M' : Mem} (h : Sub M M') {cs : Array Value} {l : List (List D)} {sz : Nat} (hr : RowAt M cs l sz) : RowAt M' cs l sz :=
  ⟨hr.len, fun i j e d h1 h2 => let ⟨v, e1, e2⟩ := hr.den i j e d h1 h2; ⟨v, e1, e2.mono h⟩⟩
theorem BoxAt.mono {M M' : Mem} (h : Sub M M') {ι : Inj} {cs : Array Value} {c : List AV} (hr : BoxAt M ι cs c) : BoxAt M' ι cs c :=
  ⟨hr.size, fun j x h1 => let ⟨v, e1, e2⟩ := hr.den j x h1; ⟨v, e1, e2.mono h⟩⟩

theorem killV_cases (b : Nat) (x : AV) : killV b x = x ∨ killV b x = .dead := by
  cases x with
  | own b' => simp only [killV]; cases Fm b b' <;> simp
  | ptr b' i j => simp only [killV]; cases Fm b b' <;> simp
  | win b' lo n c => simp only [killV]; cases Fm b b' <;> simp
  | agg c => simp only [killV]; cases killV.names b c <;> simp
  | tup c => simp only [killV]; cases killV.parts b c <;> simp
  | fn f c => simp only [killV]; cases killV.names b c <;> simp
  | d x => exact .inl rfl
  | tt => exact .inl rfl
  | ff => exact .inl rfl
  | nil => exact .inl rfl
  | dead => exact .inl rfl

theorem killB_cells_get (b : Nat) (c : List AV) (j : Nat) : (killB.cells b c)[j]? = (c[j]?).map (killV b) := by
  induction c generalizing j with
  | nil => rfl
  | cons x r ih =>
    cases j with
    | zero => rfl
    | succ j => simpa [killB.cells] using ih j
theorem killB_cells_len (b : Nat) (c : List AV) : (killB.cells b c).length = c.length := by
  induction c with
  | nil => rfl
  | cons x r ih => simp [killB.cells, ih]

theorem BoxAt.kill {M : Mem} {ι ι' : Inj} {b : Nat} (hι : ∀ b', Fm b b' = false → ι' b' = ι b') {cs : Array Value} {c : List AV} (hr : BoxAt M ι cs c) : BoxAt M ι' cs (killB.cells b c) := by
  refine ⟨by rw [killB_cells_len]; exact hr.size, fun j x h1 => ?_⟩
  rw [killB_cells_get] at h1
  cases hc : c[j]? with
  | none => simp [hc] at h1
  | some y =>
    simp only [hc, Option.map_some, Option.some.injEq] at h1
    subst h1
    obtain ⟨v, e1, e2⟩ := hr.den j y hc
    exact ⟨v, e1, (e2.killV b).turn hι (killV_free b y)⟩

theorem BlkAt.keep {M M' : Mem} {ι : Inj} {w w' : World} {B : Blk} {L : Loc} (h : BlkAt M ι w B L) (hs : Sub M M') (hw : w'.heap[L.blk]? = w.heap[L.blk]?) (hf : B.fr = false → ∀ o, M' L.blk o = none) : BlkAt M' ι w' B L := by
  obtain ⟨cs, T, h1, h2, h3⟩ := h
  refine ⟨cs, T, hw.trans h1, h2, ?_⟩
  cases B with
  | row l sz fr =>
    obtain ⟨a1, a2, a3, a4, a5⟩ := h3
    exact ⟨a1, a2, a3, a4.mono hs, fun hfr o v ho hv => hs _ _ _ (a5.1 hfr o v ho hv), hf⟩
  | box c fr =>
    obtain ⟨a1, a2, a3, a5⟩ := h3
    exact ⟨a1, a2, a3.mono hs, fun hfr o v ho hv => hs _ _ _ (a5.1 hfr o v ho hv), hf⟩

theorem BlkAt.kill {M : Mem} {ι ι' : Inj} {w : World} {B : Blk} {L : Loc} {b : Nat} (hι : ∀ b', Fm b b' = false → ι' b' = ι b') (h : BlkAt M ι w B L) : BlkAt M ι' w (killB b B) L := by
  obtain ⟨cs, T, h1, h2, h3⟩ := h
  refine ⟨cs, T, h1, h2, ?_⟩
  cases B with
  | row l sz fr => exact h3
  | box c fr =>
    obtain ⟨a1, a2, a3, a5⟩ := h3
    exact ⟨by rw [killB_cells_len]; exact a1, by rw [killB_cells_len]; exact a2, a3.kill hι, by rw [killB_cells_len]; exact a5⟩

theorem killB_fr (b : Nat) (B : Blk) : (killB b B).fr = B.fr := by cases B <;> rfl

theorem upd_same {α : Type} (f : Nat → α) (t : Nat) (v : α) : upd f t v t = v := by simp [upd]
theorem upd_other {α : Type} (f : Nat → α) {t s : Nat} (v : α) (h : s ≠ t) : upd f t v s = f s := by
  have : Nat.beq s t = false := by
    cases hb : Nat.beq s t with
    | false => rfl
    | true => exact absurd (Nat.eq_of_beq_eq_true hb) h
  simp [upd, this]

theorem killH_none_iff (k : Option Nat) (hp : Nat → Option Blk) (b : Nat) : killH k hp b = none ↔ hp b = none := by
  cases k with
  | none => exact Iff.rfl
  | some k => simp only [killH]; cases hp b <;> simp
theorem killH_some {k : Nat} {hp : Nat → Option Blk} {b : Nat} {B : Blk} (h : killH (some k) hp b = some B) : ∃ B0, hp b = some B0 ∧ B = killB k B0 := by
  simp only [killH] at h
  cases hb : hp b with
  | none => simp [hb] at h
  | some B0 => simp only [hb, Option.some.injEq] at h; exact ⟨B0, rfl, h.symm⟩

/-- a block of its own comes under a name, new or taken anew; the others stay -/
theorem HRel.new {own : Nat → Prop} {M M' : Mem} {ι : Inj} {hp : Nat → Option Blk} {w w' : World} (h : HRel own M ι hp w) (b : Nat) (B : Blk) (L : Loc) (hs : Sub M M')
    (ho : own L.blk) (hB : BlkAt M' (upd ι b (some (some L))) w' B L)
    (hoth : ∀ b' L', b' ≠ b → ι b' = some (some L') → L'.blk ≠ L.blk ∧ w'.heap[L'.blk]? = w.heap[L'.blk]? ∧ ∀ B', hp b' = some B' → B'.fr = false → ∀ o, M' L'.blk o = none) :
    HRel own M' (upd ι b (some (some L))) (upd (killH (some b) hp) b (some B)) w' := by
  have hne : ∀ b', b' ≠ b → upd ι b (some (some L)) b' = ι b' := fun b' hb => upd_other _ _ hb
  refine ⟨fun b' => ?_, fun b' hb' => ?_, fun b' B' L' hB' hL' => ?_, fun b1 b2 L1 L2 h1 h2 he => ?_⟩
  · by_cases hb : b' = b
    · subst hb; simp [upd_same]
    · rw [upd_other _ _ hb, upd_other _ _ hb, killH_none_iff]; exact h.dom b'
  · by_cases hb : b' = b
    · subst hb; rw [upd_same] at hb'; cases hb'
    · rw [upd_other _ _ hb] at hb'
      obtain ⟨sz, fr, e⟩ := h.virt b' hb'
      exact ⟨sz, fr, by rw [upd_other _ _ hb]; simp [killH, e, killB]⟩
  · by_cases hb : b' = b
    · subst hb
      rw [upd_same] at hB' hL'
      cases hB'; cases hL'
      exact ⟨ho, hB⟩
    · rw [upd_other _ _ hb] at hB' hL'
      obtain ⟨B0, e0, rfl⟩ := killH_some hB'
      obtain ⟨o1, o2⟩ := h.at_ b' B0 L' e0 hL'
      obtain ⟨_, e2, e3⟩ := hoth b' L' hb hL'
      exact ⟨o1, BlkAt.kill (fun b' hb => hne b' (Fm_ne hb)) (o2.keep hs e2 (e3 B0 e0))⟩
  · by_cases hb1 : b1 = b
    · subst hb1
      rw [upd_same] at h1; cases h1
      by_cases hb2 : b2 = b1
      · exact hb2.symm
      · rw [upd_other _ _ hb2] at h2
        exact absurd he.symm (hoth b2 L2 hb2 h2).1
    · rw [upd_other _ _ hb1] at h1
      by_cases hb2 : b2 = b
      · subst hb2
        rw [upd_same] at h2; cases h2
        exact absurd he (hoth b1 L1 hb1 h1).1
      · rw [upd_other _ _ hb2] at h2
        exact h.inj b1 b2 L1 L2 h1 h2 he

/-- a name of no cells yet -/
theorem HRel.virtual {own : Nat → Prop} {M : Mem} {ι : Inj} {hp : Nat → Option Blk} {w : World} (h : HRel own M ι hp w) (b : Nat) (sz : Nat) (fr : Bool) :
    HRel own M (upd ι b (some none)) (upd (killH (some b) hp) b (some (.row [] sz fr))) w := by
  have hne : ∀ b', b' ≠ b → upd ι b (some none) b' = ι b' := fun b' hb => upd_other _ _ hb
  refine ⟨fun b' => ?_, fun b' hb' => ?_, fun b' B' L' hB' hL' => ?_, fun b1 b2 L1 L2 h1 h2 he => ?_⟩
  · by_cases hb : b' = b
    · subst hb; simp [upd_same]
    · rw [upd_other _ _ hb, upd_other _ _ hb, killH_none_iff]; exact h.dom b'
  · by_cases hb : b' = b
    · subst hb; exact ⟨sz, fr, upd_same _ _ _⟩
    · rw [upd_other _ _ hb] at hb'
      obtain ⟨sz, fr, e⟩ := h.virt b' hb'
      exact ⟨sz, fr, by rw [upd_other _ _ hb]; simp [killH, e, killB]⟩
  · by_cases hb : b' = b
    · subst hb; rw [upd_same] at hL'; cases hL'
    · rw [upd_other _ _ hb] at hB' hL'
      obtain ⟨B0, e0, rfl⟩ := killH_some hB'
      obtain ⟨o1, o2⟩ := h.at_ b' B0 L' e0 hL'
      exact ⟨o1, BlkAt.kill (fun b' hb => hne b' (Fm_ne hb)) o2⟩
  · have a1 : b1 ≠ b := by rintro rfl; rw [upd_same] at h1; cases h1
    have a2 : b2 ≠ b := by rintro rfl; rw [upd_same] at h2; cases h2
    rw [upd_other _ _ a1] at h1
    rw [upd_other _ _ a2] at h2
    exact h.inj b1 b2 L1 L2 h1 h2 he

/-- a block is written where it lies -/
theorem HRel.set {own : Nat → Prop} {M M' : Mem} {ι : Inj} {hp : Nat → Option Blk} {w w' : World} (h : HRel own M ι hp w) (b : Nat) (B : Blk) (hb0 : hp b ≠ none) (hs : Sub M M')
    (hv : ι b = some none → ∃ sz fr, B = .row [] sz fr)
    (hB : ∀ L, ι b = some (some L) → BlkAt M' ι w' B L)
    (hoth : ∀ b' L', b' ≠ b → ι b' = some (some L') → w'.heap[L'.blk]? = w.heap[L'.blk]? ∧ ∀ B', hp b' = some B' → B'.fr = false → ∀ o, M' L'.blk o = none) :
    HRel own M' ι (upd hp b (some B)) w' := by
  refine ⟨fun b' => ?_, fun b' hb' => ?_, fun b' B' L' hB' hL' => ?_, h.inj⟩
  · by_cases hb : b' = b
    · subst hb; rw [upd_same]
      exact ⟨(by intro e; cases e), fun e => absurd ((h.dom b').2 e) hb0⟩
    · rw [upd_other _ _ hb]; exact h.dom b'
  · by_cases hb : b' = b
    · subst hb
      obtain ⟨sz, fr, rfl⟩ := hv hb'
      exact ⟨sz, fr, upd_same _ _ _⟩
    · rw [upd_other _ _ hb]; exact h.virt b' hb'
  · by_cases hb : b' = b
    · subst hb
      rw [upd_same] at hB'; cases hB'
      refine ⟨?_, hB L' hL'⟩
      cases e0 : hp b' with
      | none => exact absurd e0 hb0
      | some B0 => exact (h.at_ b' B0 L' e0 hL').1
    · rw [upd_other _ _ hb] at hB'
      obtain ⟨o1, o2⟩ := h.at_ b' B' L' hB' hL'
      obtain ⟨e2, e3⟩ := hoth b' L' hb hL'
      exact ⟨o1, o2.keep hs e2 (e3 B' hB')⟩

/-- nothing of the call's own is touched -/
theorem HRel.keep {own : Nat → Prop} {M M' : Mem} {ι : Inj} {hp : Nat → Option Blk} {w w' : World} (h : HRel own M ι hp w) (hs : Sub M M')
    (hoth : ∀ b' L', ι b' = some (some L') → w'.heap[L'.blk]? = w.heap[L'.blk]? ∧ ∀ B', hp b' = some B' → B'.fr = false → ∀ o, M' L'.blk o = none) : HRel own M' ι hp w' :=
  ⟨h.dom, h.virt, fun b' B' L' hB' hL' => ⟨(h.at_ b' B' L' hB' hL').1, (h.at_ b' B' L' hB' hL').2.keep hs (hoth b' L' hL').1 ((hoth b' L' hL').2 B' hB')⟩, h.inj⟩

theorem HRel.closed {own : Nat → Prop} {M : Mem} {ι : Inj} {hp : Nat → Option Blk} {w : World} (h : HRel own M ι hp w) {b : Nat} {L : Loc} (hL : ι b = some (some L)) : ∀ B, hp b = some B → B.fr = false → ∀ o, M L.blk o = none := by
  intro B hB hf
  obtain ⟨_, cs, T, _, _, h3⟩ := h.at_ b B L hB hL
  cases B with
  | row l sz fr => exact h3.2.2.2.2.2 hf
  | box c fr => exact h3.2.2.2.2 hf
theorem HRel.lt {own : Nat → Prop} {M : Mem} {ι : Inj} {hp : Nat → Option Blk} {w : World} (h : HRel own M ι hp w) {b : Nat} {L : Loc} (hL : ι b = some (some L)) : L.blk < w.heap.size := by
  cases hb : hp b with
  | none => rw [(h.dom b).1 hb] at hL; cases hL
  | some B =>
    obtain ⟨_, cs, T, h1, _⟩ := h.at_ b B L hb hL
    exact (Array.getElem?_eq_some_iff.1 h1).1

/-- the memory with a block laid fast -/
def addMem (M : Mem) (blk n : Nat) (cs : Array Value) : Mem := fun b o => if b = blk then (if o < n then cs[o]? else M b o) else M b o

/-- **a block is frozen**: what it holds is part of the immutable memory from here on -/
theorem freeze {own : Nat → Prop} {M : Mem} {ι : Inj} {hp : Nat → Option Blk} {w : World} (ha : Agree M w) (h : HRel own M ι hp w) {b : Nat} {B B' : Blk} (hb : hp b = some B)
    (hB : (∃ l sz fr, B = .row l sz fr ∧ B' = .row l sz true) ∨ (∃ c fr, B = .box c fr ∧ B' = .box c true)) :
    ∃ M', Sub M M' ∧ Agree M' w ∧ NewDom own M M' ∧ HRel own M' ι (upd hp b (some B')) w := by
  have hb0 : hp b ≠ none := by rw [hb]; simp
  cases hι : ι b with
  | none => exact absurd ((h.dom b).2 hι) hb0
  | some oL =>
    cases oL with
    | none =>
      refine ⟨M, .refl M, ha, .refl _ _, h.set b B' hb0 (.refl M) (fun _ => ?_) (fun L hL => by rw [hι] at hL; cases hL) (fun b' L' _ hL' => ⟨rfl, h.closed hL'⟩)⟩
      obtain ⟨sz, fr, e⟩ := h.virt b hι
      rw [hb] at e
      cases e
      rcases hB with ⟨l, sz, fr, e1, e2⟩ | ⟨c, fr, e1, e2⟩
      · cases e1; exact ⟨_, _, e2⟩
      · cases e1
    | some L =>
      obtain ⟨hown, cs, Ty, hheap, hsz, hrest⟩ := h.at_ b B L hb hι
      cases hfr : B.fr with
      | true =>
        have : B' = B := by
          rcases hB with ⟨l, sz, fr, e1, e2⟩ | ⟨c, fr, e1, e2⟩ <;> subst e1 <;> simp only [Blk.fr] at hfr <;> subst hfr <;> exact e2
        subst this
        refine ⟨M, .refl M, ha, .refl _ _, h.set b B' hb0 (.refl M) (fun e => by rw [hι] at e; cases e) (fun L' hL' => (h.at_ b B' L' hb hL').2) (fun b' L' _ hL' => ⟨rfl, h.closed hL'⟩)⟩
      | false =>
        have hcl := h.closed hι B hb hfr
        let n := match B with | .row l sz _ => l.length * sz | .box c _ => c.length
        have hn : n ≤ cs.size := by
          cases B with
          | row l sz fr => simp only [n]; rw [hsz]; exact hrest.2.2.1
          | box c fr => simp only [n]; exact Nat.le_of_eq hrest.2.2.1.size.symm
        have hsub : Sub M (addMem M L.blk n cs) := by
          intro b' o v hv
          unfold addMem
          by_cases hbb : b' = L.blk
          · subst hbb; rw [hcl o] at hv; cases hv
          · rw [if_neg hbb]; exact hv
        have hagree : Agree (addMem M L.blk n cs) w := by
          intro b' o v hv
          unfold addMem at hv
          by_cases hbb : b' = L.blk
          · subst hbb
            rw [if_pos rfl] at hv
            split at hv
            · rw [cell_of_heap hheap]; exact hv
            · exact ha _ _ _ hv
          · rw [if_neg hbb] at hv; exact ha _ _ _ hv
        refine ⟨addMem M L.blk n cs, hsub, hagree, ?_, h.set b B' hb0 hsub (fun e => by rw [hι] at e; cases e) (fun L' hL' => ?_) (fun b' L' hne hL' => ⟨rfl, fun B2 hB2 hf2 o => ?_⟩)⟩
        · intro b' o v hv
          unfold addMem at hv
          by_cases hbb : b' = L.blk
          · subst hbb; exact .inr hown
          · rw [if_neg hbb] at hv; exact .inl hv
        · rw [hι] at hL'; cases hL'
          refine ⟨cs, Ty, hheap, hsz, ?_⟩
          rcases hB with ⟨l, sz, fr, e1, e2⟩ | ⟨c, fr, e1, e2⟩
          · subst e1 e2
            obtain ⟨a1, a2, a3, a4, a5⟩ := hrest
            exact ⟨a1, a2, a3, a4.mono hsub, fun _ o v ho hv => by simp only [addMem, n, if_pos, ho]; exact hv, fun e => by cases e⟩
          · subst e1 e2
            obtain ⟨a1, a2, a3, a5⟩ := hrest
            exact ⟨a1, a2, a3.mono hsub, fun _ o v ho hv => by simp only [addMem, n, if_pos, ho]; exact hv, fun e => by cases e⟩
        · have hnb : L'.blk ≠ L.blk := fun e => hne (h.inj b' b L' L hL' hι e)
          simp only [addMem, if_neg hnb]
          exact h.closed hL' B2 hB2 hf2 o
end Go.Lk

namespace Go.Lk
open Go Go.RowKit

/-- rows may have been frozen in between -/
def FrzLe (hp hp' : Nat → Option Blk) : Prop := ∀ b, hp' b = hp b ∨ ∃ l sz fr, hp b = some (.row l sz fr) ∧ hp' b = some (.row l sz true)

theorem FrzLe.refl (hp : Nat → Option Blk) : FrzLe hp hp := fun _ => .inl rfl

theorem FrzLe.step {hp0 hp : Nat → Option Blk} (h : FrzLe hp0 hp) {b : Nat} {l : List (List D)} {sz : Nat} {fr : Bool} (hb : hp0 b = some (.row l sz fr)) : FrzLe hp0 (upd hp b (some (.row l sz true))) := by
  intro b'
  by_cases e : b' = b
  · subst e; rw [upd_same]; exact .inr ⟨l, sz, fr, hb, rfl⟩
  · rw [upd_other _ _ e]; exact h b'

theorem freezeAll {own : Nat → Prop} {ι : Inj} {w : World} {hp0 : Nat → Option Blk} : ∀ (ns : List Nat) (M : Mem) (hp : Nat → Option Blk), Agree M w → HRel own M ι hp w → FrzLe hp0 hp →
    ∃ M', Sub M M' ∧ Agree M' w ∧ NewDom own M M' ∧ HRel own M' ι (writes hp (frz hp0 ns)) w ∧ FrzLe hp0 (writes hp (frz hp0 ns)) ∧
      (∀ b l sz fr, (b ∈ ns ∨ hp b = some (.row l sz true)) → hp0 b = some (.row l sz fr) → writes hp (frz hp0 ns) b = some (.row l sz true))
  | [], M, hp, ha, hh, hl => ⟨M, .refl M, ha, .refl _ _, hh, hl, fun b l sz fr h _ => by
      rcases h with h | h
      · cases h
      · exact h⟩
  | b :: ns, M, hp, ha, hh, hl => by
    have go : ∀ (hp1 : Nat → Option Blk) (M1 : Mem), Sub M M1 → Agree M1 w → NewDom own M M1 → HRel own M1 ι hp1 w → FrzLe hp0 hp1 → (∀ b l sz, hp b = some (.row l sz true) → hp1 b = some (.row l sz true)) →
        (∀ l sz fr, hp0 b = some (.row l sz fr) → hp1 b = some (.row l sz true)) → writes hp (frz hp0 (b :: ns)) = writes hp1 (frz hp0 ns) →
        ∃ M', Sub M M' ∧ Agree M' w ∧ NewDom own M M' ∧ HRel own M' ι (writes hp (frz hp0 (b :: ns))) w ∧ FrzLe hp0 (writes hp (frz hp0 (b :: ns))) ∧
          (∀ c l sz fr, (c ∈ b :: ns ∨ hp c = some (.row l sz true)) → hp0 c = some (.row l sz fr) → writes hp (frz hp0 (b :: ns)) c = some (.row l sz true)) := by
      intro hp1 M1 s1 a1 n1 h1 l1 k1 k2 e
      obtain ⟨M', s2, a2, n2, h2, l2, f2⟩ := freezeAll (hp0 := hp0) ns M1 hp1 a1 h1 l1
      rw [e]
      refine ⟨M', s1.trans s2, a2, n1.trans n2, h2, l2, fun c l sz fr hc hc0 => ?_⟩
      rcases hc with hc | hc
      · cases hc with
        | head => exact f2 _ l sz fr (.inr (k2 l sz fr hc0)) hc0
        | tail _ hc => exact f2 _ l sz fr (.inl hc) hc0
      · exact f2 _ l sz fr (.inr (k1 _ _ _ hc)) hc0
    cases h0 : hp0 b with
    | none => exact go hp M (.refl M) ha (.refl _ _) hh hl (fun _ _ _ h => h) (fun l sz fr e => by rw [h0] at e; cases e) (by simp [frz, h0])
    | some B =>
      cases B with
      | box c fr => exact go hp M (.refl M) ha (.refl _ _) hh hl (fun _ _ _ h => h) (fun l sz fr e => by rw [h0] at e; cases e) (by simp [frz, h0])
      | row l sz fr =>
        have hb : ∃ fr', hp b = some (.row l sz fr') := by
          rcases hl b with e | ⟨l', sz', fr', e1, e2⟩
          · exact ⟨fr, e.trans h0⟩
          · rw [h0] at e1; cases e1; exact ⟨true, e2⟩
        obtain ⟨fr', hb⟩ := hb
        obtain ⟨M1, s1, a1, n1, h1⟩ := freeze ha hh hb (B' := .row l sz true) (.inl ⟨_, _, _, rfl, rfl⟩)
        refine go (upd hp b (some (.row l sz true))) M1 s1 a1 n1 h1 (hl.step h0) (fun c l' sz' e => ?_) (fun l' sz' fr' e => by rw [h0] at e; cases e; exact upd_same _ _ _) (by simp [frz, h0, writes])
        by_cases hc : c = b
        · subst hc; rw [hb] at e; cases e; exact upd_same _ _ _
        · rw [upd_other _ _ hc]; exact e

theorem conv_one_frz {hp hp' : Nat → Option Blk} (h : FrzLe hp hp') (x : AV) : conv.one hp' x = conv.one hp x := by
  cases x with
  | own b =>
    simp only [conv.one]
    rcases h b with e | ⟨l, sz, fr, e1, e2⟩
    · rw [e]
    · rw [e1, e2]
  | _ => rfl
theorem conv_cells_frz {hp hp' : Nat → Option Blk} (h : FrzLe hp hp') : ∀ c : List AV, conv.cells hp' c = conv.cells hp c
  | [] => rfl
  | x :: r => by simp only [conv.cells, conv_one_frz h, conv_cells_frz h r]
theorem conv_cap_frz {hp hp' : Nat → Option Blk} (h : FrzLe hp hp') (x : AV) : conv.cap1 hp' x = conv.cap1 hp x := by
  cases x with
  | ptr b i j =>
    simp only [conv.cap1]
    rcases h b with e | ⟨l, sz, fr, e1, e2⟩
    · rw [e]
    · rw [e1, e2]
  | _ => rfl
theorem conv_caps_frz {hp hp' : Nat → Option Blk} (h : FrzLe hp hp') : ∀ c : List AV, conv.caps hp' c = conv.caps hp c
  | [] => rfl
  | x :: r => by simp only [conv.caps, conv_cap_frz h, conv_caps_frz h r]
theorem conv_frz {hp hp' : Nat → Option Blk} (h : FrzLe hp hp') (x : AV) : conv hp' x = conv hp x := by
  cases x with
  | own b =>
    simp only [conv]
    rcases h b with e | ⟨l, sz, fr, e1, e2⟩
    · rw [e]
    · rw [e1, e2]
  | agg c => simp only [conv, conv_cells_frz h]
  | fn f c => simp only [conv, conv_caps_frz h]
  | _ => rfl

/-- a frozen row denotes its list -/
theorem den_own {own : Nat → Prop} {M : Mem} {ι : Inj} {hp : Nat → Option Blk} {w : World} (hh : HRel own M ι hp w) {b : Nat} {l : List (List D)} {sz : Nat} {v : Value} (hb : hp b = some (.row l sz true)) (hd : DenA M ι (.own b) v) : DenD M (.lst l) v := by
  cases hd with
  | own _ L cap hL hn hc =>
    obtain ⟨_, cs, Ty, hheap, hsz, a1, a2, a3, a4, a5⟩ := hh.at_ b _ L hb hL
    rw [← a2]
    refine .lst l L.blk 0 cap sz (fun i j => (cs[i * sz + j]?).getD undef) (by omega) a4.len (fun i j e d h1 h2 => ?_) fun i j e d h1 h2 => ?_
    · obtain ⟨v, e1, e2⟩ := a4.den i j e d h1 h2
      have hlt : i * sz + j < l.length * sz := by
        have hi := (List.getElem?_eq_some_iff.1 h1).1
        have hj := (List.getElem?_eq_some_iff.1 h2).1
        rw [a4.len i e h1] at hj
        calc i * sz + j < i * sz + sz := by omega
          _ = (i + 1) * sz := by rw [Nat.add_mul, Nat.one_mul]
          _ ≤ l.length * sz := Nat.mul_le_mul_right _ hi
      simp only [Nat.zero_add, e1, Option.getD_some]
      exact a5.1 rfl _ _ hlt e1
    · obtain ⟨v, e1, e2⟩ := a4.den i j e d h1 h2
      simpa [e1] using e2
  | ownE _ a hL =>
    obtain ⟨sz', fr', e⟩ := hh.virt b hL
    rw [hb] at e; cases e
    exact .emp _ _
  | ownL _ _ hL => rw [(hh.dom b).2 hL] at hb; cases hb

theorem den_pure1 {M : Mem} {ι : Inj} {x : AV} {d : D} {v : Value} (h : conv.pure1 x = some d) (hd : DenA M ι x v) : DenD M d v := by
  cases x <;> simp only [conv.pure1, Option.some.injEq] at h <;> first | (subst h; cases hd) | cases h
  case d hd => exact hd
  case tt => exact .bool _
  case ff => exact .bool _
  case nil a => exact .emp _ _

theorem pures_get {c : List AV} {ds : List D} (h : conv.pures c = some ds) : ds.length = c.length ∧ ∀ (i : Nat) (d : D), ds[i]? = some d → ∃ x, c[i]? = some x ∧ conv.pure1 x = some d := by
  induction c generalizing ds with
  | nil => simp only [conv.pures, Option.some.injEq] at h; subst h; simp
  | cons x r ih =>
    simp only [conv.pures] at h
    cases h1 : conv.pure1 x with
    | none => simp [h1] at h
    | some d0 =>
      cases h2 : conv.pures r with
      | none => simp [h1, h2] at h
      | some ds0 =>
        simp only [h1, h2, Option.bind_some, Option.map_some, Option.some.injEq] at h
        subst h
        obtain ⟨e1, e2⟩ := ih h2
        refine ⟨by simp [e1], fun i d hi => ?_⟩
        cases i with
        | zero => simp only [List.getElem?_cons_zero, Option.some.injEq] at hi ⊢; subst hi; exact ⟨x, rfl, h1⟩
        | succ i => simpa using e2 i d (by simpa using hi)

/-- all open names of x are frozen in hp -/
def AllFr (hp : Nat → Option Blk) (x : AV) : Prop := ∀ b ∈ openNames hp x, False

section
variable {own : Nat → Prop} {M : Mem} {ι : Inj} {hp : Nat → Option Blk} {w : World} (hh : HRel own M ι hp w)
include hh

theorem den_conv_one {x : AV} {d : D} {v : Value} (h : conv.one hp x = some d) (ho : openNames.one hp x = []) (hd : DenA M ι x v) : DenD M d v := by
  cases x with
  | own b =>
    simp only [conv.one] at h
    cases hb : hp b with
    | none => simp [hb] at h
    | some B =>
      cases B with
      | box c fr => simp [hb] at h
      | row l sz fr =>
        simp only [hb, Option.some.injEq] at h
        subst h
        cases fr with
        | false => simp [openNames.one, hb] at ho
        | true => exact den_own hh hb hd
  | d x => simp only [conv.one, Option.some.injEq] at h; subst h; cases hd with | d _ _ hd => exact hd
  | tt => simp only [conv.one, Option.some.injEq] at h; subst h; cases hd; exact .bool _
  | ff => simp only [conv.one, Option.some.injEq] at h; subst h; cases hd; exact .bool _
  | nil => simp only [conv.one, Option.some.injEq] at h; subst h; cases hd; exact .emp _ _
  | agg c => simp [conv.one] at h
  | tup c => simp [conv.one] at h
  | ptr b i j => simp [conv.one] at h
  | win b lo n c => simp [conv.one] at h
  | fn f c => simp [conv.one] at h
  | dead => simp [conv.one] at h

omit hh in
theorem conv_cells_get {c : List AV} {ds : List D} (h : conv.cells hp c = some ds) : ds.length = c.length ∧ ∀ (i : Nat) (d : D), ds[i]? = some d → ∃ x, c[i]? = some x ∧ conv.one hp x = some d ∧ (openNames.cells hp c = [] → openNames.one hp x = []) := by
  induction c generalizing ds with
  | nil => simp only [conv.cells, Option.some.injEq] at h; subst h; simp
  | cons x r ih =>
    simp only [conv.cells] at h
    cases h1 : conv.one hp x with
    | none => simp [h1] at h
    | some d0 =>
      cases h2 : conv.cells hp r with
      | none => simp [h1, h2] at h
      | some ds0 =>
        simp only [h1, h2, Option.bind_some, Option.map_some, Option.some.injEq] at h
        subst h
        obtain ⟨e1, e2⟩ := ih h2
        refine ⟨by simp [e1], fun i d hi => ?_⟩
        cases i with
        | zero =>
          simp only [List.getElem?_cons_zero, Option.some.injEq] at hi ⊢
          subst hi
          exact ⟨x, rfl, h1, fun ho => by simp only [openNames.cells, List.append_eq_nil_iff] at ho; exact ho.1⟩
        | succ i =>
          obtain ⟨y, g1, g2, g3⟩ := e2 i d (by simpa using hi)
          exact ⟨y, by simpa using g1, g2, fun ho => by simp only [openNames.cells, List.append_eq_nil_iff] at ho; exact g3 ho.2⟩

theorem den_cap1 {x : AV} {d : D} {v : Value} (h : conv.cap1 hp x = some d) (hd : DenA M ι x v) : DenD M d v := by
  cases x with
  | ptr b i j =>
    simp only [conv.cap1] at h
    cases hb : hp b with
    | none => simp [hb] at h
    | some B =>
      cases B with
      | row l sz fr => simp [hb] at h
      | box c fr =>
        cases fr with
        | false => simp [hb] at h
        | true =>
          simp only [hb] at h
          cases hi : Nat.beq i 0 with
          | false => simp [hi] at h
          | true =>
            have := Nat.eq_of_beq_eq_true hi
            subst this
            cases hp1 : conv.pures c with
            | none => simp [hp1] at h
            | some ds =>
              simp only [hi, hp1, cond_true, Option.map_some, Option.some.injEq] at h
              subst h
              cases hd with
              | ptr _ _ _ L hL =>
                obtain ⟨_, cs, Ty, hheap, hsz, a1, a2, a3, a5⟩ := hh.at_ b _ L hb hL
                obtain ⟨g1, g2⟩ := pures_get hp1
                rw [show 0 * L.sz + j = 0 + j by omega]
                refine .dp _ _ _ _ (fun k => (cs[k]?).getD undef) (fun k d hk => ?_) fun k d hk => ?_
                · obtain ⟨x, h1, h2⟩ := g2 k d hk
                  obtain ⟨v, e1, e2⟩ := a3.den k x h1
                  simp only [Nat.zero_add, e1, Option.getD_some]
                  exact a5.1 rfl _ _ (List.getElem?_eq_some_iff.1 h1).1 e1
                · obtain ⟨x, h1, h2⟩ := g2 k d hk
                  obtain ⟨v, e1, e2⟩ := a3.den k x h1
                  simpa [e1] using den_pure1 h2 e2
              | ptrL _ _ _ _ hL => rw [(hh.dom b).2 hL] at hb; cases hb
  | d x => simp only [conv.cap1, Option.some.injEq] at h; subst h; cases hd with | d _ _ hd => exact hd
  | tt => simp only [conv.cap1, Option.some.injEq] at h; subst h; cases hd; exact .bool _
  | ff => simp only [conv.cap1, Option.some.injEq] at h; subst h; cases hd; exact .bool _
  | nil => simp [conv.cap1] at h
  | win b lo n c => simp [conv.cap1] at h
  | agg c => simp [conv.cap1] at h
  | tup c => simp [conv.cap1] at h
  | own b => simp [conv.cap1] at h
  | fn f c => simp [conv.cap1] at h
  | dead => simp [conv.cap1] at h

theorem den_caps {c : List AV} {ds : List D} (h : conv.caps hp c = some ds) : ds.length = c.length ∧ ∀ (i : Nat) (d : D), ds[i]? = some d → ∃ x, c[i]? = some x ∧ ∀ v, DenA M ι x v → DenD M d v := by
  induction c generalizing ds with
  | nil => simp only [conv.caps, Option.some.injEq] at h; subst h; simp
  | cons x r ih =>
    simp only [conv.caps] at h
    cases h1 : conv.cap1 hp x with
    | none => simp [h1] at h
    | some d0 =>
      cases h2 : conv.caps hp r with
      | none => simp [h1, h2] at h
      | some ds0 =>
        simp only [h1, h2, Option.bind_some, Option.map_some, Option.some.injEq] at h
        subst h
        obtain ⟨e1, e2⟩ := ih h2
        refine ⟨by simp [e1], fun i d hi => ?_⟩
        cases i with
        | zero => simp only [List.getElem?_cons_zero, Option.some.injEq] at hi ⊢; subst hi; exact ⟨x, rfl, fun v hv => den_cap1 hh h1 hv⟩
        | succ i => simpa using e2 i d (by simpa using hi)

theorem den_conv {x : AV} {d : D} {v : Value} (h : conv hp x = some d) (ho : openNames hp x = []) (hd : DenA M ι x v) : DenD M d v := by
  cases x with
  | own b => exact den_conv_one hh (x := .own b) h (by simpa [openNames] using ho) hd
  | d x => exact den_conv_one hh (x := .d x) h rfl hd
  | tt => exact den_conv_one hh (x := .tt) h rfl hd
  | ff => exact den_conv_one hh (x := .ff) h rfl hd
  | nil => exact den_conv_one hh (x := .nil) h rfl hd
  | agg c =>
    simp only [conv] at h
    cases hc : conv.cells hp c with
    | none => simp [hc] at h
    | some ds =>
      simp only [hc, Option.map_some, Option.some.injEq] at h
      subst h
      obtain ⟨vs, rfl, hs, hdv⟩ := den_agg_inv hd
      obtain ⟨e1, e2⟩ := conv_cells_get hc
      refine .agg _ _ (by omega) fun i d v h1 h2 => ?_
      obtain ⟨x, g1, g2, g3⟩ := e2 i d h1
      exact den_conv_one hh g2 (g3 (by simpa [openNames] using ho)) (hdv i x v g1 h2)
  | fn f c =>
    simp only [conv] at h
    cases hc : conv.caps hp c with
    | none => simp [hc] at h
    | some ds =>
      simp only [hc, Option.map_some, Option.some.injEq] at h
      subst h
      obtain ⟨e1, e2⟩ := den_caps hh hc
      cases hd with
      | fn _ _ vs hl hdv =>
        refine .fn _ _ _ (by omega) fun i d v h1 h2 => ?_
        obtain ⟨x, g1, g2⟩ := e2 i d h1
        exact g2 v (hdv i x v g1 h2)
  | tup c => simp [conv] at h
  | ptr b i j => simp [conv] at h
  | win b lo n c => simp [conv] at h
  | dead => simp [conv] at h
end

theorem map_d_den {M : Mem} {ι : Inj} {c : List D} {vs : Array Value} (hd : ∀ (i : Nat) (d : D) (v : Value), c[i]? = some d → vs[i]? = some v → DenD M d v) :
    ∀ (i : Nat) (x : AV) (v : Value), (c.map .d)[i]? = some x → vs[i]? = some v → DenA M ι x v := by
  intro i x v h1 h2
  rw [List.getElem?_map] at h1
  cases hc : c[i]? with
  | none => simp [hc] at h1
  | some d =>
    simp only [hc, Option.map_some, Option.some.injEq] at h1
    subst h1
    exact .d _ _ (hd i d v hc h2)

theorem ofD_one_den {M : Mem} {ι : Inj} {d : D} {v : Value} (h : DenD M d v) : DenA M ι (ofD.one d) v := by
  cases d with
  | agg c =>
    cases h with
    | agg _ vs hl hd => exact .agg _ _ (by simpa using hl) (map_d_den hd)
  | int k n => exact .d _ _ h
  | bool b => exact .d _ _ h
  | str s => exact .d _ _ h
  | lst l => exact .d _ _ h
  | dp c j => exact .d _ _ h
  | fn f c => exact .d _ _ h
  | nilp => exact .d _ _ h
  | unk => exact .d _ _ h
  | tup c => exact .d _ _ h

theorem ofD_den {M : Mem} {ι : Inj} {d : D} {v : Value} (h : DenD M d v) : DenA M ι (ofD d) v := by
  cases d with
  | agg c =>
    cases h with
    | agg _ vs hl hd => exact .agg _ _ (by simpa using hl) (map_d_den hd)
  | tup c =>
    cases h with
    | tup _ vs hl hd =>
      refine .tup _ _ (by simpa using hl) fun i x v h1 h2 => ?_
      rw [List.getElem?_map] at h1
      cases hc : c[i]? with
      | none => simp [hc] at h1
      | some d =>
        simp only [hc, Option.map_some, Option.some.injEq] at h1
        subst h1
        exact ofD_one_den (hd i d v hc h2)
  | int k n => exact .d _ _ h
  | bool b => exact .d _ _ h
  | str s => exact .d _ _ h
  | lst l => exact .d _ _ h
  | dp c j => exact .d _ _ h
  | fn f c => exact .d _ _ h
  | nilp => exact .d _ _ h
  | unk => exact .d _ _ h

theorem scalar_den {M M' : Mem} {d : D} {v : Value} (hs : scalar d = true) (h : DenD M d v) : DenD M' d v := by
  have one : ∀ (d : D) (v : Value), scalar.one d = true → DenD M d v → DenD M' d v := by
    intro d v hs h
    cases h <;> simp [scalar.one] at hs
    · exact .int _ _
    · exact .bool _
    · exact .str _
  have all : ∀ (c : List D), scalar.all c = true → ∀ d ∈ c, scalar.one d = true := by
    intro c
    induction c with
    | nil => intro _ d hd; cases hd
    | cons x r ih =>
      intro h d hd
      simp only [scalar.all] at h
      cases hx : scalar.one x with
      | false => simp [hx] at h
      | true =>
        simp only [hx, cond_true] at h
        cases hd with
        | head => exact hx
        | tail _ hd => exact ih h d hd
  cases h with
  | int k n => exact .int _ _
  | bool b => exact .bool _
  | str s => exact .str _
  | agg c vs hl hd => exact .agg c vs hl fun i d v h1 h2 => one d v (all c hs d (List.mem_of_getElem? h1)) (hd i d v h1 h2)
  | tup c vs hl hd => exact .tup c vs hl fun i d v h1 h2 => one d v (all c hs d (List.mem_of_getElem? h1)) (hd i d v h1 h2)
  | emp a c => simp [scalar] at hs
  | lst l b off cap sz val hl h1 h2 h3 => simp [scalar] at hs
  | dp c j b off val h1 h2 => simp [scalar] at hs
  | fn f c vs hl hd => simp [scalar] at hs
  | nilp => simp [scalar] at hs
  | unk v => simp [scalar] at hs
end Go.Lk

namespace Go.Lk
open Go Go.RowKit

section
variable {P : Program}

theorem run_callFuncOk {f : FuncId} (h : FnOk P f) (vs : Array Value) (w : World) : (callFunc f vs).run P w = .ok (.enter f vs) w := by
  obtain ⟨fn, h1, h2, h3⟩ := h
  have h4 : fn.body ≠ none := by cases hb : fn.body <;> simp_all
  have h5 : fn.name ≠ "runtime.NumGoroutine" := by simpa using h3
  simp [callFunc, h1, h4, h5]

theorem exec_static {o : Oper} {c : Call} {f : FuncId} (ho : o.op = .call c) (hc : c.callee = .value (.func f)) (h : FnOk P f) (a : Act) (w : World) :
    (execOp a.eval o).run P w = .ok (.enter f (c.args.map a.eval)) w := by
  simp [execOp, ho, resolve, hc, Act.eval, Deferred.ofValue, invoke, run_callFuncOk h]

theorem exec_closure {o : Oper} {c : Call} {f : FuncId} {t : Tmp} {vs : Array Value} (ho : o.op = .call c) (hc : c.callee = .value (.tmp t)) (h : FnOk P f) (a : Act) (w : World) (ht : a.eval (.tmp t) = .func (.func f) #[] vs) :
    (execOp a.eval o).run P w = .ok (.enter f (c.args.map a.eval ++ vs)) w := by
  simp [execOp, ho, resolve, hc, ht, Deferred.ofValue, invoke, run_callFuncOk h]

theorem convsK_out {hp : Nat → Option Blk} {ρ : Operand → AV} : ∀ {l : List Operand} {K : List D → List Nat → Prop}, convsK hp ρ l K →
    ∃ ds ns, K ds ns ∧ ds.length = l.length ∧ (∀ (i : Nat) (x : Operand) (d : D), l[i]? = some x → ds[i]? = some d → conv hp (ρ x) = some d ∧ ∀ b ∈ openNames hp (ρ x), b ∈ ns)
  | [], K, h => ⟨[], [], h, rfl, fun i x d h1 => by simp at h1⟩
  | x :: r, K, h => by
    simp only [convsK] at h
    cases hc : conv hp (ρ x) with
    | none => simp [hc] at h
    | some d =>
      simp only [hc] at h
      obtain ⟨ds, ns, hK, hl, hd⟩ := convsK_out h
      refine ⟨d :: ds, _, hK, by simp [hl], fun i y d' h1 h2 => ?_⟩
      cases i with
      | zero =>
        simp only [List.getElem?_cons_zero, Option.some.injEq] at h1 h2
        subst h1 h2
        exact ⟨hc, fun b hb => List.mem_append_left _ hb⟩
      | succ i =>
        obtain ⟨e1, e2⟩ := hd i y d' (by simpa using h1) (by simpa using h2)
        exact ⟨e1, fun b hb => List.mem_append_right _ (e2 b hb)⟩

theorem openNames_frz {hp0 hp1 : Nat → Option Blk} {ns : List Nat} (hf : ∀ b l sz fr, b ∈ ns → hp0 b = some (.row l sz fr) → hp1 b = some (.row l sz true)) (hl : FrzLe hp0 hp1) (x : AV) (hx : ∀ b ∈ openNames hp0 x, b ∈ ns) : openNames hp1 x = [] := by
  have one : ∀ y : AV, (∀ b ∈ openNames.one hp0 y, b ∈ ns) → openNames.one hp1 y = [] := by
    intro y hy
    cases y with
    | own b =>
      simp only [openNames.one] at hy ⊢
      cases hb : hp0 b with
      | none =>
        rcases hl b with e | ⟨l, sz, fr, e1, e2⟩
        · rw [e, hb]
        · rw [hb] at e1; cases e1
      | some B =>
        cases B with
        | box c fr =>
          rcases hl b with e | ⟨l, sz, fr, e1, e2⟩
          · rw [e, hb]
          · rw [hb] at e1; cases e1
        | row l sz fr =>
          cases fr with
          | true =>
            rcases hl b with e | ⟨l, sz, fr, e1, e2⟩
            · rw [e, hb]
            · rw [e2]
          | false => rw [hf b l sz false (hy b (by simp [hb])) hb]
    | _ => rfl
  have cells : ∀ c : List AV, (∀ b ∈ openNames.cells hp0 c, b ∈ ns) → openNames.cells hp1 c = [] := by
    intro c
    induction c with
    | nil => intro _; rfl
    | cons y r ih =>
      intro h
      simp only [openNames.cells, List.mem_append] at h ⊢
      rw [one y fun b hb => h b (.inl hb), ih fun b hb => h b (.inr hb)]
      rfl
  cases x with
  | own b => exact one (.own b) hx
  | agg c => exact cells c hx
  | _ => rfl

/-- what an argument list denotes, once its rows are frozen -/
theorem args_den {own : Nat → Prop} {M M1 : Mem} {ι : Inj} {hp hp1 : Nat → Option Blk} {w : World} {ρ : Operand → AV} {a : Act} {l : List Operand} {ds : List D} {ns : List Nat}
    (hs : Sub M M1) (h1 : HRel own M1 ι hp1 w) (hl : FrzLe hp hp1) (hf : ∀ b l sz fr, b ∈ ns → hp b = some (.row l sz fr) → hp1 b = some (.row l sz true)) (hρ : ∀ x, DenA M ι (ρ x) (a.eval x))
    (hlen : ds.length = l.length) (hd : ∀ (i : Nat) (x : Operand) (d : D), l[i]? = some x → ds[i]? = some d → conv hp (ρ x) = some d ∧ ∀ b ∈ openNames hp (ρ x), b ∈ ns) :
    DenDs M1 ds ((l.map a.eval).toArray) := by
  refine ⟨by simp [hlen], fun i d v e1 e2 => ?_⟩
  simp only [List.getElem?_toArray, List.getElem?_map] at e2
  cases hx : l[i]? with
  | none => simp [hx] at e2
  | some x =>
    simp only [hx, Option.map_some, Option.some.injEq] at e2
    subst e2
    obtain ⟨g1, g2⟩ := hd i x d hx e1
    exact den_conv h1 (by rw [conv_frz hl]; exact g1) (openNames_frz hf hl _ g2) ((hρ x).mono hs)

theorem below_frame {own : Nat → Prop} {w w' : World} (h : Below w.heap.size w w') (ho : ∀ c, w.heap.size ≤ c → own c) : FrameOwn own w w' :=
  ⟨h.os, h.tape, h.output, h.size, fun c hc => h.block c (by
    rcases Nat.lt_or_ge c w.heap.size with h' | h'
    · exact h'
    · exact absurd (ho c h') hc)⟩

theorem fresh_dom {own : Nat → Prop} {w : World} {M M' : Mem} (h : Fresh w M M') (ho : ∀ c, w.heap.size ≤ c → own c) : NewDom own M M' :=
  fun b o v hv => orR (h b o v hv) (ho b)

/-- behind a call of pure data: the own blocks stand -/
theorem HRel.behind {own : Nat → Prop} {M M' : Mem} {ι : Inj} {hp : Nat → Option Blk} {w w' : World} (h : HRel own M ι hp w) (hb : Below w.heap.size w w') (hs : Sub M M') (hf : Fresh w M M') : HRel own M' ι hp w' :=
  h.keep hs fun b' L' hL' => ⟨hb.block _ (h.lt hL'), fun B' hB' hfr o => by
    cases hv : M' L'.blk o with
    | none => rfl
    | some v =>
      rcases hf _ _ _ hv with e | e
      · rw [h.closed hL' B' hB' hfr o] at e; cases e
      · have := h.lt hL'; omega⟩

theorem frz_row {hp : Nat → Option Blk} (ns : List Nat) : ∀ p ∈ frz hp ns, ∃ l sz fr, p.2 = .row l sz fr := by
  induction ns with
  | nil => intro p hp; cases hp
  | cons b r ih =>
    intro p hp1
    simp only [frz] at hp1
    cases hb : hp b with
    | none => simp only [hb] at hp1; exact ih p hp1
    | some B =>
      cases B with
      | box c fr => simp only [hb] at hp1; exact ih p hp1
      | row l sz fr =>
        simp only [hb] at hp1
        cases hp1 with
        | head => exact ⟨_, _, _, rfl⟩
        | tail _ hp1 => exact ih p hp1

theorem writes_kill (k : Option Nat) : ∀ (ws : List (Nat × Blk)) (hp : Nat → Option Blk), (∀ p ∈ ws, ∃ l sz fr, p.2 = .row l sz fr) → writes (killH k hp) ws = killH k (writes hp ws)
  | [], _, _ => rfl
  | (b, B) :: r, hp, h => by
    obtain ⟨l, sz, fr, e⟩ := h (b, B) (List.mem_cons_self ..)
    have e : B = .row l sz fr := e
    subst e
    simp only [writes]
    rw [← writes_kill k r _ fun p hp => h p (List.mem_cons_of_mem _ hp)]
    congr 1
    cases k with
    | none => rfl
    | some k =>
      funext c
      by_cases hc : c = b
      · subst hc; simp [killH, upd_same, killB]
      · rw [upd_other _ _ hc]; simp only [killH]; rw [upd_other _ _ hc]

theorem writes_append (hp : Nat → Option Blk) : ∀ (x y : List (Nat × Blk)), writes hp (x ++ y) = writes (writes hp x) y
  | [], _ => rfl
  | (b, B) :: r, y => by simp only [List.cons_append, writes]; exact writes_append _ r y

/-- what a name of a family kills its first one kills -/
theorem Fm_fam {k b : Nat} (hk : 2000000 ≤ k) (hk8 : k % 8 = 0) (hb : b / 8 = k / 8) {c : Nat} (h : Fm b c = true) : Fm k c = true := by
  unfold Fm at h ⊢
  rw [Nat.ble_eq_true_of_le hk, hk8]
  cases hq : Nat.ble 2000000 b && Nat.beq (b % 8) 0 with
  | true =>
    rw [hq] at h
    simp only [cond_true] at h
    rw [← hb]
    exact h
  | false =>
    rw [hq] at h
    simp only [cond_false] at h
    have := Nat.eq_of_beq_eq_true h
    subst this
    simp [hb]
theorem one_fam {k b : Nat} (hF : ∀ c, Fm b c = true → Fm k c = true) {x : AV} (h : killV.one k x = false) : killV.one b x = false := by
  have key : ∀ c, Fm k c = false → Fm b c = false := fun c hc => by
    cases hq : Fm b c with
    | false => rfl
    | true => rw [hF c hq] at hc; cases hc
  cases x <;> simp only [killV.one] at h ⊢ <;> first | exact key _ h | exact h
theorem names_fam {k b : Nat} (hF : ∀ c, Fm b c = true → Fm k c = true) : ∀ {c : List AV}, killV.names k c = false → killV.names b c = false
  | [], _ => rfl
  | x :: r, h => by
    simp only [killV.names] at h ⊢
    cases h1 : killV.one k x with
    | true => rw [h1] at h; cases h
    | false =>
      rw [h1] at h
      rw [one_fam hF h1]
      exact names_fam hF h
theorem parts_fam {k b : Nat} (hF : ∀ c, Fm b c = true → Fm k c = true) : ∀ {c : List AV}, killV.parts k c = false → killV.parts b c = false
  | [], _ => rfl
  | x :: r, h => by
    simp only [killV.parts] at h ⊢
    cases h1 : killV.part k x with
    | true => rw [h1] at h; cases h
    | false =>
      rw [h1] at h
      have : killV.part b x = false := by
        cases x <;> simp only [killV.part] at h1 ⊢ <;> first | exact names_fam hF h1 | exact one_fam hF h1
      rw [this]
      exact parts_fam hF h
theorem killV_fam {k b : Nat} (hF : ∀ c, Fm b c = true → Fm k c = true) (x : AV) : killV b (killV k x) = killV k x := by
  have key : ∀ c, Fm k c = false → Fm b c = false := fun c hc => by
    cases hq : Fm b c with
    | false => rfl
    | true => rw [hF c hq] at hc; cases hc
  cases x with
  | own c => simp only [killV]; cases h : Fm k c <;> simp [killV, key, h]
  | ptr c i j => simp only [killV]; cases h : Fm k c <;> simp [killV, key, h]
  | win c lo n q => simp only [killV]; cases h : Fm k c <;> simp [killV, key, h]
  | agg c => simp only [killV]; cases h : killV.names k c <;> simp [killV, names_fam hF, h]
  | tup c => simp only [killV]; cases h : killV.parts k c <;> simp [killV, parts_fam hF, h]
  | fn f c => simp only [killV]; cases h : killV.names k c <;> simp [killV, names_fam hF, h]
  | _ => rfl
theorem killB_idem {k b : Nat} (hk : 2000000 ≤ k) (hk8 : k % 8 = 0) (hb : b / 8 = k / 8) (B : Blk) : killB b (killB k B) = killB k B := by
  cases B with
  | row l sz fr => rfl
  | box c fr =>
    simp only [killB]
    congr 1
    induction c with
    | nil => rfl
    | cons x r ih => simp only [killB.cells, ih, killV_fam (fun c => Fm_fam hk hk8 hb)]

/-- killing alone -/
theorem HRel.killed {own : Nat → Prop} {M : Mem} {ι : Inj} {hp : Nat → Option Blk} {w : World} (h : HRel own M ι hp w) (k : Nat) : HRel own M ι (killH (some k) hp) w := by
  refine ⟨fun b => by rw [killH_none_iff]; exact h.dom b, fun b hb => ?_, fun b B L hB hL => ?_, h.inj⟩
  · obtain ⟨sz, fr, e⟩ := h.virt b hb
    exact ⟨sz, fr, by simp [killH, e, killB]⟩
  · obtain ⟨B0, e0, rfl⟩ := killH_some hB
    exact ⟨(h.at_ b B0 L e0 hL).1, BlkAt.kill (fun _ _ => rfl) (h.at_ b B0 L e0 hL).2⟩

def wrN (rows : List (Nat × Blk)) : List Nat := rows.map (·.1)
theorem mem_wrN {b c : Nat} {B : Blk} {r : List (Nat × Blk)} : c ∈ wrN ((b, B) :: r) ↔ c = b ∨ c ∈ wrN r := by simp [wrN]
theorem mem_wrN' {c : Nat} {r : List (Nat × Blk)} : c ∈ wrN r ↔ ∃ B, (c, B) ∈ r := by simp [wrN]
theorem HRel.addRows {own : Nat → Prop} {M : Mem} {w : World} {k : Nat} (hk : 2000000 ≤ k) (lc : Nat → Option Loc) : ∀ (rows : List (Nat × Blk)) (ι : Inj) (hp : Nat → Option Blk), HRel own M ι hp w →
    (∀ b B, hp b = some B → ∀ b', b' / 8 = k / 8 → killB b' B = B) →
    (∀ p ∈ rows, p.1 / 8 = k / 8) → (wrN rows).Nodup →
    (∀ p ∈ rows, ∃ l sz, p.2 = .row l sz false ∧ match lc p.1 with
      | none => l = []
      | some L => own L.blk ∧ BlkAt M ι w p.2 L) →
    (∀ p ∈ rows, ∀ L, lc p.1 = some L → ∀ b' L', ι b' = some (some L') → L'.blk = L.blk → b' = p.1) →
    (∀ p ∈ rows, ∀ q ∈ rows, ∀ L L', lc p.1 = some L → lc q.1 = some L' → L.blk = L'.blk → p.1 = q.1) →
    HRel own M (fun b => if b ∈ wrN rows then some (lc b) else ι b) (writes hp rows) w
  | [], ι, hp, h, _, _, _, _, _, _ => by
    have : (fun b => if b ∈ wrN ([] : List (Nat × Blk)) then some (lc b) else ι b) = ι := by funext b; simp [wrN]
    rw [this]; exact h
  | (b, B) :: r, ι, hp, h, hst, hfam, hnd, hB, hdis, hinj => by
    have hfb := hfam (b, B) (List.mem_cons_self ..)
    obtain ⟨l, sz, e1, e2⟩ := hB (b, B) (List.mem_cons_self ..)
    have e1 : B = .row l sz false := e1
    subst e1
    simp only [wrN, List.map_cons, List.nodup_cons] at hnd
    have hkill : killH (some b) hp = hp := by
      funext c
      simp only [killH]
      cases hc : hp c with
      | none => rfl
      | some C => simp only [hst c C hc b hfb]
    have h1 : HRel own M (upd ι b (some (lc b))) (upd hp b (some (.row l sz false))) w := by
      cases hl : lc b with
      | none =>
        simp only [hl] at e2
        subst e2
        have := h.virtual b sz false
        rwa [hkill] at this
      | some L =>
        simp only [hl] at e2
        have := h.new b (.row l sz false) L (.refl M) e2.1 (by
            obtain ⟨cs, Ty, q1, q2, q3⟩ := e2.2
            exact ⟨cs, Ty, q1, q2, q3⟩) fun b' L' hne hL' => ⟨fun he => hne (hdis _ (List.mem_cons_self ..) L hl b' L' hL' he), rfl, h.closed hL'⟩
        rwa [hkill] at this
    have ih := HRel.addRows hk lc r _ _ h1 (fun c C hC b' hb' => ?_) (fun p hp => hfam p (List.mem_cons_of_mem _ hp)) hnd.2 (fun p hp => ?_) (fun p hp L hL b' L' hL' he => ?_)
      fun p hp q hq => hinj p (List.mem_cons_of_mem _ hp) q (List.mem_cons_of_mem _ hq)
    · have e : (fun c => if c ∈ wrN ((b, Blk.row l sz false) :: r) then some (lc c) else ι c) = fun c => if c ∈ wrN r then some (lc c) else upd ι b (some (lc b)) c := by
        funext c
        by_cases hc : c ∈ wrN r
        · rw [if_pos (mem_wrN.2 (.inr hc)), if_pos hc]
        · by_cases hcb : c = b
          · subst hcb; rw [if_pos (mem_wrN.2 (.inl rfl)), if_neg hc, upd_same]
          · rw [if_neg (fun h => (mem_wrN.1 h).elim hcb hc), if_neg hc, upd_other _ _ hcb]
      rw [e]
      exact ih
    · by_cases hcb : c = b
      · subst hcb; rw [upd_same] at hC; cases hC; rfl
      · rw [upd_other _ _ hcb] at hC; exact hst c C hC b' hb'
    · obtain ⟨l', sz', q1, q2⟩ := hB p (List.mem_cons_of_mem _ hp)
      refine ⟨l', sz', q1, ?_⟩
      cases hl : lc p.1 with
      | none => simp only [hl] at q2; exact q2
      | some L =>
        simp only [hl] at q2
        refine ⟨q2.1, ?_⟩
        rw [q1] at q2 ⊢
        obtain ⟨cs, Ty, g1, g2, g3⟩ := q2.2
        exact ⟨cs, Ty, g1, g2, g3⟩
    · by_cases hcb : b' = b
      · subst hcb
        rw [upd_same] at hL'
        simp only [Option.some.injEq] at hL'
        exact hinj _ (List.mem_cons_self ..) p (List.mem_cons_of_mem _ hp) L' L hL' hL he
      · rw [upd_other _ _ hcb] at hL'
        exact hdis p (List.mem_cons_of_mem _ hp) L hL b' L' hL' he

theorem sWr_len (cs : List SC) (a b : Nat) : (sWr a cs).length = (sWr b cs).length := by
  induction cs generalizing a b with
  | nil => rfl
  | cons c r ih => cases c with
    | d x => exact ih a b
    | row l sz => simp only [sWr, List.length_cons, ih (a + 1) (b + 1)]

def sLc (bl : Nat → Option Loc) (i k : Nat) : List SC → Nat → Option Loc
  | [] => fun _ => none
  | .d _ :: r => sLc bl (i + 1) k r
  | .row _ _ :: r => fun b => if b = k then bl i else sLc bl (i + 1) (k + 1) r b
def rk (cs : List SC) (j : Nat) : Nat := (sWr 0 (cs.take j)).length

theorem sWr_get (bl : Nat → Option Loc) : ∀ (cs : List SC) (i k : Nat) (p : Nat × Blk), p ∈ sWr k cs → k ≤ p.1 ∧ p.1 < k + (sWr 0 cs).length ∧
    ∃ j l sz, cs[j]? = some (.row l sz) ∧ p.2 = .row l sz false ∧ sLc bl i k cs p.1 = bl (i + j) ∧ p.1 = k + rk cs j
  | [], i, k, p, h => by cases h
  | .d x :: r, i, k, p, h => by
    obtain ⟨h1, h2, j, l, sz, h3, h4, h5, h6⟩ := sWr_get bl r (i + 1) k p h
    exact ⟨h1, h2, j + 1, l, sz, by simpa using h3, h4, by rw [show i + (j + 1) = i + 1 + j by omega]; exact h5, h6⟩
  | .row l0 sz0 :: r, i, k, p, h => by
    simp only [sWr, List.mem_cons] at h
    have hl : (sWr 0 (.row l0 sz0 :: r)).length = (sWr 0 r).length + 1 := by simp only [sWr, List.length_cons, sWr_len r (0 + 1) 0]
    rcases h with rfl | h
    · exact ⟨Nat.le_refl _, by rw [hl]; simp, 0, l0, sz0, rfl, rfl, by simp [sLc], by simp [rk, sWr]⟩
    · obtain ⟨h1, h2, j, l, sz, h3, h4, h5, h6⟩ := sWr_get bl r (i + 1) (k + 1) p h
      refine ⟨by omega, by rw [hl]; omega, j + 1, l, sz, by simpa using h3, h4, ?_, ?_⟩
      · simp only [sLc]
        rw [if_neg (by omega), h5]; congr 1; omega
      · have : rk (.row l0 sz0 :: r) (j + 1) = rk r j + 1 := by simp only [rk, List.take_succ_cons, sWr, List.length_cons, sWr_len _ (0 + 1) 0]
        omega

theorem sWr_nodup : ∀ (cs : List SC) (k : Nat), (wrN (sWr k cs)).Nodup
  | [], k => by simp [sWr, wrN]
  | .d x :: r, k => sWr_nodup r k
  | .row l0 sz0 :: r, k => by
    simp only [sWr, wrN, List.map_cons, List.nodup_cons]
    refine ⟨fun h => ?_, sWr_nodup r (k + 1)⟩
    obtain ⟨p, hp, e⟩ := List.mem_map.1 h
    have := (sWr_get (fun _ => none) r 0 (k + 1) p hp).1
    omega

theorem sAv_get (bl : Nat → Option Loc) : ∀ (cs : List SC) (i k j : Nat) (x : AV), (sAv k cs)[j]? = some x → (∃ d, cs[j]? = some (.d d) ∧ x = .d d) ∨
    ∃ l sz b, cs[j]? = some (.row l sz) ∧ x = .own b ∧ (b, Blk.row l sz false) ∈ sWr k cs ∧ sLc bl i k cs b = bl (i + j)
  | [], i, k, j, x, h => by simp [sAv] at h
  | .d y :: r, i, k, 0, x, h => by
    simp only [sAv, List.getElem?_cons_zero, Option.some.injEq] at h
    exact .inl ⟨y, rfl, h.symm⟩
  | .d y :: r, i, k, j + 1, x, h => by
    simp only [sAv, List.getElem?_cons_succ] at h
    rcases sAv_get bl r (i + 1) k j x h with ⟨d, h1, h2⟩ | ⟨l, sz, b, h1, h2, h3, h4⟩
    · exact .inl ⟨d, by simpa using h1, h2⟩
    · exact .inr ⟨l, sz, b, by simpa using h1, h2, h3, by rw [show i + (j + 1) = i + 1 + j by omega]; exact h4⟩
  | .row l0 sz0 :: r, i, k, 0, x, h => by
    simp only [sAv, List.getElem?_cons_zero, Option.some.injEq] at h
    exact .inr ⟨l0, sz0, k, rfl, h.symm, by simp [sWr], by simp [sLc]⟩
  | .row l0 sz0 :: r, i, k, j + 1, x, h => by
    simp only [sAv, List.getElem?_cons_succ] at h
    rcases sAv_get bl r (i + 1) (k + 1) j x h with ⟨d, h1, h2⟩ | ⟨l, sz, b, h1, h2, h3, h4⟩
    · exact .inl ⟨d, by simpa using h1, h2⟩
    · have hb := (sWr_get bl r (i + 1) (k + 1) _ h3).1
      refine .inr ⟨l, sz, b, by simpa using h1, h2, List.mem_cons_of_mem _ h3, ?_⟩
      simp only [sLc]
      rw [if_neg (by simp at hb; omega), h4]; congr 1; omega

theorem sAv_len (k : Nat) (cs : List SC) : (sAv k cs).length = cs.length := by
  induction cs generalizing k with
  | nil => rfl
  | cons c r ih => cases c <;> simp [sAv, ih]

theorem callX_sem {f : FuncId} {st : Bool} {xs : List AV} {hp : Nat → Option Blk} {dst : Option Tmp} {l : List Operand} {ds cs : List D} {ns : List Nat} {ρ : Operand → AV} {K : Eff → Prop}
    (h : callX P f st xs hp dst (ds ++ cs) ns K) (hlen : ds.length = l.length) (hd : ∀ (i : Nat) (x : Operand) (d : D), l[i]? = some x → ds[i]? = some d → conv hp (ρ x) = some d ∧ ∀ b ∈ openNames hp (ρ x), b ∈ ns)
    (hxs : st = true → xs = evs ρ l ∧ cs = []) :
    ∃ e, K e ∧ FnOk P f ∧ ∀ (own : Nat → Prop) (M : Mem) (ι : Inj) (a : Act) (w : World) (vs : Array Value), (∀ c, w.heap.size ≤ c → own c) → Agree M w → HRel own M ι hp w → (∀ x, DenA M ι (ρ x) (a.eval x)) → DenDs M cs vs →
      Calls P f ((l.map a.eval).toArray ++ vs) w fun en w' => ∃ v, en = .returned v ∧ Post own M ι hp w e v w' := by
  have prep : ∀ (own : Nat → Prop) (M : Mem) (ι : Inj) (a : Act) (w : World) (vs : Array Value), Agree M w → HRel own M ι hp w → (∀ x, DenA M ι (ρ x) (a.eval x)) → DenDs M cs vs →
      ∃ M1, Sub M M1 ∧ Agree M1 w ∧ NewDom own M M1 ∧ HRel own M1 ι (writes hp (frz hp ns)) w ∧ DenDs M1 (ds ++ cs) ((l.map a.eval).toArray ++ vs) := by
    intro own M ι a w vs ha hh hρ hvs
    obtain ⟨M1, s1, a1, n1, h1, l1, f1⟩ := freezeAll (hp0 := hp) ns M hp ha hh (.refl hp)
    have hden := args_den (a := a) s1 h1 l1 (fun b l sz fr hb e => f1 b l sz fr (.inl hb) e) hρ hlen hd
    refine ⟨M1, s1, a1, n1, h1, by simp [hden.1, hvs.1], fun i d v e1 e2 => ?_⟩
    by_cases hi : i < ds.length
    · rw [List.getElem?_append_left hi] at e1
      rw [Array.getElem?_append_left (by simpa [hlen] using hi)] at e2
      exact hden.2 i d v e1 e2
    · rw [List.getElem?_append_right (by omega)] at e1
      rw [Array.getElem?_append_right (by simp; omega)] at e2
      exact (hvs.2 _ d v e1 (by simpa [hlen] using e2)).mono s1
  replace h := h.out
  rcases h with ⟨d, hA, hK⟩ | ⟨l', sz, t, hO, hdst, hK⟩ | ⟨hst, e, hE, hK⟩ | ⟨cs', t, hS, hdst, hn8, hK⟩
  · cases hsc : scalar d with
    | true =>
      simp only [hsc, cond_true] at hK
      refine ⟨_, hK, hA.1, fun own M ι a w vs ho ha hh hρ hvs => ?_⟩
      obtain ⟨M1, s1, a1, n1, h1, hden⟩ := prep own M ι a w vs ha hh hρ hvs
      refine (hA.2 w M1 _ a1 hden).mono fun en w' hq => ?_
      obtain ⟨v, M', e, hb, s2, a2, f2, d2⟩ := hq
      exact ⟨v, e, M, ι, below_frame hb ho, .refl M, fun b o v h => a2 _ _ _ (s2 _ _ _ (s1 _ _ _ h)), .refl _ _, hh.behind hb (.refl M) (fun _ _ _ h => .inl h), fun _ _ => rfl, ofD_den (scalar_den hsc d2)⟩
    | false =>
      simp only [hsc, cond_false] at hK
      refine ⟨_, hK, hA.1, fun own M ι a w vs ho ha hh hρ hvs => ?_⟩
      obtain ⟨M1, s1, a1, n1, h1, hden⟩ := prep own M ι a w vs ha hh hρ hvs
      refine (hA.2 w M1 _ a1 hden).mono fun en w' hq => ?_
      obtain ⟨v, M', e, hb, s2, a2, f2, d2⟩ := hq
      exact ⟨v, e, M', ι, below_frame hb ho, s1.trans s2, a2, n1.trans (fresh_dom f2 ho), h1.behind hb s2 f2, fun _ _ => rfl, ofD_den d2⟩
  · refine ⟨_, hK, hO.1, fun own M ι a w vs ho ha hh hρ hvs => ?_⟩
    obtain ⟨M1, s1, a1, n1, h1, hden⟩ := prep own M ι a w vs ha hh hρ hvs
    refine (hO.2 w M1 _ a1 hden).mono fun en w' hq => ?_
    obtain ⟨v, M', e, hb, s2, a2, f2, hrow⟩ := hq
    have h2 := h1.behind hb s2 f2
    have ehp : (⟨.own t, frz hp ns ++ [(t, .row l' sz false)], some t⟩ : Eff).hp hp = upd (killH (some t) (writes hp (frz hp ns))) t (some (.row l' sz false)) := by
      simp only [Eff.hp, writes_append, writes, writes_kill (some t) _ hp (frz_row ns)]
    rcases hrow with ⟨rfl, ad, rfl⟩ | ⟨c, cap, cells, Ty, g1, rfl, g2, g3, g4, g5, g6⟩
    · refine ⟨_, e, M', upd ι t (some none), below_frame hb ho, s1.trans s2, a2, n1.trans (fresh_dom f2 ho), ?_, fun b hb => upd_other _ _ fun e => Kp_ne hb e, .ownE t ad (upd_same _ _ _)⟩
      rw [ehp]
      exact h2.virtual t sz false
    · let L : Loc := ⟨c, sz, cells.size, l'.length⟩
      refine ⟨_, e, M', upd ι t (some (some L)), below_frame hb ho, s1.trans s2, a2, n1.trans (fresh_dom f2 ho), ?_, fun b hb => upd_other _ _ fun e => Kp_ne hb e, .own t L cap (upd_same _ _ _) g2 g3⟩
      rw [ehp]
      refine h2.new t (.row l' sz false) L (.refl _) (ho c g1) ⟨cells, Ty, g4, rfl, rfl, rfl, Nat.le_trans (Nat.mul_le_mul_right _ g2) g3, g5, (by intro e; cases e), fun _ => g6⟩ fun b' L' hne hL' => ⟨?_, rfl, h2.closed hL'⟩
      have := h1.lt hL'
      show L'.blk ≠ c
      omega
  · obtain ⟨rfl, rfl⟩ := hxs hst
    refine ⟨e, hK, hE.1, fun own M ι a w vs ho ha hh hρ hvs => ?_⟩
    have hvs0 : vs = #[] := by
      have := hvs.1
      simpa using this
    subst hvs0
    have hda : DenAs M ι (evs ρ l) ((l.map a.eval).toArray ++ #[]) := by
      have key : ∀ l : List Operand, (evs ρ l).length = l.length ∧ ∀ (i : Nat) (x : AV) (v : Value), (evs ρ l)[i]? = some x → (l.map a.eval)[i]? = some v → DenA M ι x v := by
        intro l
        induction l with
        | nil => exact ⟨rfl, fun i x v h => by simp [evs] at h⟩
        | cons y r ih =>
          refine ⟨by simp [evs, ih.1], fun i x v e1 e2 => ?_⟩
          cases i with
          | zero =>
            simp only [evs, List.map_cons, List.getElem?_cons_zero, Option.some.injEq] at e1 e2
            subst e1 e2
            exact hρ y
          | succ i => exact ih.2 i x v (by simpa [evs] using e1) (by simpa using e2)
      exact ⟨by simp [(key l).1], fun i x v e1 e2 => (key l).2 i x v e1 (by simpa using e2)⟩
    refine (hE.2 own M ι w _ ho ha hh hda).mono fun en w' hq => ?_
    obtain ⟨v, M', ι', e1, e2, e3, e4, e5, e6, e7, e8⟩ := hq
    exact ⟨v, e1, M', ι', e2, e3, e4, e5, e6, e7, e8⟩
  · have key : ∀ n : Nat, ∃ k : Nat, k = 2000000 + 8 * n ∧ k % 8 = 0 ∧ 2000000 ≤ k := fun n => ⟨_, rfl, by omega, by omega⟩
    obtain ⟨k, hkd, hk8, hk⟩ := key t
    have hK : K ⟨.agg (sAv k cs'), frz hp ns ++ sWr k cs', some k⟩ := by rw [hkd]; exact hK
    refine ⟨_, hK, hS.1, fun own M ι a w vs ho ha hh hρ hvs => ?_⟩
    obtain ⟨M1, s1, a1, n1, h1, hden⟩ := prep own M ι a w vs ha hh hρ hvs
    refine (hS.2 w M1 _ a1 hden).mono fun en w' hq => ?_
    obtain ⟨us, M', bl, e, hb, s2, a2, f2, hus, hcell, hbl⟩ := hq
    have h2 := h1.behind hb s2 f2
    have hfam : ∀ b, k ≤ b → b < k + 8 → b / 8 = k / 8 := fun b q1 q2 => by omega
    have ehp : (⟨.agg (sAv k cs'), frz hp ns ++ sWr k cs', some k⟩ : Eff).hp hp = writes (killH (some k) (writes hp (frz hp ns))) (sWr k cs') := by
      simp only [Eff.hp, writes_append, writes_kill (some k) _ hp (frz_row ns)]
    have hst : ∀ b B, killH (some k) (writes hp (frz hp ns)) b = some B → ∀ b', b' / 8 = k / 8 → killB b' B = B := fun b B hB b' hb' => by
      obtain ⟨B0, _, rfl⟩ := killH_some hB
      exact killB_idem hk hk8 hb' B0
    have hrow : ∀ p ∈ sWr k cs', k ≤ p.1 ∧ p.1 < k + 8 ∧ ∃ j l sz, cs'[j]? = some (.row l sz) ∧ p.2 = .row l sz false ∧ sLc bl 0 k cs' p.1 = bl j ∧ p.1 = k + rk cs' j := fun p hp => by
      obtain ⟨q1, q2, j, l, sz, q3, q4, q5, q6⟩ := sWr_get bl cs' 0 k p hp
      exact ⟨q1, by omega, j, l, sz, q3, q4, by simpa using q5, q6⟩
    have h3 := HRel.addRows hk (sLc bl 0 k cs') (sWr k cs') ι _ (h2.killed k) hst (fun p hp => hfam _ (hrow p hp).1 (hrow p hp).2.1) (sWr_nodup cs' k) (fun p hp => by
        obtain ⟨q1, q2, j, l, sz, q3, q4, q5, q6⟩ := hrow p hp
        refine ⟨l, sz, q4, ?_⟩
        rw [q5, q4]
        obtain ⟨u, g1, g2⟩ := hcell j _ q3
        simp only at g2
        cases hl : bl j with
        | none => rw [hl] at g2; exact g2.1
        | some L =>
          rw [hl] at g2
          obtain ⟨z1, cap, cells, Ty, z2, z3, z4, z5, z6, z7, z8, z9, z10⟩ := g2
          exact ⟨ho _ z1, cells, Ty, z8, z5.symm, z4.symm, z3.symm, by rw [z5]; exact Nat.le_trans (Nat.mul_le_mul_right _ z6) z7, z9, (by intro e; cases e), fun _ => z10⟩)
      (fun p hp L hL b' L' hL' he => by
        obtain ⟨q1, q2, j, l, sz, q3, q4, q5, q6⟩ := hrow p hp
        rw [q5] at hL
        obtain ⟨u, g1, g2⟩ := hcell j _ q3
        simp only [hL] at g2
        have := g2.1
        have := h1.lt hL'
        omega)
      (fun p hp q hq L L' hL hL' he => by
        obtain ⟨_, _, j, l, sz, q3, q4, q5, q6⟩ := hrow p hp
        obtain ⟨_, _, j', l', sz', q3', q4', q5', q6'⟩ := hrow q hq
        rw [q5] at hL
        rw [q5'] at hL'
        have := hbl j j' L L' hL hL' he
        subst this
        omega)
    refine ⟨_, e, M', _, below_frame hb ho, s1.trans s2, a2, n1.trans (fresh_dom f2 ho), by rw [ehp]; exact h3, fun b hb => ?_, ?_⟩
    · by_cases hm : b ∈ wrN (sWr k cs')
      · obtain ⟨B, hB⟩ := mem_wrN'.1 hm
        obtain ⟨q1, q2, _⟩ := hrow _ hB
        have h8 := hfam b q1 q2
        have : Fm k b = true := Fm_fam hk hk8 h8 (Fm_self b)
        have hb : Fm k b = false := hb
        rw [this] at hb; cases hb
      · simp only [if_neg hm]
    · refine .agg _ us (by rw [sAv_len]; exact hus) fun j x u hx hu => ?_
      rcases sAv_get bl cs' 0 k j x hx with ⟨d, g1, rfl⟩ | ⟨l, sz, b, g1, rfl, g2, g3⟩
      · obtain ⟨u', g4, g5⟩ := hcell j _ g1
        rw [hu] at g4; cases g4
        exact .d _ _ g5
      · obtain ⟨u', g4, g5⟩ := hcell j _ g1
        rw [hu] at g4; cases g4
        have hm : b ∈ wrN (sWr k cs') := mem_wrN'.2 ⟨_, g2⟩
        simp only [Nat.zero_add] at g3
        cases hl : bl j with
        | none =>
          simp only [hl] at g5
          obtain ⟨_, ad, rfl⟩ := g5
          exact .ownE b ad (by simp only [if_pos hm, g3, hl])
        | some L =>
          simp only [hl] at g5
          obtain ⟨z1, cap, cells, Ty, rfl, z3, z4, z5, z6, z7, z8, z9, z10⟩ := g5
          rw [← z3]
          exact .own b L cap (by simp only [if_pos hm, g3, hl]) (by rw [z3]; exact z6) (by rw [z4, z5]; exact z7)
end
end Go.Lk

namespace Go.Lk
open Go Go.RowKit

theorem splice_len {α : Type} : ∀ (xs : List α) (c : List α) (j : Nat), (splice c j xs).length = c.length
  | [], _, _ => rfl
  | x :: r, c, j => by simp only [splice]; rw [splice_len r]; simp
theorem splice_get {α : Type} : ∀ (xs : List α) (c : List α) (j k : Nat), j + xs.length ≤ c.length → (splice c j xs)[k]? = if j ≤ k ∧ k < j + xs.length then xs[k - j]? else c[k]?
  | [], c, j, k, _ => by simp [splice]; intro h1 h2; omega
  | x :: r, c, j, k, h => by
    simp only [splice]
    rw [splice_get r _ _ _ (by simp at h ⊢; omega)]
    simp only [List.length_cons] at h ⊢
    by_cases h1 : j + 1 ≤ k ∧ k < j + 1 + r.length
    · rw [if_pos h1, if_pos ⟨by omega, by omega⟩]
      obtain ⟨m, rfl⟩ : ∃ m, k = j + 1 + m := ⟨k - (j + 1), by omega⟩
      simp [show j + 1 + m - j = m + 1 by omega]
    · rw [if_neg h1]
      by_cases h2 : k = j
      · subst h2
        rw [if_pos ⟨by omega, by omega⟩]
        simp [show k < c.length by omega]
      · rw [if_neg (by omega)]
        rw [List.getElem?_set_ne (by omega)]

theorem spliceF_eq {α : Type} {c xs : List α} {j : Nat} (h : j + xs.length ≤ c.length) : spliceF c j xs = splice c j xs := by
  apply List.ext_getElem?
  intro k
  rw [splice_get _ _ _ _ h, spliceF]
  by_cases h1 : k < j
  · rw [List.getElem?_append_left (by rw [List.length_take]; omega), List.getElem?_take_of_lt h1, if_neg (by omega)]
  · rw [List.getElem?_append_right (by rw [List.length_take]; omega), List.length_take, Nat.min_eq_left (by omega)]
    by_cases h2 : k < j + xs.length
    · rw [List.getElem?_append_left (by omega), if_pos ⟨by omega, h2⟩]
    · rw [List.getElem?_append_right (by omega), List.getElem?_drop, if_neg (by omega)]
      congr 1; omega

theorem agree_new {M : Mem} {w : World} (h : Agree M w) (o : Nat) : M w.heap.size o = none := by
  cases hv : M w.heap.size o with
  | none => rfl
  | some v =>
    have := World.block_lt_of_cell? w _ (h _ _ _ hv)
    simp at this

theorem agree_alloc {M : Mem} {w : World} (h : Agree M w) (ob : Obj) : Agree M (w.alloc ob) := fun b o v hv => by
  have := World.block_lt_of_cell? w _ (h _ _ _ hv)
  rw [World.cell?_alloc_lt _ _ _ this]
  exact h _ _ _ hv

theorem heap_alloc_lt (w : World) (ob : Obj) {c : Nat} (h : c < w.heap.size) : (w.alloc ob).heap[c]? = w.heap[c]? := Below.heap_alloc w ob c h
theorem heap_alloc_size (w : World) (ob : Obj) : (w.alloc ob).heap[w.heap.size]? = some ob := by
  show (w.heap.push ob)[w.heap.size]? = _
  simp

theorem frame_alloc {own : Nat → Prop} {w : World} (ho : ∀ c, w.heap.size ≤ c → own c) (ob : Obj) : FrameOwn own w (w.alloc ob) :=
  ⟨rfl, rfl, rfl, by simp, fun c hc => by
    rcases Nat.lt_or_ge c w.heap.size with h | h
    · exact heap_alloc_lt w ob h
    · exact absurd (ho c h) hc⟩

/-- a new block comes under a name -/
theorem post_new {own : Nat → Prop} {M M1 : Mem} {ι : Inj} {hp hp1 : Nat → Option Blk} {w w0 : World} (ho : ∀ c, w.heap.size ≤ c → own c) (hs : Sub M M1) (hn : NewDom own M M1) (ha : Agree M1 w0) (hh : HRel own M1 ι hp1 w0)
    (hw : w0.heap = w.heap) (hw1 : w0.os = w.os) (hw2 : w0.tape = w.tape) (hw3 : w0.output = w.output)
    {e : Eff} {d : Nat} {B : Blk} {vs : Array Value} {Ty : TypeId} {sz len : Nat} {v : Value}
    (he : e.hp hp = upd (killH (some d) hp1) d (some B)) (hk : e.kl = some d)
    (hB : BlkAt M1 (upd ι d (some (some ⟨w.heap.size, sz, vs.size, len⟩))) (w0.alloc (.cells vs Ty)) B ⟨w.heap.size, sz, vs.size, len⟩)
    (hd : DenA M1 (upd ι d (some (some ⟨w.heap.size, sz, vs.size, len⟩))) e.av v) : Post own M ι hp w e v (w0.alloc (.cells vs Ty)) := by
  refine ⟨M1, upd ι d (some (some ⟨w.heap.size, sz, vs.size, len⟩)), ?_, hs, agree_alloc ha _, hn, ?_, fun b hb => upd_other _ _ fun e' => Kp_ne (hk ▸ hb) e', hd⟩
  · have := frame_alloc (w := w0) (own := own) (fun c hc => ho c (by rw [← hw]; exact hc)) (.cells vs Ty)
    exact ⟨this.os.trans hw1, this.tape.trans hw2, this.output.trans hw3, by rw [← hw]; exact this.size, fun c hc => by rw [this.block c hc, hw]⟩
  · rw [he]
    refine hh.new d B _ (.refl _) (ho _ (Nat.le_refl _)) hB fun b' L' hne hL' => ?_
    have hlt := hh.lt hL'
    refine ⟨?_, heap_alloc_lt _ _ hlt, hh.closed hL'⟩
    show L'.blk ≠ w.heap.size
    rw [← hw]
    omega

theorem eff_hp_frz {hp : Nat → Option Blk} (ns : List Nat) (d : Nat) (B : Blk) (av : AV) : (⟨av, frz hp ns ++ [(d, B)], some d⟩ : Eff).hp hp = upd (killH (some d) (writes hp (frz hp ns))) d (some B) := by
  simp only [Eff.hp, writes_append, writes, writes_kill (some d) _ hp (frz_row ns)]

theorem zeroChk_get : ∀ {vs : List Value} {ds : List D}, zeroChk vs ds = true → vs.length = ds.length ∧ ∀ (i : Nat) (d : D), ds[i]? = some d → ∃ v, vs[i]? = some v ∧ (∀ M, DenD M d v) ∧ ∀ a n c, v = .slice a n c → n = 0 ∧ c = 0
  | [], [], _ => ⟨rfl, fun i d h => by simp at h⟩
  | [], _ :: _, h => by simp [zeroChk] at h
  | _ :: _, [], h => by simp [zeroChk] at h
  | v :: vs, d :: ds, h => by
    simp only [zeroChk, Bool.and_eq_true] at h
    obtain ⟨h1, h2⟩ := h
    obtain ⟨e1, e2⟩ := zeroChk_get h2
    refine ⟨by simp [e1], fun i d' hi => ?_⟩
    cases i with
    | succ i => simpa using e2 i d' (by simpa using hi)
    | zero =>
      simp only [List.getElem?_cons_zero, Option.some.injEq] at hi ⊢
      subst hi
      refine ⟨v, rfl, fun M => ?_, fun a n c e => ?_⟩
      rotate_left
      · subst e
        cases a with
        | some a => simp [vD] at h1
        | none =>
          cases n with
          | succ n => simp [vD] at h1
          | zero =>
            cases c with
            | succ c => simp [vD] at h1
            | zero => exact ⟨rfl, rfl⟩
      cases hv : vD v with
      | none => simp [hv] at h1
      | some d0 =>
        simp only [hv] at h1
        unfold vD at hv
        split at hv
        · simp only [Option.some.injEq] at hv; subst hv
          cases d <;> simp [dEq] at h1
          obtain ⟨a, rfl⟩ := h1
          have := kcode_inj (by simpa using a)
          subst this
          exact .int _ _
        · simp only [Option.some.injEq] at hv; subst hv
          cases d <;> simp [dEq] at h1
          subst h1
          exact .bool _
        · rename_i s
          cases hs : Nat.beq s.size 0 with
          | false => simp [hs] at hv
          | true =>
            simp only [hs, cond_true, Option.some.injEq] at hv
            subst hv
            cases d <;> simp [dEq] at h1
            rename_i s'
            have e1 : s = .empty := by
              have := Nat.eq_of_beq_eq_true hs
              obtain ⟨⟨l⟩⟩ := s
              cases l with
              | nil => rfl
              | cons a r => simp [ByteArray.size] at this
            have e2 : s' = .empty := by
              obtain ⟨⟨l⟩⟩ := s'
              cases l with
              | nil => rfl
              | cons a r => exact absurd h1 (by intro h; cases h)
            subst e1 e2
            exact .str _
        · simp only [Option.some.injEq] at hv; subst hv
          cases d <;> simp [dEq] at h1
          rename_i l
          cases l with
          | nil => exact .emp _ _
          | cons a r => simp at h1
        · simp only [Option.some.injEq] at hv; subst hv
          cases d <;> simp [dEq] at h1
          exact .nilp
        · cases hv

theorem zA_den {M : Mem} {ι : Inj} {d : D} {v : Value} (h : DenD M d v) (hv : ∀ a n c, v = .slice a n c → n = 0 ∧ c = 0) : DenA M ι (zA d) v := by
  unfold zA
  split
  · cases h with
    | emp a c => obtain ⟨_, rfl⟩ := hv a 0 c rfl; exact .nil a
    | lst l b off cap sz val hl h1 h2 h3 => obtain ⟨_, rfl⟩ := hv _ _ _ rfl; exact .nil _
  · exact .d _ _ h
end Go.Lk

namespace Go.Lk
open Go Go.RowKit

/-- the meaning of an effect that a run of the operation's own yields -/
theorem opSem_run {P : Program} {o : Oper} {ρ : Operand → AV} {hp : Nat → Option Blk} {e : Eff}
    (h : ∀ (own : Nat → Prop) (M : Mem) (ι : Inj) (a : Act) (w : World), (∀ c, w.heap.size ≤ c → own c) → Agree M w → HRel own M ι hp w → (∀ x, DenA M ι (ρ x) (a.eval x)) →
      ∃ v w', (execOp a.eval o).run P w = .ok (.value v) w' ∧ Post own M ι hp w e v w') : OpSem P o ρ hp e := by
  intro own M ι a w ho ha hh hρ
  obtain ⟨v, w', hr, hp'⟩ := h own M ι a w ho ha hh hρ
  unfold Oper.wp
  rw [hr, Oper.upon_value]
  exact ⟨v, rfl, hp'⟩
theorem opSem_skip {P : Program} {o : Oper} {ρ : Operand → AV} {hp : Nat → Option Blk} {e : Eff}
    (h : ∀ (own : Nat → Prop) (M : Mem) (ι : Inj) (a : Act) (w : World), (∀ c, w.heap.size ≤ c → own c) → Agree M w → HRel own M ι hp w → (∀ x, DenA M ι (ρ x) (a.eval x)) →
      ∃ w', (execOp a.eval o).run P w = .ok .skip w' ∧ Post own M ι hp w e undef w') : OpSem P o ρ hp e := by
  intro own M ι a w ho ha hh hρ
  obtain ⟨w', hr, hp'⟩ := h own M ι a w ho ha hh hρ
  unfold Oper.wp
  rw [hr, Oper.upon_skip]
  exact ⟨undef, rfl, hp'⟩

section
variable {P : Program} {T : Tab} (hT : TabOk P T)
include hT

omit hT in
theorem run_newVar (t : TypeId) (v : Value) (w : World) : (newVar t v).run P w = .ok ⟨w.heap.size, 0, none⟩ (w.alloc (.cells v.cells t)) := by
  simp [newVar, newRow]

omit hT in
theorem freeD {b : Nat} {c : List AV} (h : ∀ x ∈ c, FreeF b x) {M : Mem} {ι ι' : Inj} (hι : ∀ b', Fm b b' = false → ι' b' = ι b') {cs : Array Value} (hr : BoxAt M ι cs c) : BoxAt M ι' cs c :=
  ⟨hr.size, fun j x h1 => let ⟨v, e1, e2⟩ := hr.den j x h1; ⟨v, e1, e2.turn hι (h x (List.mem_of_getElem? h1))⟩⟩

omit hT in
/-- a new box -/
theorem post_box {own : Nat → Prop} {M : Mem} {ι : Inj} {hp : Nat → Option Blk} {w : World} (ho : ∀ c, w.heap.size ≤ c → own c) (ha : Agree M w) (hh : HRel own M ι hp w) {d : Nat} {c : List AV} {vs : Array Value} {Ty : TypeId}
    (hb : BoxAt M ι vs c) (hf : ∀ x ∈ c, FreeF d x) : Post own M ι hp w ⟨.ptr d 0 0, [(d, .box c false)], some d⟩ (.pointer (some ⟨w.heap.size, 0, none⟩)) (w.alloc (.cells vs Ty)) := by
  have hne : ∀ b', b' ≠ d → upd ι d (some (some (⟨w.heap.size, c.length, vs.size, 0⟩ : Loc))) b' = ι b' := fun b' hb => upd_other _ _ hb
  refine post_new ho (.refl M) (.refl _ _) ha hh rfl rfl rfl rfl (e := ⟨.ptr d 0 0, [(d, .box c false)], some d⟩) (d := d) (B := .box c false) (sz := c.length) (len := 0) rfl rfl ?_ ?_
  · refine ⟨vs, Ty, heap_alloc_size w _, rfl, rfl, hb.size, freeD hf (fun b' hb' => hne b' (Fm_ne hb')) hb, (by intro e; cases e), fun _ o => agree_new ha o⟩
  · have := DenA.ptr (M := M) (ι := upd ι d (some (some (⟨w.heap.size, c.length, vs.size, 0⟩ : Loc)))) d 0 0 ⟨w.heap.size, c.length, vs.size, 0⟩ (upd_same _ _ _)
    simpa using this

omit hT in
theorem free_zA (d : D) (b : Nat) : FreeF b (zA d) := by
  intro b' _
  unfold zA
  split
  · exact .nil
  · exact .d _

omit hT in
theorem zero_box {t : TypeId} {z : Value} (hz : zeroChk z.cells.toList (T t).zero = true) (M : Mem) (ι : Inj) : BoxAt M ι z.cells ((T t).zero.map zA) := by
  obtain ⟨e1, e2⟩ := zeroChk_get hz
  refine ⟨by simpa using e1, fun j x hx => ?_⟩
  rw [List.getElem?_map] at hx
  cases hd : (T t).zero[j]? with
  | none => simp [hd] at hx
  | some d =>
    simp only [hd, Option.map_some, Option.some.injEq] at hx
    subst hx
    obtain ⟨v, g1, g2, g3⟩ := e2 j d hd
    exact ⟨v, by simpa using g1, zA_den (g2 M) g3⟩

omit hT in
theorem cell1_den {own : Nat → Prop} {M : Mem} {ι : Inj} {hp : Nat → Option Blk} {w : World} (hh : HRel own M ι hp w) {x : AV} {v : Value} (hc : cell1 hp x = true) (h : DenA M ι x v) : v.oneCell' = true ∧ v.cells = #[v] := by
  have dcase : ∀ (d : D) (v : Value), cell1.one d = true → DenD M d v → v.oneCell' = true ∧ v.cells = #[v] := by
    intro d v hc h
    cases h <;> simp [cell1.one] at hc <;> exact ⟨rfl, rfl⟩
  cases h with
  | agg c vs hs hdv => simp [cell1] at hc
  | tup c vs hs hdv => simp [cell1] at hc
  | dead v => simp [cell1] at hc
  | d y v hy => exact dcase y v hc hy
  | tt => exact ⟨rfl, rfl⟩
  | ff => exact ⟨rfl, rfl⟩
  | own b L cap h hn' hc => exact ⟨rfl, rfl⟩
  | ownE b a h => exact ⟨rfl, rfl⟩
  | ownL b v h => simp [cell1, (hh.dom b).2 h] at hc
  | ptr b i j L h => exact ⟨rfl, rfl⟩
  | ptrL b i j v h => simp [cell1, (hh.dom b).2 h] at hc
  | win b lo n c L k base hL q1 q2 q3 q4 => cases hc
  | winL b lo n c v h => cases hc
  | nil a => exact ⟨rfl, rfl⟩
  | fn f cap vs hs hdv => exact ⟨rfl, rfl⟩

omit hT in
theorem cells1_mem {hp : Nat → Option Blk} {c : List AV} (h : cells1 hp c = true) : ∀ x ∈ c, cell1 hp x = true := by
  induction c with
  | nil => intro x hx; cases hx
  | cons y r ih =>
    simp only [cells1] at h
    cases hy : cell1 hp y with
    | false => simp [hy] at h
    | true =>
      simp only [hy, cond_true] at h
      intro x hx
      cases hx with
      | head => exact hy
      | tail _ hx => exact ih h x hx

omit hT in
theorem cellsOf_den {own : Nat → Prop} {M : Mem} {ι : Inj} {hp : Nat → Option Blk} {w : World} (hh : HRel own M ι hp w) {x : AV} {v : Value} (hc : cells1 hp (cellsOf x) = true) (h : DenA M ι x v) :
    v.cells.size = (cellsOf x).length ∧ (∀ (i : Nat) (y : AV) (u : Value), (cellsOf x)[i]? = some y → v.cells[i]? = some u → DenA M ι y u) ∧ ∀ u ∈ v.cells.toList, u.oneCell' = true := by
  have base : v.cells.size = (cellsOf x).length ∧ (∀ (i : Nat) (y : AV) (u : Value), (cellsOf x)[i]? = some y → v.cells[i]? = some u → DenA M ι y u) := by
    cases x with
    | agg c =>
      obtain ⟨vs, rfl, hs, hd⟩ := den_agg_inv h
      exact ⟨hs, hd⟩
    | _ =>
      have h1 := cells1_mem hc _ (List.mem_singleton.2 rfl)
      have h2 := (cell1_den hh h1 h).2
      rw [h2]
      refine ⟨rfl, fun i y u g1 g2 => ?_⟩
      cases i with
      | zero => simp [cellsOf] at g1 g2; subst g1 g2; exact h
      | succ i => simp [cellsOf] at g1
  refine ⟨base.1, base.2, fun u hu => ?_⟩
  obtain ⟨i, hi, rfl⟩ := List.getElem_of_mem hu
  have hi2 : i < (cellsOf x).length := by rw [← base.1]; simpa using hi
  have hd := base.2 i (cellsOf x)[i] v.cells[i] (List.getElem?_eq_getElem hi2) (by simp at hi; simp [hi])
  exact (cell1_den hh (cells1_mem hc _ (List.getElem_mem hi2)) hd).1

omit hT in
theorem box_of_cells {M : Mem} {ι : Inj} {c : List AV} {vs : Array Value} (hs : vs.size = c.length) (hd : ∀ (i : Nat) (y : AV) (u : Value), c[i]? = some y → vs[i]? = some u → DenA M ι y u) : BoxAt M ι vs c :=
  ⟨hs, fun j x hx => by
    have hj := (List.getElem?_eq_some_iff.1 hx).1
    have : vs[j]? = some vs[j] := by simp [hs, hj]
    exact ⟨_, this, hd j x _ hx this⟩⟩

/-- alloc -/
theorem alloc_sem {o : Oper} {t : TypeId} {d : Tmp} {ρ : Operand → AV} {hp : Nat → Option Blk} {K : Eff → Prop} (ho : o.op = .alloc t)
    (h : bif (T t).k.known then forceL ((T t).zero.map zA) fun c => K ⟨.ptr d 0 0, [(d, .box c false)], some d⟩ else False) : ∃ e, K e ∧ OpSem P o ρ hp e := by
  cases hk : (T t).k.known with
  | false => simp [hk] at h
  | true =>
    simp only [hk, cond_true] at h
    refine ⟨_, forceL_out h, opSem_run fun own M ι a w hown ha hh hρ => ?_⟩
    obtain ⟨z, hz, hzc⟩ := run_zeroT hT w hk
    refine ⟨_, w.alloc (.cells z.cells t), ?_, post_box hown ha hh (zero_box hzc M ι) fun x hx => ?_⟩
    · simp [execOp, ho, Instr.alloc, hz, run_newVar]
    · obtain ⟨d', _, rfl⟩ := List.mem_map.1 hx
      exact free_zA d' d

omit hT in
/-- box -/
theorem box_sem {o : Oper} {t : TypeId} {x : Operand} {d : Tmp} {ρ : Operand → AV} {hp : Nat → Option Blk} {K : Eff → Prop} (ho : o.op = .box t x)
    (h : force (ρ x) fun v => bif cells1 hp (cellsOf v) then forceL (killB.cells d (cellsOf v)) fun c => K ⟨.ptr d 0 0, [(d, .box c false)], some d⟩ else False) : ∃ e, K e ∧ OpSem P o ρ hp e := by
  have h := (force_out h).1
  cases hc : cells1 hp (cellsOf (ρ x)) with
  | false => simp [hc] at h
  | true =>
    simp only [hc, cond_true] at h
    refine ⟨_, forceL_out h, opSem_run fun own M ι a w hown ha hh hρ => ?_⟩
    obtain ⟨e1, e2, e3⟩ := cellsOf_den hh hc (hρ x)
    have hb := box_of_cells e1 e2
    have hb' : BoxAt M ι (a.eval x).cells (killB.cells d (cellsOf (ρ x))) := by
      refine ⟨by rw [killB_cells_len]; exact e1, fun j y hy => ?_⟩
      rw [killB_cells_get] at hy
      cases hcj : (cellsOf (ρ x))[j]? with
      | none => simp [hcj] at hy
      | some z =>
        simp only [hcj, Option.map_some, Option.some.injEq] at hy
        subst hy
        obtain ⟨v, g1, g2⟩ := hb.den j z hcj
        exact ⟨v, g1, g2.killV d⟩
    refine ⟨_, w.alloc (.cells (a.eval x).cells t), ?_, post_box hown ha hh hb' fun y hy => ?_⟩
    · simp [execOp, ho, Instr.box, run_newVar]
    · obtain ⟨j, hj, rfl⟩ := List.getElem_of_mem hy
      have := killB_cells_get d (cellsOf (ρ x)) j
      rw [List.getElem?_eq_getElem hj] at this
      cases hcj : (cellsOf (ρ x))[j]? with
      | none => simp [hcj] at this
      | some z =>
        simp only [hcj, Option.map_some, Option.some.injEq] at this
        rw [this]
        exact killV_free d z
end
end Go.Lk

namespace Go.Lk
open Go Go.RowKit

theorem rowcells_get (cur : Array Value) (vs : List Value) (o k : Nat) (h : o + vs.length ≤ cur.size) :
    ((cur.toList.take o ++ vs ++ cur.toList.drop (o + vs.length)).toArray)[k]? = if o ≤ k ∧ k < o + vs.length then vs[k - o]? else cur[k]? := by
  have hlt : (cur.toList.take o).length = o := by simp; omega
  simp only [List.getElem?_toArray]
  by_cases h1 : k < o
  · rw [if_neg (by omega), List.append_assoc, List.getElem?_append_left (by omega), List.getElem?_take_of_lt h1]
    simp
  · by_cases h2 : k < o + vs.length
    · rw [if_pos ⟨by omega, h2⟩, List.append_assoc, List.getElem?_append_right (by omega), List.getElem?_append_left (by omega), hlt]
    · rw [if_neg (by omega), List.getElem?_append_right (by simp; omega)]
      simp only [List.length_append, hlt, List.getElem?_drop]
      rw [show o + vs.length + (k - (o + vs.length)) = k by omega]
      simp

theorem memN_false {b : Nat} {ns : List Nat} (h : memN b ns = false) : b ∉ ns := by
  induction ns with
  | nil => simp
  | cons x r ih =>
    simp only [memN] at h
    cases hb : Nat.beq b x with
    | true => simp [hb] at h
    | false =>
      simp only [hb, cond_false] at h
      intro hm
      cases hm with
      | head => simp at hb
      | tail _ hm => exact ih h hm

theorem frz_not {hp0 : Nat → Option Blk} {b : Nat} : ∀ (ns : List Nat) (hp : Nat → Option Blk), b ∉ ns → writes hp (frz hp0 ns) b = hp b
  | [], _, _ => rfl
  | c :: r, hp, h => by
    have hr : b ∉ r := fun e => h (List.mem_cons_of_mem _ e)
    have hc : b ≠ c := fun e => h (by rw [e]; exact List.mem_cons_self ..)
    simp only [frz]
    cases hb : hp0 c with
    | none => exact frz_not r hp hr
    | some B =>
      cases B with
      | box x fr => exact frz_not r hp hr
      | row l sz fr =>
        simp only [writes]
        rw [frz_not r _ hr, upd_other _ _ hc]

section
variable {P : Program} {T : Tab} (hT : TabOk P T)

/-- cells of one own block are written -/
theorem write_cells {own : Nat → Prop} {M : Mem} {w : World} {blk : Nat} {cs : Array Value} {Ty : TypeId} (ha : Agree M w) (hown : own blk) (hcl : ∀ o, M blk o = none) (hheap : w.heap[blk]? = some (.cells cs Ty (0, 0)))
    (vs : List Value) (o : Nat) (hle : o + vs.length ≤ cs.size) (h1 : ∀ u ∈ vs, u.oneCell' = true) :
    ∃ cs' : Array Value, (storeCells ⟨blk, o, none⟩ vs).run P w = .ok () (w.setRow blk cs') ∧ Agree M (w.setRow blk cs') ∧ FrameOwn own w (w.setRow blk cs') ∧ (w.setRow blk cs').heap[blk]? = some (.cells cs' Ty (0, 0)) ∧ cs'.size = cs.size ∧
      (∀ k, cs'[k]? = if o ≤ k ∧ k < o + vs.length then vs[k - o]? else cs[k]?) ∧ ∀ b, b ≠ blk → (w.setRow blk cs').heap[b]? = w.heap[b]? := by
  have hoth : ∀ (cs' : Array Value) (b : Nat), b ≠ blk → (w.setRow blk cs').heap[b]? = w.heap[b]? := fun cs' b hb => by
    simp only [World.setRow, Array.getElem?_modify]
    rw [if_neg (by omega)]
  have hget := rowcells_get cs vs o
  refine ⟨_, run_storeCells_at (P := P) blk o Ty vs 0 cs w hheap hle h1, ?_, ?_, setRow_heap w blk cs _ Ty _ hheap, ?_, ?_, hoth _⟩
  · intro b off v hv
    have hb : b ≠ blk := by rintro rfl; rw [hcl] at hv; cases hv
    have := ha b off v hv
    simp only [World.cell?] at this ⊢
    rw [hoth _ _ hb]
    exact this
  · refine ⟨rfl, rfl, rfl, by simp [World.setRow], fun c hc => hoth _ _ fun e => hc (e ▸ hown)⟩
  · simp; omega
  · intro k
    simpa using hget k hle

include hT in
theorem run_storeVarT {t : TypeId} (hk : (T t).k.known = true) {v : Value} {a : Addr} {w w' : World} (hs : v.cells.size = (T t).size) (h : (storeCells a v.cells.toList).run P w = .ok () w') : (storeVar t a v).run P w = .ok () w' := by
  simp [storeVar, run_sizeT hT w hk, hs, h]

theorem splice_all {α : Type} {c l : List α} {j : Nat} (h : j + l.length ≤ c.length) (he : l.length = c.length) : splice c j l = l := by
  apply List.ext_getElem?
  intro k
  rw [splice_get l c j k h]
  have hj : j = 0 := by omega
  subst hj
  by_cases hk : k < l.length
  · rw [if_pos ⟨Nat.zero_le _, by omega⟩, Nat.sub_zero]
  · rw [if_neg (by omega), List.getElem?_eq_none (by omega), List.getElem?_eq_none (by omega)]
theorem storeK_out {c : List AV} {j : Nat} {v : AV} {K : List AV → Prop} (hle : j + (cellsOf v).length ≤ c.length) (h : storeK c j v K) : K (splice c j (cellsOf v)) := by
  cases v with
  | agg l =>
    simp only [storeK, cellsOf] at h hle ⊢
    cases he : Nat.beq l.length c.length with
    | true =>
      simp only [he, cond_true] at h
      rw [splice_all hle (Nat.eq_of_beq_eq_true he)]
      exact forceL_out h
    | false =>
      rw [← spliceF_eq hle]
      simpa only [he, cond_false] using h
  | _ => exact h

include hT in
/-- store -/
theorem storeBox_sem {o : Oper} {t : TypeId} {x y : Operand} {ρ : Operand → AV} {hp : Nat → Option Blk} {K : Eff → Prop} {b i j : Nat} {c : List AV} (ho : o.op = .store t x y) (hx : ρ x = .ptr b i j) (hb : hp b = some (.box c false))
    (h : force (ρ y) fun v => condK (i = 0) (bif (T t).k.known && Nat.beq (cellsOf v).length (T t).size then (bif cells1 hp (cellsOf v) then (bif Nat.ble (j + (T t).size) c.length then storeK c j v fun c => K ⟨.dead, [(b, .box c false)], none⟩ else False) else False) else False)) :
    ∃ e, K e ∧ OpSem P o ρ hp e := by
  have h' := (force_out h).1
  clear h
  have hi := (condK_out h').1
  have h := (condK_out h').2
  clear h'
  subst hi
  cases hk : (T t).k.known && Nat.beq (cellsOf (ρ y)).length (T t).size with
  | false => simp only [hk, cond_false] at h
  | true =>
    simp only [hk, cond_true] at h
    simp only [Bool.and_eq_true] at hk
    have hlen := Nat.eq_of_beq_eq_true hk.2
    cases hc : cells1 hp (cellsOf (ρ y)) with
    | false => simp [hc] at h
    | true =>
      cases hl : Nat.ble (j + (T t).size) c.length with
      | false => simp [hc, hl] at h
      | true =>
        simp only [hc, hl, cond_true] at h
        have hle := Nat.le_of_ble_eq_true hl
        have h := storeK_out (by rw [hlen]; exact hle) h
        refine ⟨_, h, opSem_skip fun own M ι a w hown ha hh hρ => ?_⟩
        obtain ⟨e1, e2, e3⟩ := cellsOf_den hh hc (hρ y)
        have hvx := hρ x
        rw [hx] at hvx
        generalize hvv : a.eval x = vx at hvx
        cases hvx with
        | ptrL _ _ _ _ hL => rw [(hh.dom b).2 hL] at hb; cases hb
        | ptr _ _ _ L hL =>
          obtain ⟨hown1, cs, Ty, hheap, hsz, a1, a2, a3, a5⟩ := hh.at_ b _ L hb hL
          have hcl := hh.closed hL _ hb rfl
          obtain ⟨cs', g1, g2, g3, g4, g5, g6, g7⟩ := write_cells (P := P) (own := own) ha hown1 hcl hheap (a.eval y).cells.toList j (by simp [e1, hlen, hsz, a2]; exact hle) e3
          refine ⟨w.setRow L.blk cs', ?_, M, ι, g3, .refl M, g2, .refl _ _, ?_, fun _ _ => rfl, .dead _⟩
          · have : (0 * L.sz + j) = j := by omega
            simp [execOp, ho, hvv, Instr.storeAt, Instr.sureAddr, run_storeVarT hT hk.1 (v := a.eval y) (by rw [e1, hlen]) g1]
          · refine hh.set b (.box (splice c j (cellsOf (ρ y))) false) (by rw [hb]; simp) (.refl M) (fun e => by rw [hL] at e; cases e) (fun L' hL' => ?_) fun b' L' hne hL' => ⟨g7 _ fun e => hne (hh.inj b' b L' L hL' hL e), hh.closed hL'⟩
            rw [hL] at hL'; cases hL'
            refine ⟨cs', Ty, g4, by rw [g5]; exact hsz, by rw [splice_len]; exact a1, by rw [splice_len]; exact a2, ⟨by rw [splice_len, g5]; exact a3.size, fun k z hz => ?_⟩, (by intro e; cases e), fun _ => hcl⟩
            rw [splice_get _ _ _ _ (by rw [hlen]; exact hle)] at hz
            rw [g6 k]
            have hll : (a.eval y).cells.toList.length = (cellsOf (ρ y)).length := by simpa using e1
            rw [hll]
            split at hz
            · rename_i hin
              rw [if_pos hin]
              have hk2 := (List.getElem?_eq_some_iff.1 hz).1
              have : (a.eval y).cells.toList[k - j]? = some ((a.eval y).cells.toList[k - j]'(by omega)) := List.getElem?_eq_getElem _
              exact ⟨_, this, e2 (k - j) z _ hz (by simpa using this)⟩
            · rename_i hin
              rw [if_neg hin]
              exact a3.den k z hz

include hT in
theorem storeRow_sem {o : Oper} {t : TypeId} {x y : Operand} {ρ : Operand → AV} {hp : Nat → Option Blk} {K : Eff → Prop} {b i j : Nat} {l : List (List D)} {sz : Nat} (ho : o.op = .store t x y) (hx : ρ x = .ptr b i j) (hb : hp b = some (.row l sz false))
    (h : force (ρ y) fun v => match conv.cells hp (cellsOf v) with
        | some xs => bif (T t).k.known && Nat.beq (cellsOf v).length (T t).size && !memN b (openNames.cells hp (cellsOf v)) then (bif cells1 hp (cellsOf v) then getRow l i fun e => bif Nat.ble (j + (T t).size) e.length then K ⟨.dead, frz hp (openNames.cells hp (cellsOf v)) ++ [(b, .row (l.set i (splice e j xs)) sz false)], none⟩ else False else False) else False
        | none => False) :
    ∃ e, K e ∧ OpSem P o ρ hp e := by
  have h := (force_out h).1
  cases hcv : conv.cells hp (cellsOf (ρ y)) with
  | none => simp [hcv] at h
  | some xs =>
    simp only [hcv] at h
    cases hk : (T t).k.known && Nat.beq (cellsOf (ρ y)).length (T t).size && !memN b (openNames.cells hp (cellsOf (ρ y))) with
    | false => simp only [hk, cond_false] at h
    | true =>
      simp only [hk, cond_true] at h
      simp only [Bool.and_eq_true] at hk
      have hlen := Nat.eq_of_beq_eq_true hk.1.2
      have hnm : b ∉ openNames.cells hp (cellsOf (ρ y)) := memN_false (by simpa using hk.2)
      cases hc : cells1 hp (cellsOf (ρ y)) with
      | false => simp [hc] at h
      | true =>
        simp only [hc, cond_true] at h
        obtain ⟨e, he, h⟩ := getRow_out h
        cases hl : Nat.ble (j + (T t).size) e.length with
        | false => simp [hl] at h
        | true =>
          simp only [hl, cond_true] at h
          have hle := Nat.le_of_ble_eq_true hl
          refine ⟨_, h, opSem_skip fun own M ι a w hown ha hh hρ => ?_⟩
          obtain ⟨M1, s1, a1, n1, h1, l1, f1⟩ := freezeAll (hp0 := hp) (openNames.cells hp (cellsOf (ρ y))) M hp ha hh (.refl hp)
          have hb1 : writes hp (frz hp (openNames.cells hp (cellsOf (ρ y)))) b = some (.row l sz false) := by rw [frz_not _ _ hnm]; exact hb
          obtain ⟨e1, e2, e3⟩ := cellsOf_den hh hc (hρ y)
          obtain ⟨x1, x2⟩ := conv_cells_get hcv
          have hxd : ∀ (k : Nat) (d : D), xs[k]? = some d → ∃ u, (a.eval y).cells[k]? = some u ∧ DenD M1 d u := by
            intro k d hd
            obtain ⟨z, z1, z2, _⟩ := x2 k d hd
            have hkl := (List.getElem?_eq_some_iff.1 z1).1
            have hu : (a.eval y).cells[k]? = some (a.eval y).cells[k] := by simp [e1, hkl]
            refine ⟨_, hu, den_conv_one h1 (by rw [conv_one_frz l1]; exact z2) ?_ ((e2 k z _ z1 hu).mono s1)⟩
            have := openNames_frz (hp0 := hp) (fun b l sz fr hb e => f1 b l sz fr (.inl hb) e) l1 (.agg (cellsOf (ρ y))) (fun b hb => by simpa [openNames] using hb)
            obtain ⟨_, _, z3⟩ := (conv_cells_get (hp := writes hp (frz hp (openNames.cells hp (cellsOf (ρ y))))) (by rw [conv_cells_frz l1]; exact hcv)).2 k d hd
            have hz : ∀ (c : List AV) (hp : Nat → Option Blk), openNames.cells hp c = [] → ∀ (k : Nat) (z : AV), c[k]? = some z → openNames.one hp z = [] := by
              intro c hp
              induction c with
              | nil => intro _ k z hz; simp at hz
              | cons q r ih =>
                intro hq k z hz
                simp only [openNames.cells, List.append_eq_nil_iff] at hq
                cases k with
                | zero => simp at hz; subst hz; exact hq.1
                | succ k => exact ih hq.2 k z (by simpa using hz)
            exact hz _ _ (by simpa [openNames] using this) k z z1
          have hvx := hρ x
          rw [hx] at hvx
          generalize hvv : a.eval x = vx at hvx
          cases hvx with
          | ptrL _ _ _ _ hL => rw [(hh.dom b).2 hL] at hb; cases hb
          | ptr _ _ _ L hL =>
            obtain ⟨hown1, cs, Ty, hheap, hsz, q1, q2, q3, q4, q5⟩ := h1.at_ b _ L hb1 hL
            subst q1
            have hcl := h1.closed hL _ hb1 rfl
            have hel := q4.len i e he
            have hil := (List.getElem?_eq_some_iff.1 he).1
            have hbnd : i * L.sz + j + (T t).size ≤ cs.size := by
              rw [hsz]
              refine Nat.le_trans ?_ q3
              calc i * L.sz + j + (T t).size ≤ i * L.sz + L.sz := by omega
                _ = (i + 1) * L.sz := by rw [Nat.add_mul, Nat.one_mul]
                _ ≤ l.length * L.sz := Nat.mul_le_mul_right _ hil
            obtain ⟨cs', g1, g2, g3, g4, g5, g6, g7⟩ := write_cells (P := P) (own := own) a1 hown1 hcl hheap (a.eval y).cells.toList (i * L.sz + j) (by simp [e1, hlen]; exact hbnd) e3
            refine ⟨w.setRow L.blk cs', ?_, M1, ι, g3, s1, g2, n1, ?_, fun _ _ => rfl, .dead _⟩
            · simp [execOp, ho, hvv, Instr.storeAt, Instr.sureAddr, run_storeVarT hT hk.1.1 (v := a.eval y) (by rw [e1, hlen]) g1]
            · have ehp : (⟨.dead, frz hp (openNames.cells hp (cellsOf (ρ y))) ++ [(b, .row (l.set i (splice e j xs)) L.sz false)], none⟩ : Eff).hp hp = upd (writes hp (frz hp (openNames.cells hp (cellsOf (ρ y))))) b (some (.row (l.set i (splice e j xs)) L.sz false)) := by
                simp only [Eff.hp, writes_append, writes]; rfl
              rw [ehp]
              refine h1.set b _ (by rw [hb1]; simp) (.refl M1) (fun e => by rw [hL] at e; cases e) (fun L' hL' => ?_) fun b' L' hne hL' => ⟨g7 _ fun e => hne (h1.inj b' b L' L hL' hL e), h1.closed hL'⟩
              rw [hL] at hL'; cases hL'
              have hxl : xs.length = (T t).size := by rw [x1, hlen]
              refine ⟨cs', Ty, g4, by rw [g5]; exact hsz, rfl, by simpa using q2, by simpa using q3, ⟨fun i' e' he' => ?_, fun i' j' e' d' he' hd' => ?_⟩, (by intro e; cases e), fun _ => hcl⟩
              · rw [List.getElem?_set] at he'
                split at he'
                · simp only [hil, if_true, Option.some.injEq] at he'
                  subst he'
                  rw [splice_len]; exact hel
                · exact q4.len i' e' he'
              · rw [g6]
                have hll : (a.eval y).cells.toList.length = (T t).size := by simp [e1, hlen]
                rw [hll]
                rw [List.getElem?_set] at he'
                split at he'
                · rename_i hii
                  subst hii
                  simp only [hil, if_true, Option.some.injEq] at he'
                  subst he'
                  rw [splice_get _ _ _ _ (by rw [hxl]; exact hle)] at hd'
                  rw [hxl] at hd'
                  split at hd'
                  · rename_i hin
                    rw [if_pos ⟨by omega, by omega⟩]
                    obtain ⟨u, u1, u2⟩ := hxd _ _ hd'
                    exact ⟨u, by rw [show i * L.sz + j' - (i * L.sz + j) = j' - j by omega]; simpa using u1, u2⟩
                  · rename_i hin
                    rw [if_neg (by omega)]
                    exact q4.den i j' e d' he hd'
                · rename_i hii
                  have hj' := (List.getElem?_eq_some_iff.1 hd').1
                  rw [q4.len i' e' he'] at hj'
                  have hne : ¬ (i * L.sz + j ≤ i' * L.sz + j' ∧ i' * L.sz + j' < i * L.sz + j + (T t).size) := by
                    rintro ⟨c1, c2⟩
                    rcases Nat.lt_or_ge i' i with hlt | hge
                    · have : (i' + 1) * L.sz ≤ i * L.sz := Nat.mul_le_mul_right _ hlt
                      rw [Nat.add_mul, Nat.one_mul] at this
                      omega
                    · have hgt : i + 1 ≤ i' := by omega
                      have : (i + 1) * L.sz ≤ i' * L.sz := Nat.mul_le_mul_right _ hgt
                      rw [Nat.add_mul, Nat.one_mul] at this
                      omega
                  rw [if_neg hne]
                  exact q4.den i' j' e' d' he' hd'
end
end Go.Lk

namespace Go.Lk
open Go Go.RowKit

theorem fill_fold (vs : Array Value) (off : Nat) : ∀ (n : Nat) (l : List Value) (k0 : Nat) (cells : Array Value), l = vs.toList.drop k0 → off + vs.size ≤ cells.size →
    ∃ cs : Array Value, (l.zipIdx k0).foldl (fun cs (x : Value × Nat) => cs.setIfInBounds (off + x.2) x.1) cells = cs ∧ cs.size = cells.size ∧ ∀ k, cs[k]? = if off + k0 ≤ k ∧ k < off + vs.size then vs[k - off]? else cells[k]?
  | _, [], k0, cells, hl, h => ⟨cells, rfl, rfl, fun k => by
      have : vs.size ≤ k0 := by
        have := congrArg List.length hl
        simp at this; omega
      rw [if_neg (by omega)]⟩
  | n, v :: r, k0, cells, hl, h => by
    have hk : k0 < vs.size := by
      have := congrArg List.length hl
      simp at this; omega
    have hv : vs.toList.drop k0 = vs[k0] :: vs.toList.drop (k0 + 1) := by
      rw [List.drop_eq_getElem_cons (by simpa using hk)]; simp
    rw [hv] at hl
    simp only [List.cons.injEq] at hl
    obtain ⟨rfl, hr⟩ := hl
    obtain ⟨cs, e1, e2, e3⟩ := fill_fold vs off n r (k0 + 1) (cells.setIfInBounds (off + k0) vs[k0]) hr (by simpa using h)
    refine ⟨cs, by simpa [List.zipIdx_cons] using e1, by simpa using e2, fun k => ?_⟩
    rw [e3]
    by_cases h1 : off + (k0 + 1) ≤ k ∧ k < off + vs.size
    · rw [if_pos h1, if_pos ⟨by omega, h1.2⟩]
    · rw [if_neg h1, Array.getElem?_setIfInBounds]
      by_cases h2 : off + k0 = k
      · subst h2
        rw [if_pos rfl, if_pos (by omega), if_pos ⟨by omega, by omega⟩]
        simp [show off + k0 - off = k0 by omega, hk]
      · rw [if_neg h2, if_neg (by omega)]

def CDen (M : Mem) (ι : Inj) (c : List AV) (cs : Array Value) : Prop := cs.size = c.length ∧ ∀ (i : Nat) (y : AV) (u : Value), c[i]? = some y → cs[i]? = some u → DenA M ι y u

theorem partsA_out {hp : Nat → Option Blk} {ρ : Operand → AV} {off : Nat → Option (Nat × Nat)} : ∀ {ps : List (Nat × Operand)} {c : List AV} {K : List AV → Prop}, partsA hp ρ off c ps K →
    ∃ c', K c' ∧ c'.length = c.length ∧ ∀ (own : Nat → Prop) (M : Mem) (ι : Inj) (a : Act) (w : World) (cs : Array Value), HRel own M ι hp w → (∀ x, DenA M ι (ρ x) (a.eval x)) → CDen M ι c cs →
      ∃ cs', Instr.fill off cs (ps.map fun p => (p.1, a.eval p.2)) = some cs' ∧ CDen M ι c' cs'
  | [], c, K, h => ⟨c, h, rfl, fun _ M ι a w cs _ _ hc => ⟨cs, rfl, hc⟩⟩
  | (i, x) :: r, c, K, h => by
    simp only [partsA] at h
    cases ho : off i with
    | none => simp [ho] at h
    | some p =>
      obtain ⟨o, s⟩ := p
      simp only [ho] at h
      have h := (force_out h).1
      cases hb : Nat.beq (cellsOf (ρ x)).length s && Nat.ble (o + s) c.length with
      | false => simp only [hb, cond_false] at h
      | true =>
        simp only [hb, cond_true] at h
        simp only [Bool.and_eq_true] at hb
        have hs := Nat.eq_of_beq_eq_true hb.1
        have hle := Nat.le_of_ble_eq_true hb.2
        cases hc1 : cells1 hp (cellsOf (ρ x)) with
        | false => simp only [hc1, cond_false] at h
        | true =>
          simp only [hc1, cond_true] at h
          rw [spliceF_eq (by rw [hs]; exact hle)] at h
          obtain ⟨c', hK, hl, hd⟩ := partsA_out h
          refine ⟨c', hK, by rw [hl, splice_len], fun own M ι a w cs hh hρ hcs => ?_⟩
          obtain ⟨e1, e2, _⟩ := cellsOf_den hh hc1 (hρ x)
          obtain ⟨cs1, g1, g2, g3⟩ := fill_fold (a.eval x).cells o (a.eval x).cells.size (a.eval x).cells.toList 0 cs (by simp) (by rw [e1, hs, hcs.1]; exact hle)
          have hcs1 : CDen M ι (splice c o (cellsOf (ρ x))) cs1 := by
            refine ⟨by rw [g2, splice_len]; exact hcs.1, fun k y u hy hu => ?_⟩
            rw [splice_get _ _ _ _ (by rw [hs]; exact hle)] at hy
            rw [g3] at hu
            rw [e1] at hu
            simp only [Nat.add_zero] at hu
            split at hy
            · rename_i hin
              rw [if_pos hin] at hu
              exact e2 _ y u hy hu
            · rename_i hin
              rw [if_neg hin] at hu
              exact hcs.2 k y u hy hu
          obtain ⟨cs', f1, f2⟩ := hd own M ι a w cs1 hh hρ hcs1
          refine ⟨cs', ?_, f2⟩
          have hsz : ¬ ((a.eval x).cells.size ≠ s || decide (o + (a.eval x).cells.size > cs.size)) = true := by
            rw [e1, hs, hcs.1]; simp; exact hle
          simp only [List.map_cons, Instr.fill, ho]
          rw [if_neg (by simpa using hsz)]
          have gz : (a.eval x).cells.zipIdx.foldl (fun cs (x : Value × Nat) => cs.setIfInBounds (o + x.2) x.1) cs = cs1 := by
            rw [← g1, ← Array.foldl_toList]; simp
          have : (a.eval x).cells.zipIdx.foldl (fun cs (x : Value × Nat) => match x with | (c, j) => cs.setIfInBounds (o + j) c) cs = cs1 := gz
          rw [this]
          exact f1
end Go.Lk

namespace Go.Lk
open Go Go.RowKit

theorem bif_and {a b : Bool} {A : Prop} (h : bif a && b then A else False) : a = true ∧ b = true ∧ A := by
  cases a <;> cases b <;> simp_all
theorem bif_one {a : Bool} {A : Prop} (h : bif a then A else False) : a = true ∧ A := by
  cases a <;> simp_all

section
variable {P : Program} {T : Tab} (hT : TabOk P T)
include hT

omit hT in
theorem zero_cden {t : TypeId} {z : Value} (hz : zeroChk z.cells.toList (T t).zero = true) (M : Mem) (ι : Inj) : CDen M ι ((T t).zero.map zA) z.cells := by
  have hb := zero_box (T := T) hz M ι
  refine ⟨hb.size, fun i y u hy hu => ?_⟩
  obtain ⟨v, e1, e2⟩ := hb.den i y hy
  rw [hu] at e1; cases e1
  exact e2

theorem run_places (F : List Field) (hF : ∀ f ∈ F, (T f.type).k.known = true) (w : World) :
    (F.mapM (m := Sem) fun f => do pure (f.offset, ← sizeOf f.type)).run P w = .ok (F.map fun f => (f.offset, (T f.type).size)) w := by
  induction F with
  | nil => simp
  | cons f r ih =>
    simp only [List.mapM_cons, Sem.run_bind, run_sizeT hT w (hF f (List.mem_cons_self ..)), Result.andThen_ok, Sem.run_pure, ih fun g hg => hF g (List.mem_cons_of_mem _ hg), List.map_cons]

theorem build_sem {o : Oper} {t : TypeId} {ps : Array (Nat × Operand)} {ρ : Operand → AV} {hp : Nat → Option Blk} {K : Eff → Prop} (ho : o.op = .build t ps)
    (h : match (T t).k with
    | .struct fs => partsA hp ρ (offIn T fs) ((T t).zero.map zA) ps.toList fun c => forceL c fun c => K ⟨.agg c, [], none⟩
    | .arr _ e => partsA hp ρ (fun i => some (i * (T e).size, (T e).size)) ((T t).zero.map zA) ps.toList fun c => K ⟨.agg c, [], none⟩
    | _ => False) : ∃ e, K e ∧ OpSem P o ρ hp e := by
  split at h
  · rename_i fs hk
    obtain ⟨F, hu, hF, hkn, _⟩ := und_struct hT hk
    obtain ⟨c', hK, hl, hd⟩ := partsA_out h
    refine ⟨_, forceL_out hK, opSem_val fun own M ι a w ha hh hρ => ?_⟩
    obtain ⟨z, hz, hzc⟩ := run_zeroT hT (t := t) w (by rw [hk]; rfl)
    obtain ⟨cs', f1, f2⟩ := hd own M ι a w z.cells hh hρ (zero_cden hzc M ι)
    refine ⟨.agg cs', ?_, .agg _ _ f2.1 f2.2⟩
    have hpl : (F.mapM (m := Sem) fun f => do pure (f.offset, ← sizeOf f.type)).run P w = .ok (F.map fun f => (f.offset, (T f.type).size)) w := by
      rw [Array.mapM_eq_mapM_toList, Sem.run_map, run_places hT F.toList (fun f hf => hkn (f.offset, f.type) (by rw [← hF]; exact List.mem_map.2 ⟨f, hf, rfl⟩)) w]
      simp [Result.andThen]
      apply Array.ext'
      simp
    have hoff : (fun i => (F.map fun f => (f.offset, (T f.type).size))[i]?) = offIn T fs := by
      funext i
      rw [← hF]
      unfold offIn
      rw [List.getElem?_map, Array.getElem?_map, Array.getElem?_toList]
      cases F[i]? <;> rfl
    have hps : ((ps.map fun (x : Nat × Operand) => (x.1, a.eval x.2)).toList) = ps.toList.map fun p => (p.1, a.eval p.2) := by simp
    have e0 : (execOp a.eval o).run P w = ((Instr.build t (ps.map fun (x : Nat × Operand) => (x.1, a.eval x.2))).run P w).andThen fun v w => .ok (.value v) w := by
      simp [execOp, ho]
    rw [e0]
    simp only [Instr.build, Sem.run_bind, hz, Result.andThen_ok, run_underlying hu, hpl, hoff, hps, f1, Sem.run_pure]
  · rename_i n e hk
    obtain ⟨hu, hke⟩ := und_arr hT hk
    obtain ⟨c', hK, hl, hd⟩ := partsA_out h
    refine ⟨_, hK, opSem_val fun own M ι a w ha hh hρ => ?_⟩
    obtain ⟨z, hz, hzc⟩ := run_zeroT hT (t := t) w (by rw [hk]; rfl)
    obtain ⟨cs', f1, f2⟩ := hd own M ι a w z.cells hh hρ (zero_cden hzc M ι)
    refine ⟨.agg cs', ?_, .agg _ _ f2.1 f2.2⟩
    have hps : ((ps.map fun (x : Nat × Operand) => (x.1, a.eval x.2)).toList) = ps.toList.map fun p => (p.1, a.eval p.2) := by simp
    have e0 : (execOp a.eval o).run P w = ((Instr.build t (ps.map fun (x : Nat × Operand) => (x.1, a.eval x.2))).run P w).andThen fun v w => .ok (.value v) w := by
      simp [execOp, ho]
    rw [e0]
    simp only [Instr.build, Sem.run_bind, hz, Result.andThen_ok, run_underlying hu, run_sizeT hT w hke, hps, f1, Sem.run_pure]
  · exact h.elim

omit hT in
theorem chunk_len (sz : Nat) : ∀ (n : Nat) (xs : List D), (opG.chunk sz n xs).length = n
  | 0, _ => rfl
  | n + 1, xs => by simp [opG.chunk, chunk_len sz n]
omit hT in
theorem chunk_get (sz : Nat) : ∀ (n : Nat) (xs : List D) (i : Nat), i < n → (opG.chunk sz n xs)[i]? = some ((xs.drop (i * sz)).take sz)
  | 0, _, _, h => by omega
  | n + 1, xs, 0, _ => by simp [opG.chunk]
  | n + 1, xs, i + 1, h => by
    simp only [opG.chunk, List.getElem?_cons_succ]
    rw [chunk_get sz n (xs.drop sz) i (by omega), List.drop_drop]
    rw [show sz + i * sz = (i + 1) * sz by rw [Nat.add_mul, Nat.one_mul, Nat.add_comm]]

theorem zeros_cden {e : TypeId} (hk : (T e).k.known = true) {z : Value} (hz : zeroChk z.cells.toList (T e).zero = true) (n : Nat) (M : Mem) (ι : Inj) :
    CDen M ι (zeros T e n) ((Array.range (n * (T e).size)).map (z.cells[· % z.cells.size]!)) := by
  obtain ⟨e1, e2⟩ := zeroChk_get hz
  have hzl := zero_len hT hk
  have hpos := size_pos hT hk
  have hzs : z.cells.size = (T e).size := by rw [← hzl, ← e1]; simp
  refine ⟨by simp [zeros], fun i y u hy hu => ?_⟩
  simp only [zeros, List.getElem?_map] at hy
  simp only [Array.getElem?_map] at hu
  by_cases hi : i < n * (T e).size
  · rw [List.getElem?_range hi] at hy
    simp only [Option.map_some, Option.some.injEq] at hy
    rw [Array.getElem?_range] at hu
    rw [if_pos hi] at hu
    simp only [Option.map_some, Option.some.injEq] at hu
    have hm : i % (T e).size < (T e).size := Nat.mod_lt _ hpos
    have hd : (T e).zero[i % (T e).size]? = some ((T e).zero[i % (T e).size]'(by omega)) := List.getElem?_eq_getElem (by omega)
    obtain ⟨v, g1, g2, g3⟩ := e2 _ _ hd
    have hu2 : u = v := by
      rw [← hu, hzs]
      have : z.cells[i % (T e).size]? = some v := by simpa using g1
      have hlt : i % (T e).size < z.cells.size := by omega
      rw [getElem!_pos z.cells _ hlt]
      rw [Array.getElem?_eq_getElem hlt] at this
      simpa using this
    rw [← hy, hu2]
    have : (T e).zero.getD (i % (T e).size) .nilp = (T e).zero[i % (T e).size]'(by omega) := by
      simp [List.getD, hd]
    rw [this]
    exact zA_den (g2 M) g3
  · rw [List.getElem?_eq_none (by simp; omega)] at hy
    simp at hy

omit hT in
theorem cells_den_frz {own : Nat → Prop} {M M1 : Mem} {ι : Inj} {hp hp1 : Nat → Option Blk} {w : World} (h1 : HRel own M1 ι hp1 w) (s1 : Sub M M1) (l1 : FrzLe hp hp1) {c : List AV} {ds : List D} {cs : Array Value}
    (hf : ∀ b l sz fr, b ∈ openNames.cells hp c → hp b = some (.row l sz fr) → hp1 b = some (.row l sz true)) (hc : conv.cells hp c = some ds) (hd : CDen M ι c cs) :
    ds.length = c.length ∧ ∀ (k : Nat) (d : D), ds[k]? = some d → ∃ u, cs[k]? = some u ∧ DenD M1 d u := by
  obtain ⟨x1, x2⟩ := conv_cells_get hc
  refine ⟨x1, fun k d hk => ?_⟩
  obtain ⟨z, z1, z2, _⟩ := x2 k d hk
  have hkl := (List.getElem?_eq_some_iff.1 z1).1
  have hu : cs[k]? = some (cs[k]'(by rw [hd.1]; exact hkl)) := by simp [hd.1, hkl]
  refine ⟨_, hu, den_conv_one h1 (by rw [conv_one_frz l1]; exact z2) ?_ ((hd.2 k z _ z1 hu).mono s1)⟩
  have := openNames_frz (hp0 := hp) hf l1 (.agg c) (fun b hb => by simpa [openNames] using hb)
  have hz : ∀ (c : List AV) (hp : Nat → Option Blk), openNames.cells hp c = [] → ∀ (k : Nat) (z : AV), c[k]? = some z → openNames.one hp z = [] := by
    intro c hp
    induction c with
    | nil => intro _ k z hz; simp at hz
    | cons q r ih =>
      intro hq k z hz
      simp only [openNames.cells, List.append_eq_nil_iff] at hq
      cases k with
      | zero => simp at hz; subst hz; exact hq.1
      | succ k => exact ih hq.2 k z (by simpa using hz)
  exact hz _ _ (by simpa [openNames] using this) k z z1

omit hT in
/-- a new row of the call's own -/
theorem post_row {own : Nat → Prop} {M M1 : Mem} {ι : Inj} {hp hp1 : Nat → Option Blk} {w : World} (ho : ∀ c, w.heap.size ≤ c → own c) (hs : Sub M M1) (hn : NewDom own M M1) (ha : Agree M1 w) (hh : HRel own M1 ι hp1 w)
    {e : Eff} {d : Nat} {l : List (List D)} {sz : Nat} {vs : Array Value} {Ty : TypeId} {cap : Nat} (he : e.hp hp = upd (killH (some d) hp1) d (some (.row l sz false))) (hk : e.kl = some d) (hav : e.av = .own d)
    (hrow : RowAt M1 vs l sz) (hcap : l.length ≤ cap) (hsz : cap * sz ≤ vs.size) :
    Post own M ι hp w e (.slice (some ⟨w.heap.size, 0, none⟩) l.length cap) (w.alloc (.cells vs Ty)) := by
  refine post_new ho hs hn ha hh rfl rfl rfl rfl (d := d) (B := .row l sz false) (sz := sz) (len := l.length) he hk ?_ ?_
  · exact ⟨vs, Ty, heap_alloc_size w _, rfl, rfl, rfl, Nat.le_trans (Nat.mul_le_mul_right _ hcap) hsz, hrow, (by intro e; cases e), fun _ o => agree_new ha o⟩
  · rw [hav]
    exact .own d ⟨w.heap.size, sz, vs.size, l.length⟩ cap (upd_same _ _ _) hcap hsz

theorem buildSlice_sem {o : Oper} {t : TypeId} {n : Nat} {ps : Array (Nat × Operand)} {d : Tmp} {ρ : Operand → AV} {hp : Nat → Option Blk} {K : Eff → Prop} (ho : o.op = .buildSlice t n ps)
    (h : match (T t).k with
      | .slice e => partsA hp ρ (fun i => some (i * (T e).size, (T e).size)) (zeros T e n) ps.toList fun c => condK (n * (T e).size ≤ 16777216) (match conv.cells hp c with
        | some xs => K ⟨.own d, frz hp (openNames.cells hp c) ++ [(d, .row (opG.chunk (T e).size n xs) (T e).size false)], some d⟩
        | none => False)
      | _ => False) : ∃ e, K e ∧ OpSem P o ρ hp e := by
  split at h
  · rename_i e hk
    obtain ⟨hu, hke⟩ := und_slice hT hk
    obtain ⟨c', h, hl, hd⟩ := partsA_out h
    obtain ⟨hsm, h⟩ := condK_out h
    cases hcv : conv.cells hp c' with
    | none => simp [hcv] at h
    | some xs =>
      simp only [hcv] at h
      refine ⟨_, h, opSem_run fun own M ι a w hown ha hh hρ => ?_⟩
      obtain ⟨ie, z, hie, hsz, hz, hzc⟩ : ∃ ie z, P.info? e = some ie ∧ ie.size = (T e).size ∧ ie.zero = some z ∧ zeroChk z.cells.toList (T e).zero = true := by
        obtain ⟨_, ie, _, hi, _, hs, _, ⟨z, hz, hc⟩, _⟩ := (tyFact hT hke).desc
        exact ⟨ie, z, hi, hs, hz, hc⟩
      obtain ⟨M1, s1, a1, n1, h1, l1, f1⟩ := freezeAll (hp0 := hp) (openNames.cells hp c') M hp ha hh (.refl hp)
      obtain ⟨cs', g1, g2⟩ := hd own M ι a w _ hh hρ (zeros_cden hT hke hzc n M ι)
      have hps : ((ps.map fun (x : Nat × Operand) => (x.1, a.eval x.2)).toList) = ps.toList.map fun p => (p.1, a.eval p.2) := by simp
      obtain ⟨x1, x2⟩ := cells_den_frz h1 s1 l1 (fun b l sz fr hb e => f1 b l sz fr (.inl hb) e) hcv g2
      have hcl : c'.length = n * (T e).size := by rw [hl]; simp [zeros]
      have hrow : RowAt M1 cs' (opG.chunk (T e).size n xs) (T e).size := by
        have hlt : ∀ (i : Nat) (el : List D), (opG.chunk (T e).size n xs)[i]? = some el → i < n ∧ el = (xs.drop (i * (T e).size)).take (T e).size := by
          intro i el hel
          have hi : i < n := by
            have := (List.getElem?_eq_some_iff.1 hel).1
            rwa [chunk_len] at this
          rw [chunk_get _ n xs i hi] at hel
          exact ⟨hi, by simpa using hel.symm⟩
        have hbd : ∀ i, i < n → i * (T e).size + (T e).size ≤ xs.length := by
          intro i hi
          rw [x1, hcl]
          calc i * (T e).size + (T e).size = (i + 1) * (T e).size := by rw [Nat.add_mul, Nat.one_mul]
            _ ≤ n * (T e).size := Nat.mul_le_mul_right _ hi
        refine ⟨fun i el hel => ?_, fun i j el d' hel hd' => ?_⟩
        · obtain ⟨hi, rfl⟩ := hlt i el hel
          have := hbd i hi
          simp; omega
        · obtain ⟨hi, rfl⟩ := hlt i el hel
          rw [List.getElem?_take] at hd'
          split at hd'
          · rw [List.getElem?_drop] at hd'
            exact x2 _ _ hd'
          · cases hd'
      have hpost := post_row (d := d) (Ty := e) (cap := n) hown s1 n1 a1 h1 (e := ⟨.own d, frz hp (openNames.cells hp c') ++ [(d, .row (opG.chunk (T e).size n xs) (T e).size false)], some d⟩) (vs := cs') (l := opG.chunk (T e).size n xs) (sz := (T e).size) (eff_hp_frz _ _ _ _) rfl rfl hrow (by rw [chunk_len]; exact Nat.le_refl _) (by rw [g2.1, hcl]; exact Nat.le_refl _)
      rw [chunk_len] at hpost
      refine ⟨_, _, ?_, hpost⟩
      have e0 : (execOp a.eval o).run P w = ((Instr.buildSlice t n (ps.map fun (x : Nat × Operand) => (x.1, a.eval x.2))).run P w).andThen fun v w => .ok (.value v) w := by
        simp [execOp, ho]
      rw [e0]
      by_cases hn : n = 0
      · subst hn
        have hcs : ((Array.range (0 * (T e).size)).map (z.cells[· % z.cells.size]!)) = #[] := by simp
        rw [hcs] at g1
        simp only [Instr.buildSlice, Sem.run_bind, run_underlying hu, Result.andThen_ok, run_sizeT hT w hke]
        have hr0 : (Array.range 0).map (fun _ => (default : Value)) = #[] := by simp
        have g1' : Instr.fill (fun i => some (i * (T e).size, (T e).size)) #[] (ps.toList.map fun x => (x.1, a.eval x.2)) = some cs' := g1
        simp [hps, newRow]
        rw [hr0, g1']
        simp [newObj]
        rfl
      · have hp0 : ¬ n * ie.size = 0 := by
          rw [hsz]
          have := size_pos hT hke
          intro h0
          rcases Nat.mul_eq_zero.1 h0 with h | h <;> omega
        have h24 : ¬ n * ie.size > 2 ^ 24 := by rw [hsz]; omega
        rw [run_buildSlice (P := P) w t e n _ cs' ie z hu hie hz h24 hp0 (by rw [hsz, hps]; exact g1)]
        rfl
  · exact h.elim

theorem makeSlice_sem {o : Oper} {t : TypeId} {x y : Operand} {d : Tmp} {ρ : Operand → AV} {hp : Nat → Option Blk} {K : Eff → Prop} {n c : Int} {k1 k2 : IntKind} (ho : o.op = .makeSlice t x y) (hx : ρ x = .d (.int k1 n)) (hy : ρ y = .d (.int k2 c)) {e : TypeId} (hk : (T t).k = .slice e)
    (h : condK (0 ≤ n ∧ n ≤ c) (roomK c.toNat (T e).bytes (K ⟨.own d, [(d, .row (List.replicate n.toNat (T e).zero) (T e).size false)], some d⟩))) : ∃ e, K e ∧ OpSem P o ρ hp e := by
  obtain ⟨hu, hke⟩ := und_slice hT hk
  obtain ⟨⟨h0, hnc⟩, h⟩ := condK_out h
  obtain ⟨r1, r2, h⟩ := roomK_out h
  refine ⟨_, h, opSem_run fun own M ι a w hown ha hh hρ => ?_⟩
  have ex := den_int (hx ▸ hρ x)
  have ey := den_int (hy ▸ hρ y)
  obtain ⟨ie, z, hie, hsz, hby, hz, hzc⟩ : ∃ ie z, P.info? e = some ie ∧ ie.size = (T e).size ∧ ie.bytes = (T e).bytes ∧ ie.zero = some z ∧ zeroChk z.cells.toList (T e).zero = true := by
    obtain ⟨_, ie, _, hi, _, hs, hb, ⟨z, hz, hc⟩, _⟩ := (tyFact hT hke).desc
    exact ⟨ie, z, hi, hs, hb, hz, hc⟩
  obtain ⟨z1, z2⟩ := zeroChk_get hzc
  have hzl := zero_len hT hke
  have hpos := size_pos hT hke
  have hzs : z.cells.size = (T e).size := by rw [← hzl, ← z1]; simp
  have hc0 : (c.toNat : Int) = c := by omega
  have hrun := run_make (P := P) w t e ie z hu hie hz k1 k2 n c h0 hnc (by
    rw [hby, ← hc0, Int.mul_comm]
    have : ((c.toNat * (T e).bytes : Nat) : Int) ≤ 35184372088832 := by omega
    rw [Int.natCast_mul] at this
    omega) (by omega)
  have hrow : RowAt M (madeCells z.cells (c.toNat * ie.size)) (List.replicate n.toNat (T e).zero) (T e).size := by
    refine ⟨fun i el hel => ?_, fun i j el d' hel hd' => ?_⟩
    · rw [List.getElem?_replicate] at hel
      split at hel
      · cases hel; exact hzl
      · cases hel
    · rw [List.getElem?_replicate] at hel
      split at hel
      · rename_i hi
        cases hel
        have hj := (List.getElem?_eq_some_iff.1 hd').1
        rw [hzl] at hj
        obtain ⟨v, g1, g2, _⟩ := z2 j d' hd'
        refine ⟨v, ?_, g2 M⟩
        have hlt : i * (T e).size + j < c.toNat * ie.size := by
          rw [hsz]
          calc i * (T e).size + j < i * (T e).size + (T e).size := by omega
            _ = (i + 1) * (T e).size := by rw [Nat.add_mul, Nat.one_mul]
            _ ≤ c.toNat * (T e).size := Nat.mul_le_mul_right _ (by omega)
        simp only [madeCells, Array.getElem?_map, Array.getElem?_range, if_pos hlt, Option.map_some, Option.some.injEq]
        rw [hzs, Nat.mul_comm, Nat.mul_add_mod, Nat.mod_eq_of_lt hj]
        have hlt2 : j < z.cells.size := by omega
        rw [getElem!_pos z.cells _ hlt2]
        have : z.cells[j]? = some v := by simpa using g1
        rw [Array.getElem?_eq_getElem hlt2] at this
        simpa using this
      · cases hel
  have hpost := post_row (d := d) (Ty := e) (cap := c.toNat) (hp := hp) hown (.refl M) (.refl own M) ha hh (e := ⟨.own d, [(d, .row (List.replicate n.toNat (T e).zero) (T e).size false)], some d⟩) rfl rfl rfl hrow (by simp; omega) (by rw [size_madeCells, hsz]; exact Nat.le_refl _)
  refine ⟨_, _, ?_, by simpa using hpost⟩
  simp [execOp, ho, ex, ey, hrun]
end
end Go.Lk

namespace Go.Lk
open Go Go.RowKit

theorem one_cell {M : Mem} {d : D} {v : Value} (h : cell1.one d = true) (hd : DenD M d v) : v.oneCell' = true := by
  cases hd <;> simp [cell1.one] at h <;> rfl

theorem okRows_get {sz : Nat} {l : List (List D)} (h : okRows sz l = true) : ∀ (i : Nat) (e : List D), l[i]? = some e → e.length = sz ∧ ∀ d ∈ e, cell1.one d = true := by
  intro i e he
  simp only [okRows, List.all_eq_true] at h
  have := h e (List.mem_of_getElem? he)
  simp only [okRow, Bool.and_eq_true, List.all_eq_true] at this
  exact ⟨Nat.eq_of_beq_eq_true this.1, this.2⟩

/-- the values of a row's cells -/
structure SrcAt (P : Program) (M : Mem) (w : World) (u : Value) (l : List (List D)) (sz : Nat) (vs : Array Value) : Prop where
  size : vs.size = l.length * sz
  row : RowAt M vs l sz
  one : okRows sz l = true → ∀ v ∈ vs.toList, v.oneCell' = true
  run : ∀ w' : World, (∀ a, (w.cell? a).isSome → w'.cell? a = w.cell? a) → (Builtin.firstCells sz l.length u).run P w' = .ok vs w'

theorem idx_lt {i j n sz : Nat} (hi : i < n) (hj : j < sz) : i * sz + j < n * sz := by
  calc i * sz + j < i * sz + sz := by omega
    _ = (i + 1) * sz := by rw [Nat.add_mul, Nat.one_mul]
    _ ≤ n * sz := Nat.mul_le_mul_right _ hi

theorem idx_split {k n sz : Nat} (hk : k < n * sz) : ∃ i j, k = i * sz + j ∧ i < n ∧ j < sz := by
  have hs : 0 < sz := by
    rcases Nat.eq_zero_or_pos sz with h | h
    · subst h; simp at hk
    · exact h
  refine ⟨k / sz, k % sz, ?_, ?_, Nat.mod_lt _ hs⟩
  · have := Nat.div_add_mod k sz
    rw [Nat.mul_comm]; omega
  · exact Nat.div_lt_of_lt_mul (by rwa [Nat.mul_comm])

theorem src_cells {P : Program} {M : Mem} {w : World} {l : List (List D)} {sz : Nat} (blk off cap : Nat) (val : Nat → Nat → Value) (hlen : ∀ (i : Nat) (e : List D), l[i]? = some e → e.length = sz)
    (hm : ∀ (i j : Nat) (e : List D) (d : D), l[i]? = some e → e[j]? = some d → w.cell? ⟨blk, off + i * sz + j, none⟩ = some (val i j))
    (hd : ∀ (i j : Nat) (e : List D) (d : D), l[i]? = some e → e[j]? = some d → DenD M d (val i j)) :
    ∃ vs, SrcAt P M w (.slice (some ⟨blk, off, none⟩) l.length cap) l sz vs := by
  have key : ∀ k, k < l.length * sz → ∃ i j e d, k = i * sz + j ∧ l[i]? = some e ∧ e[j]? = some d := by
    intro k hk
    obtain ⟨i, j, hkij, hi, hj⟩ := idx_split hk
    have he : l[i]? = some l[i] := List.getElem?_eq_getElem hi
    have hl := hlen i _ he
    exact ⟨i, j, l[i], l[i][j], hkij, he, List.getElem?_eq_getElem (by omega)⟩
  have hs0 : ∀ i j, j < sz → (i * sz + j) / sz = i ∧ (i * sz + j) % sz = j := by
    intro i j hj
    have : 0 < sz := by omega
    rw [Nat.mul_comm i sz]
    exact ⟨by rw [Nat.mul_add_div this, Nat.div_eq_of_lt hj, Nat.add_zero], by rw [Nat.mul_add_mod, Nat.mod_eq_of_lt hj]⟩
  refine ⟨((List.range (l.length * sz)).map fun k => val (k / sz) (k % sz)).toArray, by simp, ⟨hlen, fun i j e d he hj => ?_⟩, fun hok v hv => ?_, fun w' hw' => ?_⟩
  · have hi := (List.getElem?_eq_some_iff.1 he).1
    have hjl := (List.getElem?_eq_some_iff.1 hj).1
    rw [hlen i e he] at hjl
    refine ⟨val i j, ?_, hd i j e d he hj⟩
    simp only [List.getElem?_toArray, List.getElem?_map, List.getElem?_range (idx_lt hi hjl), Option.map_some, (hs0 i j hjl).1, (hs0 i j hjl).2]
  · simp only [List.mem_map, List.mem_range] at hv
    obtain ⟨k, hk, rfl⟩ := hv
    obtain ⟨i, j, e, d, rfl, he, hj⟩ := key k hk
    have hjl := (List.getElem?_eq_some_iff.1 hj).1
    rw [hlen i e he] at hjl
    rw [(hs0 i j hjl).1, (hs0 i j hjl).2]
    exact one_cell ((okRows_get hok i e he).2 d (List.mem_of_getElem? hj)) (hd i j e d he hj)
  · simp only [Builtin.firstCells]
    rw [run_loadCells w' ⟨blk, off, none⟩ (l.length * sz) (fun k => val (k / sz) (k % sz)) fun k hk => ?_]
    obtain ⟨i, j, e, d, rfl, he, hj⟩ := key k hk
    have hjl := (List.getElem?_eq_some_iff.1 hj).1
    rw [hlen i e he] at hjl
    rw [(hs0 i j hjl).1, (hs0 i j hjl).2, addr_add, hw' _ (by rw [show off + (i * sz + j) = off + i * sz + j by omega, hm i j e d he hj]; rfl)]
    rw [show off + (i * sz + j) = off + i * sz + j by omega]
    exact hm i j e d he hj

theorem src_empty {P : Program} {M : Mem} {w : World} {sz : Nat} (a : Option Addr) (c : Nat) : SrcAt P M w (.slice a 0 c) [] sz #[] := by
  refine ⟨by simp, ⟨fun i e h => by simp at h, fun i j e d h => by simp at h⟩, fun _ v hv => by simp at hv, fun w' _ => ?_⟩
  cases a with
  | none => simp [Builtin.firstCells]
  | some a =>
    simp only [Builtin.firstCells, List.length_nil, Nat.zero_mul]
    rw [run_loadCells w' a 0 (fun _ => undef) (fun j hj => by omega)]
    rfl

/-- what a window of a row holds -/
theorem win_src {P : Program} {own : Nat → Prop} {M : Mem} {ι : Inj} {hp : Nat → Option Blk} {w : World} (hh : HRel own M ι hp w) {b lo n : Nat} {c : Option Nat} {l : List (List D)} {sz : Nat} {fr : Bool} (hb : hp b = some (.row l sz fr)) {u : Value} (hd : DenA M ι (.win b lo n c) u) (hle : lo + n ≤ l.length) :
    ∃ vs k base L, u = .slice (some ⟨L, base, none⟩) ((l.drop lo).take n).length k ∧ SrcAt P M w u ((l.drop lo).take n) sz vs := by
  have hlen : ((l.drop lo).take n).length = n := by simp; omega
  cases hd with
  | winL _ _ _ _ _ hL => rw [(hh.dom b).2 hL] at hb; cases hb
  | win _ _ _ _ L k base hL hn hc hk hbb =>
    obtain ⟨_, cs, Ty, hheap, hsz, q1, q2, q3, q4, q5⟩ := hh.at_ b _ L hb hL
    rw [hlen]
    by_cases h0 : n = 0
    · subst h0
      exact ⟨#[], k, base, L.blk, rfl, by rw [List.take_zero]; exact src_empty _ k⟩
    · have hbase : base = lo * L.sz := by
        rcases hbb with h | h
        · exact h
        · omega
      subst hbase
      have hget : ∀ (i : Nat) (e : List D), ((l.drop lo).take n)[i]? = some e → l[lo + i]? = some e := by
        intro i e he
        rw [List.getElem?_take] at he
        split at he
        · rwa [List.getElem?_drop] at he
        · cases he
      obtain ⟨vs, hvs⟩ := src_cells (P := P) (M := M) (w := w) (l := (l.drop lo).take n) (sz := sz) L.blk (lo * L.sz) k (fun i j => (cs[(lo + i) * sz + j]?).getD undef) (fun i e he => q4.len _ e (hget i e he)) (fun i j e d he hj => by
          obtain ⟨v, e1, e2⟩ := q4.den _ j e d (hget i e he) hj
          rw [cell_of_heap hheap, ← q1, show lo * sz + i * sz + j = (lo + i) * sz + j by rw [Nat.add_mul], e1]; rfl) (fun i j e d he hj => by
          obtain ⟨v, e1, e2⟩ := q4.den _ j e d (hget i e he) hj
          simpa [e1] using e2)
      rw [hlen] at hvs
      exact ⟨vs, k, _, L.blk, rfl, hvs⟩

theorem srcRow_out {P : Program} {sz : Nat} {v : AV} {hp : Nat → Option Blk} {K : List (List D) → Prop} (h : srcRow sz v hp K) :
    ∃ l, K l ∧ ∀ (own : Nat → Prop) (M : Mem) (ι : Inj) (w : World) (u : Value), Agree M w → HRel own M ι hp w → DenA M ι v u → ∃ a c vs, u = .slice a l.length c ∧ SrcAt P M w u l sz vs ∧ ∀ v ∈ vs.toList, v.oneCell' = true := by
  unfold srcRow at h
  split at h
  · rename_i l
    obtain ⟨hok, h⟩ := condK_out h
    refine ⟨l, h, fun own M ι w u ha hh hd => ?_⟩
    cases hd with
    | d _ _ hd =>
      cases hd with
      | emp a c => exact ⟨a, c, #[], rfl, src_empty a c, fun v hv => by simp at hv⟩
      | lst _ b off cap sz' val hl hs hm hdd =>
        have hsz : ∀ i e, l[i]? = some e → sz' = sz := fun i e he => (hs i e he).symm.trans (okRows_get hok i e he).1
        obtain ⟨vs, hvs⟩ := src_cells (P := P) (M := M) (w := w) b off cap val (fun i e he => (okRows_get hok i e he).1) (fun i j e d he hj => by
          have := hsz i e he
          subst this
          exact ha _ _ _ (hm i j e d he hj)) hdd
        exact ⟨_, _, vs, rfl, hvs, hvs.one hok⟩
  · refine ⟨[], h, fun own M ι w u ha hh hd => ?_⟩
    cases hd with
    | nil a => exact ⟨a, 0, #[], rfl, src_empty a 0, fun v hv => by simp at hv⟩
  · rename_i b
    split at h
    · rename_i l sz' fr hb
      cases hs : Nat.beq sz' sz with
      | false => simp [hs] at h
      | true =>
        simp only [hs, cond_true] at h
        have := Nat.eq_of_beq_eq_true hs
        subst this
        obtain ⟨hok, h⟩ := condK_out h
        refine ⟨l, h, fun own M ι w u ha hh hd => ?_⟩
        cases hd with
        | own _ L cap hL hn hc =>
          obtain ⟨_, cs, Ty, hheap, hsz, q1, q2, q3, q4, q5⟩ := hh.at_ b _ L hb hL
          obtain ⟨vs, hvs⟩ := src_cells (P := P) (M := M) (w := w) L.blk 0 cap (fun i j => (cs[i * sz' + j]?).getD undef) q4.len (fun i j e d he hj => by
            obtain ⟨v, e1, e2⟩ := q4.den i j e d he hj
            rw [cell_of_heap hheap, Nat.zero_add, e1]; rfl) (fun i j e d he hj => by
            obtain ⟨v, e1, e2⟩ := q4.den i j e d he hj
            simpa [e1] using e2)
          rw [← q2]
          exact ⟨_, _, vs, rfl, hvs, hvs.one hok⟩
        | ownE _ a hL =>
          obtain ⟨sz2, fr2, e⟩ := hh.virt b hL
          rw [hb] at e; cases e
          exact ⟨a, 0, #[], rfl, src_empty a 0, fun v hv => by simp at hv⟩
        | ownL _ _ hL => rw [(hh.dom b).2 hL] at hb; cases hb
    · exact h.elim
  · rename_i b lo n c
    split at h
    · rename_i l sz' fr hb
      cases hs : Nat.beq sz' sz with
      | false => simp [hs] at h
      | true =>
        simp only [hs, cond_true] at h
        have := Nat.eq_of_beq_eq_true hs
        subst this
        obtain ⟨⟨hle, hok⟩, h⟩ := condK_out h
        refine ⟨_, h, fun own M ι w u ha hh hd => ?_⟩
        obtain ⟨vs, k, base, L, e1, e2⟩ := win_src (P := P) hh hb hd hle
        exact ⟨_, _, vs, e1, e2, e2.one hok⟩
    · exact h.elim
  · exact h.elim

theorem row_append {M : Mem} {cs vs cs' : Array Value} {l r : List (List D)} {sz : Nat} (h1 : RowAt M cs l sz) (h2 : RowAt M vs r sz)
    (e1 : ∀ k, k < l.length * sz → cs'[k]? = cs[k]?) (e2 : ∀ k, k < r.length * sz → cs'[l.length * sz + k]? = vs[k]?) : RowAt M cs' (l ++ r) sz := by
  refine ⟨fun i e he => ?_, fun i j e d he hj => ?_⟩
  · by_cases hi : i < l.length
    · rw [List.getElem?_append_left hi] at he; exact h1.len i e he
    · rw [List.getElem?_append_right (by omega)] at he; exact h2.len _ e he
  · have hjl := (List.getElem?_eq_some_iff.1 hj).1
    by_cases hi : i < l.length
    · rw [List.getElem?_append_left hi] at he
      rw [h1.len i e he] at hjl
      rw [e1 _ (idx_lt hi hjl)]
      exact h1.den i j e d he hj
    · rw [List.getElem?_append_right (by omega)] at he
      rw [h2.len _ e he] at hjl
      obtain ⟨m, rfl⟩ : ∃ m, i = l.length + m := ⟨i - l.length, by omega⟩
      simp only [Nat.add_sub_cancel_left] at he
      have hm := (List.getElem?_eq_some_iff.1 he).1
      rw [Nat.add_mul, Nat.add_assoc, e2 _ (idx_lt hm hjl)]
      exact h2.den m j e d he hj
end Go.Lk

namespace Go.Lk
open Go Go.RowKit

theorem growBy_le (newLen : Nat) : ∀ (r c : Nat), c ≤ newLen → Builtin.growBy newLen r c ≤ 2 * newLen + 192
  | 0, c, h => by simp [Builtin.growBy]; omega
  | r + 1, c, h => by
    simp only [Builtin.growBy]
    split
    · omega
    · by_cases h2 : c + (c + 768) / 4 ≤ newLen
      · exact growBy_le newLen r _ h2
      · have hst : ∀ (r c : Nat), newLen ≤ c → Builtin.growBy newLen r c = c := by
          intro r c hc
          cases r with
          | zero => rfl
          | succ r => simp [Builtin.growBy, hc]
        rw [hst _ _ (by omega)]; omega

theorem nextcap_le {need old : Nat} (h : old < need) : Builtin.nextslicecap need old ≤ 2 * need + 192 := by
  unfold Builtin.nextslicecap
  split
  · omega
  · split
    · omega
    · exact growBy_le _ _ _ (by omega)

section
variable {P : Program} {T : Tab} (hT : TabOk P T)
include hT

/-- an append that stays where it is -/
theorem append_fits {t t2 e e2 ty : TypeId} (hk : (T t).k = .slice e) (hk2 : (T t2).k = .slice e2) {w w' : World} {base : Option Addr} {sLen sCap n c : Nat} {a : Option Addr} {vs : Array Value}
    (hn : sLen + n ≤ sCap) (hf : (Builtin.firstCells (T e).size n (.slice a n c)).run P w = .ok vs w)
    (hst : match base with | none => w' = w | some b => (storeCells (b.add (sLen * (T e).size)) vs.toList).run P w = .ok () w') :
    (Builtin.append_ #[t, t2] ty #[.slice base sLen sCap, .slice a n c]).run P w = .ok (.slice base (sLen + n) sCap) w' := by
  obtain ⟨hu, hke⟩ := und_slice hT hk
  obtain ⟨hu2, _⟩ := und_slice hT hk2
  have e1 : (#[t, t2] : Array TypeId)[1]? = some t2 := rfl
  cases base with
  | none =>
    subst hst
    simp [Builtin.append_, run_underlying hu, run_underlying hu2, run_sizeT hT, hke, Builtin.lenOf, hn, hf]
  | some b =>
    simp [Builtin.append_, run_underlying hu, run_underlying hu2, run_sizeT hT, hke, Builtin.lenOf, hn, hf, hst]

/-- an append that makes a new array -/
theorem append_grows {t t2 e e2 ty : TypeId} (hk : (T t).k = .slice e) (hk2 : (T t2).k = .slice e2) {w : World} {base : Option Addr} {sLen sCap n c : Nat} {a : Option Addr} {vs old : Array Value}
    (hn : sCap < sLen + n) (hroom : (sLen + n) * (T e).bytes ≤ 35184372088832) (hroom1 : sLen + n ≤ 35184372088832)
    (hf : ∀ w' : World, (∀ x, (w.cell? x).isSome → w'.cell? x = w.cell? x) → (Builtin.firstCells (T e).size n (.slice a n c)).run P w' = .ok vs w')
    (ho : ∀ w' : World, (∀ x, (w.cell? x).isSome → w'.cell? x = w.cell? x) → (Builtin.firstCells (T e).size sLen (.slice base sLen sCap)).run P w' = .ok old w') :
    ∃ (newCap : Nat) (z : Value), sLen + n ≤ newCap ∧ z.cells.size = (T e).size ∧ (Builtin.append_ #[t, t2] ty #[.slice base sLen sCap, .slice a n c]).run P w =
      .ok (.slice (some ⟨w.heap.size, 0, none⟩) (sLen + n) newCap) (w.drew.alloc (.cells (old ++ vs ++ Builtin.zeroCells z.cells (newCap - (sLen + n))) e)) := by
  obtain ⟨hu, hke⟩ := und_slice hT hk
  obtain ⟨hu2, _⟩ := und_slice hT hk2
  obtain ⟨_, ie, _, hie, _, hs, hb, ⟨z, hz, hzc⟩, _, hbm, hzl, _⟩ := (tyFact hT hke).desc
  have hzs : z.cells.size = (T e).size := by
    obtain ⟨z1, _⟩ := zeroChk_get hzc
    rw [← hzl, ← z1]; simp
  have h1 : ¬ (sLen + n ≤ sCap) := by omega
  have hcap := nextcap_le hn
  have h2 : ¬ (Builtin.nextslicecap (sLen + n) sCap * ie.bytes > 2 ^ 48) := by
    rw [hb]
    have hm : Builtin.nextslicecap (sLen + n) sCap * (T e).bytes ≤ (2 * (sLen + n) + 192) * (T e).bytes := Nat.mul_le_mul_right _ hcap
    have : (2 * (sLen + n) + 192) * (T e).bytes = 2 * ((sLen + n) * (T e).bytes) + 192 * (T e).bytes := by rw [Nat.add_mul, Nat.mul_assoc]
    have h48 : (2 : Nat) ^ 48 = 281474976710656 := by decide
    rw [h48]
    omega
  have h3 : ¬ (((sLen + n : Nat) : Int) > IntKind.i64.max) := by
    have : IntKind.i64.max = 9223372036854775807 := by decide
    rw [this]; omega
  have hd : ∀ x, (w.cell? x).isSome → w.drew.cell? x = w.cell? x := fun x _ => rfl
  refine ⟨sLen + n + w.tape w.drawn (.appendCap (sLen + n) sCap e) % (2 ^ 63 - (sLen + n)), z, by omega, hzs, ?_⟩
  have hf' := hf w.drew hd
  have ho' := ho w.drew hd
  have hch : (choose (.appendCap (sLen + n) sCap e)).run P w = .ok (sLen + n + w.tape w.drawn (.appendCap (sLen + n) sCap e) % (2 ^ 63 - (sLen + n))) w.drew := by
    simp [run_choose, Question.forced, Question.cut]
  have h3' : ¬ (9223372036854775807 < (sLen : Int) + (n : Int) ∧ ie.bytes = 0) := by
    rintro ⟨h, _⟩
    omega
  have hzr : (zeroValue e).run P w.drew = .ok z w.drew := by simp [zeroValue, typeInfo, hie, hz]
  simp [Builtin.append_, run_underlying hu, run_underlying hu2, run_sizeT hT, hke, Builtin.lenOf, h1, typeInfo, hie, h3', h2, Question.forced, Question.cut, ho', hf', hzr, newRow]
end
end Go.Lk

namespace Go.Lk
open Go Go.RowKit

section
variable {P : Program} {T : Tab} (hT : TabOk P T)
include hT

/-- what an append that grows leaves -/
theorem grown_post {own : Nat → Prop} {M : Mem} {ι : Inj} {hp : Nat → Option Blk} {w : World} (ho : ∀ c, w.heap.size ≤ c → own c) (ha : Agree M w) (hh : HRel own M ι hp w) {x : Nat} {l r : List (List D)} {sz : Nat} {old vs rest : Array Value} {Ty : TypeId} {cap : Nat}
    (h1 : RowAt M old l sz) (s1 : old.size = l.length * sz) (h2 : RowAt M vs r sz) (s2 : vs.size = r.length * sz) (hcap : l.length + r.length ≤ cap) (s3 : rest.size = (cap - (l.length + r.length)) * sz) :
    Post own M ι hp w ⟨.own x, [(x, .row (l ++ r) sz false)], some x⟩ (.slice (some ⟨w.heap.size, 0, none⟩) (l.length + r.length) cap) (w.drew.alloc (.cells (old ++ vs ++ rest) Ty)) := by
  have hrow : RowAt M (old ++ vs ++ rest) (l ++ r) sz := by
    refine row_append h1 h2 (fun k hk => ?_) fun k hk => ?_
    · rw [Array.getElem?_append_left (by simp; omega), Array.getElem?_append_left (by omega)]
    · rw [Array.getElem?_append_left (by simp; omega), Array.getElem?_append_right (by omega)]
      congr 1; omega
  have hsize : (old ++ vs ++ rest).size = cap * sz := by
    simp only [Array.size_append, s1, s2, s3, ← Nat.add_mul]
    congr 1; omega
  have hha : HRel own M ι hp w.drew := hh.keep (.refl M) fun b' L' hL' => ⟨rfl, hh.closed hL'⟩
  refine post_new (w := w) (w0 := w.drew) ho (.refl M) (.refl _ _) ha hha rfl rfl rfl rfl (e := ⟨.own x, [(x, .row (l ++ r) sz false)], some x⟩) (d := x) (B := .row (l ++ r) sz false) (sz := sz) (len := l.length + r.length) rfl rfl ?_ ?_
  · refine ⟨_, Ty, heap_alloc_size w.drew _, rfl, rfl, by simp, ?_, hrow, (by intro e; cases e), fun _ o => agree_new ha o⟩
    rw [hsize]
    simp only [List.length_append]
    exact Nat.mul_le_mul_right _ hcap
  · exact .own x ⟨w.heap.size, sz, (old ++ vs ++ rest).size, l.length + r.length⟩ cap (upd_same _ _ _) hcap (by rw [hsize]; exact Nat.le_refl _)

theorem append_nil_sem {t t2 e e2 ty : TypeId} (hk : (T t).k = .slice e) (hk2 : (T t2).k = .slice e2) {own : Nat → Prop} {M : Mem} {ι : Inj} {hp : Nat → Option Blk} {w : World} (ho : ∀ c, w.heap.size ≤ c → own c) (ha : Agree M w) (hh : HRel own M ι hp w)
    {x : Nat} {base : Option Addr} {r : List (List D)} {a : Option Addr} {c : Nat} {vs : Array Value} (hs : SrcAt P M w (.slice a r.length c) r (T e).size vs) (r1 : r.length * (T e).bytes ≤ 35184372088832) (r2 : r.length ≤ 35184372088832) :
    ∃ v w', (Builtin.append_ #[t, t2] ty #[.slice base 0 0, .slice a r.length c]).run P w = .ok v w' ∧ Post own M ι hp w ⟨.own x, [(x, .row r (T e).size false)], some x⟩ v w' := by
  by_cases hr : r = []
  · subst hr
    have hvs : vs = #[] := by
      have := hs.size
      simpa using this
    subst hvs
    refine ⟨.slice base 0 0, w, ?_, M, upd ι x (some none), .refl _ _, .refl M, ha, .refl _ _, hh.virtual x _ _, fun b hb => upd_other _ _ fun e => Kp_ne hb e, .ownE x base (upd_same _ _ _)⟩
    have := append_fits hT (ty := ty) hk hk2 (w := w) (w' := w) (base := base) (sLen := 0) (sCap := 0) (n := 0) (c := c) (a := a) (vs := #[]) (Nat.le_refl _) (hs.run w fun _ _ => rfl) (by
      cases base with
      | none => rfl
      | some b => simp [storeCells])
    simpa using this
  · have hpos : 0 < r.length := List.length_pos_iff.2 hr
    have hold : ∀ w' : World, (∀ x, (w.cell? x).isSome → w'.cell? x = w.cell? x) → (Builtin.firstCells (T e).size 0 (.slice base 0 0)).run P w' = .ok #[] w' := fun w' hw' =>
      (src_empty (P := P) (M := M) (w := w) (sz := (T e).size) base 0).run w' hw'
    obtain ⟨newCap, z, g1, g2, g3⟩ := append_grows hT (ty := ty) hk hk2 (w := w) (base := base) (sLen := 0) (sCap := 0) (n := r.length) (c := c) (a := a) (by omega) (by simpa using r1) (by omega) hs.run hold
    refine ⟨_, _, g3, ?_⟩
    have := grown_post hT (x := x) (Ty := e) (l := []) (r := r) (sz := (T e).size) (old := #[]) (vs := vs) (rest := Builtin.zeroCells z.cells (newCap - (0 + r.length))) (cap := newCap) ho ha hh
      ⟨fun i e h => by simp at h, fun i j e d h => by simp at h⟩ (by simp) hs.row hs.size (by simpa using g1) (by simp [Builtin.zeroCells, g2])
    simpa using this

theorem append_own_sem {t t2 e e2 ty : TypeId} (hk : (T t).k = .slice e) (hk2 : (T t2).k = .slice e2) {own : Nat → Prop} {M : Mem} {ι : Inj} {hp : Nat → Option Blk} {w : World} (ho : ∀ c, w.heap.size ≤ c → own c) (ha : Agree M w) (hh : HRel own M ι hp w)
    {x : Nat} {l r : List (List D)} (hb : hp x = some (.row l (T e).size false)) {s : Value} (hd : DenA M ι (.own x) s) {a : Option Addr} {c : Nat} {vs : Array Value} (hs : SrcAt P M w (.slice a r.length c) r (T e).size vs) (hone : ∀ v ∈ vs.toList, v.oneCell' = true)
    (r1 : (l.length + r.length) * (T e).bytes ≤ 35184372088832) (r2 : l.length + r.length ≤ 35184372088832) :
    ∃ v w', (Builtin.append_ #[t, t2] ty #[s, .slice a r.length c]).run P w = .ok v w' ∧ Post own M ι hp w ⟨.own x, [(x, .row (l ++ r) (T e).size false)], some x⟩ v w' := by
  cases hd with
  | ownL _ _ hL => rw [(hh.dom x).2 hL] at hb; cases hb
  | ownE _ a0 hL =>
    obtain ⟨sz2, fr2, e0⟩ := hh.virt x hL
    rw [hb] at e0; cases e0
    exact append_nil_sem hT hk hk2 ho ha hh hs (by simpa using r1) (by simpa using r2)
  | own _ L cap hL hn hc =>
    obtain ⟨hown1, cs, Ty, hheap, hsz, q1, q2, q3, q4, q5⟩ := hh.at_ x _ L hb hL
    have hcl := hh.closed hL _ hb rfl
    rw [← q1] at hc
    by_cases hfit : l.length + r.length ≤ cap
    · have hbnd : l.length * (T e).size + vs.toList.length ≤ cs.size := by
        have : vs.toList.length = r.length * (T e).size := by simpa using hs.size
        rw [this, ← Nat.add_mul, hsz]
        exact Nat.le_trans (Nat.mul_le_mul_right _ hfit) hc
      obtain ⟨cs', g1, g2, g3, g4, g5, g6, g7⟩ := write_cells (P := P) (own := own) ha hown1 hcl hheap vs.toList (l.length * (T e).size) hbnd hone
      have hvl : vs.toList.length = r.length * (T e).size := by simpa using hs.size
      refine ⟨.slice (some ⟨L.blk, 0, none⟩) (l.length + r.length) cap, w.setRow L.blk cs', ?_, M, upd ι x (some (some ⟨L.blk, (T e).size, cs'.size, l.length + r.length⟩)), g3, .refl M, g2, .refl _ _, ?_, fun b hb => upd_other _ _ fun e => Kp_ne hb e,
        .own x ⟨L.blk, (T e).size, cs'.size, l.length + r.length⟩ cap (upd_same _ _ _) hfit (by show cap * (T e).size ≤ cs'.size; rw [g5, hsz]; exact hc)⟩
      · rw [← q2]
        exact append_fits hT (ty := ty) hk hk2 (w := w) (w' := w.setRow L.blk cs') (base := some ⟨L.blk, 0, none⟩) (sLen := l.length) (sCap := cap) (n := r.length) (c := c) (a := a) (vs := vs) hfit (hs.run w fun _ _ => rfl) (by
          show (storeCells ((⟨L.blk, 0, none⟩ : Addr).add (l.length * (T e).size)) vs.toList).run P w = .ok () (w.setRow L.blk cs')
          rw [addr_add, Nat.zero_add]; exact g1)
      · refine hh.new x _ ⟨L.blk, (T e).size, cs'.size, l.length + r.length⟩ (.refl M) hown1 ?_ fun b' L' hne hL' => ⟨fun e => hne (hh.inj b' x L' L hL' hL e), g7 _ fun e => hne (hh.inj b' x L' L hL' hL e), hh.closed hL'⟩
        refine ⟨cs', Ty, g4, rfl, rfl, by simp, ?_, ?_, (by intro e; cases e), fun _ => hcl⟩
        · simp only [List.length_append]
          show _ ≤ cs'.size
          rw [g5, hsz]
          exact Nat.le_trans (Nat.mul_le_mul_right _ hfit) hc
        · refine row_append q4 hs.row (fun k hk => ?_) fun k hk => ?_
          · rw [g6, if_neg (by omega)]
          · rw [g6, hvl, if_pos ⟨by omega, by omega⟩, Nat.add_sub_cancel_left]; simp
    · have hsrc := src_cells (P := P) (M := M) (w := w) L.blk 0 cap (fun i j => (cs[i * (T e).size + j]?).getD undef) q4.len (fun i j e d he hj => by
        obtain ⟨v, e1, e2⟩ := q4.den i j e d he hj
        rw [cell_of_heap hheap, Nat.zero_add, e1]; rfl) (fun i j e d he hj => by
        obtain ⟨v, e1, e2⟩ := q4.den i j e d he hj
        simpa [e1] using e2)
      obtain ⟨old, hold⟩ := hsrc
      obtain ⟨newCap, z, g1, g2, g3⟩ := append_grows hT (ty := ty) hk hk2 (w := w) (base := some ⟨L.blk, 0, none⟩) (sLen := l.length) (sCap := cap) (n := r.length) (c := c) (a := a) (by omega) r1 r2 hs.run hold.run
      rw [← q2]
      refine ⟨_, _, g3, ?_⟩
      exact grown_post hT ho ha hh hold.row hold.size hs.row hs.size g1 (by simp [Builtin.zeroCells, g2])
end
end Go.Lk


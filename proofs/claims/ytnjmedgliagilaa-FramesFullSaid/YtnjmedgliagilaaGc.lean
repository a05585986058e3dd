/-
  What is proved here: the plain law of the table; no condition beyond each theorem's own.
-/
import Derived.Test.YtnjmedgliagilaaGb
set_option linter.unusedSectionVars false
set_option linter.unusedSimpArgs false
set_option linter.unusedVariables false
set_option linter.unnecessarySimpa false
namespace Go.Lk.Tb
open Go Go.RowKit Go.Lk

/-! ### tables, in plain words -/
theorem at_set {l : Slots} {i j : Nat} {x : Int × Int} (hi : i < l.length) : at' (l.set i x) j = if j = i then x else at' l j := by
  unfold at'
  rw [List.getElem?_set]
  by_cases h : i = j
  · subst h; simp [hi]
  · rw [if_neg h, if_neg (fun e => h e.symm)]
theorem homeN_lt {p : Int} (h : 0 ≤ p) : homeN p < 16 := by simp [homeN]; omega
theorem slot_page {x : Int × Int} (h : SlotP x) (hf : freeB x = false) : 1 ≤ x.1 := by
  rcases h with h | h
  · rw [hf] at h; cases h
  · exact (fits_out.1 h).1
theorem fits_nonfree {p f : Int} (h : fitsB p f = true) : freeB (p, f) = false := by
  have := fits_out.1 h
  simp [freeB]; omega

/-- where a slot stands, counted from behind the cut -/
def pos (z j : Nat) : Nat := (j + 15 - z) % 16
def CutAt (l : Slots) (z : Nat) : Prop := z < 16 ∧ ∀ i, i < 16 → freeB (at' l i) = false → pos z (homeN (at' l i).1) ≤ pos z i
def Cut (l : Slots) : Prop := ∃ z, CutAt l z
def Distinct (l : Slots) : Prop := ∀ i j, i < 16 → j < 16 → freeB (at' l i) = false → freeB (at' l j) = false → (at' l i).1 = (at' l j).1 → i = j
theorem RT.distinct {l : Slots} (h : RT l) : Distinct l := by
  intro i j hi hj fi fj e
  rcases Nat.lt_trichotomy i j with h1 | h1 | h1
  · rcases h.places j hj with h2 | ⟨h2, _⟩
    · rw [fj] at h2; cases h2
    · exact absurd e (h2 i h1)
  · exact h1
  · rcases h.places i hi with h2 | ⟨h2, _⟩
    · rw [fi] at h2; cases h2
    · exact absurd e.symm (h2 j h1)
/-- no free slot ahead of a page -/
theorem RT.path {l : Slots} (h : RT l) {i : Nat} (hi : i < 16) (fi : freeB (at' l i) = false) {d : Nat} (hd : d < wayN (homeN (at' l i).1) i) : freeB (at' l ((homeN (at' l i).1 + d) % 16)) = false := by
  rcases h.places i hi with h2 | ⟨_, h2⟩
  · rw [fi] at h2; cases h2
  · exact h2 d hd
theorem RT.mk' {l : Slots} (hl : l.length = 16) (hs : ∀ i, i < 16 → SlotP (at' l i)) (hd : Distinct l) (hp : ∀ i, i < 16 → freeB (at' l i) = false → ∀ d, d < wayN (homeN (at' l i).1) i → freeB (at' l ((homeN (at' l i).1 + d) % 16)) = false) : RT l := by
  refine ⟨hl, hs, fun i hi => ?_⟩
  cases fi : freeB (at' l i) with
  | true => exact .inl fi
  | false =>
    refine .inr ⟨fun j hj e => ?_, hp i hi fi⟩
    have fj : freeB (at' l j) = false := by
      cases fj : freeB (at' l j) with
      | false => rfl
      | true =>
        have h1 := slot_page (hs i hi) fi
        have h2 := free_out.1 fj
        omega
    have := hd j i (by omega) hi fj fi e
    omega
/-- a way is what lies between, where no cut is -/
theorem pos_path {z h i k : Nat} (hz : z < 16) (hh : h < 16) (hi : i < 16) (hk : k < 16) (hle : pos z h ≤ pos z i) : (∃ d, d < wayN h i ∧ (h + d) % 16 = k) ↔ pos z h ≤ pos z k ∧ pos z k < pos z i := by
  simp only [pos, wayN] at *
  constructor
  · rintro ⟨d, h1, h2⟩; omega
  · intro h1
    exact ⟨(k + 16 - h) % 16, by omega, by omega⟩
theorem pos_lt {z j : Nat} : pos z j < 16 := Nat.mod_lt _ (by decide)
theorem pos_inj {z i j : Nat} (hz : z < 16) (hi : i < 16) (hj : j < 16) (h : pos z i = pos z j) : i = j := by simp only [pos] at h; omega
theorem free_cut {l : Slots} (h : RT l) {z : Nat} (hz : z < 16) (fz : freeB (at' l z) = true) : CutAt l z := by
  refine ⟨hz, fun i hi fi => ?_⟩
  have hh := homeN_lt (p := (at' l i).1) (by have := slot_page (h.slots i hi) fi; omega)
  by_cases hle : pos z (homeN (at' l i).1) ≤ pos z i
  · exact hle
  · exfalso
    have hne : i ≠ z := fun e => by subst e; rw [fi] at fz; cases fz
    have := h.path hi fi (d := (z + 16 - homeN (at' l i).1) % 16) (by simp only [pos, wayN] at *; omega)
    rw [show (homeN (at' l i).1 + (z + 16 - homeN (at' l i).1) % 16) % 16 = z by omega, fz] at this
    cases this
theorem RT.of_cut {l : Slots} {z : Nat} (hl : l.length = 16) (hs : ∀ i, i < 16 → SlotP (at' l i)) (hd : Distinct l) (hc : CutAt l z) (hp : ∀ i k, i < 16 → k < 16 → freeB (at' l i) = false → pos z (homeN (at' l i).1) ≤ pos z k → pos z k < pos z i → freeB (at' l k) = false) : RT l := by
  refine .mk' hl hs hd fun i hi fi d hdd => ?_
  have hh := homeN_lt (p := (at' l i).1) (by have := slot_page (hs i hi) fi; omega)
  obtain ⟨h1, h2⟩ := (pos_path hc.1 hh hi (Nat.mod_lt _ (by decide)) (hc.2 i hi fi)).1 ⟨d, hdd, rfl⟩
  exact hp i _ hi (Nat.mod_lt _ (by decide)) fi h1 h2
theorem RT.cut_path {l : Slots} {z i k : Nat} (h : RT l) (hc : CutAt l z) (hi : i < 16) (hk : k < 16) (fi : freeB (at' l i) = false) (h1 : pos z (homeN (at' l i).1) ≤ pos z k) (h2 : pos z k < pos z i) : freeB (at' l k) = false := by
  have hh := homeN_lt (p := (at' l i).1) (by have := slot_page (h.slots i hi) fi; omega)
  obtain ⟨d, h3, h4⟩ := (pos_path hc.1 hh hi hk (hc.2 i hi fi)).2 ⟨h1, h2⟩
  have := h.path hi fi h3
  rw [h4] at this
  exact this

/-! ### what a put leaves -/
theorem ffree_out {l : Slots} {h : Nat} : ∀ {n d i : Nat}, ffree l h d n = some i → ∃ e, e < n ∧ i = (h + (d + e)) % 16 ∧ freeB (at' l i) = true ∧ ∀ e', e' < e → freeB (at' l ((h + (d + e')) % 16)) = false
  | 0, d, i, hf => by cases hf
  | n + 1, d, i, hf => by
    simp only [ffree] at hf
    by_cases e : freeB (at' l ((h + d) % 16)) = true
    · rw [if_pos e] at hf
      cases hf
      exact ⟨0, by omega, rfl, e, fun e' h => by omega⟩
    · rw [if_neg e] at hf
      obtain ⟨e2, h1, h2, h3, h4⟩ := ffree_out hf
      refine ⟨e2 + 1, by omega, by rw [h2]; congr 1; omega, h3, fun e' h5 => ?_⟩
      cases e' with
      | zero => simpa using e
      | succ e' => rw [show h + (d + (e' + 1)) = h + (d + 1 + e') by omega]; exact h4 e' (by omega)
theorem ffree_none {l : Slots} {h : Nat} : ∀ {n d : Nat}, ffree l h d n = none → ∀ e, e < n → freeB (at' l ((h + (d + e)) % 16)) = false
  | 0, d, _, e, he => by omega
  | n + 1, d, hf, e, he => by
    simp only [ffree] at hf
    by_cases e1 : freeB (at' l ((h + d) % 16)) = true
    · rw [if_pos e1] at hf; cases hf
    · rw [if_neg e1] at hf
      cases e with
      | zero => simpa using e1
      | succ e => rw [show h + (d + (e + 1)) = h + (d + 1 + e) by omega]; exact ffree_none hf e (by omega)

theorem put_rt {l : Slots} {p f : Int} {i : Nat} (h : RT l) (hf : fitsB p f = true) (hn : ∀ j, j < 16 → freeB (at' l j) = false → (at' l j).1 ≠ p) (hi : ffree l (homeN p) 0 16 = some i) :
    i < 16 ∧ freeB (at' l i) = true ∧ RT (l.set i (p, f)) ∧ Cut (l.set i (p, f)) := by
  obtain ⟨e, h1, h2, h3, h4⟩ := ffree_out hi
  have hp := fits_out.1 hf
  have hh := homeN_lt (p := p) (by omega)
  have hi16 : i < 16 := by omega
  have hil : i < l.length := by rw [h.len]; exact hi16
  have hc := free_cut h hi16 h3
  have nf := fits_nonfree hf
  have hat : ∀ j, at' (l.set i (p, f)) j = if j = i then (p, f) else at' l j := fun j => at_set hil
  have hcut : CutAt (l.set i (p, f)) i := by
    refine ⟨hi16, fun j hj fj => ?_⟩
    rw [hat] at fj ⊢
    by_cases e1 : j = i
    · subst e1; rw [if_pos rfl]; simp only [pos]; omega
    · rw [if_neg e1] at fj ⊢; exact hc.2 j hj fj
  refine ⟨hi16, h3, ?_, i, hcut⟩
  refine .of_cut (by rw [List.length_set]; exact h.len) (fun j hj => ?_) ?_ hcut ?_
  · rw [hat]
    by_cases e1 : j = i
    · rw [if_pos e1]; exact .inr hf
    · rw [if_neg e1]; exact h.slots j hj
  · intro a b ha hb fa fb e1
    rw [hat] at fa fb
    rw [hat, hat] at e1
    by_cases ea : a = i
    · by_cases eb : b = i
      · rw [ea, eb]
      · rw [if_pos ea, if_neg eb] at e1; rw [if_neg eb] at fb; exact absurd e1.symm (hn b hb fb)
    · by_cases eb : b = i
      · rw [if_neg ea, if_pos eb] at e1; rw [if_neg ea] at fa; exact absurd e1 (hn a ha fa)
      · rw [if_neg ea] at fa; rw [if_neg eb] at fb; rw [if_neg ea, if_neg eb] at e1; exact h.distinct a b ha hb fa fb e1
  · intro j k hj hk fj h5 h6
    rw [hat] at fj h5
    rw [hat]
    by_cases ek : k = i
    · rw [if_pos ek]; exact nf
    · rw [if_neg ek]
      by_cases ej : j = i
      · rw [if_pos ej] at h5
        subst ej
        have := h4 ((k + 16 - homeN p) % 16) (by simp only [pos] at *; omega)
        rw [show (homeN p + (0 + (k + 16 - homeN p) % 16)) % 16 = k by omega] at this
        exact this
      · rw [if_neg ej] at fj h5
        exact h.cut_path hc hj hk fj h5 h6
end Go.Lk.Tb

set_option linter.unusedSimpArgs false
set_option linter.unusedVariables false
set_option linter.unnecessarySimpa false
namespace Go.Lk.Tb
open Go Go.RowKit Go.Lk

def cntS (l : Slots) : Nat := l.countP fun x => !freeB x
theorem cnt_set {l : Slots} {i : Nat} {x : Int × Int} (h : i < l.length) : cntS (l.set i x) + (if freeB (at' l i) = true then 0 else 1) = cntS l + (if freeB x = true then 0 else 1) := by
  have hle : (if (!freeB l[i]) = true then 1 else 0) ≤ cntS l := by
    cases hf : freeB l[i] with
    | true => simp
    | false =>
      have : 0 < cntS l := List.countP_pos_iff.2 ⟨l[i], List.getElem_mem h, by simp [hf]⟩
      simp; omega
  unfold cntS at *
  rw [List.countP_set h, at_eq h]
  generalize l.countP (fun x => !freeB x) = c at hle ⊢
  cases hf : freeB l[i] <;> cases hx : freeB x <;> rw [hf] at hle <;> simp only [Bool.not_true, Bool.not_false, if_true, Bool.false_eq_true, if_false] at hle ⊢ <;> omega
def SameS (l0 l : Slots) : Prop := ∀ x, freeB x = false → ((∃ j, j < 16 ∧ at' l j = x) ↔ ∃ j, j < 16 ∧ at' l0 j = x)

structure DInv (z : Nat) (l0 l : Slots) (hole i : Nat) : Prop where
  len : l.length = 16
  slots : ∀ j, j < 16 → SlotP (at' l j)
  hole16 : hole < 16
  i16 : i < 16
  free : freeB (at' l hole) = true
  dist : Distinct l
  cut : CutAt l z
  ph : pos z hole ≤ pos z i
  paths : ∀ j k, j < 16 → k < 16 → freeB (at' l j) = false → pos z (homeN (at' l j).1) ≤ pos z k → pos z k < pos z j → freeB (at' l k) = true → k = hole ∧ pos z i < pos z j
  same : SameS l0 l
  cnt : cntS l = cntS l0

structure Done (l0 l : Slots) : Prop where
  rt : RT l
  free : ∃ j, j < 16 ∧ freeB (at' l j) = true
  same : SameS l0 l
  cnt : cntS l = cntS l0

theorem DInv.done {z : Nat} {l0 l : Slots} {hole i : Nat} (h : DInv z l0 l hole i) (hp : ∀ j k, j < 16 → k < 16 → freeB (at' l j) = false → pos z (homeN (at' l j).1) ≤ pos z k → pos z k < pos z j → freeB (at' l k) = false) : Done l0 l :=
  ⟨.of_cut h.len h.slots h.dist h.cut hp, ⟨hole, h.hole16, h.free⟩, h.same, h.cnt⟩

theorem delG_still {l : Slots} (h : RT l) {hole : Nat} (h16 : hole < 16) (hf : freeB (at' l hole) = true) : ∀ (n i : Nat), delG l hole i n = l
  | 0, i => rfl
  | n + 1, i => by
    rw [delG]
    by_cases f : freeB (at' l ((i + 1) % 16)) = true
    · rw [if_pos f]
    · have f' : freeB (at' l ((i + 1) % 16)) = false := by simpa using f
      have hi : (i + 1) % 16 < 16 := Nat.mod_lt _ (by decide)
      have hh := homeN_lt (p := (at' l ((i + 1) % 16)).1) (by have := slot_page (h.slots _ hi) f'; omega)
      rw [if_neg f, if_neg, delG_still h h16 hf n]
      intro hw
      have := h.path hi f' hw
      rw [show (homeN (at' l ((i + 1) % 16)).1 + wayN (homeN (at' l ((i + 1) % 16)).1) hole) % 16 = hole by simp only [wayN]; omega, hf] at this
      cases this

theorem delG_done {z : Nat} {l0 : Slots} : ∀ (n : Nat) {l : Slots} {hole i : Nat}, DInv z l0 l hole i → 15 ≤ pos z i + n → Done l0 (delG l hole i n) := by
  intro n
  induction n with
  | zero =>
    intro l hole i h hn
    have h15 : pos z i = 15 := by have := pos_lt (z := z) (j := i); omega
    exact h.done fun j k hj hk fj h1 h2 => by
      cases fk : freeB (at' l k) with
      | false => rfl
      | true =>
        have := (h.paths j k hj hk fj h1 h2 fk).2
        have := pos_lt (z := z) (j := j)
        omega
  | succ n ih =>
    intro l hole i h hn
    have hz := h.cut.1
    have hi := h.i16
    by_cases h15 : pos z i = 15
    · have hd := h.done fun j k hj hk fj h1 h2 => by
        cases fk : freeB (at' l k) with
        | false => rfl
        | true =>
          have := (h.paths j k hj hk fj h1 h2 fk).2
          have := pos_lt (z := z) (j := j)
          omega
      rw [delG_still hd.rt h.hole16 h.free]
      exact hd
    · rw [delG]
      have hi' : (i + 1) % 16 < 16 := Nat.mod_lt _ (by decide)
      have hpi : pos z ((i + 1) % 16) = pos z i + 1 := by simp only [pos] at *; omega
      generalize (i + 1) % 16 = i' at hi' hpi
      have hne : hole ≠ i' := fun e => by have := h.ph; rw [e, hpi] at this; omega
      by_cases f : freeB (at' l i') = true
      · rw [if_pos f]
        refine h.done fun j k hj hk fj h1 h2 => ?_
        cases fk : freeB (at' l k) with
        | false => rfl
        | true =>
          obtain ⟨e1, e2⟩ := h.paths j k hj hk fj h1 h2 fk
          exfalso
          subst e1
          have hji : j ≠ i' := fun e => by subst e; rw [fj] at f; cases f
          have hpj : pos z j ≠ pos z i' := fun e => hji (pos_inj hz hj hi' e)
          have := (h.paths j i' hj hi' fj (by have := h.ph; omega) (by omega) f).1
          exact hne this.symm
      · have f' : freeB (at' l i') = false := by simpa using f
        have hpg := slot_page (h.slots i' hi') f'
        have hh := homeN_lt (p := (at' l i').1) (by omega)
        have hci := h.cut.2 i' hi' f'
        have hway : wayN (homeN (at' l i').1) hole < wayN (homeN (at' l i').1) i' ↔ pos z (homeN (at' l i').1) ≤ pos z hole := by
          have h1 := h.ph
          have h2 := h.hole16
          simp only [pos, wayN] at *
          omega
        rw [if_neg f]
        by_cases hw : wayN (homeN (at' l i').1) hole < wayN (homeN (at' l i').1) i'
        · rw [if_pos hw]
          have hw' := hway.1 hw
          have hhl : hole < l.length := by rw [h.len]; exact h.hole16
          have hil : i' < (l.set hole (at' l i')).length := by rw [List.length_set, h.len]; exact hi'
          have hat : ∀ j, at' ((l.set hole (at' l i')).set i' (0, 0)) j = if j = i' then (0, 0) else if j = hole then at' l i' else at' l j := fun j => by
            rw [at_set hil]
            by_cases e : j = i'
            · rw [if_pos e, if_pos e]
            · rw [if_neg e, if_neg e, at_set hhl]
          refine ih ⟨by simp [h.len], fun j hj => ?_, hi', hi', by rw [hat, if_pos rfl]; rfl, ?_, ⟨hz, fun j hj fj => ?_⟩, Nat.le_refl _, ?_, ?_, ?_⟩ (by omega)
          · rw [hat]
            by_cases e : j = i'
            · rw [if_pos e]; exact slot_zero
            · rw [if_neg e]
              by_cases e2 : j = hole
              · rw [if_pos e2]; exact h.slots i' hi'
              · rw [if_neg e2]; exact h.slots j hj
          · intro a b ha hb fa fb e
            rw [hat] at fa fb
            rw [hat, hat] at e
            by_cases ea : a = i'
            · rw [if_pos ea] at fa; cases fa
            · by_cases eb : b = i'
              · rw [if_pos eb] at fb; cases fb
              · rw [if_neg ea] at fa; rw [if_neg eb] at fb; rw [if_neg ea, if_neg eb] at e
                by_cases ea2 : a = hole
                · by_cases eb2 : b = hole
                  · rw [ea2, eb2]
                  · rw [if_pos ea2, if_neg eb2] at e; rw [if_neg eb2] at fb
                    exact absurd (h.dist i' b hi' hb f' fb e).symm eb
                · by_cases eb2 : b = hole
                  · rw [if_neg ea2, if_pos eb2] at e; rw [if_neg ea2] at fa
                    exact absurd (h.dist a i' ha hi' fa f' e) ea
                  · rw [if_neg ea2] at fa; rw [if_neg eb2] at fb; rw [if_neg ea2, if_neg eb2] at e
                    exact h.dist a b ha hb fa fb e
          · rw [hat] at fj ⊢
            by_cases e : j = i'
            · rw [if_pos e] at fj; cases fj
            · rw [if_neg e] at fj ⊢
              by_cases e2 : j = hole
              · rw [if_pos e2]; rw [e2]; exact hw'
              · rw [if_neg e2] at fj ⊢; exact h.cut.2 j hj fj
          · intro j k hj hk fj h1 h2 fk
            rw [hat] at fj h1 fk
            by_cases e : j = i'
            · rw [if_pos e] at fj; cases fj
            · rw [if_neg e] at fj h1
              by_cases ek : k = i'
              · refine ⟨ek, ?_⟩
                rw [ek] at h2; exact h2
              · rw [if_neg ek] at fk
                by_cases ek2 : k = hole
                · rw [if_pos ek2, f'] at fk; cases fk
                · rw [if_neg ek2] at fk
                  exfalso
                  by_cases e2 : j = hole
                  · rw [if_pos e2] at h1
                    have := (h.paths i' k hi' hk f' h1 (by have := h.ph; rw [e2] at h2; omega) fk).1
                    exact ek2 this
                  · rw [if_neg e2] at fj h1
                    exact ek2 (h.paths j k hj hk fj h1 h2 fk).1
          · intro x hx
            rw [← h.same x hx]
            constructor
            · rintro ⟨j, hj, rfl⟩
              rw [hat] at hx ⊢
              by_cases e : j = i'
              · rw [if_pos e] at hx; cases hx
              · rw [if_neg e] at hx ⊢
                by_cases e2 : j = hole
                · rw [if_pos e2]; exact ⟨i', hi', rfl⟩
                · rw [if_neg e2]; exact ⟨j, hj, rfl⟩
            · rintro ⟨j, hj, rfl⟩
              by_cases e : j = i'
              · exact ⟨hole, h.hole16, by rw [hat, if_neg hne, if_pos rfl, e]⟩
              · have e2 : j ≠ hole := fun e2 => by rw [e2, h.free] at hx; cases hx
                exact ⟨j, hj, by rw [hat, if_neg e, if_neg e2]⟩
          · have c1 := cnt_set (x := at' l i') hhl
            have c2 := cnt_set (x := (0, 0)) hil
            rw [at_set hhl, if_neg hne.symm] at c2
            rw [h.free, f'] at c1
            rw [f', show freeB (0, 0) = true from rfl] at c2
            simp at c1 c2
            have := h.cnt
            omega
        · rw [if_neg hw]
          have hw' : ¬ pos z (homeN (at' l i').1) ≤ pos z hole := fun e => hw (hway.2 e)
          refine ih ⟨h.len, h.slots, h.hole16, hi', h.free, h.dist, h.cut, by have := h.ph; omega, fun j k hj hk fj h1 h2 fk => ?_, h.same, h.cnt⟩ (by omega)
          obtain ⟨e1, e2⟩ := h.paths j k hj hk fj h1 h2 fk
          refine ⟨e1, ?_⟩
          have hji : j ≠ i' := fun e => by subst e; rw [e1] at h1; exact hw' h1
          have hpj : pos z j ≠ pos z i' := fun e => hji (pos_inj hz hj hi' e)
          omega
end Go.Lk.Tb

set_option linter.unusedSimpArgs false
set_option linter.unusedVariables false
set_option linter.unnecessarySimpa false
namespace Go.Lk.Tb
open Go Go.RowKit Go.Lk

theorem del_rt {l : Slots} {a z : Nat} (h : RT l) (hc : CutAt l z) (ha : a < 16) (fa : freeB (at' l a) = false) : Done (l.set a (0, 0)) (delG (l.set a (0, 0)) a a 15) := by
  have hal : a < l.length := by rw [h.len]; exact ha
  have hat : ∀ j, at' (l.set a (0, 0)) j = if j = a then (0, 0) else at' l j := fun j => at_set hal
  refine delG_done (z := z) 15 ⟨by simp [h.len], fun j hj => ?_, ha, ha, by rw [hat, if_pos rfl]; rfl, ?_, ⟨hc.1, fun j hj fj => ?_⟩, Nat.le_refl _, ?_, fun x hx => Iff.rfl, rfl⟩ (by omega)
  · rw [hat]
    by_cases e : j = a
    · rw [if_pos e]; exact slot_zero
    · rw [if_neg e]; exact h.slots j hj
  · intro i j hi hj fi fj e
    rw [hat] at fi fj
    rw [hat, hat] at e
    by_cases ei : i = a
    · rw [if_pos ei] at fi; cases fi
    · by_cases ej : j = a
      · rw [if_pos ej] at fj; cases fj
      · rw [if_neg ei] at fi; rw [if_neg ej] at fj; rw [if_neg ei, if_neg ej] at e
        exact h.distinct i j hi hj fi fj e
  · rw [hat] at fj ⊢
    by_cases e : j = a
    · rw [if_pos e] at fj; cases fj
    · rw [if_neg e] at fj ⊢; exact hc.2 j hj fj
  · intro j k hj hk fj h1 h2 fk
    rw [hat] at fj h1 fk
    by_cases e : j = a
    · rw [if_pos e] at fj; cases fj
    · rw [if_neg e] at fj h1
      by_cases ek : k = a
      · exact ⟨ek, by rw [ek] at h2; exact h2⟩
      · rw [if_neg ek] at fk
        have := h.cut_path hc hj hk fj h1 h2
        rw [fk] at this; cases this

theorem placeG_mem {l : Slots} {n : Int} : ∀ {k : Nat}, 0 ≤ placeG l n k ↔ ∃ j, j < l.length ∧ (at' l j).1 = n := by
  have key : ∀ {k : Nat}, 0 ≤ placeG l n k ↔ ∃ x ∈ l, x.1 = n := by
    induction l with
    | nil => intro k; exact ⟨fun h => absurd h (show ¬ (0 ≤ (-1 : Int)) by decide), fun ⟨x, h, _⟩ => by cases h⟩
    | cons p r ih =>
      intro k
      simp only [placeG]
      by_cases h : p.1 = n
      · rw [if_pos h]; exact ⟨fun _ => ⟨p, List.mem_cons_self .., h⟩, fun _ => by omega⟩
      · rw [if_neg h, ih]
        constructor
        · rintro ⟨x, h1, h2⟩; exact ⟨x, List.mem_cons_of_mem _ h1, h2⟩
        · rintro ⟨x, h1, h2⟩
          rcases List.mem_cons.1 h1 with rfl | h1
          · exact absurd h2 h
          · exact ⟨x, h1, h2⟩
  intro k
  rw [key]
  constructor
  · rintro ⟨x, hx, e⟩
    obtain ⟨j, hj, rfl⟩ := List.mem_iff_getElem.1 hx
    exact ⟨j, hj, by rw [at_eq hj]; exact e⟩
  · rintro ⟨j, hj, e⟩
    exact ⟨l[j], List.getElem_mem hj, by rw [← at_eq hj]; exact e⟩
theorem placeT_iff {l : Slots} {p : Int} (hp : 1 ≤ p) : (placeT l p).2 = true ↔ ∃ j, j < l.length ∧ (at' l j).1 = p := by
  rw [← placeG_mem (k := 0)]
  unfold placeT
  by_cases h : placeG l p 0 < 0
  · rw [if_pos (.inr h)]; simp; omega
  · rw [if_neg (by omega)]; simp; omega
theorem placeT_no {l : Slots} {p : Int} (h : ∀ j, j < l.length → (at' l j).1 ≠ p) : (placeT l p).2 = false := by
  cases e : (placeT l p).2 with
  | false => rfl
  | true =>
    obtain ⟨i, _, hi, e2⟩ := placeT_t e
    exact absurd (by rw [at_eq hi]; exact e2) (h i hi)
theorem page_nonfree {x : Int × Int} (h : 1 ≤ x.1) : freeB x = false := by simp [freeB]; omega
theorem place_at {l : Slots} (h : RT l) {p : Int} {j : Nat} (hp : 1 ≤ p) (hj : j < 16) (e : (at' l j).1 = p) : (placeT l p).2 = true ∧ (placeT l p).1 = j := by
  have h2 := (placeT_iff hp).2 ⟨j, by rw [h.len]; exact hj, e⟩
  obtain ⟨i, e1, hi, e2⟩ := placeT_t h2
  have hi16 : i < 16 := by rw [h.len] at hi; exact hi
  rw [← at_eq hi] at e2
  have := h.distinct i j hi16 hj (page_nonfree (by omega)) (page_nonfree (by omega)) (by rw [e2, e])
  exact ⟨h2, by rw [e1, this]⟩
theorem find_yes {l : Slots} (h : RT l) {p f : Int} {j : Nat} (hp : 1 ≤ p) (hj : j < 16) (e : at' l j = (p, f)) : findS l p = (f, true) := by
  obtain ⟨h1, h2⟩ := place_at h hp hj (by rw [e])
  simp [findS, rightB_t.2 h, h1, h2, e]
theorem find_no {l : Slots} {p : Int} (h : ∀ j, j < l.length → (at' l j).1 ≠ p) : findS l p = (0, false) := by
  simp [findS, placeT_no h]

theorem cnt_le {l : Slots} : cntS l ≤ l.length := List.countP_le_length
theorem cnt_full {l : Slots} (h : l.length = 16) : cntS l = 16 ↔ ∀ j, j < 16 → freeB (at' l j) = false := by
  rw [← h]
  unfold cntS
  rw [List.countP_eq_length]
  constructor
  · intro h1 j hj
    have := h1 l[j] (List.getElem_mem hj)
    rw [at_eq hj]; simpa using this
  · intro h1 x hx
    obtain ⟨j, hj, rfl⟩ := List.mem_iff_getElem.1 hx
    rw [← at_eq hj, h1 j hj]; rfl
theorem ffree_full {l : Slots} {p : Int} (hl : l.length = 16) (hp : 0 ≤ p) : ffree l (homeN p) 0 16 = none ↔ cntS l = 16 := by
  rw [cnt_full hl]
  have hh := homeN_lt hp
  constructor
  · intro h j hj
    have := ffree_none h ((j + 16 - homeN p) % 16) (by omega)
    rw [show (homeN p + (0 + (j + 16 - homeN p) % 16)) % 16 = j by omega] at this
    exact this
  · intro h
    cases e : ffree l (homeN p) 0 16 with
    | none => rfl
    | some i =>
      obtain ⟨d, h1, h2, h3, h4⟩ := ffree_out e
      rw [h i (by omega)] at h3; cases h3

theorem new_rt : RT (List.replicate 16 (0, 0)) := by
  have hat : ∀ j, at' (List.replicate 16 (0, 0)) j = (0, 0) := fun j => by
    unfold at'
    rw [List.getElem?_replicate]
    split <;> rfl
  exact ⟨by simp, fun i _ => by rw [hat]; exact slot_zero, fun i _ => .inl (by rw [hat]; rfl)⟩
theorem new_at (j : Nat) : at' (List.replicate 16 (0, 0)) j = (0, 0) := by
  unfold at'
  rw [List.getElem?_replicate]
  split <;> rfl

/-- pages: as many as there are slots with one -/
theorem pages_len {l : Slots} (h : RT l) : (pagesS l).length = cntS l := by
  rw [pagesS, if_neg (by simp [rightB_t.2 h]), sortI, List.length_mergeSort]
  have : ∀ l : Slots, (l.filterMap pageF).length = cntS l := by
    intro l
    induction l with
    | nil => rfl
    | cons x r ih =>
      rw [List.filterMap_cons, cntS, List.countP_cons]
      cases e : freeB x with
      | true => simp only [pageF, e, if_true]; rw [ih]; simp [cntS]
      | false => simp only [pageF, e]; simp [ih, cntS]
  exact this l
end Go.Lk.Tb

set_option linter.unusedSimpArgs false
set_option linter.unusedVariables false
set_option linter.unnecessarySimpa false
namespace Go.Lk.Tb
open Go Go.RowKit Go.Lk

theorem put_val {l : Slots} {p f : Int} {i : Nat} (h : RT l) (hf : fitsB p f = true) (hpl : (placeT l p).2 = false) (hff : ffree l (homeN p) 0 16 = some i) : putS l p f = (l.set i (p, f), 0) := by
  rw [putS, if_neg (by simp [rightB_t.2 h, hf]), if_neg (by simp [hpl]), hff]
def MemS (l : Slots) (x : Int × Int) : Prop := ∃ j, j < 16 ∧ at' l j = x
theorem put_gen {l : Slots} {p f : Int} (h : RT l) (hf : fitsB p f = true) (hn : ∀ j, j < 16 → (at' l j).1 ≠ p) (hc : cntS l < 16) :
    ∃ l' i, i < 16 ∧ freeB (at' l i) = true ∧ l' = l.set i (p, f) ∧ putS l p f = (l', 0) ∧ RT l' ∧ Cut l' ∧ cntS l' = cntS l + 1 ∧ ∀ x, freeB x = false → (MemS l' x ↔ x = (p, f) ∨ MemS l x) := by
  have hp := fits_out.1 hf
  have hpl := placeT_no (p := p) (fun j hj => hn j (by rw [h.len] at hj; exact hj))
  cases hff : ffree l (homeN p) 0 16 with
  | none => have := (ffree_full h.len (by omega)).1 hff; omega
  | some i =>
    obtain ⟨hi16, fi, hrt, hcut⟩ := put_rt h hf (fun j hj _ => hn j hj) hff
    have hil : i < l.length := by rw [h.len]; exact hi16
    have hat : ∀ j, at' (l.set i (p, f)) j = if j = i then (p, f) else at' l j := fun j => at_set hil
    refine ⟨_, i, hi16, fi, rfl, put_val h hf hpl hff, hrt, hcut, ?_, fun x hx => ?_⟩
    · have c := cnt_set (x := (p, f)) hil
      rw [fi, fits_nonfree hf] at c
      simp at c
      exact c
    · constructor
      · rintro ⟨j, hj, e⟩
        rw [hat] at e
        by_cases ej : j = i
        · rw [if_pos ej] at e; exact .inl e.symm
        · rw [if_neg ej] at e; exact .inr ⟨j, hj, e⟩
      · rintro (e | ⟨j, hj, e⟩)
        · exact ⟨i, hi16, by rw [hat, if_pos rfl, e]⟩
        · refine ⟨j, hj, ?_⟩
          rw [hat, if_neg (fun e' => by rw [e'] at e; rw [e, hx] at fi; cases fi), e]
theorem put_full {l : Slots} {p f : Int} (h : RT l) (hf : fitsB p f = true) (hn : ∀ j, j < 16 → (at' l j).1 ≠ p) (hc : cntS l = 16) : putS l p f = (l, 7) := by
  have hp := fits_out.1 hf
  have hpl := placeT_no (p := p) (fun j hj => hn j (by rw [h.len] at hj; exact hj))
  rw [putS, if_neg (by simp [rightB_t.2 h, hf]), if_neg (by simp [hpl]), (ffree_full h.len (by omega)).2 hc]
theorem del_gen {l : Slots} {p f : Int} (h : RT l) (hc : Cut l) (hp : 1 ≤ p) (hm : MemS l (p, f)) :
    ∃ l', delS l p = (l', 0) ∧ RT l' ∧ Cut l' ∧ cntS l' + 1 = cntS l ∧ ∀ x, freeB x = false → (MemS l' x ↔ x.1 ≠ p ∧ MemS l x) := by
  obtain ⟨a, ha, e4⟩ := hm
  obtain ⟨hpl, hpa⟩ := place_at h hp ha (by rw [e4])
  have base : delS l p = (delG (l.set a (0, 0)) a a 15, 0) := by
    rw [delS, if_neg (by simp [rightB_t.2 h]), if_neg (by simp [hpl]), hpa]; rfl
  obtain ⟨z, hz⟩ := hc
  have fa : freeB (at' l a) = false := by rw [e4]; exact page_nonfree hp
  have hd := del_rt h hz ha fa
  have hal : a < l.length := by rw [h.len]; exact ha
  have hat : ∀ j, at' (l.set a (0, 0)) j = if j = a then (0, 0) else at' l j := fun j => at_set hal
  have c := cnt_set (x := (0, 0)) hal
  rw [fa, show freeB (0, 0) = true from rfl] at c
  simp at c
  obtain ⟨z', hz', fz'⟩ := hd.free
  refine ⟨_, base, hd.rt, ⟨z', free_cut hd.rt hz' fz'⟩, by have := hd.cnt; omega, fun x hx => ?_⟩
  unfold MemS
  rw [hd.same x hx]
  constructor
  · rintro ⟨j, hj, e⟩
    rw [hat] at e
    by_cases ej : j = a
    · rw [if_pos ej] at e; subst e; cases hx
    · rw [if_neg ej] at e
      refine ⟨fun e5 => ej (h.distinct j a hj ha (by rw [e]; exact hx) fa (by rw [e, e4, e5])), j, hj, e⟩
  · rintro ⟨e5, j, hj, e⟩
    exact ⟨j, hj, by rw [hat, if_neg (fun ej => by rw [ej, e4] at e; subst e; exact e5 rfl)]; exact e⟩

/-! ### put, and deleted -/
theorem set_free {l : Slots} {i : Nat} (hi : i < l.length) (hf : freeB (at' l i) = true) (x : Int × Int) : (l.set i x).set i (0, 0) = l := by
  rw [List.set_set]
  have : at' l i = (0, 0) := Prod.ext (free_out.1 hf).1 (free_out.1 hf).2
  apply List.ext_getElem (by simp)
  intro j h1 h2
  rw [List.getElem_set]
  by_cases e : i = j
  · subst e; rw [if_pos rfl, ← at_eq hi, this]
  · rw [if_neg e]
theorem put_ok0 {l : Slots} {p f : Int} (h : (putS l p f).2 = 0) : RT l ∧ fitsB p f = true ∧ (placeT l p).2 = false ∧ ∃ i, ffree l (homeN p) 0 16 = some i ∧ (putS l p f).1 = l.set i (p, f) := by
  unfold putS at h ⊢
  by_cases h1 : rightB l = false ∨ fitsB p f = false
  · rw [if_pos h1] at h; cases h
  · rw [if_neg h1] at h ⊢
    by_cases h2 : (placeT l p).2 = true
    · rw [if_pos h2] at h; cases h
    · rw [if_neg h2] at h ⊢
      simp at h1 h2
      cases hf : ffree l (homeN p) 0 16 with
      | none => rw [hf] at h; cases h
      | some i => exact ⟨rightB_t.1 h1.1, h1.2, h2, i, rfl, rfl⟩
theorem put_no {l : Slots} {p f : Int} (h : (putS l p f).2 ≠ 0) : (putS l p f).1 = l := by
  unfold putS at h ⊢
  by_cases h1 : rightB l = false ∨ fitsB p f = false
  · rw [if_pos h1]
  · rw [if_neg h1] at h ⊢
    by_cases h2 : (placeT l p).2 = true
    · rw [if_pos h2]
    · rw [if_neg h2] at h ⊢
      cases hf : ffree l (homeN p) 0 16 with
      | none => rfl
      | some i => rw [hf] at h; exact absurd rfl h
theorem put_back {l : Slots} {p f : Int} (h : (putS l p f).2 = 0) : ∃ l1, (putS l p f).1 = l1 ∧ RT l ∧ RT l1 ∧ findS l1 p = (f, true) ∧ delS l1 p = (l, 0) ∧ cntS l1 = cntS l + 1 := by
  obtain ⟨h1, h2, h3, i, h4, h5⟩ := put_ok0 h
  have hp := fits_out.1 h2
  have hn : ∀ j, j < 16 → (at' l j).1 ≠ p := fun j hj e => by
    have := (placeT_iff (l := l) (p := p) (by omega)).2 ⟨j, by rw [h1.len]; exact hj, e⟩
    rw [h3] at this; cases this
  obtain ⟨hi16, fi, hrt, hcut⟩ := put_rt h1 h2 (fun j hj _ => hn j hj) h4
  have hil : i < l.length := by rw [h1.len]; exact hi16
  have hat : at' (l.set i (p, f)) i = (p, f) := by rw [at_set hil, if_pos rfl]
  refine ⟨_, h5, h1, hrt, find_yes hrt (by omega) hi16 hat, ?_, ?_⟩
  · obtain ⟨hpl, hpa⟩ := place_at hrt (p := p) (by omega) hi16 (by rw [hat])
    rw [delS, if_neg (by simp [rightB_t.2 hrt]), if_neg (by simp [hpl]), hpa, Int.toNat_natCast, set_free hil fi, delG_still h1 hi16 fi]
  · have c := cnt_set (x := (p, f)) hil
    rw [fi, fits_nonfree h2] at c
    simp at c
    exact c

/-! ### the pages that are told -/
theorem pages_mem {l : Slots} (h : RT l) {q : Int} (hq : q ∈ pagesS l) : 1 ≤ q ∧ 0 ≤ placeG l q 0 := by
  rw [pagesS, if_neg (by simp [rightB_t.2 h]), sortI, List.mem_mergeSort, List.mem_filterMap] at hq
  obtain ⟨x, hx, e⟩ := hq
  obtain ⟨j, hj, rfl⟩ := List.mem_iff_getElem.1 hx
  rw [← at_eq hj] at e
  have hj16 : j < 16 := by rw [h.len] at hj; exact hj
  cases fj : freeB (at' l j) with
  | true => simp [pageF, fj] at e
  | false =>
    simp [pageF, fj] at e
    exact ⟨by rw [← e]; exact slot_page (h.slots j hj16) fj, placeG_mem.2 ⟨j, hj, e⟩⟩
theorem pages_rise {l : Slots} (h : RT l) : (pagesS l).Pairwise (fun a b => a < b) := by
  rw [pagesS, if_neg (by simp [rightB_t.2 h])]
  have hs : (sortI (l.filterMap pageF)).Pairwise (fun a b => a ≤ b) := by
    have := List.pairwise_mergeSort (le := fun (x y : Int) => decide (x ≤ y)) (fun a b c => by simp; omega) (fun a b => by simp; omega) (l.filterMap pageF)
    exact this.imp_of_mem fun _ _ h => by simpa using h
  have hd : (l.filterMap pageF).Pairwise (fun a b => a ≠ b) := by
    have h0 : l.Pairwise (fun a b => freeB a = false → freeB b = false → a.1 ≠ b.1) := by
      rw [List.pairwise_iff_getElem]
      intro i j hi hj hij fi fj e
      rw [← at_eq hi] at fi e
      rw [← at_eq hj] at fj e
      have := h.distinct i j (by rw [h.len] at hi; exact hi) (by rw [h.len] at hj; exact hj) fi fj e
      omega
    refine List.Pairwise.filterMap pageF (fun a b hab x hx y hy => ?_) h0
    cases fa : freeB a with
    | true => simp [pageF, fa] at hx
    | false =>
      cases fb : freeB b with
      | true => simp [pageF, fb] at hy
      | false =>
        simp [pageF, fa] at hx
        simp [pageF, fb] at hy
        have := hab fa fb
        omega
  have hd' : (sortI (l.filterMap pageF)).Pairwise (fun a b => a ≠ b) := by
    have hp := List.mergeSort_perm (l.filterMap pageF) (fun (x y : Int) => decide (x ≤ y))
    exact (hp.pairwise_iff (fun {a b} h => fun e => h e.symm)).2 hd
  rw [List.pairwise_iff_getElem] at hs hd' ⊢
  intro i j hi hj hij
  have h1 := hs i j hi hj hij
  have h2 := hd' i j hi hj hij
  omega
end Go.Lk.Tb

set_option linter.unusedSimpArgs false
set_option linter.unusedVariables false
set_option linter.unnecessarySimpa false
namespace Go.Lk.Tb
open Go Go.Proofs Go.RowKit Go.Lk

/-! ### the document's own -/
theorem cnt_one {l : Slots} (h : RT l) {i : Nat} (hi : i < 16) (fi : freeB (at' l i) = false) : countG l (at' l i).1 = 1 := by
  have hil : i < l.length := by rw [h.len]; exact hi
  have hp := slot_page (h.slots i hi) fi
  have hsplit : l = l.take i ++ (l[i] :: l.drop (i + 1)) := by rw [← List.drop_eq_getElem_cons hil, List.take_append_drop]
  have no (j : Nat) (hj : j < l.length) (hne : j ≠ i) : (l[j].1 == (at' l i).1) = false := by
    simp only [beq_eq_false_iff_ne]
    intro e
    rw [← at_eq hj] at e
    have hj16 : j < 16 := by rw [h.len] at hj; exact hj
    exact hne (h.distinct j i hj16 hi (page_nonfree (by omega)) fi e)
  unfold countG
  rw [hsplit, List.countP_append, List.countP_cons]
  have h1 : (l.take i).countP (fun x => x.1 == (at' l i).1) = 0 := by
    rw [List.countP_eq_zero]
    intro x hx
    obtain ⟨j, hj, rfl⟩ := List.mem_iff_getElem.1 hx
    rw [List.getElem_take]
    simp at hj
    rw [no j (by omega) (by omega)]; simp
  have h2 : (l.drop (i + 1)).countP (fun x => x.1 == (at' l i).1) = 0 := by
    rw [List.countP_eq_zero]
    intro x hx
    obtain ⟨j, hj, rfl⟩ := List.mem_iff_getElem.1 hx
    rw [List.getElem_drop]
    simp at hj
    rw [no (i + 1 + j) (by omega) (by omega)]; simp
  rw [← hsplit, h1, h2, at_eq hil]
  simp
theorem cnt_uniq {l : Slots} {p : Int} (h : countG l p = 1) {i j : Nat} (hij : i < j) (hj : j < l.length) (e1 : (at' l i).1 = p) (e2 : (at' l j).1 = p) : False := by
  have hi : i < l.length := by omega
  rw [at_eq hi] at e1
  rw [at_eq hj] at e2
  unfold countG at h
  rw [← List.take_append_drop j l, List.countP_append] at h
  have h1 : 0 < (l.take j).countP (fun x => x.1 == p) := List.countP_pos_iff.2 ⟨l[i], by
    rw [List.mem_iff_getElem]; exact ⟨i, by simp; omega, by rw [List.getElem_take]⟩, by simp [e1]⟩
  have h2 : 0 < (l.drop j).countP (fun x => x.1 == p) := List.countP_pos_iff.2 ⟨l[j], by
    rw [List.mem_iff_getElem]; exact ⟨0, by simp; omega, by rw [List.getElem_drop]; simp⟩, by simp [e2]⟩
  omega

theorem rright_ok (l : Slots) (hl : l.length ≤ 1000000) : ACall Try.prog 25 [encT l] (.bool (rightB l)) := by
  refine acall_of Try.func25 1 rfl (by kernel_rfl) ?_
  conv => whnf
  have hm : (l.map encI).length = l.length := List.length_map ..
  repeat (first | (refine bcase_f rfl ?_; conv => whnf) | (refine bcase_t rfl ?_; conv => whnf) | (refine condK_of rfl ?_; conv => whnf) | (refine condK_of (by decide) ?_; conv => whnf) | (refine condK_of (by omega) ?_; conv => whnf) | (refine wrapK_in (w64 (by omega) (by omega)) ?_; conv => whnf))
  refine bcase_n (fun h0 => ?_) (fun h0 => ?_) <;> conv => whnf
  · exact ret_of rfl (congrArg D.bool (rightB_f.2 fun h => h0 (by rw [hm, h.len]; rfl)).symm)
  have hlen : l.length = 16 := by omega
  refine aloop (ι := Nat) (fun k => [(1, .ptr 1 0 0), (3, .d (.int .i64 k))]) (fun _ => [(1, .box [.d (encIs l)] false)])
    (fun k => k ≤ 16 ∧ ∀ j, j < k → SlotP (at' l j) ∧ (freeB (at' l j) = false → countG l (at' l j).1 = 1) ∧ PlaceP l j) (fun k => 16 - k) 0 ⟨Nat.zero_le _, fun j h => absurd h (Nat.not_lt_zero _)⟩ (le0 (le_of_cov ⟨rfl, rfl, trivial⟩ ⟨rfl, trivial⟩ ⟨rfl, rfl, rfl, rfl⟩)) ?_
  rintro k ⟨hk, hR⟩
  conv => whnf
  refine bcase_p (fun h => ?_) (fun h => ?_) <;> conv => whnf
  · have hk2 : k < l.length := by omega
    have hat := at_eq hk2
    have hlast (hs : SlotP (at' l k) ∧ (freeB (at' l k) = false → countG l (at' l k).1 = 1) ∧ PlaceP l k) : ∀ j, j < k + 1 → SlotP (at' l j) ∧ (freeB (at' l j) = false → countG l (at' l j).1 = 1) ∧ PlaceP l j := fun j hj => (Nat.lt_succ_iff_lt_or_eq.1 hj).elim (hR j) (fun e => by subst e; exact hs)
    repeat (first | (refine bcase_f rfl ?_; conv => whnf) | (refine bcase_t rfl ?_; conv => whnf) | (refine condK_of rfl ?_; conv => whnf) | (refine condK_of (by decide) ?_; conv => whnf) | (refine condK_of (by omega) ?_; conv => whnf) | (refine wrapK_in (w64 (by omega) (by omega)) ?_; conv => whnf))
    refine idxK_nat (by omega) ?_
    conv => whnf
    refine getRow_of (x := encI l[k]) (by simp [hk2]) ?_
    conv => whnf
    repeat (first | (refine bcase_f rfl ?_; conv => whnf) | (refine bcase_t rfl ?_; conv => whnf) | (refine condK_of rfl ?_; conv => whnf) | (refine condK_of (by decide) ?_; conv => whnf) | (refine condK_of (by omega) ?_; conv => whnf) | (refine wrapK_in (w64 (by omega) (by omega)) ?_; conv => whnf))
    refine bcase_p (fun g1 => ?_) (fun g1 => ?_) <;> conv => whnf
    · repeat (first | (refine bcase_f rfl ?_; conv => whnf) | (refine bcase_t rfl ?_; conv => whnf) | (refine condK_of rfl ?_; conv => whnf) | (refine condK_of (by decide) ?_; conv => whnf) | (refine condK_of (by omega) ?_; conv => whnf) | (refine wrapK_in (w64 (by omega) (by omega)) ?_; conv => whnf))
      refine bcase_p (fun g2 => ?_) (fun g2 => ?_) <;> conv => whnf
      · repeat (first | (refine bcase_f rfl ?_; conv => whnf) | (refine bcase_t rfl ?_; conv => whnf) | (refine condK_of rfl ?_; conv => whnf) | (refine condK_of (by decide) ?_; conv => whnf) | (refine condK_of (by omega) ?_; conv => whnf) | (refine wrapK_in (w64 (by omega) (by omega)) ?_; conv => whnf))
        have hfr : freeB (at' l k) = true := by rw [hat]; simp [freeB, g1, g2]
        exact ⟨k + 1, ⟨by omega, hlast ⟨.inl hfr, fun h => (by rw [hfr] at h; cases h), .inl hfr⟩⟩, by omega, le0 (le_of_cov ⟨rfl, rfl, trivial⟩ ⟨rfl, trivial⟩ ⟨rfl, rfl, rfl, rfl⟩)⟩
      repeat (first | (refine bcase_f rfl ?_; conv => whnf) | (refine bcase_t rfl ?_; conv => whnf) | (refine condK_of rfl ?_; conv => whnf) | (refine condK_of (by decide) ?_; conv => whnf) | (refine condK_of (by omega) ?_; conv => whnf) | (refine wrapK_in (w64 (by omega) (by omega)) ?_; conv => whnf))
      refine bcase_t (by simp; omega) ?_
      conv => whnf
      refine ret_of rfl (congrArg D.bool (rightB_f.2 fun h => ?_).symm)
      have h5 := h.slots k (by omega)
      rw [hat] at h5
      rcases h5 with h5 | h5
      · have := free_out.1 h5; omega
      · have := fits_out.1 h5; omega
    repeat (first | (refine bcase_f rfl ?_; conv => whnf) | (refine bcase_t rfl ?_; conv => whnf) | (refine condK_of rfl ?_; conv => whnf) | (refine condK_of (by decide) ?_; conv => whnf) | (refine condK_of (by omega) ?_; conv => whnf) | (refine wrapK_in (w64 (by omega) (by omega)) ?_; conv => whnf))
    refine bcase_p (fun g2 => ?_) (fun g2 => ?_) <;> conv => whnf
    · refine ret_of rfl (congrArg D.bool (rightB_f.2 fun h => ?_).symm)
      have h5 := h.slots k (by omega)
      rw [hat] at h5
      rcases h5 with h5 | h5
      · have := free_out.1 h5; omega
      · have := fits_out.1 h5; omega
    repeat (first | (refine bcase_f rfl ?_; conv => whnf) | (refine bcase_t rfl ?_; conv => whnf) | (refine condK_of rfl ?_; conv => whnf) | (refine condK_of (by decide) ?_; conv => whnf) | (refine condK_of (by omega) ?_; conv => whnf) | (refine wrapK_in (w64 (by omega) (by omega)) ?_; conv => whnf))
    refine bcase_p (fun g3 => ?_) (fun g3 => ?_) <;> conv => whnf
    · refine ret_of rfl (congrArg D.bool (rightB_f.2 fun h => ?_).symm)
      have h5 := h.slots k (by omega)
      rw [hat] at h5
      rcases h5 with h5 | h5
      · have := free_out.1 h5; omega
      · have := fits_out.1 h5; omega
    repeat (first | (refine bcase_f rfl ?_; conv => whnf) | (refine bcase_t rfl ?_; conv => whnf) | (refine condK_of rfl ?_; conv => whnf) | (refine condK_of (by decide) ?_; conv => whnf) | (refine condK_of (by omega) ?_; conv => whnf) | (refine wrapK_in (w64 (by omega) (by omega)) ?_; conv => whnf))
    refine bcase_p (fun g4 => ?_) (fun g4 => ?_) <;> conv => whnf
    · refine ret_of rfl (congrArg D.bool (rightB_f.2 fun h => ?_).symm)
      have h5 := h.slots k (by omega)
      rw [hat] at h5
      rcases h5 with h5 | h5
      · have := free_out.1 h5; omega
      · have := fits_out.1 h5; omega
    repeat (first | (refine bcase_f rfl ?_; conv => whnf) | (refine bcase_t rfl ?_; conv => whnf) | (refine condK_of rfl ?_; conv => whnf) | (refine condK_of (by decide) ?_; conv => whnf) | (refine condK_of (by omega) ?_; conv => whnf) | (refine wrapK_in (w64 (by omega) (by omega)) ?_; conv => whnf))
    refine bcase_p (fun g5 => ?_) (fun g5 => ?_) <;> conv => whnf
    · refine ret_of rfl (congrArg D.bool (rightB_f.2 fun h => ?_).symm)
      have h5 := h.slots k (by omega)
      rw [hat] at h5
      rcases h5 with h5 | h5
      · have := free_out.1 h5; omega
      · have := fits_out.1 h5; omega
    repeat (first | (refine bcase_f rfl ?_; conv => whnf) | (refine bcase_t rfl ?_; conv => whnf) | (refine condK_of rfl ?_; conv => whnf) | (refine condK_of (by decide) ?_; conv => whnf) | (refine condK_of (by omega) ?_; conv => whnf) | (refine wrapK_in (w64 (by omega) (by omega)) ?_; conv => whnf))
    have hfr : freeB l[k] = false := by simp [freeB]; omega
    have hsl : SlotP (at' l k) := by rw [hat]; exact .inr (fits_out.2 (by omega))
    refine callX_pure (there_ok l l[k].1 (by omega)) ?_
    conv => whnf
    refine bcase_n (fun h3 => ?_) (fun h3 => ?_) <;> conv => whnf
    · refine ret_of rfl (congrArg D.bool (rightB_f.2 fun h => h3 ?_).symm)
      have := cnt_one h (i := k) (by omega) (by rw [hat]; exact hfr)
      rw [hat] at this; omega
    have hc1 : countG l l[k].1 = 1 := by omega
    have hhm : ((homeN l[k].1 : Nat) : Int) = l[k].1 % 16 := by simp [homeN]; omega
    have hh16 : homeN l[k].1 < 16 := by simp [homeN]; omega
    have hw16 : wayN (homeN l[k].1) k < 16 := by simp [wayN]; omega
    have hQk : ∀ j, j < k → (at' l j).1 ≠ (at' l k).1 := fun j hj e => by
      rw [hat] at e; exact cnt_uniq hc1 hj hk2 e (by rw [hat])
    repeat (first | (refine bcase_f rfl ?_; conv => whnf) | (refine bcase_t rfl ?_; conv => whnf) | (refine condK_of rfl ?_; conv => whnf) | (refine condK_of (by decide) ?_; conv => whnf) | (refine condK_of (by omega) ?_; conv => whnf) | (refine wrapK_in (w64 (by omega) (by omega)) ?_; conv => whnf))
    refine aloop (ι := Nat) (fun d => [(1, .ptr 1 0 0), (3, .d (.int .i64 k)), (4, .ptr 4 0 0), (5, .d (.int .i64 d))]) (fun _ => [(1, .box [.d (encIs l)] false), (4, .box [.d (.int .i64 l[k].1), .d (.int .i64 l[k].2)] false)])
      (fun d => d ≤ wayN (homeN l[k].1) k ∧ ∀ d', d' < d → freeB (at' l ((homeN l[k].1 + d') % 16)) = false) (fun d => 16 - d) 0 ⟨Nat.zero_le _, fun j h => absurd h (Nat.not_lt_zero _)⟩ (le0 (le_of_cov ⟨rfl, rfl, rfl, rfl, trivial⟩ ⟨rfl, rfl, trivial⟩ ⟨rfl, rfl, rfl, rfl⟩)) ?_
    rintro d ⟨hd, hD⟩
    conv => whnf
    refine bcase_t (by simp; omega) ?_
    conv => whnf
    repeat (first | (refine bcase_f rfl ?_; conv => whnf) | (refine bcase_t rfl ?_; conv => whnf) | (refine condK_of rfl ?_; conv => whnf) | (refine condK_of (by decide) ?_; conv => whnf) | (refine condK_of (by omega) ?_; conv => whnf) | (refine wrapK_in (w64 (by omega) (by omega)) ?_; conv => whnf))
    refine divK_rem (by decide) (by omega) ?_
    conv => whnf
    refine bcase_p (fun h4 => ?_) (fun h4 => ?_) <;> conv => whnf
    · have hd3 : d = wayN (homeN l[k].1) k := by simp only [wayN] at hd hw16 ⊢; omega
      repeat (first | (refine bcase_f rfl ?_; conv => whnf) | (refine bcase_t rfl ?_; conv => whnf) | (refine condK_of rfl ?_; conv => whnf) | (refine condK_of (by decide) ?_; conv => whnf) | (refine condK_of (by omega) ?_; conv => whnf) | (refine wrapK_in (w64 (by omega) (by omega)) ?_; conv => whnf))
      refine ⟨k + 1, ⟨by omega, hlast ⟨hsl, fun _ => by rw [hat]; exact hc1, .inr ⟨hQk, ?_⟩⟩⟩, by omega, le0 (le_of_cov ⟨rfl, rfl, trivial⟩ ⟨rfl, trivial⟩ ⟨rfl, rfl, rfl, rfl⟩)⟩
      rw [hat, ← hd3]; exact hD
    have hd2 : d < wayN (homeN l[k].1) k := by
      by_cases e : d = wayN (homeN l[k].1) k
      · exfalso; apply h4; rw [e]; simp only [wayN]; omega
      · omega
    have hcast : (l[k].1 + (d : Int)) % 16 = (((homeN l[k].1 + d) % 16 : Nat) : Int) := by omega
    have hj : (homeN l[k].1 + d) % 16 < l.length := by omega
    rw [hcast]
    repeat (first | (refine bcase_f rfl ?_; conv => whnf) | (refine bcase_t rfl ?_; conv => whnf) | (refine condK_of rfl ?_; conv => whnf) | (refine condK_of (by decide) ?_; conv => whnf) | (refine condK_of (by omega) ?_; conv => whnf) | (refine wrapK_in (w64 (by omega) (by omega)) ?_; conv => whnf))
    refine idxK_nat (by omega) ?_
    conv => whnf
    refine getRow_of (x := encI l[(homeN l[k].1 + d) % 16]) (by simp [hj]) ?_
    conv => whnf
    repeat (first | (refine bcase_f rfl ?_; conv => whnf) | (refine bcase_t rfl ?_; conv => whnf) | (refine condK_of rfl ?_; conv => whnf) | (refine condK_of (by decide) ?_; conv => whnf) | (refine condK_of (by omega) ?_; conv => whnf) | (refine wrapK_in (w64 (by omega) (by omega)) ?_; conv => whnf))
    refine bcase_p (fun h5 => ?_) (fun h5 => ?_) <;> conv => whnf
    · refine ret_of rfl (congrArg D.bool (rightB_f.2 fun h => ?_).symm)
      have h6 := h.path (i := k) (by omega) (by rw [hat]; exact hfr) (d := d) (by rw [hat]; exact hd2)
      rw [hat, at_eq hj] at h6
      have h7 := h.slots ((homeN l[k].1 + d) % 16) (Nat.mod_lt _ (by decide))
      rw [at_eq hj] at h7
      have := slot_page h7 h6
      omega
    repeat (first | (refine bcase_f rfl ?_; conv => whnf) | (refine bcase_t rfl ?_; conv => whnf) | (refine condK_of rfl ?_; conv => whnf) | (refine condK_of (by decide) ?_; conv => whnf) | (refine condK_of (by omega) ?_; conv => whnf) | (refine wrapK_in (w64 (by omega) (by omega)) ?_; conv => whnf))
    exact ⟨d + 1, ⟨by omega, fun j hj' => (Nat.lt_succ_iff_lt_or_eq.1 hj').elim (hD j) (fun e => by subst e; rw [at_eq hj]; simp [freeB]; omega)⟩, by omega, le0 (le_of_cov ⟨rfl, rfl, rfl, rfl, trivial⟩ ⟨rfl, rfl, trivial⟩ ⟨rfl, rfl, rfl, rfl⟩)⟩
  · exact ret_of rfl (congrArg D.bool (rightB_t.2 ⟨hlen, fun i hi => (hR i (by omega)).1, fun i hi => (hR i (by omega)).2.2⟩).symm)
end Go.Lk.Tb


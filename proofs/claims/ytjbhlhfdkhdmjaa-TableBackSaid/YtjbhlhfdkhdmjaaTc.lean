/-
  What is proved here: what puts and deletes leave of a table, in plain words.
-/
import Derived.Test.YtjbhlhfdkhdmjaaTa
import Derived.Test.YtjbhlhfdkhdmjaaTb
set_option linter.unusedSectionVars false
set_option linter.unusedSimpArgs false
set_option linter.unusedVariables false
set_option linter.unnecessarySimpa false
namespace Go.Lk
open Go Go.RowKit

/-! ### tables, in plain words -/
theorem at_set {l : Slots} {i j : Nat} {x : Int × Int} (hi : i < l.length) : at' (l.set i x) j = if j = i then x else at' l j := by
  unfold at'
  rw [List.getElem?_set]
  by_cases h : i = j
  · subst h; simp [hi]
  · rw [if_neg h, if_neg (fun e => h e.symm)]
theorem homeN_lt {p : Int} (h : 0 ≤ p) : homeN p < 16 := by simp [homeN]; omega
theorem slot_page {x : Int × Int} (h : SlotP x) (hf : freeB x = false) : 1 ≤ x.1 := by
  rcases h with h | h
  · rw [hf] at h; cases h
  · exact (fits_out.1 h).1
theorem fits_nonfree {p f : Int} (h : fitsB p f = true) : freeB (p, f) = false := by
  have := fits_out.1 h
  simp [freeB]; omega

/-- where a slot stands, counted from behind the cut -/
def pos (z j : Nat) : Nat := (j + 15 - z) % 16
def CutAt (l : Slots) (z : Nat) : Prop := z < 16 ∧ ∀ i, i < 16 → freeB (at' l i) = false → pos z (homeN (at' l i).1) ≤ pos z i
def Cut (l : Slots) : Prop := ∃ z, CutAt l z
def Distinct (l : Slots) : Prop := ∀ i j, i < 16 → j < 16 → freeB (at' l i) = false → freeB (at' l j) = false → (at' l i).1 = (at' l j).1 → i = j
theorem RT.distinct {l : Slots} (h : RT l) : Distinct l := by
  intro i j hi hj fi fj e
  rcases Nat.lt_trichotomy i j with h1 | h1 | h1
  · rcases h.places j hj with h2 | ⟨h2, _⟩
    · rw [fj] at h2; cases h2
    · exact absurd e (h2 i h1)
  · exact h1
  · rcases h.places i hi with h2 | ⟨h2, _⟩
    · rw [fi] at h2; cases h2
    · exact absurd e.symm (h2 j h1)
/-- no free slot ahead of a page -/
theorem RT.path {l : Slots} (h : RT l) {i : Nat} (hi : i < 16) (fi : freeB (at' l i) = false) {d : Nat} (hd : d < wayN (homeN (at' l i).1) i) : freeB (at' l ((homeN (at' l i).1 + d) % 16)) = false := by
  rcases h.places i hi with h2 | ⟨_, h2⟩
  · rw [fi] at h2; cases h2
  · exact h2 d hd
theorem RT.mk' {l : Slots} (hl : l.length = 16) (hs : ∀ i, i < 16 → SlotP (at' l i)) (hd : Distinct l) (hp : ∀ i, i < 16 → freeB (at' l i) = false → ∀ d, d < wayN (homeN (at' l i).1) i → freeB (at' l ((homeN (at' l i).1 + d) % 16)) = false) : RT l := by
  refine ⟨hl, hs, fun i hi => ?_⟩
  cases fi : freeB (at' l i) with
  | true => exact .inl fi
  | false =>
    refine .inr ⟨fun j hj e => ?_, hp i hi fi⟩
    have fj : freeB (at' l j) = false := by
      cases fj : freeB (at' l j) with
      | false => rfl
      | true =>
        have h1 := slot_page (hs i hi) fi
        have h2 := free_out.1 fj
        omega
    have := hd j i (by omega) hi fj fi e
    omega
/-- a way is what lies between, where no cut is -/
theorem pos_path {z h i k : Nat} (hz : z < 16) (hh : h < 16) (hi : i < 16) (hk : k < 16) (hle : pos z h ≤ pos z i) : (∃ d, d < wayN h i ∧ (h + d) % 16 = k) ↔ pos z h ≤ pos z k ∧ pos z k < pos z i := by
  simp only [pos, wayN] at *
  constructor
  · rintro ⟨d, h1, h2⟩; omega
  · intro h1
    exact ⟨(k + 16 - h) % 16, by omega, by omega⟩
theorem pos_lt {z j : Nat} : pos z j < 16 := Nat.mod_lt _ (by decide)
theorem pos_inj {z i j : Nat} (hz : z < 16) (hi : i < 16) (hj : j < 16) (h : pos z i = pos z j) : i = j := by simp only [pos] at h; omega
theorem free_cut {l : Slots} (h : RT l) {z : Nat} (hz : z < 16) (fz : freeB (at' l z) = true) : CutAt l z := by
  refine ⟨hz, fun i hi fi => ?_⟩
  have hh := homeN_lt (p := (at' l i).1) (by have := slot_page (h.slots i hi) fi; omega)
  by_cases hle : pos z (homeN (at' l i).1) ≤ pos z i
  · exact hle
  · exfalso
    have hne : i ≠ z := fun e => by subst e; rw [fi] at fz; cases fz
    have := h.path hi fi (d := (z + 16 - homeN (at' l i).1) % 16) (by simp only [pos, wayN] at *; omega)
    rw [show (homeN (at' l i).1 + (z + 16 - homeN (at' l i).1) % 16) % 16 = z by omega, fz] at this
    cases this
theorem RT.of_cut {l : Slots} {z : Nat} (hl : l.length = 16) (hs : ∀ i, i < 16 → SlotP (at' l i)) (hd : Distinct l) (hc : CutAt l z) (hp : ∀ i k, i < 16 → k < 16 → freeB (at' l i) = false → pos z (homeN (at' l i).1) ≤ pos z k → pos z k < pos z i → freeB (at' l k) = false) : RT l := by
  refine .mk' hl hs hd fun i hi fi d hdd => ?_
  have hh := homeN_lt (p := (at' l i).1) (by have := slot_page (hs i hi) fi; omega)
  obtain ⟨h1, h2⟩ := (pos_path hc.1 hh hi (Nat.mod_lt _ (by decide)) (hc.2 i hi fi)).1 ⟨d, hdd, rfl⟩
  exact hp i _ hi (Nat.mod_lt _ (by decide)) fi h1 h2
theorem RT.cut_path {l : Slots} {z i k : Nat} (h : RT l) (hc : CutAt l z) (hi : i < 16) (hk : k < 16) (fi : freeB (at' l i) = false) (h1 : pos z (homeN (at' l i).1) ≤ pos z k) (h2 : pos z k < pos z i) : freeB (at' l k) = false := by
  have hh := homeN_lt (p := (at' l i).1) (by have := slot_page (h.slots i hi) fi; omega)
  obtain ⟨d, h3, h4⟩ := (pos_path hc.1 hh hi hk (hc.2 i hi fi)).2 ⟨h1, h2⟩
  have := h.path hi fi h3
  rw [h4] at this
  exact this

/-! ### what a put leaves -/
theorem ffree_out {l : Slots} {h : Nat} : ∀ {n d i : Nat}, ffree l h d n = some i → ∃ e, e < n ∧ i = (h + (d + e)) % 16 ∧ freeB (at' l i) = true ∧ ∀ e', e' < e → freeB (at' l ((h + (d + e')) % 16)) = false
  | 0, d, i, hf => by cases hf
  | n + 1, d, i, hf => by
    simp only [ffree] at hf
    by_cases e : freeB (at' l ((h + d) % 16)) = true
    · rw [if_pos e] at hf
      cases hf
      exact ⟨0, by omega, rfl, e, fun e' h => by omega⟩
    · rw [if_neg e] at hf
      obtain ⟨e2, h1, h2, h3, h4⟩ := ffree_out hf
      refine ⟨e2 + 1, by omega, by rw [h2]; congr 1; omega, h3, fun e' h5 => ?_⟩
      cases e' with
      | zero => simpa using e
      | succ e' => rw [show h + (d + (e' + 1)) = h + (d + 1 + e') by omega]; exact h4 e' (by omega)
theorem ffree_none {l : Slots} {h : Nat} : ∀ {n d : Nat}, ffree l h d n = none → ∀ e, e < n → freeB (at' l ((h + (d + e)) % 16)) = false
  | 0, d, _, e, he => by omega
  | n + 1, d, hf, e, he => by
    simp only [ffree] at hf
    by_cases e1 : freeB (at' l ((h + d) % 16)) = true
    · rw [if_pos e1] at hf; cases hf
    · rw [if_neg e1] at hf
      cases e with
      | zero => simpa using e1
      | succ e => rw [show h + (d + (e + 1)) = h + (d + 1 + e) by omega]; exact ffree_none hf e (by omega)

theorem put_rt {l : Slots} {p f : Int} {i : Nat} (h : RT l) (hf : fitsB p f = true) (hn : ∀ j, j < 16 → freeB (at' l j) = false → (at' l j).1 ≠ p) (hi : ffree l (homeN p) 0 16 = some i) :
    i < 16 ∧ freeB (at' l i) = true ∧ RT (l.set i (p, f)) ∧ Cut (l.set i (p, f)) := by
  obtain ⟨e, h1, h2, h3, h4⟩ := ffree_out hi
  have hp := fits_out.1 hf
  have hh := homeN_lt (p := p) (by omega)
  have hi16 : i < 16 := by omega
  have hil : i < l.length := by rw [h.len]; exact hi16
  have hc := free_cut h hi16 h3
  have nf := fits_nonfree hf
  have hat : ∀ j, at' (l.set i (p, f)) j = if j = i then (p, f) else at' l j := fun j => at_set hil
  have hcut : CutAt (l.set i (p, f)) i := by
    refine ⟨hi16, fun j hj fj => ?_⟩
    rw [hat] at fj ⊢
    by_cases e1 : j = i
    · subst e1; rw [if_pos rfl]; simp only [pos]; omega
    · rw [if_neg e1] at fj ⊢; exact hc.2 j hj fj
  refine ⟨hi16, h3, ?_, i, hcut⟩
  refine .of_cut (by rw [List.length_set]; exact h.len) (fun j hj => ?_) ?_ hcut ?_
  · rw [hat]
    by_cases e1 : j = i
    · rw [if_pos e1]; exact .inr hf
    · rw [if_neg e1]; exact h.slots j hj
  · intro a b ha hb fa fb e1
    rw [hat] at fa fb
    rw [hat, hat] at e1
    by_cases ea : a = i
    · by_cases eb : b = i
      · rw [ea, eb]
      · rw [if_pos ea, if_neg eb] at e1; rw [if_neg eb] at fb; exact absurd e1.symm (hn b hb fb)
    · by_cases eb : b = i
      · rw [if_neg ea, if_pos eb] at e1; rw [if_neg ea] at fa; exact absurd e1 (hn a ha fa)
      · rw [if_neg ea] at fa; rw [if_neg eb] at fb; rw [if_neg ea, if_neg eb] at e1; exact h.distinct a b ha hb fa fb e1
  · intro j k hj hk fj h5 h6
    rw [hat] at fj h5
    rw [hat]
    by_cases ek : k = i
    · rw [if_pos ek]; exact nf
    · rw [if_neg ek]
      by_cases ej : j = i
      · rw [if_pos ej] at h5
        subst ej
        have := h4 ((k + 16 - homeN p) % 16) (by simp only [pos] at *; omega)
        rw [show (homeN p + (0 + (k + 16 - homeN p) % 16)) % 16 = k by omega] at this
        exact this
      · rw [if_neg ej] at fj h5
        exact h.cut_path hc hj hk fj h5 h6
end Go.Lk

set_option linter.unusedSimpArgs false
set_option linter.unusedVariables false
set_option linter.unnecessarySimpa false
namespace Go.Lk
open Go Go.RowKit

def cntS (l : Slots) : Nat := l.countP fun x => !freeB x
theorem cnt_set {l : Slots} {i : Nat} {x : Int × Int} (h : i < l.length) : cntS (l.set i x) + (if freeB (at' l i) = true then 0 else 1) = cntS l + (if freeB x = true then 0 else 1) := by
  have hle : (if (!freeB l[i]) = true then 1 else 0) ≤ cntS l := by
    cases hf : freeB l[i] with
    | true => simp
    | false =>
      have : 0 < cntS l := List.countP_pos_iff.2 ⟨l[i], List.getElem_mem h, by simp [hf]⟩
      simp; omega
  unfold cntS at *
  rw [List.countP_set h, at_eq h]
  generalize l.countP (fun x => !freeB x) = c at hle ⊢
  cases hf : freeB l[i] <;> cases hx : freeB x <;> rw [hf] at hle <;> simp only [Bool.not_true, Bool.not_false, if_true, Bool.false_eq_true, if_false] at hle ⊢ <;> omega
def SameS (l0 l : Slots) : Prop := ∀ x, freeB x = false → ((∃ j, j < 16 ∧ at' l j = x) ↔ ∃ j, j < 16 ∧ at' l0 j = x)

structure DInv (z : Nat) (l0 l : Slots) (hole i : Nat) : Prop where
  len : l.length = 16
  slots : ∀ j, j < 16 → SlotP (at' l j)
  hole16 : hole < 16
  i16 : i < 16
  free : freeB (at' l hole) = true
  dist : Distinct l
  cut : CutAt l z
  ph : pos z hole ≤ pos z i
  paths : ∀ j k, j < 16 → k < 16 → freeB (at' l j) = false → pos z (homeN (at' l j).1) ≤ pos z k → pos z k < pos z j → freeB (at' l k) = true → k = hole ∧ pos z i < pos z j
  same : SameS l0 l
  cnt : cntS l = cntS l0

structure Done (l0 l : Slots) : Prop where
  rt : RT l
  free : ∃ j, j < 16 ∧ freeB (at' l j) = true
  same : SameS l0 l
  cnt : cntS l = cntS l0

theorem DInv.done {z : Nat} {l0 l : Slots} {hole i : Nat} (h : DInv z l0 l hole i) (hp : ∀ j k, j < 16 → k < 16 → freeB (at' l j) = false → pos z (homeN (at' l j).1) ≤ pos z k → pos z k < pos z j → freeB (at' l k) = false) : Done l0 l :=
  ⟨.of_cut h.len h.slots h.dist h.cut hp, ⟨hole, h.hole16, h.free⟩, h.same, h.cnt⟩

theorem delG_still {l : Slots} (h : RT l) {hole : Nat} (h16 : hole < 16) (hf : freeB (at' l hole) = true) : ∀ (n i : Nat), delG l hole i n = l
  | 0, i => rfl
  | n + 1, i => by
    rw [delG]
    by_cases f : freeB (at' l ((i + 1) % 16)) = true
    · rw [if_pos f]
    · have f' : freeB (at' l ((i + 1) % 16)) = false := by simpa using f
      have hi : (i + 1) % 16 < 16 := Nat.mod_lt _ (by decide)
      have hh := homeN_lt (p := (at' l ((i + 1) % 16)).1) (by have := slot_page (h.slots _ hi) f'; omega)
      rw [if_neg f, if_neg, delG_still h h16 hf n]
      intro hw
      have := h.path hi f' hw
      rw [show (homeN (at' l ((i + 1) % 16)).1 + wayN (homeN (at' l ((i + 1) % 16)).1) hole) % 16 = hole by simp only [wayN]; omega, hf] at this
      cases this

theorem delG_done {z : Nat} {l0 : Slots} : ∀ (n : Nat) {l : Slots} {hole i : Nat}, DInv z l0 l hole i → 15 ≤ pos z i + n → Done l0 (delG l hole i n) := by
  intro n
  induction n with
  | zero =>
    intro l hole i h hn
    have h15 : pos z i = 15 := by have := pos_lt (z := z) (j := i); omega
    exact h.done fun j k hj hk fj h1 h2 => by
      cases fk : freeB (at' l k) with
      | false => rfl
      | true =>
        have := (h.paths j k hj hk fj h1 h2 fk).2
        have := pos_lt (z := z) (j := j)
        omega
  | succ n ih =>
    intro l hole i h hn
    have hz := h.cut.1
    have hi := h.i16
    by_cases h15 : pos z i = 15
    · have hd := h.done fun j k hj hk fj h1 h2 => by
        cases fk : freeB (at' l k) with
        | false => rfl
        | true =>
          have := (h.paths j k hj hk fj h1 h2 fk).2
          have := pos_lt (z := z) (j := j)
          omega
      rw [delG_still hd.rt h.hole16 h.free]
      exact hd
    · rw [delG]
      have hi' : (i + 1) % 16 < 16 := Nat.mod_lt _ (by decide)
      have hpi : pos z ((i + 1) % 16) = pos z i + 1 := by simp only [pos] at *; omega
      generalize (i + 1) % 16 = i' at hi' hpi
      have hne : hole ≠ i' := fun e => by have := h.ph; rw [e, hpi] at this; omega
      by_cases f : freeB (at' l i') = true
      · rw [if_pos f]
        refine h.done fun j k hj hk fj h1 h2 => ?_
        cases fk : freeB (at' l k) with
        | false => rfl
        | true =>
          obtain ⟨e1, e2⟩ := h.paths j k hj hk fj h1 h2 fk
          exfalso
          subst e1
          have hji : j ≠ i' := fun e => by subst e; rw [fj] at f; cases f
          have hpj : pos z j ≠ pos z i' := fun e => hji (pos_inj hz hj hi' e)
          have := (h.paths j i' hj hi' fj (by have := h.ph; omega) (by omega) f).1
          exact hne this.symm
      · have f' : freeB (at' l i') = false := by simpa using f
        have hpg := slot_page (h.slots i' hi') f'
        have hh := homeN_lt (p := (at' l i').1) (by omega)
        have hci := h.cut.2 i' hi' f'
        have hway : wayN (homeN (at' l i').1) hole < wayN (homeN (at' l i').1) i' ↔ pos z (homeN (at' l i').1) ≤ pos z hole := by
          have h1 := h.ph
          have h2 := h.hole16
          simp only [pos, wayN] at *
          omega
        rw [if_neg f]
        by_cases hw : wayN (homeN (at' l i').1) hole < wayN (homeN (at' l i').1) i'
        · rw [if_pos hw]
          have hw' := hway.1 hw
          have hhl : hole < l.length := by rw [h.len]; exact h.hole16
          have hil : i' < (l.set hole (at' l i')).length := by rw [List.length_set, h.len]; exact hi'
          have hat : ∀ j, at' ((l.set hole (at' l i')).set i' (0, 0)) j = if j = i' then (0, 0) else if j = hole then at' l i' else at' l j := fun j => by
            rw [at_set hil]
            by_cases e : j = i'
            · rw [if_pos e, if_pos e]
            · rw [if_neg e, if_neg e, at_set hhl]
          refine ih ⟨by simp [h.len], fun j hj => ?_, hi', hi', by rw [hat, if_pos rfl]; rfl, ?_, ⟨hz, fun j hj fj => ?_⟩, Nat.le_refl _, ?_, ?_, ?_⟩ (by omega)
          · rw [hat]
            by_cases e : j = i'
            · rw [if_pos e]; exact slot_zero
            · rw [if_neg e]
              by_cases e2 : j = hole
              · rw [if_pos e2]; exact h.slots i' hi'
              · rw [if_neg e2]; exact h.slots j hj
          · intro a b ha hb fa fb e
            rw [hat] at fa fb
            rw [hat, hat] at e
            by_cases ea : a = i'
            · rw [if_pos ea] at fa; cases fa
            · by_cases eb : b = i'
              · rw [if_pos eb] at fb; cases fb
              · rw [if_neg ea] at fa; rw [if_neg eb] at fb; rw [if_neg ea, if_neg eb] at e
                by_cases ea2 : a = hole
                · by_cases eb2 : b = hole
                  · rw [ea2, eb2]
                  · rw [if_pos ea2, if_neg eb2] at e; rw [if_neg eb2] at fb
                    exact absurd (h.dist i' b hi' hb f' fb e).symm eb
                · by_cases eb2 : b = hole
                  · rw [if_neg ea2, if_pos eb2] at e; rw [if_neg ea2] at fa
                    exact absurd (h.dist a i' ha hi' fa f' e) ea
                  · rw [if_neg ea2] at fa; rw [if_neg eb2] at fb; rw [if_neg ea2, if_neg eb2] at e
                    exact h.dist a b ha hb fa fb e
          · rw [hat] at fj ⊢
            by_cases e : j = i'
            · rw [if_pos e] at fj; cases fj
            · rw [if_neg e] at fj ⊢
              by_cases e2 : j = hole
              · rw [if_pos e2]; rw [e2]; exact hw'
              · rw [if_neg e2] at fj ⊢; exact h.cut.2 j hj fj
          · intro j k hj hk fj h1 h2 fk
            rw [hat] at fj h1 fk
            by_cases e : j = i'
            · rw [if_pos e] at fj; cases fj
            · rw [if_neg e] at fj h1
              by_cases ek : k = i'
              · refine ⟨ek, ?_⟩
                rw [ek] at h2; exact h2
              · rw [if_neg ek] at fk
                by_cases ek2 : k = hole
                · rw [if_pos ek2, f'] at fk; cases fk
                · rw [if_neg ek2] at fk
                  exfalso
                  by_cases e2 : j = hole
                  · rw [if_pos e2] at h1
                    have := (h.paths i' k hi' hk f' h1 (by have := h.ph; rw [e2] at h2; omega) fk).1
                    exact ek2 this
                  · rw [if_neg e2] at fj h1
                    exact ek2 (h.paths j k hj hk fj h1 h2 fk).1
          · intro x hx
            rw [← h.same x hx]
            constructor
            · rintro ⟨j, hj, rfl⟩
              rw [hat] at hx ⊢
              by_cases e : j = i'
              · rw [if_pos e] at hx; cases hx
              · rw [if_neg e] at hx ⊢
                by_cases e2 : j = hole
                · rw [if_pos e2]; exact ⟨i', hi', rfl⟩
                · rw [if_neg e2]; exact ⟨j, hj, rfl⟩
            · rintro ⟨j, hj, rfl⟩
              by_cases e : j = i'
              · exact ⟨hole, h.hole16, by rw [hat, if_neg hne, if_pos rfl, e]⟩
              · have e2 : j ≠ hole := fun e2 => by rw [e2, h.free] at hx; cases hx
                exact ⟨j, hj, by rw [hat, if_neg e, if_neg e2]⟩
          · have c1 := cnt_set (x := at' l i') hhl
            have c2 := cnt_set (x := (0, 0)) hil
            rw [at_set hhl, if_neg hne.symm] at c2
            rw [h.free, f'] at c1
            rw [f', show freeB (0, 0) = true from rfl] at c2
            simp at c1 c2
            have := h.cnt
            omega
        · rw [if_neg hw]
          have hw' : ¬ pos z (homeN (at' l i').1) ≤ pos z hole := fun e => hw (hway.2 e)
          refine ih ⟨h.len, h.slots, h.hole16, hi', h.free, h.dist, h.cut, by have := h.ph; omega, fun j k hj hk fj h1 h2 fk => ?_, h.same, h.cnt⟩ (by omega)
          obtain ⟨e1, e2⟩ := h.paths j k hj hk fj h1 h2 fk
          refine ⟨e1, ?_⟩
          have hji : j ≠ i' := fun e => by subst e; rw [e1] at h1; exact hw' h1
          have hpj : pos z j ≠ pos z i' := fun e => hji (pos_inj hz hj hi' e)
          omega
end Go.Lk

set_option linter.unusedSimpArgs false
set_option linter.unusedVariables false
set_option linter.unnecessarySimpa false
namespace Go.Lk
open Go Go.RowKit

theorem del_rt {l : Slots} {a z : Nat} (h : RT l) (hc : CutAt l z) (ha : a < 16) (fa : freeB (at' l a) = false) : Done (l.set a (0, 0)) (delG (l.set a (0, 0)) a a 15) := by
  have hal : a < l.length := by rw [h.len]; exact ha
  have hat : ∀ j, at' (l.set a (0, 0)) j = if j = a then (0, 0) else at' l j := fun j => at_set hal
  refine delG_done (z := z) 15 ⟨by simp [h.len], fun j hj => ?_, ha, ha, by rw [hat, if_pos rfl]; rfl, ?_, ⟨hc.1, fun j hj fj => ?_⟩, Nat.le_refl _, ?_, fun x hx => Iff.rfl, rfl⟩ (by omega)
  · rw [hat]
    by_cases e : j = a
    · rw [if_pos e]; exact slot_zero
    · rw [if_neg e]; exact h.slots j hj
  · intro i j hi hj fi fj e
    rw [hat] at fi fj
    rw [hat, hat] at e
    by_cases ei : i = a
    · rw [if_pos ei] at fi; cases fi
    · by_cases ej : j = a
      · rw [if_pos ej] at fj; cases fj
      · rw [if_neg ei] at fi; rw [if_neg ej] at fj; rw [if_neg ei, if_neg ej] at e
        exact h.distinct i j hi hj fi fj e
  · rw [hat] at fj ⊢
    by_cases e : j = a
    · rw [if_pos e] at fj; cases fj
    · rw [if_neg e] at fj ⊢; exact hc.2 j hj fj
  · intro j k hj hk fj h1 h2 fk
    rw [hat] at fj h1 fk
    by_cases e : j = a
    · rw [if_pos e] at fj; cases fj
    · rw [if_neg e] at fj h1
      by_cases ek : k = a
      · exact ⟨ek, by rw [ek] at h2; exact h2⟩
      · rw [if_neg ek] at fk
        have := h.cut_path hc hj hk fj h1 h2
        rw [fk] at this; cases this

theorem placeG_mem {l : Slots} {n : Int} : ∀ {k : Nat}, 0 ≤ placeG l n k ↔ ∃ j, j < l.length ∧ (at' l j).1 = n := by
  have key : ∀ {k : Nat}, 0 ≤ placeG l n k ↔ ∃ x ∈ l, x.1 = n := by
    induction l with
    | nil => intro k; exact ⟨fun h => absurd h (show ¬ (0 ≤ (-1 : Int)) by decide), fun ⟨x, h, _⟩ => by cases h⟩
    | cons p r ih =>
      intro k
      simp only [placeG]
      by_cases h : p.1 = n
      · rw [if_pos h]; exact ⟨fun _ => ⟨p, List.mem_cons_self .., h⟩, fun _ => by omega⟩
      · rw [if_neg h, ih]
        constructor
        · rintro ⟨x, h1, h2⟩; exact ⟨x, List.mem_cons_of_mem _ h1, h2⟩
        · rintro ⟨x, h1, h2⟩
          rcases List.mem_cons.1 h1 with rfl | h1
          · exact absurd h2 h
          · exact ⟨x, h1, h2⟩
  intro k
  rw [key]
  constructor
  · rintro ⟨x, hx, e⟩
    obtain ⟨j, hj, rfl⟩ := List.mem_iff_getElem.1 hx
    exact ⟨j, hj, by rw [at_eq hj]; exact e⟩
  · rintro ⟨j, hj, e⟩
    exact ⟨l[j], List.getElem_mem hj, by rw [← at_eq hj]; exact e⟩
theorem placeT_iff {l : Slots} {p : Int} (hp : 1 ≤ p) : (placeT l p).2 = true ↔ ∃ j, j < l.length ∧ (at' l j).1 = p := by
  rw [← placeG_mem (k := 0)]
  unfold placeT
  by_cases h : placeG l p 0 < 0
  · rw [if_pos (.inr h)]; simp; omega
  · rw [if_neg (by omega)]; simp; omega
theorem placeT_no {l : Slots} {p : Int} (h : ∀ j, j < l.length → (at' l j).1 ≠ p) : (placeT l p).2 = false := by
  cases e : (placeT l p).2 with
  | false => rfl
  | true =>
    obtain ⟨i, _, hi, e2⟩ := placeT_t e
    exact absurd (by rw [at_eq hi]; exact e2) (h i hi)
theorem page_nonfree {x : Int × Int} (h : 1 ≤ x.1) : freeB x = false := by simp [freeB]; omega
theorem place_at {l : Slots} (h : RT l) {p : Int} {j : Nat} (hp : 1 ≤ p) (hj : j < 16) (e : (at' l j).1 = p) : (placeT l p).2 = true ∧ (placeT l p).1 = j := by
  have h2 := (placeT_iff hp).2 ⟨j, by rw [h.len]; exact hj, e⟩
  obtain ⟨i, e1, hi, e2⟩ := placeT_t h2
  have hi16 : i < 16 := by rw [h.len] at hi; exact hi
  rw [← at_eq hi] at e2
  have := h.distinct i j hi16 hj (page_nonfree (by omega)) (page_nonfree (by omega)) (by rw [e2, e])
  exact ⟨h2, by rw [e1, this]⟩
theorem find_yes {l : Slots} (h : RT l) {p f : Int} {j : Nat} (hp : 1 ≤ p) (hj : j < 16) (e : at' l j = (p, f)) : findS l p = (f, true) := by
  obtain ⟨h1, h2⟩ := place_at h hp hj (by rw [e])
  simp [findS, rightB_t.2 h, h1, h2, e]
theorem find_no {l : Slots} {p : Int} (h : ∀ j, j < l.length → (at' l j).1 ≠ p) : findS l p = (0, false) := by
  simp [findS, placeT_no h]

theorem cnt_le {l : Slots} : cntS l ≤ l.length := List.countP_le_length
theorem cnt_full {l : Slots} (h : l.length = 16) : cntS l = 16 ↔ ∀ j, j < 16 → freeB (at' l j) = false := by
  rw [← h]
  unfold cntS
  rw [List.countP_eq_length]
  constructor
  · intro h1 j hj
    have := h1 l[j] (List.getElem_mem hj)
    rw [at_eq hj]; simpa using this
  · intro h1 x hx
    obtain ⟨j, hj, rfl⟩ := List.mem_iff_getElem.1 hx
    rw [← at_eq hj, h1 j hj]; rfl
theorem ffree_full {l : Slots} {p : Int} (hl : l.length = 16) (hp : 0 ≤ p) : ffree l (homeN p) 0 16 = none ↔ cntS l = 16 := by
  rw [cnt_full hl]
  have hh := homeN_lt hp
  constructor
  · intro h j hj
    have := ffree_none h ((j + 16 - homeN p) % 16) (by omega)
    rw [show (homeN p + (0 + (j + 16 - homeN p) % 16)) % 16 = j by omega] at this
    exact this
  · intro h
    cases e : ffree l (homeN p) 0 16 with
    | none => rfl
    | some i =>
      obtain ⟨d, h1, h2, h3, h4⟩ := ffree_out e
      rw [h i (by omega)] at h3; cases h3

theorem new_rt : RT (List.replicate 16 (0, 0)) := by
  have hat : ∀ j, at' (List.replicate 16 (0, 0)) j = (0, 0) := fun j => by
    unfold at'
    rw [List.getElem?_replicate]
    split <;> rfl
  exact ⟨by simp, fun i _ => by rw [hat]; exact slot_zero, fun i _ => .inl (by rw [hat]; rfl)⟩
theorem new_at (j : Nat) : at' (List.replicate 16 (0, 0)) j = (0, 0) := by
  unfold at'
  rw [List.getElem?_replicate]
  split <;> rfl

/-- pages: as many as there are slots with one -/
theorem pages_len {l : Slots} (h : RT l) : (pagesS l).length = cntS l := by
  rw [pagesS, if_neg (by simp [rightB_t.2 h]), sortI, List.length_mergeSort]
  have : ∀ l : Slots, (l.filterMap pageF).length = cntS l := by
    intro l
    induction l with
    | nil => rfl
    | cons x r ih =>
      rw [List.filterMap_cons, cntS, List.countP_cons]
      cases e : freeB x with
      | true => simp only [pageF, e, if_true]; rw [ih]; simp [cntS]
      | false => simp only [pageF, e]; simp [ih, cntS]
  exact this l
end Go.Lk

set_option linter.unusedSimpArgs false
set_option linter.unusedVariables false
set_option linter.unnecessarySimpa false
namespace Go.Lk
open Go Go.RowKit

structure TInv (k : Nat) (l : Slots) (want : List Int) (many : Nat) : Prop where
  rt : RT l
  cut : Cut l
  len : want.length = 65
  pages : ∀ j, j < 16 → freeB (at' l j) = false → (at' l j).1 ≤ 64
  told : ∀ p : Nat, 1 ≤ p → p ≤ 64 → (∃ f, want[p]? = some f ∧ 1 ≤ f ∧ f ≤ k ∧ ∃ j, j < 16 ∧ at' l j = ((p : Int), f)) ∨ (want[p]? = some 0 ∧ ∀ j, j < 16 → (at' l j).1 ≠ (p : Int))
  many : many = cntS l

theorem TInv.new : TInv 0 (List.replicate 16 (0, 0)) (List.replicate 65 0) 0 :=
  ⟨new_rt, ⟨0, free_cut new_rt (by decide) (by rw [new_at]; rfl)⟩, by simp, fun j _ h => (by rw [new_at] at h; cases h),
    fun p h1 h2 => .inr ⟨by rw [List.getElem?_replicate, if_pos (by omega)], fun j _ => by rw [new_at]; simp only []; omega⟩, by decide⟩

theorem TInv.at_ {k : Nat} {l : Slots} {want : List Int} {many : Nat} (h : TInv k l want many) {p : Nat} (hp : p ≤ 64) : ∃ f, want[p]? = some f := ⟨want[p]'(by rw [h.len]; omega), by simp⟩
theorem TInv.find {k : Nat} {l : Slots} {want : List Int} {many : Nat} (h : TInv k l want many) {p : Nat} (h1 : 1 ≤ p) (h2 : p ≤ 64) : ∃ f, want[p]? = some f ∧ findS l p = (f, decide (f ≠ 0)) := by
  rcases h.told p h1 h2 with ⟨f, e1, e2, e3, j, hj, e4⟩ | ⟨e1, e2⟩
  · exact ⟨f, e1, by rw [find_yes h.rt (by omega) hj e4]; simp; omega⟩
  · exact ⟨0, e1, by rw [find_no (fun j hj => e2 j (by rw [h.rt.len] at hj; exact hj))]; simp⟩

theorem TInv.put {k : Nat} {l : Slots} {want : List Int} {many : Nat} (h : TInv k l want many) (hk : k < 100) {p : Nat} (h1 : 1 ≤ p) (h2 : p ≤ 64) {f : Int} (hf : want[p]? = some f) :
    ((f = 0 ∧ many < 16) ∧ (putS l p ((k : Int) + 1)).2 = 0 ∧ TInv (k + 1) (putS l p ((k : Int) + 1)).1 (want.set p ((k : Int) + 1)) (many + 1)) ∨
    (¬ (f = 0 ∧ many < 16) ∧ (putS l p ((k : Int) + 1)).2 ≠ 0 ∧ TInv (k + 1) (putS l p ((k : Int) + 1)).1 want many) := by
  have hfit : fitsB p ((k : Int) + 1) = true := fits_out.2 (by omega)
  have keep : TInv (k + 1) l want many := ⟨h.rt, h.cut, h.len, h.pages, fun q q1 q2 => (h.told q q1 q2).elim (fun ⟨f, a, b, c, d⟩ => .inl ⟨f, a, b, by omega, d⟩) .inr, h.many⟩
  have base : putS l p ((k : Int) + 1) = if (placeT l p).2 = true then (l, (4 : Int)) else match ffree l (homeN p) 0 16 with | some i => (l.set i ((p : Int), (k : Int) + 1), (0 : Int)) | none => (l, (7 : Int)) := by
    rw [putS, if_neg (by simp [rightB_t.2 h.rt, hfit])]; rfl
  rcases h.told p h1 h2 with ⟨f', e1, e2, e3, j, hj, e4⟩ | ⟨e1, e2⟩
  · rw [hf] at e1
    cases e1
    have hpl := (place_at h.rt (p := p) (by omega) hj (by rw [e4])).1
    rw [if_pos hpl] at base
    rw [base]
    exact .inr ⟨by omega, (by show (4 : Int) ≠ 0; decide), keep⟩
  · rw [hf] at e1
    cases e1
    have hpl := placeT_no (p := p) (fun j hj => e2 j (by rw [h.rt.len] at hj; exact hj))
    rw [if_neg (by simp [hpl])] at base
    have hfull := ffree_full (p := p) h.rt.len (by omega)
    cases hff : ffree l (homeN p) 0 16 with
    | none =>
      rw [hff] at base
      have := hfull.1 hff
      rw [base]
      exact .inr ⟨by have := h.many; omega, (by show (7 : Int) ≠ 0; decide), keep⟩
    | some i =>
      rw [hff] at base
      have hmany : many < 16 := by
        have h3 := cnt_le (l := l)
        have h4 := h.rt.len
        have : cntS l ≠ 16 := fun e => by have := hfull.2 e; rw [hff] at this; cases this
        have := h.many
        omega
      rw [base]
      obtain ⟨hi16, fi, hrt, hcut⟩ := put_rt h.rt hfit (fun j hj _ => e2 j hj) hff
      have hil : i < l.length := by rw [h.rt.len]; exact hi16
      have hat : ∀ j, at' (l.set i ((p : Int), (k : Int) + 1)) j = if j = i then ((p : Int), (k : Int) + 1) else at' l j := fun j => at_set hil
      refine .inl ⟨⟨rfl, hmany⟩, rfl, hrt, hcut, by rw [List.length_set]; exact h.len, fun j hj fj => ?_, fun q q1 q2 => ?_, ?_⟩
      · rw [hat] at fj ⊢
        by_cases e : j = i
        · rw [if_pos e]; simp only []; omega
        · rw [if_neg e] at fj ⊢; exact h.pages j hj fj
      · by_cases e : q = p
        · subst e
          exact .inl ⟨_, List.getElem?_set_self (by rw [h.len]; omega), by omega, by omega, i, hi16, by rw [hat, if_pos rfl]⟩
        · rw [List.getElem?_set_ne (fun e' => e e'.symm)]
          rcases h.told q q1 q2 with ⟨f', d1, d2, d3, j, hj, d4⟩ | ⟨d1, d2⟩
          · refine .inl ⟨f', d1, d2, by omega, j, hj, ?_⟩
            rw [hat, if_neg (fun e' => by rw [e'] at d4; rw [d4] at fi; have := free_out.1 fi; simp at this; omega), d4]
          · refine .inr ⟨d1, fun j hj => ?_⟩
            rw [hat]
            by_cases e' : j = i
            · rw [if_pos e']; simp only []; omega
            · rw [if_neg e']; exact d2 j hj
      · have c := cnt_set (x := ((p : Int), (k : Int) + 1)) hil
        rw [fi, fits_nonfree hfit] at c
        simp at c
        have := h.many
        show many + 1 = cntS (l.set i ((p : Int), (k : Int) + 1))
        omega

theorem TInv.del {k : Nat} {l : Slots} {want : List Int} {many : Nat} (h : TInv k l want many) {p : Nat} (h1 : 1 ≤ p) (h2 : p ≤ 64) {f : Int} (hf : want[p]? = some f) :
    (f ≠ 0 ∧ 1 ≤ many ∧ (delS l p).2 = 0 ∧ TInv (k + 1) (delS l p).1 (want.set p 0) (many - 1)) ∨ (f = 0 ∧ (delS l p).2 ≠ 0 ∧ TInv (k + 1) (delS l p).1 want many) := by
  have keep : TInv (k + 1) l want many := ⟨h.rt, h.cut, h.len, h.pages, fun q q1 q2 => (h.told q q1 q2).elim (fun ⟨f, a, b, c, d⟩ => .inl ⟨f, a, b, by omega, d⟩) .inr, h.many⟩
  rcases h.told p h1 h2 with ⟨f', e1, e2, e3, a, ha, e4⟩ | ⟨e1, e2⟩
  · rw [hf] at e1
    cases e1
    obtain ⟨hpl, hpa⟩ := place_at h.rt (p := p) (by omega) ha (by rw [e4])
    have base : delS l p = (delG (l.set a (0, 0)) a a 15, 0) := by
      rw [delS, if_neg (by simp [rightB_t.2 h.rt]), if_neg (by simp [hpl]), hpa]; rfl
    rw [base]
    obtain ⟨z, hz⟩ := h.cut
    have fa : freeB (at' l a) = false := by rw [e4]; exact page_nonfree (by simp only []; omega)
    have hd := del_rt h.rt hz ha fa
    have hal : a < l.length := by rw [h.rt.len]; exact ha
    have hat : ∀ j, at' (l.set a (0, 0)) j = if j = a then (0, 0) else at' l j := fun j => at_set hal
    have c := cnt_set (x := (0, 0)) hal
    rw [fa, show freeB (0, 0) = true from rfl] at c
    simp at c
    obtain ⟨z', hz', fz'⟩ := hd.free
    -- what stands behind the delete
    have hmem : ∀ x, freeB x = false → ((∃ j, j < 16 ∧ at' (delG (l.set a (0, 0)) a a 15) j = x) ↔ ∃ j, j < 16 ∧ j ≠ a ∧ at' l j = x) := by
      intro x hx
      rw [hd.same x hx]
      constructor
      · rintro ⟨j, hj, e⟩
        rw [hat] at e
        by_cases ej : j = a
        · rw [if_pos ej] at e; subst e; cases hx
        · rw [if_neg ej] at e; exact ⟨j, hj, ej, e⟩
      · rintro ⟨j, hj, ej, e⟩
        exact ⟨j, hj, by rw [hat, if_neg ej]; exact e⟩
    refine .inl ⟨by omega, by have := h.many; omega, rfl, hd.rt, ⟨z', free_cut hd.rt hz' fz'⟩, by rw [List.length_set]; exact h.len, fun j hj fj => ?_, fun q q1 q2 => ?_, (by show many - 1 = cntS (delG (l.set a (0, 0)) a a 15); have := h.many; have := hd.cnt; omega)⟩
    · obtain ⟨i, hi, _, e⟩ := (hmem _ fj).1 ⟨j, hj, rfl⟩
      rw [← e] at fj ⊢
      exact h.pages i hi fj
    · by_cases e : q = p
      · subst e
        refine .inr ⟨List.getElem?_set_self (by rw [h.len]; omega), fun j hj e5 => ?_⟩
        have fj := page_nonfree (x := at' (delG (l.set a (0, 0)) a a 15) j) (by rw [e5]; omega)
        obtain ⟨i, hi, hia, e6⟩ := (hmem _ fj).1 ⟨j, hj, rfl⟩
        rw [← e6] at e5 fj
        exact hia (h.rt.distinct i a hi ha fj fa (by rw [e5, e4]))
      · rw [List.getElem?_set_ne (fun e' => e e'.symm)]
        rcases h.told q q1 q2 with ⟨f', d1, d2, d3, j, hj, d4⟩ | ⟨d1, d2⟩
        · obtain ⟨i, hi, e6⟩ := (hmem (at' l j) (by rw [d4]; exact page_nonfree (by simp only []; omega))).2 ⟨j, hj, fun e' => by rw [e', e4] at d4; have := congrArg Prod.fst d4; simp at this; omega, rfl⟩
          exact .inl ⟨f', d1, d2, by omega, i, hi, by rw [e6, d4]⟩
        · refine .inr ⟨d1, fun j hj e5 => ?_⟩
          have fj := page_nonfree (x := at' (delG (l.set a (0, 0)) a a 15) j) (by rw [e5]; omega)
          obtain ⟨i, hi, _, e6⟩ := (hmem _ fj).1 ⟨j, hj, rfl⟩
          rw [← e6] at e5
          exact d2 i hi e5
  · rw [hf] at e1
    cases e1
    have hpl := placeT_no (p := p) (fun j hj => e2 j (by rw [h.rt.len] at hj; exact hj))
    have base : delS l p = (l, 3) := by rw [delS, if_neg (by simp [rightB_t.2 h.rt]), if_pos hpl]
    rw [base]
    exact .inr ⟨rfl, (by show (3 : Int) ≠ 0; decide), keep⟩
end Go.Lk


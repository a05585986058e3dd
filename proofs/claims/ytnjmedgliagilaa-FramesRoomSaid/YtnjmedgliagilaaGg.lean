/-
  What is proved here: who has pins; frames that are full; no condition beyond each theorem's own.
-/
import Derived.Test.YtnjmedgliagilaaGf
set_option linter.unusedSectionVars false
set_option linter.unusedSimpArgs false
set_option linter.unusedVariables false
set_option linter.unnecessarySimpa false
namespace Go.Lk
open Go Go.Proofs Go.RowKit

/-! ### what is done, and who has pins -/
theorem FM.find_cases {f : FX} (h : FM f) {q : Int} (hq : q ≠ 0) : (Tb.findS f.tb q = (0, false) ∧ ∀ i (hi : i < f.fr.length), f.fr[i].1 ≠ q) ∨ ∃ i : Nat, Tb.findS f.tb q = ((i : Int), true) ∧ AtF f q i := by
  rcases look_cases f q with ⟨h1, _⟩ | ⟨_, e, _⟩ | ⟨i, e, _, hA⟩
  · exact absurd (fm_iff.2 h) h1
  · refine .inl ⟨e, fun i hi e2 => ?_⟩
    have hA := atF_of h hq hi e2
    rw [(find_mem h.tb).2 ⟨hA.p1, hA.mem⟩] at e
    cases e
  · exact .inr ⟨i, e, hA⟩
theorem findF_at {f : FX} {p : Int} {i : Nat} (h : AtF f p i) : findF f p = ((i : Int), true) := by
  rw [findF, if_pos (fm_iff.2 h.right)]; exact (find_mem h.right.tb).2 ⟨h.p1, h.mem⟩
theorem findF_no {f : FX} {p : Int} (h : FM f) (hn : ∀ i (hi : i < f.fr.length), f.fr[i].1 ≠ p) (hp : p ≠ 0) : findF f p = (0, false) := by
  rw [findF, if_pos (fm_iff.2 h)]
  rcases h.find_cases hp with ⟨e, _⟩ | ⟨i, _, hA⟩
  · exact e
  · exact absurd hA.fr (hn i hA.hi)
theorem room_cases {f : FX} (h : FM f) : (∃ i, ∃ hi : i < f.fr.length, f.fr[i].1 = 0 ∧ roomS f = (f, noPg, false, 0)) ∨
    ((∀ i (hi : i < f.fr.length), f.fr[i].1 ≠ 0) ∧ (∀ i (hi : i < f.fr.length), f.fr[i].2.1 ≠ 0) ∧ roomS f = (f, noPg, false, 6)) ∨
    ((∀ i (hi : i < f.fr.length), f.fr[i].1 ≠ 0) ∧ ∃ (l : List Fr) (a : Nat) (p : Int) (hA : AtF f p a), Swp f.fr f.hand.toNat l a ∧ AtF (swept f (l, a)) p a ∧ (f.fr[a]'hA.hi).2.1 = 0 ∧
      roomS f = if (Dt.sinceG f.dt p).2 = true then (swept f (l, a), f.pg[a]'hA.hp, true, 0) else (relS (swept f (l, a)) a p, f.pg[a]'hA.hp, false, 0)) := by
  have hF := fm_iff.2 h
  rcases freeT_cases f.fr with ⟨e, hno⟩ | ⟨i, e, hi, hz⟩
  rotate_left
  · exact .inl ⟨i, hi, hz, by rw [roomS, if_neg (by simpa using hF), if_pos (by rw [e])]⟩
  refine .inr ?_
  rcases swpG_cases h.ck with ⟨eq, hlo⟩ | ⟨⟨l, a⟩, eq, hs⟩
  · exact .inl ⟨hno, fun i hi => looseAt_no hlo i hi, by rw [roomS, if_neg (by simpa using hF), if_neg (by rw [e]; simp), eq]⟩
  refine .inr ⟨hno, l, a, ?_⟩
  obtain ⟨o1, o2, o3, o4, o5⟩ := hs.out
  have hA := atF_of h (hno a o2) o2 rfl
  have hM := h.swp (q := (l, a)) hs
  have hA2 : AtF (swept f (l, a)) f.fr[a].1 a := atF_of hM (hno a o2) (by show a < l.length; exact o4) (o3 a o2 o4).1
  refine ⟨f.fr[a].1, hA, hs, hA2, by rw [← (o3 a o2 o4).2]; exact o5, ?_⟩
  have hip := hA.hp
  rw [roomS, if_neg (by simpa using hF), if_neg (by rw [e]; simp), eq]
  simp only [atP_eq hip]
  rw [hA.pg]

structure Act where
  kind : Int
  id : Int
  now : Int
  body : ByteArray
  p : Pg
def encA (a : Act) : List D := [.int .i64 a.kind, .int .i64 a.id, .int .i64 a.now, .str a.body, .int .i64 a.p.1, .int .i64 a.p.2.1, .str a.p.2.2]
open Classical in
noncomputable def doS (f : FX) (a : Act) : FX × Int :=
  if a.kind = 1 then pinS f a.id
  else if a.kind = 2 then unpinS f a.id
  else if a.kind = 3 then writeS f a.id a.body a.now
  else if a.kind = 4 then cleanF f a.id
  else if a.kind = 5 then dropS f a.id
  else if a.kind = 6 then loadS f a.p a.now (!decide (a.body = .empty))
  else ((roomS f).1, (roomS f).2.2.2)

def PinsL (l : List Fr) (w : Nat → Int) : Prop := ∀ q : Nat, 1 ≤ q → q ≤ 16 → (∃ i, ∃ hi : i < l.length, l[i].1 = (q : Int) ∧ w q = l[i].2.1) ∨ ((∀ i (hi : i < l.length), l[i].1 ≠ (q : Int)) ∧ w q = 0)
theorem PinsL.set {l : List Fr} {w w' : Nat → Int} {i : Nat} {x : Fr} (h : PinsL l w) (hi : i < l.length) (hu : ∀ j (hj : j < l.length), l[j].1 ≠ 0 → l[j].1 = l[i].1 → j = i)
    (h' : ∀ q : Nat, 1 ≤ q → q ≤ 16 → (x.1 = (q : Int) → w' q = x.2.1) ∧ (x.1 ≠ (q : Int) → l[i].1 = (q : Int) → w' q = 0) ∧ (x.1 ≠ (q : Int) → l[i].1 ≠ (q : Int) → w' q = w q)) : PinsL (l.set i x) w' := by
  intro q h1 h16
  obtain ⟨a1, a2, a3⟩ := h' q h1 h16
  have hat : ∀ j (hj : j < (l.set i x).length), (l.set i x)[j] = if i = j then x else l[j]'(by simpa using hj) := fun j hj => by rw [List.getElem_set]
  by_cases e1 : x.1 = (q : Int)
  · exact .inl ⟨i, by simpa using hi, by rw [hat, if_pos rfl]; exact e1, by rw [hat, if_pos rfl]; exact a1 e1⟩
  by_cases e2 : l[i].1 = (q : Int)
  · refine .inr ⟨fun j hj e => ?_, a2 e1 e2⟩
    rw [hat] at e
    by_cases e3 : i = j
    · rw [if_pos e3] at e; exact e1 e
    · rw [if_neg e3] at e
      exact e3 (hu j (by simpa using hj) (by rw [e]; omega) (by rw [e, e2])).symm
  rcases h q h1 h16 with ⟨j, hj, e3, e4⟩ | ⟨e3, e4⟩
  · have hne : i ≠ j := fun e => e2 (by subst e; exact e3)
    refine .inl ⟨j, by simpa using hj, ?_, ?_⟩
    · rw [hat, if_neg hne]; exact e3
    · rw [hat, if_neg hne, a3 e1 e2]; exact e4
  · refine .inr ⟨fun j hj e => ?_, by rw [a3 e1 e2]; exact e4⟩
    rw [hat] at e
    by_cases e5 : i = j
    · rw [if_pos e5] at e; exact e1 e
    · rw [if_neg e5] at e; exact e3 j (by simpa using hj) e
theorem PinsL.same {l l' : List Fr} {w : Nat → Int} (h : PinsL l w) (hl : l'.length = l.length) (hs : ∀ i (hi : i < l.length) (hi2 : i < l'.length), l'[i].1 = l[i].1 ∧ l'[i].2.1 = l[i].2.1) : PinsL l' w := by
  intro q h1 h16
  rcases h q h1 h16 with ⟨j, hj, e3, e4⟩ | ⟨e3, e4⟩
  · have := hs j hj (by omega)
    exact .inl ⟨j, by omega, by rw [this.1]; exact e3, by rw [this.2]; exact e4⟩
  · exact .inr ⟨fun j hj => by rw [(hs j (by omega) hj).1]; exact e3 j (by omega), e4⟩
theorem AtF.uniq {f : FX} {p : Int} {i : Nat} (h : AtF f p i) : ∀ j (hj : j < f.fr.length), f.fr[j].1 ≠ 0 → f.fr[j].1 = (f.fr[i]'h.hi).1 → j = i := fun j hj h0 e => h.right.uni hj h.hi h0 e
theorem PinsL.at {f : FX} {w : Nat → Int} {p : Int} {i : Nat} (h : PinsL f.fr w) (hA : AtF f p i) : w p.toNat = (f.fr[i]'hA.hi).2.1 := by
  have hp1 := hA.p1
  have hp16 := hA.p16
  have hi := hA.hi
  rcases h p.toNat (by omega) (by omega) with ⟨j, hj, e1, e2⟩ | ⟨e1, _⟩
  · have e1 : f.fr[j].1 = p := by rw [e1]; omega
    have := hA.uni hj e1
    subst this
    exact e2
  · exact absurd (hA.fr.trans (by omega : p = ((p.toNat : Nat) : Int))) (e1 i hA.hi)
def setW (w : Nat → Int) (p v : Int) : Nat → Int := fun q => if q = p.toNat then v else w q
def nextW (w : Nat → Int) (a : Act) (e : Int) : Nat → Int :=
  if e ≠ 0 then w else if a.kind = 1 then setW w a.id (w a.id.toNat + 1) else if a.kind = 2 then setW w a.id (w a.id.toNat - 1) else if a.kind = 6 then setW w a.p.1 1 else w
theorem setW_at {w : Nat → Int} {p v : Int} {q : Nat} (h : p = (q : Int)) : setW w p v q = v := if_pos (by omega)
theorem setW_ne {w : Nat → Int} {p v : Int} {q : Nat} (hp : 0 ≤ p) (h : p ≠ (q : Int)) : setW w p v q = w q := if_neg (by omega)

structure Kept (f : FX) (w : Nat → Int) (a : Act) (r : FX × Int) : Prop where
  fm : FM r.1
  pins : PinsL r.1.fr (nextW w a r.2)
  id : r.2 = 0 → a.kind = 1 ∨ a.kind = 2 → 1 ≤ a.id ∧ a.id ≤ 16 ∧ 0 ≤ w a.id.toNat ∧ w a.id.toNat ≤ 2147483647
  pg : r.2 = 0 → a.kind = 6 → 1 ≤ a.p.1 ∧ a.p.1 ≤ 16
theorem Kept.none {f : FX} {w : Nat → Int} {a : Act} {e : Int} (h : FM f) (hw : PinsL f.fr w) (he : e ≠ 0) : Kept f w a (f, e) := by
  refine ⟨h, ?_, fun h => absurd h he, fun h => absurd h he⟩
  show PinsL f.fr (nextW w a e)
  rw [nextW, if_pos he]; exact hw
theorem Kept.pin {f : FX} {w : Nat → Int} {a : Act} (h : FM f) (hw : PinsL f.fr w) (hk : a.kind = 1) : Kept f w a (pinS f a.id) := by
  rcases look_split f a.id with e | ⟨i, e, hA⟩
  · rw [pinS, if_pos e]; exact .none h hw e
  have hi := hA.hi
  have hp1 := hA.p1
  have hfr := frOk_out.1 (h.ck.all i hi)
  have hwa := hw.at hA
  rw [pinS, if_neg (by rw [e]; simp), e, Int.toNat_natCast, atF_eq hi]
  by_cases g : 2147483647 ≤ f.fr[i].2.1
  · rw [if_pos g]; exact .none h hw (by decide)
  rw [if_neg g]
  refine ⟨FM.pins hA (frOk_out.2 ?_) hA.fr, ?_, fun _ _ => ⟨hA.p1, hA.p16, by omega, by omega⟩, fun _ h6 => by omega⟩
  · show 0 ≤ f.fr[i].1 ∧ f.fr[i].1 ≤ 16 ∧ 0 ≤ f.fr[i].2.1 + 1 ∧ f.fr[i].2.1 + 1 ≤ 2147483647; omega
  · show PinsL (f.fr.set i (upPin f.fr[i])) (nextW w a 0)
    rw [nextW, if_neg (by decide), if_pos hk]
    refine hw.set hi hA.uniq fun q h1 h16 => ⟨fun e => ?_, fun e e2 => absurd e2 e, fun e e2 => ?_⟩
    · have e : f.fr[i].1 = (q : Int) := e
      rw [setW_at (by rw [← hA.fr]; exact e), hwa]; rfl
    · rw [setW_ne (by omega) (by rw [← hA.fr]; exact e2)]
theorem Kept.unpin {f : FX} {w : Nat → Int} {a : Act} (h : FM f) (hw : PinsL f.fr w) (hk : a.kind = 2) : Kept f w a (unpinS f a.id) := by
  rcases look_split f a.id with e | ⟨i, e, hA⟩
  · rw [unpinS, if_pos e]; exact .none h hw e
  have hi := hA.hi
  have hp1 := hA.p1
  have hfr := frOk_out.1 (h.ck.all i hi)
  have hwa := hw.at hA
  rw [unpinS, if_neg (by rw [e]; simp), e, Int.toNat_natCast, atF_eq hi]
  by_cases g : f.fr[i].2.1 = 0
  · rw [if_pos g]; exact .none h hw (by decide)
  rw [if_neg g]
  refine ⟨FM.pins hA (frOk_out.2 ?_) hA.fr, ?_, fun _ _ => ⟨hA.p1, hA.p16, by omega, by omega⟩, fun _ h6 => by omega⟩
  · show 0 ≤ f.fr[i].1 ∧ f.fr[i].1 ≤ 16 ∧ 0 ≤ f.fr[i].2.1 - 1 ∧ f.fr[i].2.1 - 1 ≤ 2147483647; omega
  · show PinsL (f.fr.set i (downPin f.fr[i])) (nextW w a 0)
    rw [nextW, if_neg (by decide), if_neg (by omega), if_pos hk]
    refine hw.set hi hA.uniq fun q h1 h16 => ⟨fun e => ?_, fun e e2 => absurd e2 e, fun e e2 => ?_⟩
    · have e : f.fr[i].1 = (q : Int) := e
      rw [setW_at (by rw [← hA.fr]; exact e), hwa]; rfl
    · rw [setW_ne (by omega) (by rw [← hA.fr]; exact e2)]
theorem Kept.write {f : FX} {w : Nat → Int} {a : Act} (h : FM f) (hw : PinsL f.fr w) (hk : a.kind = 3) : Kept f w a (writeS f a.id a.body a.now) := by
  rcases look_split f a.id with e | ⟨i, e, hA⟩
  · rw [writeS, if_pos e]; exact .none h hw e
  have hi := hA.hi
  have hip := hA.hp
  have hpr := pgR_out.1 hA.pgr
  rw [writeS, if_neg (by rw [e]; simp), e, Int.toNat_natCast, atF_eq hi, atP_eq hip]
  by_cases g : f.fr[i].2.1 = 0
  · rw [if_pos g]; exact .none h hw (by decide)
  rw [if_neg g]
  by_cases g : 16 < a.body.size
  · rw [if_pos g]; exact .none h hw (by decide)
  rw [if_neg g]
  by_cases g : 2147483647 ≤ f.pg[i].2.1
  · rw [if_pos g]; exact .none h hw (by decide)
  rw [if_neg g]
  by_cases g : (Dt.markG f.dt a.id a.now).2 ≠ 0
  · rw [if_pos g]; exact .none h hw g
  rw [if_neg g]
  obtain ⟨m1, m2, _⟩ := mark_cases (show (Dt.markG f.dt a.id a.now).2 = 0 by simpa using g)
  refine ⟨FM.wrote hA (pgR_out.2 ?_) hA.pg m1 m2, ?_, fun _ h6 => by omega, fun _ h6 => by omega⟩
  · show 1 ≤ f.pg[i].1 ∧ f.pg[i].1 ≤ 16 ∧ 1 ≤ f.pg[i].2.1 + 1 ∧ f.pg[i].2.1 + 1 ≤ 2147483647 ∧ a.body.size ≤ 16; omega
  · show PinsL f.fr (nextW w a 0)
    rw [nextW, if_neg (by decide), if_neg (by omega), if_neg (by omega), if_neg (by omega)]; exact hw
theorem Kept.clean {f : FX} {w : Nat → Int} {a : Act} (h : FM f) (hw : PinsL f.fr w) (hk : a.kind = 4) : Kept f w a (cleanF f a.id) := by
  rcases look_split f a.id with e | ⟨i, e, hA⟩
  · rw [cleanF, if_pos e]; exact .none h hw e
  rw [cleanF, if_neg (by rw [e]; simp)]
  by_cases g : (Dt.cleanG f.dt a.id).2 ≠ 0
  · rw [if_pos g]; exact .none h hw (by decide)
  rw [if_neg g]
  obtain ⟨c1, c2⟩ := clean_cases (p := a.id) h.dt
  refine ⟨h.dirt c1 fun y hy => ((c2 y).1 hy).1, ?_, fun _ h6 => by omega, fun _ h6 => by omega⟩
  show PinsL f.fr (nextW w a 0)
  rw [nextW, if_neg (by decide), if_neg (by omega), if_neg (by omega), if_neg (by omega)]; exact hw
theorem PinsL.rel {f : FX} {w : Nat → Int} {p : Int} {i : Nat} (hw : PinsL f.fr w) (hA : AtF f p i) (h0 : (f.fr[i]'hA.hi).2.1 = 0) : PinsL (relS f i p).fr w := by
  have hi := hA.hi
  have hwa := hw.at hA
  have hp1 := hA.p1
  show PinsL (f.fr.set i (0, 0, false)) w
  refine hw.set hi hA.uniq fun q h1 h16 => ⟨fun e => ?_, fun e e2 => ?_, fun _ _ => rfl⟩
  · have e : (0 : Int) = (q : Int) := e
    omega
  · have : p.toNat = q := by rw [← hA.fr, e2]; exact Int.toNat_natCast q
    rw [this] at hwa
    rw [hwa, h0]
theorem Kept.drop {f : FX} {w : Nat → Int} {a : Act} (h : FM f) (hw : PinsL f.fr w) (hk : a.kind = 5) : Kept f w a (dropS f a.id) := by
  rcases look_split f a.id with e | ⟨i, e, hA⟩
  · rw [dropS, if_pos e]; exact .none h hw e
  have hi := hA.hi
  have hfr := frOk_out.1 (h.ck.all i hi)
  rw [dropS, if_neg (by rw [e]; simp), e, Int.toNat_natCast, atF_eq hi]
  by_cases g : 0 < f.fr[i].2.1
  · rw [if_pos g]; exact .none h hw (by decide)
  rw [if_neg g]
  refine ⟨FM.rel hA, ?_, fun _ h6 => by omega, fun _ h6 => by omega⟩
  show PinsL (relS f i a.id).fr (nextW w a 0)
  rw [nextW, if_neg (by decide), if_neg (by omega), if_neg (by omega), if_neg (by omega)]; exact hw.rel hA (by omega)
/-- a page that is loaded -/
theorem load_cases (f : FX) (p : Pg) (now : Int) (fresh : Bool) : ((loadS f p now fresh).1 = f ∧ (loadS f p now fresh).2 ≠ 0) ∨
    ∃ (i : Nat) (hi : i < f.fr.length) (l : List (Int × Int)), f.fr[i].1 = 0 ∧ pgR p = true ∧ FM f ∧ freeT f.fr = ((i : Int), true) ∧ Tb.findS f.tb p.1 = (0, false) ∧ loadS f p now fresh = ({ inS f p i with dt := l }, 0) ∧ FM { inS f p i with dt := l } ∧ AtF { inS f p i with dt := l } p.1 i ∧
      (fresh = false → l = f.dt) ∧ (fresh = true → l = (Dt.markG f.dt p.1 now).1) := by
  unfold loadS
  by_cases hb : bad f p now
  · rw [if_pos hb]; exact .inl ⟨rfl, show (1 : Int) ≠ 0 by decide⟩
  rw [if_neg hb]
  have hR : FRight f := Classical.byContradiction fun h => hb (.inl h)
  have hM := fm_iff.1 hR
  have hP : pgR p = true := by
    cases e : pgR p with
    | true => rfl
    | false => exact absurd (.inr (.inl e)) hb
  by_cases hf : (Tb.findS f.tb p.1).2 = true
  · rw [if_pos hf]; exact .inl ⟨rfl, show (4 : Int) ≠ 0 by decide⟩
  rw [if_neg hf]
  have hff := find_false (p := p.1) (l := f.tb) (by simpa using hf)
  rcases freeT_cases f.fr with ⟨e, hno⟩ | ⟨i, e, hi, hz⟩
  · rw [if_pos (by rw [e])]; exact .inl ⟨rfl, show (7 : Int) ≠ 0 by decide⟩
  rw [if_neg (by rw [e]; simp), e, Int.toNat_natCast]
  obtain ⟨l', t1, _⟩ := in_tb hM (pgR_out.1 hP).1 (pgR_out.1 hP).2.1 hi hff
  rw [if_neg (by rw [t1]; simp)]
  cases fresh with
  | false =>
    rw [if_neg (by decide)]
    obtain ⟨m1, m2⟩ := hM.loaded hP hi hz hff hM.dt fun y hy => .inl hy
    exact .inr ⟨i, hi, f.dt, hz, hP, hM, rfl, hff, rfl, m1, m2, fun _ => rfl, fun h => by cases h⟩
  | true =>
    rw [if_pos rfl]
    by_cases g : (Dt.markG f.dt p.1 now).2 ≠ 0
    · rw [if_pos g]; exact .inl ⟨rfl, g⟩
    rw [if_neg g]
    obtain ⟨k1, k2, _⟩ := mark_cases (show (Dt.markG f.dt p.1 now).2 = 0 by simpa using g)
    obtain ⟨m1, m2⟩ := hM.loaded hP hi hz hff k1 k2
    exact .inr ⟨i, hi, _, hz, hP, hM, rfl, hff, rfl, m1, m2, (fun h => by cases h), fun _ => rfl⟩
theorem Kept.load {f : FX} {w : Nat → Int} {a : Act} (b : Bool) (h : FM f) (hw : PinsL f.fr w) (hk : a.kind = 6) : Kept f w a (loadS f a.p a.now b) := by
  rcases load_cases f a.p a.now b with ⟨e1, e2⟩ | ⟨i, hi, l, hz, hP, _, _, hff, e, m1, m2, _⟩
  · have := Kept.none (a := a) h hw e2
    rw [← e1] at this
    rw [e1] at this
    exact (Prod.ext e1 rfl : loadS f a.p a.now b = (f, (loadS f a.p a.now b).2)) ▸ this
  rw [e]
  have hp1 := m2.p1
  refine ⟨m1, ?_, fun _ h6 => by omega, fun _ _ => ⟨m2.p1, m2.p16⟩⟩
  show PinsL (f.fr.set i (a.p.1, 1, true)) (nextW w a 0)
  rw [nextW, if_neg (by decide), if_neg (by omega), if_neg (by omega), if_pos hk]
  refine hw.set hi (fun j hj h0 e => by rw [hz] at e; exact absurd e h0) fun q h1 h16 => ⟨fun e => ?_, fun _ e2 => ?_, fun e _ => ?_⟩
  · exact setW_at e
  · rw [hz] at e2; omega
  · exact setW_ne (by omega) e
theorem Kept.room {f : FX} {w : Nat → Int} {a : Act} (h : FM f) (hw : PinsL f.fr w) (h1 : a.kind ≠ 1) (h2 : a.kind ≠ 2) (h6 : a.kind ≠ 6) : Kept f w a ((roomS f).1, (roomS f).2.2.2) := by
  have hn (e : Int) : nextW w a e = w := by
    rw [nextW, if_neg h1, if_neg h2, if_neg h6]; split <;> rfl
  rcases room_cases h with ⟨i, hi, _, e⟩ | ⟨_, _, e⟩ | ⟨_, l, q, p, hA, hs, hA2, h0, e⟩
  · rw [e]; exact ⟨h, by rw [hn]; exact hw, fun _ h => by omega, fun _ h => by omega⟩
  · rw [e]; exact .none h hw (show (6 : Int) ≠ 0 by decide)
  have hM := h.swp (q := (l, q)) hs
  obtain ⟨o1, o2, o3, o4, o5⟩ := hs.out
  have hw2 : PinsL (swept f (l, q)).fr w := hw.same o1 o3
  rw [e]
  by_cases g : (Dt.sinceG f.dt p).2 = true
  · rw [if_pos g]; exact ⟨hM, by rw [hn]; exact hw2, fun _ h => by omega, fun _ h => by omega⟩
  · rw [if_neg g]
    exact ⟨FM.rel hA2, by rw [hn]; exact hw2.rel hA2 o5, fun _ h => by omega, fun _ h => by omega⟩
theorem do_keeps {f : FX} {w : Nat → Int} (a : Act) (h : FM f) (hw : PinsL f.fr w) : Kept f w a (doS f a) := by
  unfold doS
  split
  · exact .pin h hw ‹_›
  split
  · exact .unpin h hw ‹_›
  split
  · exact .write h hw ‹_›
  split
  · exact .clean h hw ‹_›
  split
  · exact .drop h hw ‹_›
  split
  · exact .load _ h hw ‹_›
  · exact .room h hw ‹_› ‹_› ‹_›
end Go.Lk

set_option linter.unusedSimpArgs false
set_option linter.unusedVariables false
set_option linter.unnecessarySimpa false
namespace Go.Lk
open Go Go.Proofs Go.RowKit

theorem do_ok (f : FX) (a : Act) (h1 : f.tb.length ≤ 1000000) (h2 : f.dt.length ≤ 1000000) : ACall Try.prog 23 [encFS f, .agg (encA a)] (.tup [encFS (doS f a).1, .int .i64 (doS f a).2]) := by
  refine acall_of Try.func23 2 rfl (by kernel_rfl) ?_
  conv => whnf
  repeat (first | (refine bcase_f rfl ?_; conv => whnf) | (refine bcase_t rfl ?_; conv => whnf) | (refine condK_of rfl ?_; conv => whnf) | (refine condK_of (by decide) ?_; conv => whnf) | (refine condK_of (by omega) ?_; conv => whnf) | (refine wrapK_in (w64 (by omega) (by omega)) ?_; conv => whnf))
  refine bcase_p (fun g1 => ?_) (fun g1 => ?_) <;> conv => whnf
  · repeat (first | (refine bcase_f rfl ?_; conv => whnf) | (refine bcase_t rfl ?_; conv => whnf) | (refine condK_of rfl ?_; conv => whnf) | (refine condK_of (by decide) ?_; conv => whnf) | (refine condK_of (by omega) ?_; conv => whnf) | (refine wrapK_in (w64 (by omega) (by omega)) ?_; conv => whnf))
    refine callX_pure (pin_ok f a.id h1 h2) ?_
    conv => whnf
    repeat (first | (refine bcase_f rfl ?_; conv => whnf) | (refine bcase_t rfl ?_; conv => whnf) | (refine condK_of rfl ?_; conv => whnf) | (refine condK_of (by decide) ?_; conv => whnf) | (refine condK_of (by omega) ?_; conv => whnf) | (refine wrapK_in (w64 (by omega) (by omega)) ?_; conv => whnf))
    exact ret_of rfl (by rw [doS, if_pos g1]; rfl)
  refine bcase_p (fun g2 => ?_) (fun g2 => ?_) <;> conv => whnf
  · repeat (first | (refine bcase_f rfl ?_; conv => whnf) | (refine bcase_t rfl ?_; conv => whnf) | (refine condK_of rfl ?_; conv => whnf) | (refine condK_of (by decide) ?_; conv => whnf) | (refine condK_of (by omega) ?_; conv => whnf) | (refine wrapK_in (w64 (by omega) (by omega)) ?_; conv => whnf))
    refine callX_pure (unpin_ok f a.id h1 h2) ?_
    conv => whnf
    repeat (first | (refine bcase_f rfl ?_; conv => whnf) | (refine bcase_t rfl ?_; conv => whnf) | (refine condK_of rfl ?_; conv => whnf) | (refine condK_of (by decide) ?_; conv => whnf) | (refine condK_of (by omega) ?_; conv => whnf) | (refine wrapK_in (w64 (by omega) (by omega)) ?_; conv => whnf))
    exact ret_of rfl (by rw [doS, if_neg g1, if_pos g2]; rfl)
  refine bcase_p (fun g3 => ?_) (fun g3 => ?_) <;> conv => whnf
  · repeat (first | (refine bcase_f rfl ?_; conv => whnf) | (refine bcase_t rfl ?_; conv => whnf) | (refine condK_of rfl ?_; conv => whnf) | (refine condK_of (by decide) ?_; conv => whnf) | (refine condK_of (by omega) ?_; conv => whnf) | (refine wrapK_in (w64 (by omega) (by omega)) ?_; conv => whnf))
    refine callX_pure (write_ok f a.id a.body a.now h1 h2) ?_
    conv => whnf
    repeat (first | (refine bcase_f rfl ?_; conv => whnf) | (refine bcase_t rfl ?_; conv => whnf) | (refine condK_of rfl ?_; conv => whnf) | (refine condK_of (by decide) ?_; conv => whnf) | (refine condK_of (by omega) ?_; conv => whnf) | (refine wrapK_in (w64 (by omega) (by omega)) ?_; conv => whnf))
    exact ret_of rfl (by rw [doS, if_neg g1, if_neg g2, if_pos g3]; rfl)
  refine bcase_p (fun g4 => ?_) (fun g4 => ?_) <;> conv => whnf
  · repeat (first | (refine bcase_f rfl ?_; conv => whnf) | (refine bcase_t rfl ?_; conv => whnf) | (refine condK_of rfl ?_; conv => whnf) | (refine condK_of (by decide) ?_; conv => whnf) | (refine condK_of (by omega) ?_; conv => whnf) | (refine wrapK_in (w64 (by omega) (by omega)) ?_; conv => whnf))
    refine callX_pure (clean_ok f a.id h1 h2) ?_
    conv => whnf
    repeat (first | (refine bcase_f rfl ?_; conv => whnf) | (refine bcase_t rfl ?_; conv => whnf) | (refine condK_of rfl ?_; conv => whnf) | (refine condK_of (by decide) ?_; conv => whnf) | (refine condK_of (by omega) ?_; conv => whnf) | (refine wrapK_in (w64 (by omega) (by omega)) ?_; conv => whnf))
    exact ret_of rfl (by rw [doS, if_neg g1, if_neg g2, if_neg g3, if_pos g4]; rfl)
  refine bcase_p (fun g5 => ?_) (fun g5 => ?_) <;> conv => whnf
  · repeat (first | (refine bcase_f rfl ?_; conv => whnf) | (refine bcase_t rfl ?_; conv => whnf) | (refine condK_of rfl ?_; conv => whnf) | (refine condK_of (by decide) ?_; conv => whnf) | (refine condK_of (by omega) ?_; conv => whnf) | (refine wrapK_in (w64 (by omega) (by omega)) ?_; conv => whnf))
    refine callX_pure (drop_ok f a.id h1 h2) ?_
    conv => whnf
    repeat (first | (refine bcase_f rfl ?_; conv => whnf) | (refine bcase_t rfl ?_; conv => whnf) | (refine condK_of rfl ?_; conv => whnf) | (refine condK_of (by decide) ?_; conv => whnf) | (refine condK_of (by omega) ?_; conv => whnf) | (refine wrapK_in (w64 (by omega) (by omega)) ?_; conv => whnf))
    exact ret_of rfl (by rw [doS, if_neg g1, if_neg g2, if_neg g3, if_neg g4, if_pos g5]; rfl)
  refine bcase_p (fun g6 => ?_) (fun g6 => ?_) <;> conv => whnf
  · have hl := load_ok f a.p a.now (!decide (a.body = .empty)) h1 h2
    repeat (first | (refine bcase_f rfl ?_; conv => whnf) | (refine bcase_t rfl ?_; conv => whnf) | (refine condK_of rfl ?_; conv => whnf) | (refine condK_of (by decide) ?_; conv => whnf) | (refine condK_of (by omega) ?_; conv => whnf) | (refine wrapK_in (w64 (by omega) (by omega)) ?_; conv => whnf))
    refine callX_pure hl ?_
    conv => whnf
    repeat (first | (refine bcase_f rfl ?_; conv => whnf) | (refine bcase_t rfl ?_; conv => whnf) | (refine condK_of rfl ?_; conv => whnf) | (refine condK_of (by decide) ?_; conv => whnf) | (refine condK_of (by omega) ?_; conv => whnf) | (refine wrapK_in (w64 (by omega) (by omega)) ?_; conv => whnf))
    exact ret_of rfl (by rw [doS, if_neg g1, if_neg g2, if_neg g3, if_neg g4, if_neg g5, if_pos g6]; congr)
  repeat (first | (refine bcase_f rfl ?_; conv => whnf) | (refine bcase_t rfl ?_; conv => whnf) | (refine condK_of rfl ?_; conv => whnf) | (refine condK_of (by decide) ?_; conv => whnf) | (refine condK_of (by omega) ?_; conv => whnf) | (refine wrapK_in (w64 (by omega) (by omega)) ?_; conv => whnf))
  refine callX_pure (room_ok f h1 h2) ?_
  conv => whnf
  repeat (first | (refine bcase_f rfl ?_; conv => whnf) | (refine bcase_t rfl ?_; conv => whnf) | (refine condK_of rfl ?_; conv => whnf) | (refine condK_of (by decide) ?_; conv => whnf) | (refine condK_of (by omega) ?_; conv => whnf) | (refine wrapK_in (w64 (by omega) (by omega)) ?_; conv => whnf))
  repeat (first | (refine bcase_f rfl ?_; conv => whnf) | (refine bcase_t rfl ?_; conv => whnf) | (refine condK_of rfl ?_; conv => whnf) | (refine condK_of (by decide) ?_; conv => whnf) | (refine condK_of (by omega) ?_; conv => whnf) | (refine wrapK_in (w64 (by omega) (by omega)) ?_; conv => whnf))
  exact ret_of rfl (by rw [doS, if_neg g1, if_neg g2, if_neg g3, if_neg g4, if_neg g5, if_neg g6]; rfl)

theorem freeAt_eq : ∀ {l : List Fr} {i k : Nat} (hi : i < l.length), l[i].1 = 0 → (∀ j, j < i → ∀ hj : j < l.length, l[j].1 ≠ 0) → freeAt l k = ((k + i : Nat) : Int)
  | [], _, _, hi, _, _ => absurd hi (Nat.not_lt_zero _)
  | x :: r, 0, k, _, h0, _ => by rw [freeAt, if_pos (by simpa using h0)]; simp
  | x :: r, i + 1, k, hi, h0, hb => by
    rw [freeAt, if_neg (show ¬ x.1 = 0 from hb 0 (Nat.succ_pos _) (Nat.succ_pos _)), freeAt_eq (l := r) (i := i) (k := k + 1) (by simpa using hi) (by simpa using h0) fun j hj hj2 => hb (j + 1) (Nat.succ_lt_succ hj) (Nat.succ_lt_succ hj2)]
    congr 1; omega
theorem load_at {f : FX} {p : Pg} {now : Int} {fresh : Bool} {i : Nat} (h : FM f) (hP : pgR p = true) (h0 : 0 ≤ now) (h1 : now ≤ 2147483647) (hno : ∀ j (hj : j < f.fr.length), f.fr[j].1 ≠ p.1)
    (hi : i < f.fr.length) (hz : f.fr[i].1 = 0) (hb : ∀ j, j < i → ∀ hj : j < f.fr.length, f.fr[j].1 ≠ 0) (hm : fresh = true → (Dt.markG f.dt p.1 now).2 = 0) :
    loadS f p now fresh = ({ inS f p i with dt := if fresh = true then (Dt.markG f.dt p.1 now).1 else f.dt }, 0) ∧ FM { inS f p i with dt := if fresh = true then (Dt.markG f.dt p.1 now).1 else f.dt } ∧ AtF { inS f p i with dt := if fresh = true then (Dt.markG f.dt p.1 now).1 else f.dt } p.1 i := by
  have hp1 := (pgR_out.1 hP).1
  have hft : freeT f.fr = ((i : Int), true) := by rw [freeT, freeAt_eq hi hz hb, if_neg (by omega), Nat.zero_add]
  have hff : Tb.findS f.tb p.1 = (0, false) := by
    rcases h.find_cases (q := p.1) (by omega) with ⟨e, _⟩ | ⟨j, _, hA⟩
    · exact e
    · exact absurd hA.fr (hno j hA.hi)
  have hnb : ¬ bad f p now := fun hb => by
    rcases hb with hb | hb | hb | hb
    · exact hb (fm_iff.2 h)
    · rw [hP] at hb; cases hb
    · omega
    · omega
  obtain ⟨l', t1, _⟩ := in_tb h hp1 (pgR_out.1 hP).2.1 hi hff
  have hL : loadS f p now fresh = ({ inS f p i with dt := if fresh = true then (Dt.markG f.dt p.1 now).1 else f.dt }, 0) := by
    rw [loadS, if_neg hnb, if_neg (by rw [hff]; simp), if_neg (by rw [hft]; simp), hft, Int.toNat_natCast, if_neg (by rw [t1]; simp)]
    cases fresh with
    | false => rfl
    | true => rw [if_pos rfl, if_neg (by rw [hm rfl]; simp), if_pos rfl]
  refine ⟨hL, h.loaded hP hi hz hff ?_ ?_⟩
  · cases fresh with
    | false => exact h.dt
    | true => exact (mark_cases (hm rfl)).1
  · cases fresh with
    | false => exact fun y hy => .inl hy
    | true => exact (mark_cases (hm rfl)).2.1
theorem load_full {f : FX} {p : Pg} {now : Int} {fresh : Bool} (h : FM f) (hP : pgR p = true) (h0 : 0 ≤ now) (h1 : now ≤ 2147483647) (hno : ∀ j (hj : j < f.fr.length), f.fr[j].1 ≠ p.1)
    (hz : ∀ i (hi : i < f.fr.length), f.fr[i].1 ≠ 0) : loadS f p now fresh = (f, 7) := by
  have hp1 := (pgR_out.1 hP).1
  have hft : (freeT f.fr).2 = false := by
    rcases freeT_cases f.fr with ⟨e, _⟩ | ⟨i, e, hi, e2⟩
    · rw [e]
    · exact absurd e2 (hz i hi)
  have hff : Tb.findS f.tb p.1 = (0, false) := by
    rcases h.find_cases (q := p.1) (by omega) with ⟨e, _⟩ | ⟨j, _, hA⟩
    · exact e
    · exact absurd hA.fr (hno j hA.hi)
  have hnb : ¬ bad f p now := fun hb => by
    rcases hb with hb | hb | hb | hb
    · exact hb (fm_iff.2 h)
    · rw [hP] at hb; cases hb
    · omega
    · omega
  rw [loadS, if_neg hnb, if_neg (by rw [hff]; simp), if_pos hft]
theorem unpin_at {f : FX} {p : Int} {i : Nat} (hA : AtF f p i) (h0 : (f.fr[i]'hA.hi).2.1 ≠ 0) : unpinS f p = (withF f i (downPin (f.fr[i]'hA.hi)), 0) ∧ FM (withF f i (downPin (f.fr[i]'hA.hi))) := by
  have hi := hA.hi
  have hfr := frOk_out.1 (hA.right.ck.all i hi)
  refine ⟨?_, FM.pins hA (frOk_out.2 ?_) hA.fr⟩
  · rcases look_cases f p with ⟨h1, _⟩ | ⟨_, e, _⟩ | ⟨j, e1, e2, hB⟩
    · exact absurd (fm_iff.2 hA.right) h1
    · rw [(find_mem hA.right.tb).2 ⟨hA.p1, hA.mem⟩] at e; cases e
    · have := hA.uni hB.hi hB.fr
      subst this
      rw [unpinS, if_neg (by rw [e2]; simp), e2, Int.toNat_natCast, atF_eq hi, if_neg h0]
  · show 0 ≤ f.fr[i].1 ∧ f.fr[i].1 ≤ 16 ∧ 0 ≤ f.fr[i].2.1 - 1 ∧ f.fr[i].2.1 - 1 ≤ 2147483647; omega

/-! ### pages, one in each frame -/
structure FullI (n k : Nat) (f : FX) : Prop where
  fm : FM f
  len : f.fr.length = n
  frs : ∀ i (hi : i < f.fr.length), f.fr[i] = if i < k then ((i : Int) + 1, 1, true) else (0, 0, false)
  dt : f.dt = []
def pgN (k : Nat) : Pg := ((k : Int) + 1, 1, .empty)
theorem pgN_ok {k : Nat} (h : k ≤ 15) : pgR (pgN k) = true := pgR_out.2 ⟨by simp only [pgN]; omega, by simp only [pgN]; omega, by simp [pgN], by simp [pgN], by simp [pgN]⟩
theorem FullI.new {n : Nat} (h1 : 1 ≤ n) (h8 : n ≤ 8) : FullI n 0 (newFS n) := ⟨FM.new h1 h8, by simp [newFS], fun i hi => by simp [newFS], rfl⟩
theorem FullI.no {n k : Nat} {f : FX} (h : FullI n k f) (hk : k ≤ n) : ∀ j (hj : j < f.fr.length), f.fr[j].1 ≠ (pgN k).1 := fun j hj e => by
  rw [h.frs j hj] at e
  split at e <;> simp only [pgN] at e <;> omega
theorem FullI.load {n k : Nat} {f : FX} (now : Int) (b : Bool) (h : FullI n k f) (hk : k < n) (h0 : 0 ≤ now) (h1 : now ≤ 2147483647) (hb : b = false ∨ (Dt.markG [] (pgN k).1 now).2 = 0) :
    ∃ f', loadS f (pgN k) now b = (f', 0) ∧ FM f' ∧ f'.fr.length = n ∧ (∀ i (hi : i < f'.fr.length), f'.fr[i] = if i < k + 1 then ((i : Int) + 1, 1, true) else (0, 0, false)) ∧ f'.dt = if b = true then (Dt.markG [] (pgN k).1 now).1 else [] := by
  have hn8 : n ≤ 8 := by rw [← h.len]; exact h.fm.ck.most
  have hkl : k < f.fr.length := by rw [h.len]; exact hk
  obtain ⟨e1, e2, _⟩ := load_at (fresh := b) (now := now) (i := k) h.fm (pgN_ok (by omega)) h0 h1 (h.no (by omega)) hkl (by rw [h.frs k hkl, if_neg (by omega)]) (fun j hj hj2 e => by
    rw [h.frs j hj2, if_pos hj] at e; simp only [] at e; omega) (fun hb' => by rw [h.dt]; rcases hb with e | e; rw [e] at hb'; cases hb'; exact e)
  refine ⟨_, e1, e2, by show (f.fr.set k _).length = n; rw [List.length_set, h.len], fun i hi => ?_, by show (if b = true then (Dt.markG f.dt (pgN k).1 now).1 else f.dt) = _; rw [h.dt]⟩
  have hi' : i < f.fr.length := by have : i < (f.fr.set k ((pgN k).1, 1, true)).length := hi; rw [List.length_set] at this; exact this
  show (f.fr.set k ((pgN k).1, 1, true))[i]'(by rw [List.length_set]; exact hi') = _
  rw [List.getElem_set]
  by_cases e : k = i
  · subst e; rw [if_pos rfl, if_pos (by omega)]; rfl
  · rw [if_neg e, h.frs i hi']
    by_cases e2 : i < k
    · rw [if_pos e2, if_pos (by omega)]
    · rw [if_neg e2, if_neg (by omega)]
/-- a page whose pin is given back goes -/
theorem room_one {f : FX} {i : Nat} (h : FM f) (hz : ∀ j (hj : j < f.fr.length), f.fr[j].1 ≠ 0) (hi : i < f.fr.length) (h0 : f.fr[i].2.1 = 0) (hp : ∀ j (hj : j < f.fr.length), j ≠ i → f.fr[j].2.1 ≠ 0) (hd : (Dt.sinceG f.dt f.fr[i].1).2 = false) :
    ∃ g, roomS f = (g, atP f.pg i, false, 0) ∧ FM g ∧ (atP f.pg i).1 = f.fr[i].1 ∧ ∀ j (hj : j < g.fr.length), g.fr[j].1 ≠ f.fr[i].1 := by
  rcases room_cases h with ⟨j, hj, e, _⟩ | ⟨_, e, _⟩ | ⟨_, l, a, p, hA, hs, hA2, e0, e⟩
  · exact absurd e (hz j hj)
  · exact absurd h0 (e i hi)
  have ha : a = i := Classical.byContradiction fun hne => hp a hA.hi hne e0
  subst ha
  have hpp : p = (f.fr[a]'hi).1 := hA.fr.symm
  subst hpp
  rw [if_neg (by rw [hd]; decide)] at e
  refine ⟨_, by rw [e, atP_eq hA.hp], FM.rel hA2, by rw [atP_eq hA.hp, hA.pg], fun j hj e2 => ?_⟩
  obtain ⟨o1, o2, o3, o4, o5⟩ := hs.out
  have hj' : j < (l.set a (0, 0, false)).length := hj
  have e2 : (l.set a (0, 0, false))[j].1 = f.fr[a].1 := e2
  rw [List.getElem_set] at e2
  split at e2
  · exact hz a hi e2.symm
  · rename_i hne
    rw [List.length_set] at hj'
    rw [(o3 j (by omega) hj').1] at e2
    exact hne (h.uni (by omega) hi (hz j (by omega)) e2).symm
end Go.Lk

set_option linter.unusedSimpArgs false
set_option linter.unusedVariables false
set_option linter.unnecessarySimpa false
namespace Go.Lk
open Go Go.Proofs Go.RowKit

theorem FM.tl {f : FX} (h : FM f) : f.tb.length ≤ 1000000 := by have := h.tb.len; omega
theorem FM.dl {f : FX} (h : FM f) : f.dt.length ≤ 1000000 := by have := (Dt.rightB_out h.dt).1; omega
theorem FM.pl {f : FX} (h : FM f) : f.pg.length ≤ 8 := by have := h.ck.most; rw [h.len]; exact this
theorem fmRight_ok {f : FX} (h : FM f) : ACall Try.prog 13 [encFS f] (.bool true) := by
  have h1 := fright_ok f h.tl h.dl
  rw [frightB_t.2 (fm_iff.2 h)] at h1; exact h1
theorem since_at_no {l : List (Int × Int)} {p : Int} (h : ∀ x ∈ l, x.1 ≠ p) : (Dt.sinceG l p).2 = false := by
  rw [Dt.since_no fun t ht => h _ ht rfl]
/-- a page of a full row gives its pin back -/
theorem FullI.back {n : Nat} {f : FX} (hm : FM f) (hl : f.fr.length = n) (hf : ∀ i (hi : i < f.fr.length), f.fr[i] = ((i : Int) + 1, 1, true)) {k : Nat} (hk : k < n) (hd : ∀ x ∈ f.dt, x.1 ≠ (k : Int) + 1) :
    ∃ f' g pg, unpinS f ((k : Int) + 1) = (f', 0) ∧ FM f' ∧ f'.fr.length = n ∧ (∀ i (hi : i < f'.fr.length), f'.fr[i] = if i = k then ((i : Int) + 1, 0, true) else ((i : Int) + 1, 1, true)) ∧
      roomS f' = (g, pg, false, 0) ∧ FM g ∧ pg.1 = (k : Int) + 1 ∧ findF g ((k : Int) + 1) = (0, false) := by
  have hkl : k < f.fr.length := by omega
  have hA : AtF f ((k : Int) + 1) k := atF_of hm (by omega) hkl (by rw [hf k hkl])
  obtain ⟨u1, u2⟩ := unpin_at hA (by rw [hf k hkl]; exact show (1 : Int) ≠ 0 by decide)
  have hfr : ∀ i (hi : i < (withF f k (downPin f.fr[k])).fr.length), (withF f k (downPin f.fr[k])).fr[i] = if i = k then ((i : Int) + 1, 0, true) else ((i : Int) + 1, 1, true) := fun i hi => by
    have hi' : i < f.fr.length := by have : i < (f.fr.set k (downPin f.fr[k])).length := hi; rw [List.length_set] at this; exact this
    show (f.fr.set k (downPin f.fr[k]))[i]'(by rw [List.length_set]; exact hi') = _
    rw [List.getElem_set]
    by_cases e : k = i
    · subst e; rw [if_pos rfl, if_pos rfl, hf k hkl]; rfl
    · rw [if_neg e, if_neg (fun h => e h.symm), hf i hi']
  have hkl' : k < (withF f k (downPin f.fr[k])).fr.length := by show k < (f.fr.set k _).length; rw [List.length_set]; exact hkl
  obtain ⟨g, r1, r2, r3, r4⟩ := room_one (i := k) u2 (fun j hj => by rw [hfr j hj]; split <;> simp only [] <;> omega) hkl' (by rw [hfr k hkl', if_pos rfl]) (fun j hj hne => by rw [hfr j hj, if_neg hne]; simp) (by
    rw [hfr k hkl', if_pos rfl]; exact since_at_no hd)
  rw [hfr k hkl', if_pos rfl] at r3
  refine ⟨_, g, _, u1, u2, by show (f.fr.set k _).length = n; rw [List.length_set]; exact hl, hfr, r1, r2, r3, findF_no r2 (fun j hj e => r4 j hj ?_) (by omega)⟩
  rw [e, hfr k hkl', if_pos rfl]

theorem awake_ok : ACall Try.prog 9 [] (.bool true) := by
  refine acall_of Try.func9 0 rfl (by kernel_rfl) ?_
  conv => whnf
  have hn := new_ok 2
  rw [if_neg (by decide), if_neg (by decide)] at hn
  have h0 := FullI.new (n := 2) (by decide) (by decide)
  obtain ⟨f1, a1, a2, a3, a4, a5⟩ := h0.load 5 false (by decide) (by decide) (by decide) (.inl rfl)
  have h1 : FullI 2 1 f1 := ⟨a2, a3, a4, by rw [a5]; rfl⟩
  obtain ⟨f2, b1, b2, b3, b4, b5⟩ := h1.load 5 true (by decide) (by decide) (by decide) (.inr rfl)
  obtain ⟨f3, g, pg, c1, c2, c3, c4, c5, c6, c7, c8⟩ := FullI.back (k := 0) b2 b3 (fun i hi => by rw [b4 i hi, if_pos (by omega)]) (by decide) (fun x hx => by
    rw [b5, if_pos rfl] at hx
    have hx : x ∈ ([(2, 5)] : List (Int × Int)) := hx
    have : x = (2, 5) := by simpa using hx
    rw [this]; decide)
  have hA : AtF f3 2 1 := atF_of c2 (by decide) (by omega) (by rw [c4 1 (by omega), if_neg (by decide)]; decide)
  repeat (first | (refine bcase_f rfl ?_; conv => whnf) | (refine bcase_t rfl ?_; conv => whnf) | (refine condK_of rfl ?_; conv => whnf) | (refine condK_of (by decide) ?_; conv => whnf) | (refine condK_of (by omega) ?_; conv => whnf) | (refine wrapK_in (w64 (by omega) (by omega)) ?_; conv => whnf))
  refine callX_pure (d := .tup [encFS (newFS 2), .int .i64 0]) hn ?_
  conv => whnf
  repeat (first | (refine bcase_f rfl ?_; conv => whnf) | (refine bcase_t rfl ?_; conv => whnf) | (refine condK_of rfl ?_; conv => whnf) | (refine condK_of (by decide) ?_; conv => whnf) | (refine condK_of (by omega) ?_; conv => whnf) | (refine wrapK_in (w64 (by omega) (by omega)) ?_; conv => whnf))
  refine callX_pure (d := .tup [encFS f1, .int .i64 0]) (by have h := load_ok (newFS 2) (pgN 0) 5 false (by decide) (by decide); rw [a1] at h; exact h) ?_
  conv => whnf
  repeat (first | (refine bcase_f rfl ?_; conv => whnf) | (refine bcase_t rfl ?_; conv => whnf) | (refine condK_of rfl ?_; conv => whnf) | (refine condK_of (by decide) ?_; conv => whnf) | (refine condK_of (by omega) ?_; conv => whnf) | (refine wrapK_in (w64 (by omega) (by omega)) ?_; conv => whnf))
  refine callX_pure (d := .tup [encFS f2, .int .i64 0]) (by have h := load_ok f1 (pgN 1) 5 true a2.tl a2.dl; rw [b1] at h; exact h) ?_
  conv => whnf
  repeat (first | (refine bcase_f rfl ?_; conv => whnf) | (refine bcase_t rfl ?_; conv => whnf) | (refine condK_of rfl ?_; conv => whnf) | (refine condK_of (by decide) ?_; conv => whnf) | (refine condK_of (by omega) ?_; conv => whnf) | (refine wrapK_in (w64 (by omega) (by omega)) ?_; conv => whnf))
  refine callX_pure (d := .tup [encFS f3, .int .i64 0]) (by have h := unpin_ok f2 (((0 : Nat) : Int) + 1) b2.tl b2.dl; rw [c1] at h; exact h) ?_
  conv => whnf
  repeat (first | (refine bcase_f rfl ?_; conv => whnf) | (refine bcase_t rfl ?_; conv => whnf) | (refine condK_of rfl ?_; conv => whnf) | (refine condK_of (by decide) ?_; conv => whnf) | (refine condK_of (by omega) ?_; conv => whnf) | (refine wrapK_in (w64 (by omega) (by omega)) ?_; conv => whnf))
  refine callX_pure (d := .tup [encFS g, .agg (encP pg), .bool false, .int .i64 0]) (by have h := room_ok f3 c2.tl c2.dl; rw [c5] at h; exact h) ?_
  conv => whnf
  repeat (first | (refine bcase_f rfl ?_; conv => whnf) | (refine bcase_t rfl ?_; conv => whnf) | (refine condK_of rfl ?_; conv => whnf) | (refine condK_of (by decide) ?_; conv => whnf) | (refine condK_of (by omega) ?_; conv => whnf) | (refine wrapK_in (w64 (by omega) (by omega)) ?_; conv => whnf))
  refine callX_pure (d := .tup [.int .i64 1, .bool true]) (by have h := Find_ok f3 2 c2.tl c2.dl; rw [findF_at hA] at h; exact h) ?_
  conv => whnf
  repeat (first | (refine bcase_f rfl ?_; conv => whnf) | (refine bcase_t rfl ?_; conv => whnf) | (refine condK_of rfl ?_; conv => whnf) | (refine condK_of (by decide) ?_; conv => whnf) | (refine condK_of (by omega) ?_; conv => whnf) | (refine wrapK_in (w64 (by omega) (by omega)) ?_; conv => whnf))
  refine bcase_p (fun g1 => ?_) (fun g1 => ?_) <;> conv => whnf
  · repeat (first | (refine bcase_f rfl ?_; conv => whnf) | (refine bcase_t rfl ?_; conv => whnf) | (refine condK_of rfl ?_; conv => whnf) | (refine condK_of (by decide) ?_; conv => whnf) | (refine condK_of (by omega) ?_; conv => whnf) | (refine wrapK_in (w64 (by omega) (by omega)) ?_; conv => whnf))
    refine callX_pure (fmRight_ok c6) ?_
    conv => whnf
    repeat (first | (refine bcase_f rfl ?_; conv => whnf) | (refine bcase_t rfl ?_; conv => whnf) | (refine condK_of rfl ?_; conv => whnf) | (refine condK_of (by decide) ?_; conv => whnf) | (refine condK_of (by omega) ?_; conv => whnf) | (refine wrapK_in (w64 (by omega) (by omega)) ?_; conv => whnf))
    exact ret_of rfl rfl
  · exact absurd (by rw [c7]; rfl) g1

theorem framesFull_ok (a b : Int) (a0 : 0 ≤ a) (a1 : a ≤ 255) (b0 : 0 ≤ b) (b1 : b ≤ 255) : ACall Try.prog 4 [.int .u8 a, .int .u8 b] (.bool true) := by
  refine acall_of Try.func4 2 rfl (by kernel_rfl) ?_
  conv => whnf
  repeat (first | (refine bcase_f rfl ?_; conv => whnf) | (refine bcase_t rfl ?_; conv => whnf) | (refine condK_of rfl ?_; conv => whnf) | (refine condK_of (by decide) ?_; conv => whnf) | (refine condK_of (by omega) ?_; conv => whnf) | (refine wrapK_in (w64 (by omega) (by omega)) ?_; conv => whnf))
  refine divK_rem (by decide) a0 ?_
  conv => whnf
  refine wrapK_in (w64 (by omega) (by omega)) ?_
  conv => whnf
  repeat (first | (refine bcase_f rfl ?_; conv => whnf) | (refine bcase_t rfl ?_; conv => whnf) | (refine condK_of rfl ?_; conv => whnf) | (refine condK_of (by decide) ?_; conv => whnf) | (refine condK_of (by omega) ?_; conv => whnf) | (refine wrapK_in (w64 (by omega) (by omega)) ?_; conv => whnf))
  obtain ⟨n, hn⟩ : ∃ n : Nat, 1 + a % 8 = (n : Int) := ⟨(1 + a % 8).toNat, by omega⟩
  have hn1 : 1 ≤ n := by omega
  have hn8 : n ≤ 8 := by omega
  rw [hn]
  have hnew := new_ok n
  rw [if_neg (by omega), if_neg (by omega), Int.toNat_natCast] at hnew
  refine callX_pure (d := .tup [encFS (newFS n), .int .i64 0]) hnew ?_
  conv => whnf
  repeat (first | (refine bcase_f rfl ?_; conv => whnf) | (refine bcase_t rfl ?_; conv => whnf) | (refine condK_of rfl ?_; conv => whnf) | (refine condK_of (by decide) ?_; conv => whnf) | (refine condK_of (by omega) ?_; conv => whnf) | (refine wrapK_in (w64 (by omega) (by omega)) ?_; conv => whnf))
  refine aloop (ι := Nat × FX) (fun s => [(1, .d (.int .u8 b)), (5, .d (.int .i64 n)), (6, .ptr 6 0 0), (8, .d (.int .i64 ((s.1 : Int) + 1)))]) (fun s => [(6, .box s.2.box false)])
    (fun s => s.1 ≤ n ∧ FullI n s.1 s.2) (fun s => n - s.1) (0, newFS n) ⟨Nat.zero_le _, FullI.new hn1 hn8⟩ (le0 (le_of_cov ⟨rfl, rfl, rfl, rfl, trivial⟩ ⟨rfl, trivial⟩ ⟨rfl, rfl, rfl, rfl⟩)) ?_
  rintro ⟨k, f⟩ ⟨hk, hI⟩
  simp only at hk hI ⊢
  conv => whnf
  refine bcase_p (fun h => ?_) (fun h => ?_) <;> conv => whnf
  · obtain ⟨f', e1, e2, e3, e4, e5⟩ := hI.load 0 false (by omega) (by decide) (by decide) (.inl rfl)
    repeat (first | (refine bcase_f rfl ?_; conv => whnf) | (refine bcase_t rfl ?_; conv => whnf) | (refine condK_of rfl ?_; conv => whnf) | (refine condK_of (by decide) ?_; conv => whnf) | (refine condK_of (by omega) ?_; conv => whnf) | (refine wrapK_in (w64 (by omega) (by omega)) ?_; conv => whnf))
    refine callX_pure (d := .tup [encFS f', .int .i64 0]) (by have h := load_ok f (pgN k) 0 false hI.fm.tl hI.fm.dl; rw [e1] at h; exact h) ?_
    conv => whnf
    repeat (first | (refine bcase_f rfl ?_; conv => whnf) | (refine bcase_t rfl ?_; conv => whnf) | (refine condK_of rfl ?_; conv => whnf) | (refine condK_of (by decide) ?_; conv => whnf) | (refine condK_of (by omega) ?_; conv => whnf) | (refine wrapK_in (w64 (by omega) (by omega)) ?_; conv => whnf))
    exact ⟨(k + 1, f'), ⟨by simp only []; omega, e2, e3, e4, by rw [e5]; rfl⟩, by simp only []; omega, (le0 (le_of_cov ⟨rfl, rfl, rfl, rfl, trivial⟩ ⟨rfl, trivial⟩ ⟨rfl, rfl, rfl, rfl⟩))⟩
  have hkn : k = n := by omega
  subst hkn
  have hM := hI.fm
  have hfr : ∀ i (hi : i < f.fr.length), f.fr[i] = ((i : Int) + 1, 1, true) := fun i hi => by rw [hI.frs i hi, if_pos (by have := hI.len; omega)]
  have hfull := load_full (now := 0) (fresh := false) hM (pgN_ok (k := k) (by omega)) (by decide) (by decide) (hI.no (by omega)) (fun i hi => by rw [hfr i hi]; simp only []; omega)
  have hroom : roomS f = (f, noPg, false, 6) := by
    rcases room_cases hM with ⟨i, hi, e, _⟩ | ⟨_, _, e⟩ | ⟨_, l, q, p, hA, _, _, e, _⟩
    · rw [hfr i hi] at e; simp only [] at e; omega
    · exact e
    · rw [hfr q hA.hi] at e; cases e
  repeat (first | (refine bcase_f rfl ?_; conv => whnf) | (refine bcase_t rfl ?_; conv => whnf) | (refine condK_of rfl ?_; conv => whnf) | (refine condK_of (by decide) ?_; conv => whnf) | (refine condK_of (by omega) ?_; conv => whnf) | (refine wrapK_in (w64 (by omega) (by omega)) ?_; conv => whnf))
  refine callX_pure (d := .tup [encFS f, .int .i64 7]) (by have h := load_ok f (pgN k) 0 false hM.tl hM.dl; rw [hfull] at h; exact h) ?_
  conv => whnf
  repeat (first | (refine bcase_f rfl ?_; conv => whnf) | (refine bcase_t rfl ?_; conv => whnf) | (refine condK_of rfl ?_; conv => whnf) | (refine condK_of (by decide) ?_; conv => whnf) | (refine condK_of (by omega) ?_; conv => whnf) | (refine wrapK_in (w64 (by omega) (by omega)) ?_; conv => whnf))
  refine callX_pure (d := .tup [encFS f, .agg (encP noPg), .bool false, .int .i64 6]) (by have h := room_ok f hM.tl hM.dl; rw [hroom] at h; exact h) ?_
  conv => whnf
  repeat (first | (refine bcase_f rfl ?_; conv => whnf) | (refine bcase_t rfl ?_; conv => whnf) | (refine condK_of rfl ?_; conv => whnf) | (refine condK_of (by decide) ?_; conv => whnf) | (refine condK_of (by omega) ?_; conv => whnf) | (refine wrapK_in (w64 (by omega) (by omega)) ?_; conv => whnf))
  refine divK_rem (by omega) b0 ?_
  conv => whnf
  obtain ⟨q, hq⟩ : ∃ q : Nat, b % (k : Int) = (q : Int) := ⟨(b % (k : Int)).toNat, by have := Int.emod_nonneg b (show (k : Int) ≠ 0 by omega); omega⟩
  have hqk : q < k := by have := Int.emod_lt_of_pos b (show (0 : Int) < k by omega); omega
  rw [hq]
  refine wrapK_in (w64 (by omega) (by omega)) ?_
  conv => whnf
  repeat (first | (refine bcase_f rfl ?_; conv => whnf) | (refine bcase_t rfl ?_; conv => whnf) | (refine condK_of rfl ?_; conv => whnf) | (refine condK_of (by decide) ?_; conv => whnf) | (refine condK_of (by omega) ?_; conv => whnf) | (refine wrapK_in (w64 (by omega) (by omega)) ?_; conv => whnf))
  obtain ⟨f3, g, pg, c1, c2, c3, c4, c5, c6, c7, c8⟩ := FullI.back hM hI.len hfr hqk (by rw [hI.dt]; intro x hx; cases hx)
  have hc : 1 + (q : Int) = (q : Int) + 1 := Int.add_comm ..
  rw [hc]
  refine callX_pure (d := .tup [encFS f3, .int .i64 0]) (by have h := unpin_ok f ((q : Int) + 1) hM.tl hM.dl; rw [c1] at h; exact h) ?_
  conv => whnf
  repeat (first | (refine bcase_f rfl ?_; conv => whnf) | (refine bcase_t rfl ?_; conv => whnf) | (refine condK_of rfl ?_; conv => whnf) | (refine condK_of (by decide) ?_; conv => whnf) | (refine condK_of (by omega) ?_; conv => whnf) | (refine wrapK_in (w64 (by omega) (by omega)) ?_; conv => whnf))
  refine callX_pure (d := .tup [encFS g, .agg (encP pg), .bool false, .int .i64 0]) (by have h := room_ok f3 c2.tl c2.dl; rw [c5] at h; exact h) ?_
  conv => whnf
  repeat (first | (refine bcase_f rfl ?_; conv => whnf) | (refine bcase_t rfl ?_; conv => whnf) | (refine condK_of rfl ?_; conv => whnf) | (refine condK_of (by decide) ?_; conv => whnf) | (refine condK_of (by omega) ?_; conv => whnf) | (refine wrapK_in (w64 (by omega) (by omega)) ?_; conv => whnf))
  refine callX_pure (d := .tup [.int .i64 0, .bool false]) (by have h := Find_ok g ((q : Int) + 1) c6.tl c6.dl; rw [c8] at h; exact h) ?_
  conv => whnf
  repeat (first | (refine bcase_f rfl ?_; conv => whnf) | (refine bcase_t rfl ?_; conv => whnf) | (refine condK_of rfl ?_; conv => whnf) | (refine condK_of (by decide) ?_; conv => whnf) | (refine condK_of (by omega) ?_; conv => whnf) | (refine wrapK_in (w64 (by omega) (by omega)) ?_; conv => whnf))
  refine bcase_p (fun g1 => ?_) (fun g1 => ?_) <;> conv => whnf
  · repeat (first | (refine bcase_f rfl ?_; conv => whnf) | (refine bcase_t rfl ?_; conv => whnf) | (refine condK_of rfl ?_; conv => whnf) | (refine condK_of (by decide) ?_; conv => whnf) | (refine condK_of (by omega) ?_; conv => whnf) | (refine wrapK_in (w64 (by omega) (by omega)) ?_; conv => whnf))
    refine callX_pure (fmRight_ok c6) ?_
    conv => whnf
    repeat (first | (refine bcase_f rfl ?_; conv => whnf) | (refine bcase_t rfl ?_; conv => whnf) | (refine condK_of rfl ?_; conv => whnf) | (refine condK_of (by decide) ?_; conv => whnf) | (refine condK_of (by omega) ?_; conv => whnf) | (refine wrapK_in (w64 (by omega) (by omega)) ?_; conv => whnf))
    refine callX_pure awake_ok ?_
    conv => whnf
    repeat (first | (refine bcase_f rfl ?_; conv => whnf) | (refine bcase_t rfl ?_; conv => whnf) | (refine condK_of rfl ?_; conv => whnf) | (refine condK_of (by decide) ?_; conv => whnf) | (refine condK_of (by omega) ?_; conv => whnf) | (refine wrapK_in (w64 (by omega) (by omega)) ?_; conv => whnf))
    exact ret_of rfl rfl
  · exact absurd c7 g1
end Go.Lk


/-
  What is proved here: what functions of the program compute, and what follows; no condition beyond each theorem's own.
-/
import Derived.Test.YtfpmffadpjoogaaGreatBAl
import Derived.Test.YtfpmffadpjoogaaGreatBAf
set_option linter.unusedSimpArgs false
set_option linter.unusedVariables false
set_option linter.unnecessarySimpa false
set_option linter.unusedSectionVars false
namespace Go.Lk
open Go Go.Proofs Go.RowKit

/-! ### room is made -/
noncomputable def runL (d : DS) (l : List Jo) : DS := l.foldl stepJ d
theorem runL_app (d : DS) (a b : List Jo) : runL d (a ++ b) = runL (runL d a) b := List.foldl_append ..
/-- a page that is dirty is written back -/
theorem wb_inv {p P W v u} (h : Inv p P W v u) {q i : Nat} (hA : AtF p.f (q : Int) i) (hd : ∃ x ∈ p.f.dt, x.1 = (q : Int)) :
    ∃ p' l, wbM p q = (p', l, 0) ∧ Inv p' P W v u ∧ p'.f = cleanD p.f q ∧ p'.now = p.now ∧ runL p.d l = p'.d ∧ l.length = 10 := by
  have hpg := hA.pg
  obtain ⟨s1, s2, s3, s4⟩ := setS_rest h.pj.rest hA.pgr
  have hw := wb_at hA
  rw [if_pos (Dt.placeG_mem.2 hd), h.pj.d, s1, if_neg (fun q => q rfl), s2, hpg, Int.toNat_natCast] at hw
  refine ⟨_, _, hw, h.clean hA, rfl, rfl, ?_, rfl⟩
  have := (pgR_out.1 hA.pgr)
  have hz := putB_size this.2.2.2.2
  have e := plan_runs h.pj.rest (p := q) (by omega) (by omega) hz
  rw [runL, h.pj.d]
  show _ = DS.mk (putD p.d.sec (p.f.pg[i]'hA.hp)) []
  rw [e, putD, hpg, Int.toNat_natCast]
theorem Inv.loose0 {p P W v u} (h : Inv p P W v u) {i : Nat} (hi : i < p.f.fr.length) (hz : p.f.fr[i].1 = 0) : p.f.fr[i].2.1 = 0 := by
  rcases h.pj.fm.place i hi hi (by rw [h.pj.fm.len]; exact hi) with q | ⟨q, _⟩
  · exact q.2.1
  · omega
theorem mr_inv : ∀ (n : Nat) {p P W v u} (l : List Jo), Inv p P W v u → p.f.dt.length < n → (∃ i, ∃ hi : i < p.f.fr.length, p.f.fr[i].2.1 = 0) →
    ∃ p' l', mrM n p l = (p', l ++ l', 0) ∧ Inv p' P W v u ∧ (∃ i, ∃ hi : i < p'.f.fr.length, p'.f.fr[i].1 = 0) ∧ p'.now = p.now ∧ p'.f.fr.length = p.f.fr.length ∧ runL p.d l' = p'.d ∧ l'.length ≤ 10 * n ∧
      (∀ q, q ≠ 0 → (∀ i (hi : i < p.f.fr.length), p.f.fr[i].1 ≠ q) → ∀ i (hi : i < p'.f.fr.length), p'.f.fr[i].1 ≠ q)
  | 0, p, P, W, v, u, l, h, hn, _ => absurd hn (Nat.not_lt_zero _)
  | n + 1, p, P, W, v, u, l, h, hn, hlo => by
    rw [mrM]
    rcases room_cases h.pj.fm with ⟨i, hi, hz, e⟩ | ⟨_, hb, e⟩ | ⟨hno, t, a, q, hA, hs, hA2, h0, e⟩
    · rw [e, if_neg (fun q => q rfl), if_pos rfl]
      exact ⟨p, [], by rw [List.append_nil], h, ⟨i, hi, hz⟩, rfl, rfl, rfl, by simp, fun _ _ g => g⟩
    · obtain ⟨i, hi, hz⟩ := hlo
      exact absurd hz (hb i hi)
    obtain ⟨o1, o2, o3, o4, o5⟩ := hs.out
    have hI := h.swp hs
    obtain ⟨qn, rfl⟩ : ∃ qn : Nat, q = qn := ⟨q.toNat, by have := hA.p1; omega⟩
    have hpg : (p.f.pg[a]'hA.hp).1 = qn := hA.pg
    by_cases hsin : (Dt.sinceG p.f.dt qn).2 = true
    · rw [if_pos hsin] at e
      rw [e, if_neg (fun q => q rfl), if_neg (show ¬ true = false by decide)]
      simp only [hpg]
      have hd := Dt.placeG_mem.1 (since_place hsin)
      obtain ⟨p', l1, e1, i1, f1, n1, r1, len1⟩ := wb_inv (p := ⟨swept p.f (t, a), p.d, p.now⟩) hI hA2 hd
      rw [e1, if_neg (fun q => q rfl)]
      simp only []
      have hlt := cleanD_lt (f := swept p.f (t, a)) (p := qn) (since_place hsin)
      have hlt : (cleanD (swept p.f (t, a)) qn).dt.length < p.f.dt.length := hlt
      have hfr : p'.f.fr = t := by rw [f1]; rfl
      obtain ⟨p2, l2, e2, i2, g2, n2, m2, r2, len2, out2⟩ := mr_inv n (l ++ l1) i1 (by rw [f1]; exact Nat.lt_of_lt_of_le hlt (Nat.le_of_lt_succ hn)) ⟨a, by rw [hfr]; exact o4, by simp only [hfr]; exact o5⟩
      refine ⟨p2, l1 ++ l2, by rw [e2, List.append_assoc], i2, g2, n2.trans n1, by rw [m2, hfr, o1], by rw [runL_app, r1, r2], by simp only [List.length_append]; omega, fun q hq hn => out2 q hq ?_⟩
      intro i hi
      have hi' : i < t.length := by rw [← hfr]; exact hi
      simp only [hfr]
      rw [(o3 i (by omega) hi').1]
      exact hn i (by omega)
    · rw [if_neg hsin] at e
      rw [e, if_neg (fun q => q rfl), if_pos rfl]
      have hnd : ∀ x ∈ (PS.mk (swept p.f (t, a)) p.d p.now).f.dt, x.1 ≠ (qn : Int) := fun x hx ex => hsin (by
        have hx : x ∈ p.f.dt := hx
        rw [Dt.since_yes h.pj.fm.dt (p := (qn : Int)) (t := x.2) (by rw [← ex]; exact hx)])
      have i1 := hI.rel0 hA2 (by have h3 := (o3 a o2 o4).2; exact h3.trans h0) hnd
      refine ⟨_, [], by rw [List.append_nil], i1, ?_, rfl, ?_, rfl, by simp, fun q hq hn i hi => ?_⟩
      · refine ⟨a, by show a < (t.set a (0, 0, false)).length; rw [List.length_set]; exact o4, ?_⟩
        show ((t.set a (0, 0, false))[a]'(by rw [List.length_set]; exact o4)).1 = 0
        rw [List.getElem_set_self]
      · show (t.set a (0, 0, false)).length = _
        rw [List.length_set]; exact o1
      · have hi' : i < (t.set a (0, 0, false)).length := hi
        show ((t.set a (0, 0, false))[i]'hi').1 ≠ q
        rw [List.getElem_set]
        split
        · exact fun g => hq g.symm
        · rw [(o3 i (by rw [List.length_set] at hi'; omega) (by rw [List.length_set] at hi'; exact hi')).1]
          exact hn i _
/-- room is made, or all frames have pins -/
theorem make_inv {p P W v u} (h : Inv p P W v u) :
    ((∀ i (hi : i < p.f.fr.length), p.f.fr[i].2.1 ≠ 0) ∧ makeM p = (p, [], 6)) ∨ ((∃ i, ∃ hi : i < p.f.fr.length, p.f.fr[i].2.1 = 0) ∧
    ∃ p' l', makeM p = (p', l', 0) ∧ Inv p' P W v u ∧ (∃ i, ∃ hi : i < p'.f.fr.length, p'.f.fr[i].1 = 0) ∧ p'.now = p.now ∧ p'.f.fr.length = p.f.fr.length ∧ runL p.d l' = p'.d ∧ l'.length ≤ 170 ∧
      (∀ q, q ≠ 0 → (∀ i (hi : i < p.f.fr.length), p.f.fr[i].1 ≠ q) → ∀ i (hi : i < p'.f.fr.length), p'.f.fr[i].1 ≠ q)) := by
  by_cases hb : ∀ i (hi : i < p.f.fr.length), p.f.fr[i].2.1 ≠ 0
  · exact .inl ⟨hb, make_busy h.pj.fm (fun i hi e => hb i hi (h.loose0 hi e)) hb⟩
  · refine .inr ?_
    obtain ⟨i, hi⟩ := Classical.not_forall.1 hb
    obtain ⟨hi, he⟩ := Classical.not_forall.1 hi
    have he : p.f.fr[i].2.1 = 0 := Classical.byContradiction he
    have hl := (Dt.rightB_out h.pj.fm.dt).1
    obtain ⟨p', l', e1, r⟩ := mr_inv 17 [] h (Nat.lt_succ_of_le hl) ⟨i, hi, he⟩
    exact ⟨⟨i, hi, he⟩, p', l', e1, r⟩

/-! ### counting pins -/
theorem nodup_le : ∀ {a b : List Int}, a.Nodup → (∀ x ∈ a, x ∈ b) → a.length ≤ b.length
  | [], b, _, _ => Nat.zero_le _
  | y :: r, b, hn, hs => by
    rw [List.nodup_cons] at hn
    have hy := hs y (List.mem_cons_self ..)
    have := nodup_le (b := b.erase y) hn.2 fun z hz => (List.mem_erase_of_ne (fun e => hn.1 (by rw [← e]; exact hz))).2 (hs z (List.mem_cons_of_mem _ hz))
    rw [List.length_erase_of_mem hy] at this
    have hb : 0 < b.length := List.length_pos_of_mem hy
    simp only [List.length_cons]; omega
/-- how many pages up to k have pins -/
def bn (W : Nat → Int) : Nat → Nat
  | 0 => 0
  | k + 1 => bn W k + (if 0 < W (k + 1) then 1 else 0)
def bl' (W : Nat → Int) : Nat → List Int
  | 0 => []
  | k + 1 => if 0 < W (k + 1) then ((k + 1 : Nat) : Int) :: bl' W k else bl' W k
theorem bl'_len (W : Nat → Int) : ∀ k, (bl' W k).length = bn W k
  | 0 => rfl
  | k + 1 => by
    rw [bl', bn, ← bl'_len W k]
    split <;> simp
theorem bl'_mem {W : Nat → Int} {x : Int} : ∀ {k : Nat}, x ∈ bl' W k ↔ ∃ q : Nat, x = q ∧ 1 ≤ q ∧ q ≤ k ∧ 0 < W q
  | 0 => by simp [bl']; omega
  | k + 1 => by
    rw [bl']
    constructor
    · intro hx
      split at hx
      · rename_i hw
        rcases List.mem_cons.1 hx with e | e
        · exact ⟨k + 1, e, by omega, by omega, hw⟩
        · obtain ⟨q, a, b, c, d⟩ := bl'_mem.1 e
          exact ⟨q, a, b, by omega, d⟩
      · obtain ⟨q, a, b, c, d⟩ := bl'_mem.1 hx
        exact ⟨q, a, b, by omega, d⟩
    · rintro ⟨q, a, b, c, d⟩
      by_cases e : q = k + 1
      · subst e; rw [if_pos d, a]; exact List.mem_cons_self ..
      · have := bl'_mem (W := W) (k := k) (x := x) |>.2 ⟨q, a, b, by omega, d⟩
        split
        · exact List.mem_cons_of_mem _ this
        · exact this
theorem bl'_nodup (W : Nat → Int) : ∀ k, (bl' W k).Nodup
  | 0 => List.nodup_nil
  | k + 1 => by
    rw [bl']
    split
    · rw [List.nodup_cons]
      refine ⟨fun h => ?_, bl'_nodup W k⟩
      obtain ⟨q, a, _, c, _⟩ := bl'_mem.1 h
      omega
    · exact bl'_nodup W k
def pinned (l : List Fr) : List Int := (l.filter fun x => !decide (x.2.1 = 0)).map (·.1)
theorem pinned_mem {l : List Fr} {p : Int} : p ∈ pinned l ↔ ∃ i, ∃ h : i < l.length, l[i].1 = p ∧ l[i].2.1 ≠ 0 := by
  unfold pinned
  rw [List.mem_map]
  constructor
  · rintro ⟨x, hx, rfl⟩
    obtain ⟨h1, h2⟩ := List.mem_filter.1 hx
    obtain ⟨i, hi, rfl⟩ := List.mem_iff_getElem.1 h1
    exact ⟨i, hi, rfl, by simpa using h2⟩
  · rintro ⟨i, hi, rfl, h0⟩
    exact ⟨l[i], List.mem_filter.2 ⟨List.getElem_mem hi, by simpa using h0⟩, rfl⟩
theorem pinned_nodup : ∀ {l : List Fr}, (∀ i j, (hi : i < l.length) → (hj : j < l.length) → l[i].2.1 ≠ 0 → l[i].1 = l[j].1 → i = j) → (pinned l).Nodup
  | [], _ => by simp [pinned]
  | x :: r, h => by
    have ih := pinned_nodup (l := r) fun i j hi hj h0 e => by
      have := h (i + 1) (j + 1) (by simpa using hi) (by simpa using hj) (by simpa using h0) (by simpa using e)
      omega
    unfold pinned at ih ⊢
    by_cases hx : x.2.1 = 0
    · rw [List.filter_cons_of_neg (by simp [hx])]; exact ih
    · rw [List.filter_cons_of_pos (by simp [hx]), List.map_cons, List.nodup_cons]
      refine ⟨fun hm => ?_, ih⟩
      obtain ⟨j, hj, e, _⟩ := pinned_mem.1 hm
      have := h 0 (j + 1) (by simp) (by simpa using hj) (by simpa using hx) (by simpa using e.symm)
      omega
/-- as many pages have pins as frames -/
theorem Inv.busy {p P W v u} (h : Inv p P W v u) : bn W 16 = p.f.fr.length ↔ ∀ i (hi : i < p.f.fr.length), p.f.fr[i].2.1 ≠ 0 := by
  have hfr : ∀ i (hi : i < p.f.fr.length), p.f.fr[i].2.1 ≠ 0 → 1 ≤ p.f.fr[i].1 ∧ p.f.fr[i].1 ≤ 16 := fun i hi h0 => by
    have hne : p.f.fr[i].1 ≠ 0 := fun e => h0 (h.loose0 hi e)
    have hA := atF_of h.pj.fm hne hi rfl
    exact ⟨hA.p1, hA.p16⟩
  have hnd : (pinned p.f.fr).Nodup := pinned_nodup fun i j hi hj h0 e => h.pj.fm.uni hi hj (by have := hfr i hi h0; omega) e
  have s1 : ∀ x ∈ pinned p.f.fr, x ∈ bl' W 16 := fun x hx => by
    obtain ⟨i, hi, e, h0⟩ := pinned_mem.1 hx
    have hb := hfr i hi h0
    have hA := atF_of h.pj.fm (p := ((x.toNat : Nat) : Int)) (by omega) hi (by omega)
    have hw := h.wat hA
    have hk := frOk_out.1 (h.pj.fm.ck.all i hi)
    exact bl'_mem.2 ⟨x.toNat, by omega, by omega, by omega, by rw [hw]; omega⟩
  have s2 : ∀ x ∈ bl' W 16, x ∈ pinned p.f.fr := fun x hx => by
    obtain ⟨q, e, q1, q16, hw⟩ := bl'_mem.1 hx
    rcases h.pins q q1 q16 with ⟨i, hi, e1, e2⟩ | ⟨_, e2⟩
    · exact pinned_mem.2 ⟨i, hi, by rw [e1, e], by omega⟩
    · omega
  have hlen : (pinned p.f.fr).length = bn W 16 := by
    rw [← bl'_len]
    exact Nat.le_antisymm (nodup_le hnd s1) (nodup_le (bl'_nodup W 16) s2)
  rw [← hlen]
  unfold pinned
  rw [List.length_map, List.length_filter_eq_length_iff]
  constructor
  · intro g i hi
    simpa using g _ (List.getElem_mem hi)
  · intro g x hx
    obtain ⟨i, hi, rfl⟩ := List.mem_iff_getElem.1 hx
    simpa using g i hi
end Go.Lk

namespace Go.Lk
open Go Go.Proofs Go.RowKit

/-! ### the document's map -/
def newP (q : Nat) : Pg := ((q : Int), 1, ByteArray.empty)
abbrev R3 := (Nat → Pg) × (Nat → Int) × Pg × Int
def thereM (P : Nat → Pg) (W : Nat → Int) (n : Nat) (k : Int) (q : Nat) : R3 :=
  if k = 1 ∧ (P q).1 = 0 then (P, W, zP, 3)
  else if k = 2 ∧ (P q).1 ≠ 0 then (P, W, zP, 4)
  else if W q = 0 ∧ bn W 16 = n then (P, W, zP, 6)
  else if k = 2 then (ud P q (newP q), ud W q (W q + 1), newP q, 0)
  else (ud P q (P q), ud W q (W q + 1), P q, 0)
def docM (P : Nat → Pg) (W : Nat → Int) (n : Nat) (a : PAct) : R3 :=
  if a.1 < 1 ∨ 8 < a.1 ∨ (a.1 ≠ 8 ∧ (a.2.1 < 1 ∨ 16 < a.2.1)) then (P, W, zP, 1)
  else if a.1 = 8 then (P, W, zP, 0)
  else if 2 < a.1 ∧ a.1 < 6 ∧ W a.2.1.toNat = 0 then (P, W, zP, 12)
  else if a.1 = 3 then (P, W, P a.2.1.toNat, 0)
  else if a.1 = 4 then (if 16 < a.2.2.size then (P, W, zP, 5) else (ud P a.2.1.toNat (wrPg (P a.2.1.toNat) a.2.2), W, wrPg (P a.2.1.toNat) a.2.2, 0))
  else if a.1 = 5 then (P, ud W a.2.1.toNat (W a.2.1.toNat - 1), zP, 0)
  else if a.1 = 6 then (if 0 < W a.2.1.toNat then (P, W, zP, 6) else if (P a.2.1.toNat).1 = 0 then (P, W, zP, 3) else (ud P a.2.1.toNat zP, W, zP, 0))
  else if a.1 = 7 then (if (P a.2.1.toNat).1 = 0 then (P, W, zP, 3) else (P, W, zP, 0))
  else thereM P W n a.1 a.2.1.toNat
theorem ud_self {α : Type} (P : Nat → α) (q : Nat) : ud P q (P q) = P := by
  funext k
  rw [ud]
  split
  · rename_i h; rw [h]
  · rfl
theorem Inv.mono {p P W v u v' u'} (h : Inv p P W v u) (hv : v ≤ v') (hu : u ≤ u') : Inv p P W v' u' :=
  ⟨h.pj, h.pins, h.at_, ⟨h.on.dsk, h.on.okp, fun q => Int.le_trans (h.on.vb q) hv⟩, fun q => Int.le_trans (h.ub q) hu⟩
/-- what an act of the pool did, and the map's answer -/
structure Did (p : PS) (v u : Int) (m : R3) (r : R4) : Prop where
  told : r.2.1 = m.2.2.1
  err : r.2.2.2 = m.2.2.2
  inv : Inv r.1 m.1 m.2.1 v u
  now : r.1.now = p.now
  len : r.1.f.fr.length = p.f.fr.length
  run : runL p.d r.2.2.1 = r.1.d
  few : r.2.2.1.length ≤ 170
  none : r.2.2.2 ≠ 0 → r.2.2.1 = []
theorem Did.same {p P W v u} (h : Inv p P W v u) (x : Pg) (e : Int) : Did p v u (P, W, x, e) (p, x, [], e) := ⟨rfl, rfl, h, rfl, rfl, rfl, by simp, fun _ => rfl⟩
/-- where a page is: in a frame, or not -/
theorem Inv.where {p P W v u} (h : Inv p P W v u) {q : Nat} (h1 : 1 ≤ q) : (∀ i (hi : i < p.f.fr.length), p.f.fr[i].1 ≠ (q : Int)) ∨ ∃ i, AtF p.f (q : Int) i := by
  have hq0 : (q : Int) ≠ 0 := by omega
  by_cases hn : ∀ i (hi : i < p.f.fr.length), p.f.fr[i].1 ≠ (q : Int)
  · exact .inl hn
  · obtain ⟨i, hi⟩ := Classical.not_forall.1 hn
    obtain ⟨hi, he⟩ := Classical.not_forall.1 hi
    exact .inr ⟨i, atF_of h.pj.fm hq0 hi (Classical.byContradiction he)⟩
theorem Inv.nz {p P W v u} (h : Inv p P W v u) {q i : Nat} (hA : AtF p.f (q : Int) i) : (P q).1 ≠ 0 := by
  rw [← h.at_ q i hA, hA.pg]
  have := hA.p1
  omega
theorem load_did {p P W v u} (h : Inv p P W v u) (hu : 1 ≤ u) {q : Nat} (h1 : 1 ≤ q) (h16 : q ≤ 16) (hn : ∀ i (hi : i < p.f.fr.length), p.f.fr[i].1 ≠ (q : Int)) {x : Pg} (hx : pgR x = true) (hxq : x.1 = (q : Int)) (fresh : Bool) (hf : fresh = false → x = P q) (hv : x.2.1 ≤ v) {n : Nat} (hl : p.f.fr.length = n) :
    Did p v u (if W q = 0 ∧ bn W 16 = n then (P, W, zP, 6) else (ud P q x, ud W q (W q + 1), x, 0)) (poolLoad p x fresh) := by
  have hw := h.wout h1 h16 hn
  rcases make_inv h with ⟨hb, e⟩ | ⟨hlo, p', l', e, i', ⟨i, hi, hz⟩, hnow, hlen, hrun, hfew, hout⟩
  · rw [if_pos ⟨hw, by rw [← hl]; exact h.busy.2 hb⟩, poolLoad, e, if_pos (show (6 : Int) ≠ 0 by decide)]
    exact Did.same h zP 6
  · have hbz : ¬ (W q = 0 ∧ bn W 16 = n) := fun g => by
      rw [← hl] at g
      obtain ⟨j, hj, ej⟩ := hlo
      exact h.busy.1 g.2 j hj ej
    have hq0 : (q : Int) ≠ 0 := by omega
    have hn' := hout q hq0 hn
    obtain ⟨j, hj, hz', e2, m1, m2⟩ := load_after e i'.pj.fm hx i'.pj.n0 i'.pj.n1 fresh (by rw [hxq]; exact hn') ⟨i, hi, hz⟩ i'.pj.dt
    rw [if_neg hbz, e2, hw]
    exact ⟨rfl, rfl, i'.load h1 h16 hj hz' hn' hx hxq fresh hf hv hu m1, hnow, by show (p'.f.fr.set j _).length = _; rw [List.length_set, hlen], hrun, hfew, fun g => absurd rfl g⟩
theorem fetch_did {p P W v u} (h : Inv p P W v u) (hv : v < 2147483647) (hu0 : 0 ≤ u) (hu : u < 2147483647) {q : Nat} (h1 : 1 ≤ q) (h16 : q ≤ 16) {n : Nat} (hl : p.f.fr.length = n) : Did p v (u + 1) (thereM P W n 1 q) (poolFetch p q) := by
  rw [thereM, if_neg (show ¬ ((1 : Int) = 2 ∧ (P q).1 ≠ 0) from fun g => absurd g.1 (by decide)), if_neg (show ¬ ((1 : Int) = 2) by decide)]
  rw [poolFetch]
  rcases h.where h1 with hn | ⟨i, hA⟩
  · rw [findF_no h.pj.fm hn (by omega), if_neg (show ¬ false = true by decide), h.pj.get h1 h16, h.on.dsk q h1 h16 (h.out h1 hn)]
    by_cases hz : (P q).1 = 0
    · rw [if_pos hz, if_pos ⟨rfl, hz⟩, if_pos (show (3 : Int) ≠ 0 by decide)]
      exact Did.same (h.mono (Int.le_refl _) (by omega)) zP 3
    · rw [if_neg hz, if_neg (fun g => hz g.2), if_neg (show ¬ ((0 : Int) ≠ 0) from fun g => g rfl)]
      obtain ⟨x1, x2⟩ := h.on.nz h1 h16 hz
      exact load_did (h.mono (Int.le_refl _) (show u ≤ u + 1 by omega)) (by omega) h1 h16 hn x1 x2 false (fun _ => rfl) (h.on.vb q) hl
  · have hi := hA.hi
    have hip := hA.hp
    have hk := frOk_out.1 (h.pj.fm.ck.all i hi)
    have hub := h.ub q
    have hw := h.wat hA
    rw [hw] at hub
    have hpin := pinS_yes hA (by omega)
    have hbz : ¬ (W q = 0 ∧ bn W 16 = n) := fun g => by
      rw [← hl] at g
      exact h.busy.1 g.2 i hi (by rw [← hw]; exact g.1)
    rw [if_neg (fun g => h.nz hA g.2), if_neg hbz, findF_at hA, if_pos rfl, hpin, if_neg (fun g => g rfl), Int.toNat_natCast]
    have e1 : atP (withF p.f i (upPin p.f.fr[i])).pg i = P q := by
      rw [← h.at_ q i hA]; exact atP_eq hip
    have hin := h.pin hA (y := upPin p.f.fr[i]) (frOk_out.2 ⟨hk.1, hk.2.1, by show 0 ≤ (p.f.fr[i]).2.1 + 1; omega, by show (p.f.fr[i]).2.1 + 1 ≤ _; omega⟩) hA.fr (u' := u + 1) (by show (p.f.fr[i]).2.1 + 1 ≤ _; omega) (by omega)
    rw [ud_self, e1]
    refine ⟨rfl, rfl, ?_, rfl, by show (p.f.fr.set i _).length = _; rw [List.length_set], rfl, by simp, fun g => absurd rfl g⟩
    rw [hw]; exact hin
theorem create_did {p P W v u} (h : Inv p P W v u) (hv1 : 1 ≤ v) (hv : v < 2147483647) (hu0 : 0 ≤ u) (hu : u < 2147483647) {q : Nat} (h1 : 1 ≤ q) (h16 : q ≤ 16) {n : Nat} (hl : p.f.fr.length = n) : Did p v (u + 1) (thereM P W n 2 q) (poolCreate p q) := by
  rw [thereM, if_neg (show ¬ ((2 : Int) = 1 ∧ (P q).1 = 0) from fun g => absurd g.1 (by decide)), if_pos (show ((2 : Int) = 2) from rfl)]
  rw [poolCreate]
  rcases h.where h1 with hn | ⟨i, hA⟩
  · rw [findF_no h.pj.fm hn (by omega), if_neg (show ¬ false = true by decide), h.pj.get h1 h16, h.on.dsk q h1 h16 (h.out h1 hn)]
    by_cases hz : (P q).1 = 0
    · rw [if_pos hz, if_neg (fun g => g.2 hz), if_pos rfl]
      exact load_did (h.mono (Int.le_refl _) (show u ≤ u + 1 by omega)) (by omega) h1 h16 hn (x := newP q) (pg1_ok (by omega) (by omega)) rfl true (fun g => by cases g) (by show (1 : Int) ≤ v; omega) hl
    · rw [if_neg hz, if_pos ⟨rfl, hz⟩, if_neg (show ¬ (0 : Int) = 3 by decide), if_pos rfl]
      exact Did.same (h.mono (Int.le_refl _) (by omega)) zP 4
  · rw [if_pos ⟨rfl, h.nz hA⟩, findF_at hA, if_pos rfl]
    exact Did.same (h.mono (Int.le_refl _) (by omega)) zP 4
/-- marked, wherever it is -/
theorem mark_any {f : FX} (h : FM f) {p t : Int} (hp1 : 1 ≤ p) (hp16 : p ≤ 16) (h0 : 0 ≤ t) (h1 : t ≤ 2147483647) (ht : ∀ x ∈ f.dt, x.2 ≤ t) : Dt.markG f.dt p t = (if 0 ≤ Dt.placeG f.dt p 0 then f.dt else f.dt ++ [(p, t)], 0) := by
  by_cases hd : 0 ≤ Dt.placeG f.dt p 0
  · rw [if_pos hd]; exact mark_old h hp1 hp16 h0 h1 hd ht
  · rw [if_neg hd]
    have hl : Dt.lateB f.dt t = false := by
      unfold Dt.lateB
      by_cases hz : 0 < f.dt.length
      · have hm := List.getElem_mem (show f.dt.length - 1 < f.dt.length by omega)
        have := ht _ hm
        rw [List.getElem?_eq_getElem (by omega), Option.getD_some]
        simp; omega
      · simp [hz]
    rw [Dt.markG, if_neg, if_neg (by rw [hl]; decide), if_neg hd]
    intro q
    rcases q with q | q | q
    · rw [h.dt] at q; cases q
    · simp [Dt.pageB] at q; omega
    · simp [Dt.timeB] at q; omega
theorem write_did {p P W v u} (h : Inv p P W v u) (hv : v < 2147483647) {q i : Nat} (hA : AtF p.f (q : Int) i) (hp : (p.f.fr[i]'hA.hi).2.1 ≠ 0) {b : ByteArray} (hb : b.size ≤ 16) :
    ∃ f', writeS p.f q b p.now = (f', 0) ∧ Inv ⟨f', p.d, p.now⟩ (ud P q (wrPg (P q) b)) W (v + 1) u ∧ atP f'.pg i = wrPg (P q) b ∧ f'.fr = p.f.fr := by
  have hip := hA.hp
  have hi := hA.hi
  have e : lookS p.f q = ((i : Int), 0) := by
    rw [lookS, if_pos (fm_iff.2 hA.right), (find_mem hA.right.tb).2 ⟨hA.p1, hA.mem⟩]; rfl
  have ePg := h.at_ q i hA
  have hvq := h.on.vb q
  rw [← ePg] at hvq
  have hm := mark_any h.pj.fm hA.p1 hA.p16 h.pj.n0 h.pj.n1 h.pj.dt
  obtain ⟨c1, c2, c3, c4⟩ := mark_cases (l := p.f.dt) (p := (q : Int)) (t := p.now) (by rw [hm])
  rw [hm] at c1 c2 c3 c4
  refine ⟨⟨p.f.fr, p.f.hand, p.f.tb, p.f.pg.set i (wrPg (p.f.pg[i]'hA.hp) b), (if 0 ≤ Dt.placeG p.f.dt q 0 then p.f.dt else p.f.dt ++ [((q : Int), p.now)])⟩, ?_, ?_, ?_, rfl⟩
  · rw [writeS, e, if_neg (fun q => q rfl), Int.toNat_natCast, atF_eq hi, if_neg hp, if_neg (by omega), atP_eq hip, if_neg (by omega), hm, if_neg (fun q => q rfl)]
  · refine h.wr hA hb hv c1 (fun y hy => ⟨c2 y hy, ?_⟩) c3 c4
    split at hy
    · exact h.pj.dt y hy
    · rcases List.mem_append.1 hy with g | g
      · exact h.pj.dt y g
      · rw [List.mem_singleton] at g; subst g; exact Int.le_refl _
  · show atP (p.f.pg.set i _) i = _
    rw [atP_eq (by rw [List.length_set]; exact hip), List.getElem_set_self, ePg]
theorem pinned_did {p P W v u} (h : Inv p P W v u) (hv : v < 2147483647) {k : Int} {q : Nat} {b : ByteArray} (h1 : 1 ≤ q) (h16 : q ≤ 16) (hk : k = 3 ∨ k = 4 ∨ k = 5) {n : Nat} :
    Did p (v + 1) u (docM P W n (k, (q : Int), b)) ((pinnedM p (k, (q : Int), b)).1, (pinnedM p (k, (q : Int), b)).2.1, [], (pinnedM p (k, (q : Int), b)).2.2) := by
  have hm := h.mono (show v ≤ v + 1 by omega) (Int.le_refl u)
  rw [docM, if_neg (by simp only []; omega), if_neg (by simp only []; omega)]
  simp only [Int.toNat_natCast]
  rcases h.where h1 with hn | ⟨i, hA⟩
  · rw [if_pos ⟨by omega, by omega, h.wout h1 h16 hn⟩, pinnedM, findF_no h.pj.fm hn (show (q : Int) ≠ 0 by omega), if_pos (.inl rfl)]
    exact Did.same hm zP 12
  have hi := hA.hi
  have hip := hA.hp
  have hw := h.wat hA
  have hko := frOk_out.1 (h.pj.fm.ck.all i hi)
  by_cases hz : p.f.fr[i].2.1 = 0
  · rw [if_pos ⟨by omega, by omega, by rw [hw]; exact hz⟩, pinnedM, findF_at hA, if_pos (.inr (by rw [Int.toNat_natCast, atF_eq hi]; exact hz))]
    exact Did.same hm zP 12
  rw [if_neg (fun g => hz (by rw [← hw]; exact g.2.2)), pinned_at (a := (k, (q : Int), b)) hA hz]
  simp only []
  rcases hk with rfl | rfl | rfl
  · rw [if_pos rfl, if_neg (by decide), if_neg (by decide), h.at_ q i hA]
    exact Did.same hm (P q) 0
  · rw [if_neg (by decide), if_pos rfl, if_pos rfl]
    by_cases hb : 16 < b.size
    · have e : writeS p.f q b p.now = (p.f, 5) := by
        have e : lookS p.f q = ((i : Int), 0) := by
          rw [lookS, if_pos (fm_iff.2 hA.right), (find_mem hA.right.tb).2 ⟨hA.p1, hA.mem⟩]; rfl
        rw [writeS, e, if_neg (fun q => q rfl), Int.toNat_natCast, atF_eq hi, if_neg hz, if_pos hb]
      rw [if_pos hb, e, if_pos (show (5 : Int) ≠ 0 by decide)]
      exact Did.same hm zP 5
    · obtain ⟨f', e1, e2, e3, e4⟩ := write_did h hv hA hz (b := b) (by omega)
      rw [if_neg hb, e1, if_neg (fun g => g rfl), e3]
      exact ⟨rfl, rfl, e2, rfl, by show f'.fr.length = _; rw [e4], rfl, by simp, fun _ => rfl⟩
  · rw [if_neg (by decide), if_neg (by decide), if_pos rfl, if_neg (by decide), if_pos rfl, unpinS_yes hA hz, if_neg (fun g => g rfl)]
    have hub := h.ub q
    rw [hw] at hub
    have hin := hm.pin hA (y := downPin p.f.fr[i]) (frOk_out.2 ⟨hko.1, hko.2.1, by show 0 ≤ (p.f.fr[i]).2.1 - 1; omega, by show (p.f.fr[i]).2.1 - 1 ≤ _; omega⟩) hA.fr (u' := u) (by show (p.f.fr[i]).2.1 - 1 ≤ _; omega) (Int.le_refl _)
    refine ⟨rfl, rfl, ?_, rfl, by show (p.f.fr.set i _).length = _; rw [List.length_set], rfl, by simp, fun g => absurd rfl g⟩
    rw [hw]; exact hin
end Go.Lk

namespace Go.Lk
open Go Go.Proofs Go.RowKit

theorem del_run {s : List ByteArray} (h : Rest s) {q : Nat} (h1 : 1 ≤ q) (h16 : q ≤ 16) : runL ⟨s, []⟩ (planJ q (nulB 32)) = ⟨rmD s q, []⟩ :=
  plan_runs h h1 h16 (nulB_size 32)
theorem delete_did {p P W v u} (h : Inv p P W v u) (hv : 0 ≤ v) {q : Nat} (h1 : 1 ≤ q) (h16 : q ≤ 16) : Did p v u (if 0 < W q then (P, W, zP, 6) else if (P q).1 = 0 then (P, W, zP, 3) else (ud P q zP, W, zP, 0)) (poolRemove p q) := by
  obtain ⟨d1, d2, d3, d4⟩ := delD_rest h.pj.rest h1 h16
  have hr := del_run h.pj.rest h1 h16
  rw [poolRemove]
  rcases h.where h1 with hn | ⟨i, hA⟩
  · rw [findF_no h.pj.fm hn (by omega), if_neg (show ¬ false = true by decide), h.pj.get h1 h16, h.on.dsk q h1 h16 (h.out h1 hn), h.wout h1 h16 hn, if_neg (show ¬ (0 : Int) < 0 by decide)]
    by_cases hz : (P q).1 = 0
    · rw [if_pos hz, if_pos hz, if_pos (show (3 : Int) ≠ 0 by decide)]
      exact Did.same h zP 3
    · rw [if_neg hz, if_neg hz, if_neg (show ¬ ((0 : Int) ≠ 0) from fun g => g rfl), delTail, h.pj.get h1 h16, h.on.dsk q h1 h16 (h.out h1 hn), if_neg hz, if_neg (show ¬ (0 : Int) = 3 by decide)]
      rw [h.pj.d, d1, d2, if_neg (show ¬ ((0 : Int) ≠ 0) from fun g => g rfl)]
      exact ⟨rfl, rfl, h.rm h1 h16 hv hn, rfl, rfl, by rw [h.pj.d]; exact hr, show (10 : Nat) ≤ 170 by decide, fun g => absurd rfl g⟩
  · have hi := hA.hi
    have hw := h.wat hA
    have hk := frOk_out.1 (h.pj.fm.ck.all i hi)
    rw [findF_at hA, if_pos rfl, Int.toNat_natCast, atF_eq hi, hw]
    by_cases hz : 0 < p.f.fr[i].2.1
    · rw [if_pos hz, if_pos hz]
      exact Did.same h zP 6
    rw [if_neg hz, if_neg hz, if_neg (h.nz hA)]
    have e : lookS p.f q = ((i : Int), 0) := by
      rw [lookS, if_pos (fm_iff.2 hA.right), (find_mem hA.right.tb).2 ⟨hA.p1, hA.mem⟩]; rfl
    have ed : dropS p.f q = (relS p.f i q, 0) := by
      rw [dropS, e, if_neg (fun g => g rfl), Int.toNat_natCast, atF_eq hi, if_neg hz]
    rw [ed, if_neg (show ¬ ((0 : Int) ≠ 0) from fun g => g rfl), delTail, h.pj.get h1 h16]
    have h0 : p.f.fr[i].2.1 = 0 := by omega
    by_cases hg : (getR p.d.sec q).2 = 3
    · rw [if_pos hg]
      have hg2 : getR p.d.sec q = (zP, 3) := by
        have e3 : ∀ a : ByteArray, (takeM a).2 ≠ 0 → True := fun _ _ => trivial
        rw [getR] at hg ⊢
        split
        · rename_i g; rw [if_pos g] at hg; rw [hg]
        · rename_i g
          rw [if_neg g] at hg
          split at hg <;> exact absurd hg (show ¬ _ = (3 : Int) by simp only []; decide)
      have := h.rel hA h0 (s' := p.d.sec) (P' := ud P q zP) h.pj.rest h.pj.z0 (fun k hk => ud_ne _ _ hk) (fun _ _ _ _ => rfl) (by rw [ud_at, if_pos (show zP.1 = 0 from rfl)]; exact hg2) (by rw [ud_at]; exact .inl rfl) (by rw [ud_at]; exact hv)
      rw [← h.pj.d] at this
      exact ⟨rfl, rfl, this, rfl, by show (p.f.fr.set i _).length = _; rw [List.length_set], rfl, by simp, fun g => absurd rfl g⟩
    · rw [if_neg hg, h.pj.d, d1, d2, if_neg (show ¬ ((0 : Int) ≠ 0) from fun g => g rfl)]
      have := h.rel hA h0 (s' := rmD p.d.sec q) (P' := ud P q zP) d3 (setD_0 h.pj.rest) (fun k hk => ud_ne _ _ hk) (fun k k1 k16 hne => by rw [get_rm h.pj.rest h1 h16 k1 k16, if_neg (fun e => hne e.symm)]) (by rw [ud_at, if_pos (show zP.1 = 0 from rfl), get_rm h.pj.rest h1 h16 h1 h16, if_pos rfl]) (by rw [ud_at]; exact .inl rfl) (by rw [ud_at]; exact hv)
      exact ⟨rfl, rfl, this, rfl, by show (p.f.fr.set i _).length = _; rw [List.length_set], by rw [h.pj.d]; exact hr, show (10 : Nat) ≤ 170 by decide, fun g => absurd rfl g⟩
theorem flush_did {p P W v u} (h : Inv p P W v u) {q : Nat} (h1 : 1 ≤ q) (h16 : q ≤ 16) : Did p v u (if (P q).1 = 0 then (P, W, zP, 3) else (P, W, zP, 0)) (poolFlush p q) ∧ ((P q).1 ≠ 0 → ∀ x ∈ (poolFlush p q).1.f.dt, x.1 ≠ (q : Int)) := by
  rw [poolFlush]
  rcases h.where h1 with hn | ⟨i, hA⟩
  · rw [findF_no h.pj.fm hn (by omega), if_pos rfl, h.pj.get h1 h16, h.on.dsk q h1 h16 (h.out h1 hn)]
    by_cases hz : (P q).1 = 0
    · rw [if_pos hz, if_pos hz, if_pos (show (3 : Int) ≠ 0 by decide)]
      exact ⟨Did.same h zP 3, fun g => absurd hz g⟩
    · rw [if_neg hz, if_neg hz, if_neg (show ¬ ((0 : Int) ≠ 0) from fun g => g rfl)]
      exact ⟨Did.same h zP 0, fun _ => h.out h1 hn⟩
  · rw [findF_at hA, if_neg (show ¬ true = false by decide), if_neg (h.nz hA)]
    by_cases hs : (Dt.sinceG p.f.dt q).2 = false
    · rw [if_pos hs]
      refine ⟨Did.same h zP 0, fun _ x hx ex => ?_⟩
      rw [Dt.since_yes h.pj.fm.dt (p := (q : Int)) (t := x.2) (by rw [← ex]; exact hx)] at hs
      cases hs
    · rw [if_neg hs]
      have hd := Dt.placeG_mem.1 (since_place (by simpa using hs))
      obtain ⟨p', l, e, i1, f1, n1, r1, len1⟩ := wb_inv h hA hd
      rw [e, if_neg (show ¬ ((0 : Int) ≠ 0) from fun g => g rfl)]
      refine ⟨⟨rfl, rfl, i1, n1, by simp only [f1]; rfl, r1, by simp only []; omega, fun g => absurd rfl g⟩, fun _ x hx ex => ?_⟩
      simp only [f1] at hx
      have := (List.mem_filter.1 hx).2
      simp [ex] at this
theorem age_run {p0 : PS} : ∀ {ids : List Int} {q P W v u} {l : List Jo}, Inv q P W v u → ids.Nodup → (∀ id ∈ ids, ∃ x ∈ q.f.dt, x.1 = id) →
    ∃ q' l', ageL p0 ids q l = (q', zP, l ++ l', 0) ∧ Inv q' P W v u ∧ q'.now = q.now ∧ q'.f.fr.length = q.f.fr.length ∧ runL q.d l' = q'.d ∧ l'.length ≤ 10 * ids.length ∧ ∀ x, x ∈ q'.f.dt ↔ x ∈ q.f.dt ∧ x.1 ∉ ids
  | [], q, P, W, v, u, l, h, _, _ => ⟨q, [], by rw [ageL, List.append_nil], h, rfl, rfl, rfl, by simp, fun x => by simp⟩
  | id :: r, q, P, W, v, u, l, h, hn, hd => by
    rw [List.nodup_cons] at hn
    obtain ⟨x, hx, ex⟩ := hd id (List.mem_cons_self ..)
    obtain ⟨i, hA⟩ := dirty_in h.pj.fm hx
    rw [ex] at hA
    obtain ⟨qn, rfl⟩ : ∃ qn : Nat, id = qn := ⟨id.toNat, by have := hA.p1; omega⟩
    obtain ⟨p', l1, e, i1, f1, n1, r1, len1⟩ := wb_inv h hA ⟨x, hx, ex⟩
    have hmem : ∀ y, y ∈ p'.f.dt ↔ y ∈ q.f.dt ∧ y.1 ≠ (qn : Int) := fun y => by
      rw [f1]
      show y ∈ q.f.dt.filter _ ↔ _
      rw [List.mem_filter]
      simp
    obtain ⟨q2, l2, e2, i2, n2, m2, r2, len2, d2⟩ := age_run (p0 := p0) (l := l ++ l1) i1 hn.2 fun id' hid' => by
      obtain ⟨y, hy, ey⟩ := hd id' (List.mem_cons_of_mem _ hid')
      exact ⟨y, (hmem y).2 ⟨hy, fun g => hn.1 (by rw [← g, ey]; exact hid')⟩, ey⟩
    refine ⟨q2, l1 ++ l2, ?_, i2, n2.trans n1, by rw [m2, f1]; rfl, by rw [runL_app, r1, r2], by simp only [List.length_append, List.length_cons]; omega, fun y => ?_⟩
    · rw [ageL, e, if_neg (show ¬ ((0 : Int) ≠ 0) from fun g => g rfl), e2, List.append_assoc]
    · rw [d2, hmem, List.mem_cons]
      constructor
      · rintro ⟨⟨a, b⟩, c⟩
        exact ⟨a, fun g => g.elim b c⟩
      · rintro ⟨a, b⟩
        exact ⟨⟨a, fun g => b (.inl g)⟩, fun g => b (.inr g)⟩
theorem due_nodup {now age : Int} : ∀ {l : List (Int × Int)}, l.Pairwise (fun a b => a.1 ≠ b.1) → (l.filterMap (Dt.dueF now age)).Nodup
  | [], _ => List.nodup_nil
  | x :: r, h => by
    rw [List.pairwise_cons] at h
    have ih := due_nodup (now := now) (age := age) h.2
    rw [List.filterMap_cons]
    split
    · exact ih
    · rename_i b e
      rw [List.nodup_cons]
      refine ⟨fun hm => ?_, ih⟩
      obtain ⟨y, hy, ey⟩ := List.mem_filterMap.1 hm
      rw [Dt.dueF] at e ey
      split at e
      · split at ey
        · exact h.1 y hy ((Option.some.inj e).trans (Option.some.inj ey).symm)
        · cases ey
      · cases e
theorem due_nd {l : List (Int × Int)} (h : Dt.rightB l = true) (now age : Int) : (Dt.dueG l now age).Nodup := by
  rw [Dt.dueG]
  split
  · exact List.nodup_nil
  · exact due_nodup (Dt.rightB_iff.1 h).2.2.1
theorem age_did {p P W v u} (h : Inv p P W v u) (age : Int) : Did p v u (P, W, zP, 0) (poolAge p age) ∧ (0 ≤ age → ∀ x, x ∈ (poolAge p age).1.f.dt ↔ x ∈ p.f.dt ∧ p.now - x.2 < age) := by
  obtain ⟨q', l', e, i1, n1, m1, r1, len1, d1⟩ := age_run (p0 := p) (l := []) h (due_nd h.pj.fm.dt p.now age) fun id hid => by
    obtain ⟨_, t, ht, _⟩ := due_ids hid
    exact ⟨_, ht, rfl⟩
  have h16 := due_len (now := p.now) (age := age) h.pj.fm.dt
  rw [poolAge, e]
  refine ⟨⟨rfl, rfl, i1, n1, m1, r1, by simp only [List.nil_append]; omega, fun g => absurd rfl g⟩, fun h0 x => ?_⟩
  simp only []
  rw [d1]
  constructor
  · rintro ⟨a, b⟩
    refine ⟨a, Classical.byContradiction fun g => b ?_⟩
    rw [Dt.dueG, if_neg]
    · exact List.mem_filterMap.2 ⟨x, a, by rw [Dt.dueF, if_pos (by omega)]⟩
    · rintro (g | g | g)
      · omega
      · have := h.pj.n0; omega
      · rw [h.pj.fm.dt] at g; cases g
  · rintro ⟨a, b⟩
    refine ⟨a, fun g => ?_⟩
    obtain ⟨_, t, ht, hl⟩ := due_ids g
    have s1 := Dt.since_yes h.pj.fm.dt ht
    rw [Dt.since_yes h.pj.fm.dt (p := x.1) (t := x.2) a] at s1
    cases s1
    omega
theorem Did.mono {p P W v u v' u'} {x : Pg} {e : Int} {r : R4} (h : Did p v u (P, W, x, e) r) (hv : v ≤ v') (hu : u ≤ u') : Did p v' u' (P, W, x, e) r :=
  ⟨h.told, h.err, h.inv.mono hv hu, h.now, h.len, h.run, h.few, h.none⟩
theorem Did.mono' {p v u v' u'} {m : R3} {r : R4} (h : Did p v u m r) (hv : v ≤ v') (hu : u ≤ u') : Did p v' u' m r :=
  ⟨h.told, h.err, h.inv.mono hv hu, h.now, h.len, h.run, h.few, h.none⟩
/-- WHATEVER IS DONE, the map of pages tells -/
theorem do_did {p P W v u} (h : Inv p P W v u) (hv1 : 1 ≤ v) (hv : v < 2147483647) (hu0 : 0 ≤ u) (hu : u < 2147483647) (a : PAct) {n : Nat} (hl : p.f.fr.length = n) : Did p (v + 1) (u + 1) (docM P W n a) (poolDo p a) := by
  have m1 : v ≤ v + 1 := by omega
  have m2 : u ≤ u + 1 := by omega
  have hm := h.mono m1 m2
  obtain ⟨k, id, b⟩ := a
  by_cases hb : k < 1 ∨ 8 < k
  · rw [docM, if_pos (hb.elim .inl fun g => .inr (.inl g)), poolDo, if_pos hb]
    exact Did.same hm zP 1
  by_cases hb2 : k ≠ 8 ∧ (id < 1 ∨ 16 < id)
  · rw [docM, if_pos (.inr (.inr hb2)), poolDo, if_neg hb, if_pos hb2]
    exact Did.same hm zP 1
  by_cases h8 : k = 8
  · subst h8
    rw [docM, if_neg (by simp only []; omega), if_pos rfl, poolDo, if_neg hb, if_neg hb2, if_neg (show ¬ (8 : Int) = 1 by decide), if_neg (show ¬ (8 : Int) = 2 by decide), if_neg (show ¬ (8 : Int) = 6 by decide), if_neg (show ¬ (8 : Int) = 7 by decide), if_pos rfl]
    exact (age_did h id).1.mono m1 m2
  obtain ⟨q, rfl⟩ : ∃ q : Nat, id = q := ⟨id.toNat, by omega⟩
  have h1 : 1 ≤ q := by omega
  have h16 : q ≤ 16 := by omega
  by_cases h35 : k = 3 ∨ k = 4 ∨ k = 5
  · rw [do_pinned (show 1 ≤ (q : Int) by omega) (show (q : Int) ≤ 16 by omega) h35]
    exact (pinned_did h hv h1 h16 h35).mono' (Int.le_refl _) m2
  rw [docM, if_neg (by simp only []; omega), if_neg h8, if_neg (by simp only []; omega), if_neg (by simp only []; omega), if_neg (by simp only []; omega), if_neg (by simp only []; omega), poolDo, if_neg hb, if_neg hb2]
  simp only [Int.toNat_natCast]
  have hk : k = 1 ∨ k = 2 ∨ k = 6 ∨ k = 7 := by omega
  rcases hk with rfl | rfl | rfl | rfl
  · rw [if_pos rfl, if_neg (by decide), if_neg (by decide)]
    exact (fetch_did h hv hu0 hu h1 h16 hl).mono' m1 (Int.le_refl _)
  · rw [if_neg (by decide), if_pos rfl, if_neg (by decide), if_neg (by decide)]
    exact (create_did h hv1 hv hu0 hu h1 h16 hl).mono' m1 (Int.le_refl _)
  · rw [if_neg (show ¬ (6 : Int) = 1 by decide), if_neg (show ¬ (6 : Int) = 2 by decide)]
    simp only [if_true]
    exact (delete_did h (by omega) h1 h16).mono' m1 m2
  · rw [if_neg (show ¬ (7 : Int) = 1 by decide), if_neg (show ¬ (7 : Int) = 2 by decide)]
    have e : ¬ (7 : Int) = 6 := by decide
    simp only [if_true, if_neg e]
    exact (flush_did h h1 h16).1.mono' m1 m2
end Go.Lk

namespace Go.Lk
open Go Go.Proofs Go.RowKit

theorem Inv.new {n : Nat} (h1 : 1 ≤ n) (h8 : n ≤ 8) {s : List ByteArray} (hs : Rest s) (hz : s[0]?.getD ByteArray.empty = nul16) {P : Nat → Pg} {v u : Int} (h : OnD s [] P v) (hu : 0 ≤ u) : Inv ⟨newFS n, ⟨s, []⟩, 0⟩ P (fun _ => 0) v u := by
  have hfr : ∀ i (hi : i < (newFS n).fr.length), (newFS n).fr[i] = (0, 0, false) := fun i hi => by
    have hi2 : i < (List.replicate n ((0, 0, false) : Fr)).length := hi
    show (List.replicate n ((0, 0, false) : Fr))[i]'hi2 = _
    rw [List.getElem_replicate]
  refine ⟨⟨FM.new h1 h8, hs, rfl, hz, by show (0 : Int) ≤ 0; decide, by show (0 : Int) ≤ _; decide, fun x hx => by cases hx⟩, fun q h1 h16 => .inr ⟨fun i hi e => ?_, rfl⟩, fun q i hA => ?_, h, fun q => hu⟩
  · rw [hfr i hi] at e
    have e : (0 : Int) = (q : Int) := e
    omega
  · have e := hA.fr
    rw [hfr i hA.hi] at e
    have e : (0 : Int) = (q : Int) := e
    have := hA.p1
    omega
theorem OnD.new {v : Int} (hv : 0 ≤ v) : OnD (List.replicate 35 nul16) [] (fun _ => zP) v :=
  ⟨fun q _ h16 _ => by rw [get_new h16, if_pos (show zP.1 = 0 from rfl)], fun _ _ _ => .inl rfl, fun _ => hv⟩
theorem z_new : (List.replicate 35 nul16)[0]?.getD ByteArray.empty = nul16 := by rw [List.getElem?_replicate, if_pos (by decide)]; rfl
def p0 (n : Nat) : PS := ⟨newFS n, newDS, 0⟩
theorem p0_inv {n : Nat} (h1 : 1 ≤ n) (h8 : n ≤ 8) : Inv (p0 n) (fun _ => zP) (fun _ => 0) 1 0 := Inv.new h1 h8 new_rest z_new (OnD.new (by decide)) (by decide)
/-- an act, told -/
theorem Did.eq {p v u} {P' : Nat → Pg} {W' : Nat → Int} {x : Pg} {e : Int} {r : R4} (h : Did p v u (P', W', x, e) r) : ∃ q l, r = (q, x, l, e) ∧ Inv q P' W' v u ∧ q.now = p.now ∧ q.f.fr.length = p.f.fr.length ∧ runL p.d l = q.d ∧ l.length ≤ 170 ∧ (e ≠ 0 → l = []) := by
  obtain ⟨q, y, l, f⟩ := r
  have h1 := h.told
  have h2 := h.err
  simp only at h1 h2
  subst h1 h2
  exact ⟨q, l, rfl, h.inv, h.now, h.len, h.run, h.few, h.none⟩
/-- one page is given back, and written back, and another one comes -/
theorem ten {p P W v u} (h : Inv p P W v u) (hv1 : 1 ≤ v) (hv : v + 1 < 2147483647) (hu0 : 0 ≤ u) (hu : u + 1 < 2147483647) {k id : Nat} (k1 : 1 ≤ k) (k16 : k ≤ 16) (id1 : 1 ≤ id) (id16 : id ≤ 16) (hne : id ≠ k)
    (hall : ∀ i (hi : i < p.f.fr.length), p.f.fr[i].2.1 ≠ 0) (hWk : W k = 1) (hWid : W id = 0) (hPid : (P id).1 = 0) (hPk : (P k).1 ≠ 0) (hg : getR p.d.sec k = (zP, 3)) (hc : bn (ud (ud W k 0) id 1) 16 = p.f.fr.length) (b b' : ByteArray) :
    ∃ c e l, poolDo p (5, (k : Int), b) = (c, zP, [], 0) ∧ FM c.f ∧ c.now = p.now ∧ poolDo c (2, (id : Int), b') = (e, newP id, l, 0) ∧ l.length = 10 ∧ FM e.f ∧ e.now = p.now ∧ getS e.d k = (P k, 0) := by
  -- where k is
  obtain ⟨i, hA⟩ : ∃ i, AtF p.f (k : Int) i := by
    rcases h.where k1 with hn | hA
    · rw [h.wout k1 k16 hn] at hWk; cases hWk
    · exact hA
  have hi := hA.hi
  have hpin : p.f.fr[i].2.1 = 1 := by rw [← h.wat hA]; exact hWk
  have hkd : ∃ x ∈ p.f.dt, x.1 = (k : Int) := by
    refine Classical.byContradiction fun g => ?_
    have := h.on.dsk k k1 k16 fun x hx ex => g ⟨x, hx, ex⟩
    rw [hg, if_neg hPk] at this
    exact absurd (congrArg Prod.snd this) (show ¬ (3 : Int) = 0 by decide)
  -- unpin
  have hunp := unpinS_yes hA (by rw [hpin]; decide)
  have ec : poolDo p (5, (k : Int), b) = (⟨withF p.f i (downPin (p.f.fr[i]'hA.hi)), p.d, p.now⟩, zP, [], 0) := by
    rw [do_pinned (by omega) (by omega) (.inr (.inr rfl)), pinned_at (a := (5, (k : Int), b)) hA (by rw [hpin]; decide)]
    have e54 : ¬ (5 : Int) = 4 := by decide
    simp only [if_neg e54, if_true, hunp, ne_eq, not_true_eq_false, if_false]
  have hdid : docM P W p.f.fr.length (5, (k : Int), b) = (P, ud W k 0, zP, 0) := by
    rw [docM, if_neg (by simp only []; omega), if_neg (show ¬ (5 : Int) = 8 by decide)]
    simp only [Int.toNat_natCast]
    rw [if_neg (fun g => by rw [hWk] at g; exact absurd g.2.2 (by decide)), if_neg (show ¬ (5 : Int) = 3 by decide), if_neg (show ¬ (5 : Int) = 4 by decide), if_pos trivial, hWk]
    rfl
  have d1 := do_did h hv1 (by omega) hu0 (by omega) (5, (k : Int), b) rfl
  rw [hdid, ec] at d1
  obtain ⟨c, hcd⟩ : ∃ c, PS.mk (withF p.f i (downPin (p.f.fr[i]'hA.hi))) p.d p.now = c := ⟨_, rfl⟩
  have cf : c.f = withF p.f i (downPin (p.f.fr[i]'hA.hi)) := by rw [← hcd]
  have cd : c.d = p.d := by rw [← hcd]
  have cn : c.now = p.now := by rw [← hcd]
  rw [hcd] at d1 ec
  have ic := d1.inv
  simp only [] at ic
  have cfr : c.f.fr = p.f.fr.set i (downPin (p.f.fr[i]'hA.hi)) := by rw [cf]; rfl
  have clen : c.f.fr.length = p.f.fr.length := by rw [cfr, List.length_set]
  have cat : ∀ j (hj : j < c.f.fr.length), c.f.fr[j] = if i = j then downPin (p.f.fr[i]'hA.hi) else p.f.fr[j]'(by omega) := fun j hj => by
    simp only [cfr]
    rw [List.getElem_set]
  have hno : ∀ j (hj : j < c.f.fr.length), c.f.fr[j].1 ≠ 0 := fun j hj => by
    rw [cat j hj]
    split
    · show (p.f.fr[i]).1 ≠ 0
      rw [hA.fr]; omega
    · exact fun g => hall j (by omega) (h.loose0 (by omega) g)
  have hA2 : AtF c.f (k : Int) i := atF_of ic.pj.fm (by omega) (by omega) (by rw [cat i (by omega), if_pos rfl]; exact hA.fr)
  have hne2 : ∀ j (hj : j < c.f.fr.length), j ≠ i → c.f.fr[j].2.1 ≠ 0 := fun j hj hji => by
    rw [cat j hj, if_neg (fun g => hji g.symm)]
    exact hall j (by omega)
  have h00 : (c.f.fr[i]'hA2.hi).2.1 = 0 := by
    rw [cat i hA2.hi, if_pos rfl]
    show (p.f.fr[i]).2.1 - 1 = 0
    omega
  have hd2 : 0 ≤ Dt.placeG c.f.dt (k : Int) 0 := by
    rw [cf]
    exact Dt.placeG_mem.2 hkd
  obtain ⟨f', em, m1, m2, ⟨hz1, hz2⟩, m4, m5, m6⟩ := make_one ic.pj.fm hA2 hno hne2 h00 hd2 ic.pj.rest ic.pj.ca
  -- create
  have hnid : ∀ j (hj : j < c.f.fr.length), c.f.fr[j].1 ≠ (id : Int) := fun j hj g => by
    have hB := atF_of ic.pj.fm (by omega) hj g
    have := ic.wat hB
    rw [ud_ne _ _ hne, hWid] at this
    by_cases e : j = i
    · subst e
      have := hA2.fr.symm.trans g
      omega
    · exact hne2 j hj e this.symm
  have hbusy : ¬ bn (ud W k 0) 16 = c.f.fr.length := fun g => ic.busy.1 g i hA2.hi h00
  have hdoc2 : docM P (ud W k 0) c.f.fr.length (2, (id : Int), b') = (ud P id (newP id), ud (ud W k 0) id 1, newP id, 0) := by
    rw [docM, if_neg (by simp only []; omega), if_neg (show ¬ (2 : Int) = 8 by decide)]
    simp only [Int.toNat_natCast]
    rw [if_neg (fun g => absurd g.1 (by decide)), if_neg (show ¬ (2 : Int) = 3 by decide), if_neg (show ¬ (2 : Int) = 4 by decide), if_neg (show ¬ (2 : Int) = 5 by decide), if_neg (show ¬ (2 : Int) = 6 by decide), if_neg (show ¬ (2 : Int) = 7 by decide)]
    rw [thereM, if_neg (fun g => absurd g.1 (by decide)), if_neg (fun g => g.2 hPid), if_neg (fun g => hbusy g.2), if_pos rfl, ud_ne _ _ hne, hWid]
    rfl
  have d2 := do_did ic (show 1 ≤ v + 1 by omega) (by omega) (show 0 ≤ u + 1 by omega) (by omega) (2, (id : Int), b') rfl
  rw [hdoc2] at d2
  obtain ⟨e, l, ee, ie, en, elen, erun, _, _⟩ := d2.eq
  have hz3 : getR c.d.sec ((id : Int)).toNat = (zP, 3) := by
    rw [Int.toNat_natCast, ic.on.dsk id id1 id16 (ic.out id1 hnid), if_pos hPid]
  have e3 := create_step ic.pj (show 1 ≤ (id : Int) by omega) (by omega) hnid hz3
  obtain ⟨j, hj, hjz, e4, m7, m8⟩ := load_after (x := pg1' (id : Int)) em m1 (pg1_ok (by omega) (by omega)) ic.pj.n0 ic.pj.n1 true (fun j hj => by
    by_cases e : j = i
    · subst e; rw [hz2]; exact (show (0 : Int) ≠ (id : Int) by omega)
    · have hj : j < f'.fr.length := hj
      rw [(m4 j (by omega) hj e).1]
      exact hnid j (by omega)) ⟨i, hz1, hz2⟩ (fun x hx => ic.pj.dt x (m6 x hx))
  have el : l = planJ ((k : Int)).toNat (putB (c.f.pg[i]'hA2.hp)) := by
    have e5 : poolDo c (2, (id : Int), b') = _ := (do_create (show 1 ≤ (id : Int) by omega) (show (id : Int) ≤ 16 by omega)).trans (e3.trans e4)
    rw [ee] at e5
    exact congrArg (fun q : R4 => q.2.2.1) e5
  refine ⟨c, e, l, ec, ic.pj.fm, cn, ee, by rw [el]; rfl, ie.pj.fm, en.trans cn, ?_⟩
  have hkn : ∀ j (hj : j < e.f.fr.length), e.f.fr[j].1 ≠ (k : Int) := fun j hj g => by
    have hB := atF_of ie.pj.fm (by omega) hj g
    have := ie.wat hB
    rw [ud_ne _ _ (fun q => hne q.symm), ud_at] at this
    exact ie.busy.1 (by rw [hc, elen, clen]) j hj this.symm
  have := ie.on.dsk k k1 k16 (ie.out k1 hkn)
  rw [ud_ne _ _ (fun q => hne q.symm), if_neg hPk] at this
  rw [ie.pj.get k1 k16]; exact this
end Go.Lk

namespace Go.Lk
open Go Go.Proofs Go.RowKit

theorem create_free {p : PS} (h : FM p.f) (hf : ∃ i, ∃ hi : i < p.f.fr.length, p.f.fr[i].1 = 0) (id : Int) : (poolCreate p id).2.2.1 = [] := by
  have hm := make_free h hf
  rw [poolCreate]
  split
  · rfl
  split
  · rw [poolLoad, hm]
    split
    · rfl
    split <;> rfl
  split <;> rfl
theorem do2_free {p : PS} (h : FM p.f) (hf : ∃ i, ∃ hi : i < p.f.fr.length, p.f.fr[i].1 = 0) {id : Int} (h1 : 1 ≤ id) (h16 : id ≤ 16) (b : ByteArray) : (poolDo p (2, id, b)).2.2.1 = [] := by
  rw [do_create h1 h16]; exact create_free h hf id
theorem do345 {p : PS} {k id : Int} {b : ByteArray} (h1 : 1 ≤ id) (h16 : id ≤ 16) (hk : k = 3 ∨ k = 4 ∨ k = 5) : (poolDo p (k, id, b)).2.2.1 = [] := by
  rw [do_pinned h1 h16 hk]
theorem PJ.tl {p : PS} (h : PJ p) : p.now ≤ 2147483647 := h.n1
def bx : ByteArray := { data := #[120] }
theorem awake_run : ∃ (a b c e : PS) (l : List Jo), poolDo (p0 1) (2, 3, ByteArray.empty) = (a, (3, 1, ByteArray.empty), [], 0) ∧ PJ a ∧ poolDo a (4, 3, bx) = (b, (3, 2, bx), [], 0) ∧ PJ b ∧ poolDo b (2, 4, ByteArray.empty) = (b, zP, [], 6) ∧
    poolDo b (5, 3, ByteArray.empty) = (c, zP, [], 0) ∧ FM c.f ∧ c.now = b.now ∧ poolDo c (2, 4, ByteArray.empty) = (e, (4, 1, ByteArray.empty), l, 0) ∧ l.length = 10 ∧ getS e.d 3 = ((3, 2, bx), 0) := by
  have h0 := p0_inv (n := 1) (by decide) (by decide)
  have d1 := do_did h0 (by decide) (by decide) (by decide) (by decide) (2, 3, ByteArray.empty) (n := 1) rfl
  rw [show docM (fun _ => zP) (fun _ => 0) 1 (2, 3, ByteArray.empty) = (ud (fun _ => zP) 3 (newP 3), ud (fun _ => 0) 3 1, newP 3, 0) from rfl] at d1
  obtain ⟨a, l1, e1, i1, n1, len1, run1, _, _⟩ := d1.eq
  have hl1 : l1 = [] := by
    have := do2_free (p := p0 1) h0.pj.fm ⟨0, by decide, rfl⟩ (id := 3) (by decide) (by decide) ByteArray.empty
    rw [e1] at this; exact this
  subst hl1
  have d2 := do_did i1 (by decide) (by decide) (by decide) (by decide) (4, 3, bx) (n := 1) (by rw [len1]; rfl)
  rw [show docM (ud (fun _ => zP) 3 (newP 3)) (ud (fun _ => 0) 3 1) 1 (4, 3, bx) = (ud (ud (fun _ => zP) 3 (newP 3)) 3 (3, 2, bx), ud (fun _ => 0) 3 1, (3, 2, bx), 0) from rfl] at d2
  obtain ⟨b, l2, e2, i2, n2, len2, run2, _, _⟩ := d2.eq
  have hl2 : l2 = [] := by
    have := do345 (p := a) (k := 4) (id := 3) (b := bx) (by decide) (by decide) (.inr (.inl rfl))
    rw [e2] at this; exact this
  subst hl2
  have hlen : b.f.fr.length = 1 := by rw [len2, len1]; rfl
  have hall : ∀ i (hi : i < b.f.fr.length), b.f.fr[i].2.1 ≠ 0 := i2.busy.1 (by rw [hlen]; rfl)
  have hsec : b.d = newDS := run2.symm.trans ((show runL a.d [] = a.d from rfl).trans run1.symm)
  have hn4 : ∀ i (hi : i < b.f.fr.length), b.f.fr[i].1 ≠ (4 : Int) := fun i hi g => by
    have hA := atF_of i2.pj.fm (p := ((4 : Nat) : Int)) (by decide) hi g
    have := i2.wat hA
    exact hall i hi (this.symm.trans rfl)
  have e3 : poolDo b (2, 4, ByteArray.empty) = (b, zP, [], 6) := by
    have hz : getR b.d.sec (4 : Int).toNat = (zP, 3) := by
      have := i2.on.dsk 4 (by decide) (by decide) (i2.out (by decide) hn4)
      exact this
    rw [do_create (by decide) (by decide), create_step i2.pj (by decide) (by decide) hn4 hz, poolLoad, make_busy i2.pj.fm (fun i hi g => hall i hi (i2.loose0 hi g)) hall, if_pos (show (6 : Int) ≠ 0 by decide)]
  obtain ⟨c, e, l, e4, f4, n4, e5, l5, _, _, g5⟩ := ten i2 (by decide) (by decide) (by decide) (by decide) (k := 3) (id := 4) (by decide) (by decide) (by decide) (by decide) (by decide) hall rfl rfl rfl (show (3 : Int) ≠ 0 by decide)
    (by rw [hsec]; exact get_new (by decide)) (by rw [hlen]; rfl) ByteArray.empty ByteArray.empty
  exact ⟨a, b, c, e, l, e1, i1.pj, e2, i2.pj, e3, e4, f4, n4, e5, l5, g5⟩
theorem open_rest {s : List ByteArray} (hs : Rest s) (hz : s[0]?.getD ByteArray.empty = nul16) {n : Int} (h1 : 1 ≤ n) (h8 : n ≤ 8) : openM ⟨s, []⟩ n = (⟨newFS n.toNat, ⟨s, []⟩, 0⟩, 0) := by
  rw [openM, if_neg, if_neg (by omega), rec_rest hs hz]
  rintro (g | g)
  · refine g ?_
    rw [getJ, if_pos ⟨hs.us, by decide, by decide⟩]
  · exact absurd g (show ¬ 0 < ([] : List Wt).length by decide)
theorem awake16_ok : ACall Tryz.prog 16 [] (.bool true) := by
  obtain ⟨a, b, c, e, l, e1, j1, e2, j2, e3, e4, f4, n4, e5, l5, g5⟩ := awake_run
  have hml : (l.map encJ).length = l.length := List.length_map ..
  have hop : openM newDS 1 = (p0 1, 0) := open_rest new_rest z_new (by decide) (by decide)
  refine acall_of Tryz.func16 0 rfl (by kernel_rfl) ?_
  conv => whnf
  repeat ((first | refine bF ?_ | refine bT ?_ | refine dK (by kernel_rfl) ?_ | refine cK rfl ?_ | refine cK (by first | decide | omega) ?_ | refine wK (by omega) (by omega) ?_); conv => whnf)
  refine callX_pure dnew_ok ?_
  conv => whnf
  repeat ((first | refine bF ?_ | refine bT ?_ | refine dK (by kernel_rfl) ?_ | refine cK rfl ?_ | refine cK (by first | decide | omega) ?_ | refine wK (by omega) (by omega) ?_); conv => whnf)
  refine callX_pure (open_ok newDS 1) ?_
  conv => whnf
  repeat ((first | refine bF ?_ | refine bT ?_ | refine dK (by kernel_rfl) ?_ | refine cK rfl ?_ | refine cK (by first | decide | omega) ?_ | refine wK (by omega) (by omega) ?_); conv => whnf)
  rw [hop]
  repeat ((first | refine bF ?_ | refine bT ?_ | refine dK (by kernel_rfl) ?_ | refine cK rfl ?_ | refine cK (by first | decide | omega) ?_ | refine wK (by omega) (by omega) ?_); conv => whnf)
  refine callX_pure (poolDo_ok (p0 1) (2, 3, ByteArray.empty) (p0_inv (by decide) (by decide)).pj.fm (by decide)) ?_
  conv => whnf
  repeat ((first | refine bF ?_ | refine bT ?_ | refine dK (by kernel_rfl) ?_ | refine cK rfl ?_ | refine cK (by first | decide | omega) ?_ | refine wK (by omega) (by omega) ?_); conv => whnf)
  rw [e1]
  repeat ((first | refine bF ?_ | refine bT ?_ | refine dK (by kernel_rfl) ?_ | refine cK rfl ?_ | refine cK (by first | decide | omega) ?_ | refine wK (by omega) (by omega) ?_); conv => whnf)
  refine callX_pure (poolDo_ok a (4, 3, bx) j1.fm j1.n1) ?_
  conv => whnf
  repeat ((first | refine bF ?_ | refine bT ?_ | refine dK (by kernel_rfl) ?_ | refine cK rfl ?_ | refine cK (by first | decide | omega) ?_ | refine wK (by omega) (by omega) ?_); conv => whnf)
  rw [e2]
  repeat ((first | refine bF ?_ | refine bT ?_ | refine dK (by kernel_rfl) ?_ | refine cK rfl ?_ | refine cK (by first | decide | omega) ?_ | refine wK (by omega) (by omega) ?_); conv => whnf)
  refine callX_pure (poolDo_ok b (2, 4, ByteArray.empty) j2.fm j2.n1) ?_
  conv => whnf
  repeat ((first | refine bF ?_ | refine bT ?_ | refine dK (by kernel_rfl) ?_ | refine cK rfl ?_ | refine cK (by first | decide | omega) ?_ | refine wK (by omega) (by omega) ?_); conv => whnf)
  rw [e3]
  repeat ((first | refine bF ?_ | refine bT ?_ | refine dK (by kernel_rfl) ?_ | refine cK rfl ?_ | refine cK (by first | decide | omega) ?_ | refine wK (by omega) (by omega) ?_); conv => whnf)
  refine callX_pure (poolDo_ok b (5, 3, ByteArray.empty) j2.fm j2.n1) ?_
  conv => whnf
  repeat ((first | refine bF ?_ | refine bT ?_ | refine dK (by kernel_rfl) ?_ | refine cK rfl ?_ | refine cK (by first | decide | omega) ?_ | refine wK (by omega) (by omega) ?_); conv => whnf)
  rw [e4]
  repeat ((first | refine bF ?_ | refine bT ?_ | refine dK (by kernel_rfl) ?_ | refine cK rfl ?_ | refine cK (by first | decide | omega) ?_ | refine wK (by omega) (by omega) ?_); conv => whnf)
  refine callX_pure (poolDo_ok c (2, 4, ByteArray.empty) f4 (by have := j2.n1; omega)) ?_
  conv => whnf
  repeat ((first | refine bF ?_ | refine bT ?_ | refine dK (by kernel_rfl) ?_ | refine cK rfl ?_ | refine cK (by first | decide | omega) ?_ | refine wK (by omega) (by omega) ?_); conv => whnf)
  rw [e5]
  repeat ((first | refine bF ?_ | refine bT ?_ | refine dK (by kernel_rfl) ?_ | refine cK rfl ?_ | refine cK (by first | decide | omega) ?_ | refine wK (by omega) (by omega) ?_); conv => whnf)
  refine callX_pure (rgetS_ok e.d 3) ?_
  conv => whnf
  repeat ((first | refine bF ?_ | refine bT ?_ | refine dK (by kernel_rfl) ?_ | refine cK rfl ?_ | refine cK (by first | decide | omega) ?_ | refine wK (by omega) (by omega) ?_); conv => whnf)
  rw [g5]
  repeat ((first | refine bF ?_ | refine bT ?_ | refine dK (by kernel_rfl) ?_ | refine cK rfl ?_ | refine cK (by first | decide | omega) ?_ | refine wK (by omega) (by omega) ?_); conv => whnf)
  refine bcase_t (decide_eq_true (by simp only [List.length_map, l5]; rfl)) ?_
  conv => whnf
  repeat ((first | refine bF ?_ | refine bT ?_ | refine dK (by kernel_rfl) ?_ | refine cK rfl ?_ | refine cK (by first | decide | omega) ?_ | refine wK (by omega) (by omega) ?_); conv => whnf)
  exact ret_of rfl rfl
end Go.Lk

namespace Go.Lk
open Go Go.Proofs Go.RowKit

/-! ### the document's journal -/
theorem at_ok (n : Int) (s : ByteArray) : ACall Tryz.prog 55 [.int .i64 n, .str s] (.agg (encJ (wJ n s))) := by
  refine acall_of Tryz.func55 2 rfl (by kernel_rfl) ?_
  conv => whnf
  repeat ((first | refine bF ?_ | refine bT ?_ | refine dK (by kernel_rfl) ?_ | refine cK rfl ?_ | refine cK (by first | decide | omega) ?_ | refine wK (by omega) (by omega) ?_); conv => whnf)
  exact ret_of rfl rfl
theorem filled_ok (s : ByteArray) (hs : s.size ≤ 16) : ACall Tryz.prog 54 [.str s] (.str (s ++ nulB (16 - s.size))) := by
  refine acall_of Tryz.func54 1 rfl (by kernel_rfl) ?_
  conv => whnf
  refine aloop (ι := Nat) (fun k => [(0, .d (.str (s ++ nulB k)))]) (fun _ => [])
    (fun k => s.size + k ≤ 16) (fun k => 16 - k) 0 (by omega) (le0 (le_of_cov ⟨?_, trivial⟩ trivial ⟨rfl, rfl, rfl, rfl⟩)) ?_
  · show AV.d (.str s) = _
    rw [nul_0]
    congr 2
    apply bl_ext
    rw [bl_app]
    exact (List.append_nil _).symm
  intro k hk
  have hsz : (s ++ nulB k).size = s.size + k := by rw [ByteArray.size_append, nulB_size]
  conv => whnf
  refine bcase_p (fun h5 => ?_) (fun h5 => ?_) <;> conv => whnf
  · have hk2 : s.size + k < 16 := by omega
    repeat ((first | refine bF ?_ | refine bT ?_ | refine dK (by kernel_rfl) ?_ | refine cK rfl ?_ | refine cK (by first | decide | omega) ?_ | refine wK (by omega) (by omega) ?_); conv => whnf)
    refine condK_of (by rw [hsz, bstr_size]; simp; omega) ?_
    conv => whnf
    repeat ((first | refine bF ?_ | refine bT ?_ | refine dK (by kernel_rfl) ?_ | refine cK rfl ?_ | refine cK (by first | decide | omega) ?_ | refine wK (by omega) (by omega) ?_); conv => whnf)
    have e : s ++ nulB k ++ bstr [0] = s ++ nulB (k + 1) := by
      rw [← nul_snoc]
      apply bl_ext
      simp only [bl_app, List.append_assoc]
    rw [e]
    exact ⟨k + 1, by omega, by omega, (le0 (le_of_cov ⟨rfl, trivial⟩ trivial ⟨rfl, rfl, rfl, rfl⟩))⟩
  · repeat ((first | refine bF ?_ | refine bT ?_ | refine dK (by kernel_rfl) ?_ | refine cK rfl ?_ | refine cK (by first | decide | omega) ?_ | refine wK (by omega) (by omega) ?_); conv => whnf)
    have ek : k = 16 - s.size := by omega
    subst ek
    exact ret_of rfl rfl
theorem rnoughts_ok : ACall Tryz.prog 74 [] (.str (nulB 32)) := by
  refine acall_of Tryz.func74 0 rfl (by kernel_rfl) ?_
  conv => whnf
  repeat ((first | refine bF ?_ | refine bT ?_ | refine dK (by kernel_rfl) ?_ | refine cK rfl ?_ | refine cK (by first | decide | omega) ?_ | refine wK (by omega) (by omega) ?_); conv => whnf)
  refine aloop (ι := Nat) (fun k => [(1, .d (.str (nulB k))), (2, .d (.int .i64 k))]) (fun _ => [])
    (fun k => k ≤ 32) (fun k => 32 - k) 0 (by omega) (le0 (le_of_cov ⟨?_, rfl, trivial⟩ trivial ⟨rfl, rfl, rfl, rfl⟩)) ?_
  · show AV.d (.str ByteArray.empty) = _
    rw [nul_0]
  intro k hk
  conv => whnf
  refine bcase_p (fun h5 => ?_) (fun h5 => ?_) <;> conv => whnf
  · repeat ((first | refine bF ?_ | refine bT ?_ | refine dK (by kernel_rfl) ?_ | refine cK rfl ?_ | refine cK (by first | decide | omega) ?_ | refine wK (by omega) (by omega) ?_); conv => whnf)
    refine condK_of (by rw [nulB_size, bstr_size]; simp; omega) ?_
    conv => whnf
    repeat ((first | refine bF ?_ | refine bT ?_ | refine dK (by kernel_rfl) ?_ | refine cK rfl ?_ | refine cK (by first | decide | omega) ?_ | refine wK (by omega) (by omega) ?_); conv => whnf)
    rw [nul_snoc]
    exact ⟨k + 1, by omega, by omega, (le0 (le_of_cov ⟨rfl, rfl, trivial⟩ trivial ⟨rfl, rfl, rfl, rfl⟩))⟩
  · repeat ((first | refine bF ?_ | refine bT ?_ | refine dK (by kernel_rfl) ?_ | refine cK rfl ?_ | refine cK (by first | decide | omega) ?_ | refine wK (by omega) (by omega) ?_); conv => whnf)
    have ek : k = 32 := by omega
    subst ek
    exact ret_of rfl rfl
theorem nul_app0 (s : ByteArray) : s ++ nulB 0 = s := by
  rw [nul_0]
  apply bl_ext
  rw [bl_app]
  exact List.append_nil _
theorem nul_0app (s : ByteArray) : ByteArray.empty ++ s = s := by
  apply bl_ext
  rw [bl_app]
  rfl
/-- it is enough to prove what holds of one closed value of which nothing else is known -/
theorem by_eps {α : Type} [Nonempty α] (P : α → Prop) (h : P (Classical.epsilon fun a => ¬ P a)) (a : α) : P a :=
  Classical.byContradiction fun g => (Classical.epsilon_spec (p := fun a => ¬ P a) ⟨a, g⟩) h
def PlanSaid (a : Nat × ByteArray) : Prop := a.1 ≤ 16 → a.2.size = 32 → OCall Tryz.prog 73 [.int .i64 a.1, .str a.2] ((planJ a.1 a.2).map encJ) 3
noncomputable def zP1 : Nat × ByteArray := Classical.epsilon fun a => ¬ PlanSaid a
noncomputable def zp : Nat := zP1.1
noncomputable def zs : ByteArray := zP1.2
noncomputable def zx : ByteArray := zs.extract 0 16
noncomputable def zy : ByteArray := zs.extract 16 32
noncomputable def zh : ByteArray := headJ zp
def zn : ByteArray := nul16
theorem rplan_z (hp : zp ≤ 16) (hs : zs.size = 32) : OCall Tryz.prog 73 [.int .i64 zp, .str zs] (([wJ 1 zx, wJ 2 zy, syJ] ++ [wJ 0 zh, syJ] ++ [wJ (2 * (zp : Int) + 1) zx, wJ (2 * (zp : Int) + 1 + 1) zy, syJ] ++ [wJ 0 zn, syJ]).map encJ) 3 := by
  refine ocall_of Tryz.func73 2 rfl (by kernel_rfl) ?_
  conv => whnf
  repeat ((first | refine bF ?_ | refine bT ?_ | refine dK (by kernel_rfl) ?_ | refine cK rfl ?_ | refine cK (by first | decide | omega) ?_ | refine wK (by omega) (by omega) ?_); conv => whnf)
  refine sliceK_hi (h := 16) (by omega) ?_
  conv => whnf
  repeat ((first | refine bF ?_ | refine bT ?_ | refine dK (by kernel_rfl) ?_ | refine cK rfl ?_ | refine cK (by first | decide | omega) ?_ | refine wK (by omega) (by omega) ?_); conv => whnf)
  refine sliceK_lo (l := 16) (by omega) ?_
  conv => whnf
  repeat ((first | refine bF ?_ | refine bT ?_ | refine dK (by kernel_rfl) ?_ | refine cK rfl ?_ | refine cK (by first | decide | omega) ?_ | refine wK (by omega) (by omega) ?_); conv => whnf)
  rw [show zs.extract 0 16 = zx from rfl, show zs.extract 16 zs.size = zy from by rw [hs]; rfl]
  refine callX_pure (at_ok 1 zx) ?_
  conv => whnf
  repeat ((first | refine bF ?_ | refine bT ?_ | refine dK (by kernel_rfl) ?_ | refine cK rfl ?_ | refine cK (by first | decide | omega) ?_ | refine wK (by omega) (by omega) ?_); conv => whnf)
  refine callX_pure (at_ok 2 zy) ?_
  conv => whnf
  repeat ((first | refine bF ?_ | refine bT ?_ | refine dK (by kernel_rfl) ?_ | refine cK rfl ?_ | refine cK (by first | decide | omega) ?_ | refine wK (by omega) (by omega) ?_); conv => whnf)
  refine wrapK_in (u8in (by omega) (by omega)) ?_
  conv => whnf
  repeat ((first | refine bF ?_ | refine bT ?_ | refine dK (by kernel_rfl) ?_ | refine cK rfl ?_ | refine cK (by first | decide | omega) ?_ | refine wK (by omega) (by omega) ?_); conv => whnf)
  refine callX_pure (filled_ok (bstr [74, (zp : Int)]) (by rw [bstr_size]; exact (show 2 ≤ 16 by decide))) ?_
  conv => whnf
  repeat ((first | refine bF ?_ | refine bT ?_ | refine dK (by kernel_rfl) ?_ | refine cK rfl ?_ | refine cK (by first | decide | omega) ?_ | refine wK (by omega) (by omega) ?_); conv => whnf)
  rw [show bstr [74, (zp : Int)] ++ nulB (16 - (bstr [74, (zp : Int)]).size) = zh from by rw [bstr_size]; rfl]
  refine callX_pure (at_ok 0 zh) ?_
  conv => whnf
  repeat ((first | refine bF ?_ | refine bT ?_ | refine dK (by kernel_rfl) ?_ | refine cK rfl ?_ | refine cK (by first | decide | omega) ?_ | refine wK (by omega) (by omega) ?_); conv => whnf)
  refine callX_pure (at_ok (2 * (zp : Int) + 1) zx) ?_
  conv => whnf
  repeat ((first | refine bF ?_ | refine bT ?_ | refine dK (by kernel_rfl) ?_ | refine cK rfl ?_ | refine cK (by first | decide | omega) ?_ | refine wK (by omega) (by omega) ?_); conv => whnf)
  refine callX_pure (at_ok (2 * (zp : Int) + 1 + 1) zy) ?_
  conv => whnf
  repeat ((first | refine bF ?_ | refine bT ?_ | refine dK (by kernel_rfl) ?_ | refine cK rfl ?_ | refine cK (by first | decide | omega) ?_ | refine wK (by omega) (by omega) ?_); conv => whnf)
  refine callX_pure (filled_ok ByteArray.empty (by decide)) ?_
  conv => whnf
  repeat ((first | refine bF ?_ | refine bT ?_ | refine dK (by kernel_rfl) ?_ | refine cK rfl ?_ | refine cK (by first | decide | omega) ?_ | refine wK (by omega) (by omega) ?_); conv => whnf)
  rw [show ByteArray.empty ++ nulB (16 - ByteArray.empty.size) = zn from nul_0app _]
  refine callX_pure (at_ok 0 zn) ?_
  conv => whnf
  repeat ((first | refine bF ?_ | refine bT ?_ | refine dK (by kernel_rfl) ?_ | refine cK rfl ?_ | refine cK (by first | decide | omega) ?_ | refine wK (by omega) (by omega) ?_); conv => whnf)
  exact ⟨4, rfl, .inl ⟨38, rfl, rfl⟩⟩
theorem rplan_ok (p : Nat) (s : ByteArray) (hp : p ≤ 16) (hs : s.size = 32) : OCall Tryz.prog 73 [.int .i64 p, .str s] ((planJ p s).map encJ) 3 :=
  by_eps PlanSaid (fun hp hs => rplan_z hp hs) (p, s) hp hs
open Classical in
/-- the operations that the document's store makes of a page -/
noncomputable def stepsR (d : DS) (x : Pg) : List Jo :=
  if ¬ (Us d ∧ 1 ≤ x.1 ∧ x.1 ≤ 16) then [] else if x.2.1 = 0 ∧ x.2.2 = ByteArray.empty then planJ x.1.toNat (nulB 32) else if pgR x = true then planJ x.1.toNat (putB x) else []
theorem rsteps_ok (d : DS) (x : Pg) : ACall Tryz.prog 40 [encDS d, .agg (encP x)] (.lst ((stepsR d x).map encJ)) := by
  refine acall_of Tryz.func40 2 rfl (by kernel_rfl) ?_
  conv => whnf
  repeat ((first | refine bF ?_ | refine bT ?_ | refine dK (by kernel_rfl) ?_ | refine cK rfl ?_ | refine cK (by first | decide | omega) ?_ | refine wK (by omega) (by omega) ?_); conv => whnf)
  refine callX_pure (may_ok d) ?_
  conv => whnf
  repeat ((first | refine bF ?_ | refine bT ?_ | refine dK (by kernel_rfl) ?_ | refine cK rfl ?_ | refine cK (by first | decide | omega) ?_ | refine wK (by omega) (by omega) ?_); conv => whnf)
  rw [stepsR]
  refine bcase_intro (fun h1 => ?_) (fun h1 => ?_) <;> conv => whnf
  · repeat ((first | refine bF ?_ | refine bT ?_ | refine dK (by kernel_rfl) ?_ | refine cK rfl ?_ | refine cK (by first | decide | omega) ?_ | refine wK (by omega) (by omega) ?_); conv => whnf)
    rw [if_pos (fun q => by rw [usB_t.2 q.1] at h1; exact absurd h1 (by decide))]
    exact ret_of rfl rfl
  have hU : Us d := usB_t.1 (by simpa using h1)
  repeat ((first | refine bF ?_ | refine bT ?_ | refine dK (by kernel_rfl) ?_ | refine cK rfl ?_ | refine cK (by first | decide | omega) ?_ | refine wK (by omega) (by omega) ?_); conv => whnf)
  refine bcase_p (fun h2 => ?_) (fun h2 => ?_) <;> conv => whnf
  · repeat ((first | refine bF ?_ | refine bT ?_ | refine dK (by kernel_rfl) ?_ | refine cK rfl ?_ | refine cK (by first | decide | omega) ?_ | refine wK (by omega) (by omega) ?_); conv => whnf)
    rw [if_pos (fun q => by omega)]
    exact ret_of rfl rfl
  repeat ((first | refine bF ?_ | refine bT ?_ | refine dK (by kernel_rfl) ?_ | refine cK rfl ?_ | refine cK (by first | decide | omega) ?_ | refine wK (by omega) (by omega) ?_); conv => whnf)
  refine bcase_p (fun h3 => ?_) (fun h3 => ?_) <;> conv => whnf
  · repeat ((first | refine bF ?_ | refine bT ?_ | refine dK (by kernel_rfl) ?_ | refine cK rfl ?_ | refine cK (by first | decide | omega) ?_ | refine wK (by omega) (by omega) ?_); conv => whnf)
    rw [if_pos (fun q => by omega)]
    exact ret_of rfl rfl
  rw [if_neg (fun q => q ⟨hU, by omega, by omega⟩)]
  obtain ⟨a, v, b⟩ := x
  simp only at h2 h3 ⊢
  obtain ⟨k, rfl⟩ : ∃ k : Nat, a = k := ⟨a.toNat, by omega⟩
  rw [Int.toNat_natCast]
  repeat ((first | refine bF ?_ | refine bT ?_ | refine dK (by kernel_rfl) ?_ | refine cK rfl ?_ | refine cK (by first | decide | omega) ?_ | refine wK (by omega) (by omega) ?_); conv => whnf)
  refine bcase_p (fun h4 => ?_) (fun h4 => ?_) <;> conv => whnf
  · repeat ((first | refine bF ?_ | refine bT ?_ | refine dK (by kernel_rfl) ?_ | refine cK rfl ?_ | refine cK (by first | decide | omega) ?_ | refine wK (by omega) (by omega) ?_); conv => whnf)
    refine bcase_p (fun h5 => ?_) (fun h5 => ?_) <;> conv => whnf
    · rw [if_pos ⟨h4, h5⟩]
      repeat ((first | refine bF ?_ | refine bT ?_ | refine dK (by kernel_rfl) ?_ | refine cK rfl ?_ | refine cK (by first | decide | omega) ?_ | refine wK (by omega) (by omega) ?_); conv => whnf)
      refine callX_pure rnoughts_ok ?_
      conv => whnf
      repeat ((first | refine bF ?_ | refine bT ?_ | refine dK (by kernel_rfl) ?_ | refine cK rfl ?_ | refine cK (by first | decide | omega) ?_ | refine wK (by omega) (by omega) ?_); conv => whnf)
      refine callX_own (rplan_ok k (nulB 32) (by omega) (nulB_size 32)) ?_
      conv => whnf
      repeat ((first | refine bF ?_ | refine bT ?_ | refine dK (by kernel_rfl) ?_ | refine cK rfl ?_ | refine cK (by first | decide | omega) ?_ | refine wK (by omega) (by omega) ?_); conv => whnf)
      exact ret_of rfl rfl
    rw [if_neg (fun q => h5 q.2)]
    repeat ((first | refine bF ?_ | refine bT ?_ | refine dK (by kernel_rfl) ?_ | refine cK rfl ?_ | refine cK (by first | decide | omega) ?_ | refine wK (by omega) (by omega) ?_); conv => whnf)
    refine callX_pure (rright02_ok ((k : Int), v, b)) ?_
    conv => whnf
    repeat ((first | refine bF ?_ | refine bT ?_ | refine dK (by kernel_rfl) ?_ | refine cK rfl ?_ | refine cK (by first | decide | omega) ?_ | refine wK (by omega) (by omega) ?_); conv => whnf)
    refine bcase_intro (fun h6 => ?_) (fun h6 => ?_) <;> conv => whnf
    · repeat ((first | refine bF ?_ | refine bT ?_ | refine dK (by kernel_rfl) ?_ | refine cK rfl ?_ | refine cK (by first | decide | omega) ?_ | refine wK (by omega) (by omega) ?_); conv => whnf)
      rw [if_neg (fun q => by rw [q] at h6; cases h6)]
      exact ret_of rfl rfl
    have h6 : pgR ((k : Int), v, b) = true := by simpa using h6
    rw [if_pos h6]
    repeat ((first | refine bF ?_ | refine bT ?_ | refine dK (by kernel_rfl) ?_ | refine cK rfl ?_ | refine cK (by first | decide | omega) ?_ | refine wK (by omega) (by omega) ?_); conv => whnf)
    refine callX_pure (rput_ok _ h6) ?_
    conv => whnf
    repeat ((first | refine bF ?_ | refine bT ?_ | refine dK (by kernel_rfl) ?_ | refine cK rfl ?_ | refine cK (by first | decide | omega) ?_ | refine wK (by omega) (by omega) ?_); conv => whnf)
    refine callX_own (rplan_ok k (putB ((k : Int), v, b)) (by omega) (putB_size (pgR_out.1 h6).2.2.2.2)) ?_
    conv => whnf
    repeat ((first | refine bF ?_ | refine bT ?_ | refine dK (by kernel_rfl) ?_ | refine cK rfl ?_ | refine cK (by first | decide | omega) ?_ | refine wK (by omega) (by omega) ?_); conv => whnf)
    exact ret_of rfl rfl
  rw [if_neg (fun q => h4 q.1)]
  repeat ((first | refine bF ?_ | refine bT ?_ | refine dK (by kernel_rfl) ?_ | refine cK rfl ?_ | refine cK (by first | decide | omega) ?_ | refine wK (by omega) (by omega) ?_); conv => whnf)
  refine callX_pure (rright02_ok ((k : Int), v, b)) ?_
  conv => whnf
  repeat ((first | refine bF ?_ | refine bT ?_ | refine dK (by kernel_rfl) ?_ | refine cK rfl ?_ | refine cK (by first | decide | omega) ?_ | refine wK (by omega) (by omega) ?_); conv => whnf)
  refine bcase_intro (fun h6 => ?_) (fun h6 => ?_) <;> conv => whnf
  · repeat ((first | refine bF ?_ | refine bT ?_ | refine dK (by kernel_rfl) ?_ | refine cK rfl ?_ | refine cK (by first | decide | omega) ?_ | refine wK (by omega) (by omega) ?_); conv => whnf)
    rw [if_neg (fun q => by rw [q] at h6; cases h6)]
    exact ret_of rfl rfl
  have h6 : pgR ((k : Int), v, b) = true := by simpa using h6
  rw [if_pos h6]
  repeat ((first | refine bF ?_ | refine bT ?_ | refine dK (by kernel_rfl) ?_ | refine cK rfl ?_ | refine cK (by first | decide | omega) ?_ | refine wK (by omega) (by omega) ?_); conv => whnf)
  refine callX_pure (rput_ok _ h6) ?_
  conv => whnf
  repeat ((first | refine bF ?_ | refine bT ?_ | refine dK (by kernel_rfl) ?_ | refine cK rfl ?_ | refine cK (by first | decide | omega) ?_ | refine wK (by omega) (by omega) ?_); conv => whnf)
  refine callX_own (rplan_ok k (putB ((k : Int), v, b)) (by omega) (putB_size (pgR_out.1 h6).2.2.2.2)) ?_
  conv => whnf
  repeat ((first | refine bF ?_ | refine bT ?_ | refine dK (by kernel_rfl) ?_ | refine cK rfl ?_ | refine cK (by first | decide | omega) ?_ | refine wK (by omega) (by omega) ?_); conv => whnf)
  exact ret_of rfl rfl
end Go.Lk

namespace Go.Lk
open Go

/-! ### boxes of data whose list stays folded -/
theorem forceL_d : ∀ (l : List D) (K : List AV → Prop), forceL (l.map AV.d) K = K (l.map AV.d)
  | [], _ => rfl
  | x :: r, K => by
    show (forceL (r.map AV.d) fun q => K (AV.d x :: q)) = _
    rw [forceL_d r]; rfl
theorem forceL_of {l : List D} {c : List AV} {K : List AV → Prop} (hc : c = l.map AV.d) (k : K (l.map AV.d)) : forceL c K := by
  subst hc; rw [forceL_d]; exact k
theorem killC_d (b : Nat) : ∀ l : List D, killB.cells b (l.map AV.d) = l.map AV.d
  | [] => rfl
  | x :: r => by rw [List.map_cons, killB.cells, killC_d b r]; rfl
theorem convC_d (hp : Nat → Option Blk) : ∀ l : List D, conv.cells hp (l.map AV.d) = some l
  | [] => rfl
  | x :: r => by rw [List.map_cons, conv.cells, convC_d hp r]; rfl
theorem pures_d : ∀ l : List D, conv.pures (l.map AV.d) = some l
  | [] => rfl
  | x :: r => by rw [List.map_cons, conv.pures, pures_d r]; rfl
theorem openC_d (hp : Nat → Option Blk) : ∀ l : List D, openNames.cells hp (l.map AV.d) = []
  | [] => rfl
  | x :: r => by rw [List.map_cons, openNames.cells, openC_d hp r]; rfl
theorem cells1_d (hp : Nat → Option Blk) : ∀ l : List D, (∀ x ∈ l, cell1.one x = true) → cells1 hp (l.map AV.d) = true
  | [], _ => rfl
  | x :: r, h => by
    show (bif cell1.one x then cells1 hp (r.map AV.d) else false) = true
    rw [h x (.head _), cells1_d hp r fun y hy => h y (.tail _ hy)]; rfl
theorem names_d (b : Nat) : ∀ l : List D, killV.names b (l.map AV.d) = false
  | [] => rfl
  | x :: r => names_d b r
theorem splice_d : ∀ (l2 l : List D) (j : Nat), splice (l.map AV.d) j (l2.map AV.d) = (splice l j l2).map AV.d
  | [], _, _ => rfl
  | x :: r, l, j => by
    show splice ((l.map AV.d).set j (.d x)) (j + 1) (r.map AV.d) = _
    rw [← List.map_set, splice_d r]; rfl
/-- a part of a box of data is loaded: a struct -/
theorem part_agg {l l2 : List D} {c : List AV} {j s : Nat} {K : List AV → Prop} (hc : c = l.map AV.d) (h1 : j + s ≤ l.length) (h2 : (l.drop j).take s = l2) (k : K (l2.map AV.d)) :
    bif Nat.ble (j + s) c.length then forceL ((c.drop j).take s) K else False := by
  subst hc
  rw [List.length_map, Nat.ble_eq_true_of_le h1]
  show forceL _ K
  rw [← List.map_drop, ← List.map_take, forceL_d, h2]; exact k
/-- all of it -/
theorem part_all {l : List D} {c : List AV} {s : Nat} {K : List AV → Prop} (hc : c = l.map AV.d) (h1 : l.length = s) (k : K (l.map AV.d)) :
    bif Nat.ble (0 + s) c.length then forceL ((c.drop 0).take s) K else False :=
  part_agg hc (by omega) (by rw [List.drop_zero, ← h1, List.take_length]) k
/-- one cell -/
theorem part_one {l : List D} {c : List AV} {j : Nat} {K : AV → Prop} (x : D) (hc : c = l.map AV.d) (h : l[j]? = some x) (k : K (.d x)) : getC c j K := by
  subst hc
  unfold getC
  rw [List.getElem?_map, h]; exact k
/-- a struct of data is stored -/
theorem store_d {l l2 l3 : List D} {hp : Nat → Option Blk} {c : List AV} {kn : Bool} {a j s : Nat} {K : List AV → Prop} (hk : kn = true) (ha : (l2.map AV.d).length = a) (hs : l2.length = s) (hok : ∀ x ∈ l2, cell1.one x = true) (hc : c = l.map AV.d) (h1 : j + s ≤ l.length)
    (hlt : s < l.length ∨ c.length = s) (h3 : splice l j l2 = l3) (k : K (l3.map AV.d)) :
    bif kn && Nat.beq a s then (bif cells1 hp (l2.map AV.d) then (bif Nat.ble (j + s) c.length then storeK c j (.agg (l2.map AV.d)) K else False) else False) else False := by
  subst hc hk
  have e1 : a = s := by rw [← ha, List.length_map, hs]
  rw [e1, Nat.beq_refl, cells1_d hp l2 hok, List.length_map, Nat.ble_eq_true_of_le h1]
  show bif Nat.beq (l2.map AV.d).length (l.map AV.d).length then forceL (l2.map AV.d) K else K (splice (l.map AV.d) j (l2.map AV.d))
  rw [splice_d, h3]
  rw [List.length_map, List.length_map, hs]
  by_cases e : s = l.length
  · rw [e, Nat.beq_refl]
    show forceL _ K
    rw [forceL_d]
    have : l2 = l3 := by
      rw [← h3]
      exact (splice_all (by omega) (by omega)).symm
    rw [this]; exact k
  · rw [show Nat.beq s l.length = false from Bool.eq_false_iff.2 fun h => e (Nat.eq_of_beq_eq_true h)]
    exact k
/-- a struct of data is stored within a box of data -/
theorem store_at {l l2 l3 : List D} {c c2 : List AV} {j s : Nat} {K : List AV → Prop} (hc : c = l.map AV.d) (hc2 : c2 = l2.map AV.d) (h1 : j + s ≤ l.length) (hlt : s < l.length) (h2 : l2.length = s) (h3 : splice l j l2 = l3) (k : K (l3.map AV.d)) :
    bif Nat.ble (j + s) c.length then storeK c j (.agg c2) K else False := by
  subst hc hc2
  rw [List.length_map, Nat.ble_eq_true_of_le h1]
  show bif Nat.beq (l2.map AV.d).length (l.map AV.d).length then forceL (l2.map AV.d) K else K (splice (l.map AV.d) j (l2.map AV.d))
  rw [splice_d, h3, List.length_map, List.length_map, h2, show Nat.beq s l.length = false from Bool.eq_false_iff.2 fun h => absurd (Nat.eq_of_beq_eq_true h) (by omega)]
  exact k
/-- a struct of data takes a whole box -/
theorem store_all {l2 : List D} {hp : Nat → Option Blk} {c : List AV} {kn : Bool} {s : Nat} {K : List AV → Prop} (hk : kn = true) (hs : l2.length = s) (hok : ∀ x ∈ l2, cell1.one x = true) (hc : c.length = s) (k : K (l2.map AV.d)) :
    bif kn && Nat.beq (cellsOf (.agg (l2.map AV.d))).length s then (bif cells1 hp (cellsOf (.agg (l2.map AV.d))) then (bif Nat.ble (0 + s) c.length then storeK c 0 (.agg (l2.map AV.d)) K else False) else False) else False := by
  subst hk
  show bif true && Nat.beq (l2.map AV.d).length s then (bif cells1 hp (l2.map AV.d) then _ else False) else False
  rw [List.length_map, hs, Nat.beq_refl, cells1_d hp l2 hok, hc, Nat.ble_eq_true_of_le (by omega)]
  show bif Nat.beq (l2.map AV.d).length c.length then forceL (l2.map AV.d) K else K (splice c 0 (l2.map AV.d))
  rw [List.length_map, hs, hc, Nat.beq_refl]
  show forceL _ K
  rw [forceL_d]; exact k
/-- a struct of data is handed on -/
theorem convs_d {l : List D} {hp : Nat → Option Blk} {ρ : Operand → AV} {x : Operand} {r : List Operand} {K : List D → List Nat → Prop} (hx : ρ x = .agg (l.map AV.d)) (k : convsK hp ρ r fun ds ns => K (.agg l :: ds) ns) : convsK hp ρ (x :: r) K := by
  have e1 : conv hp (ρ x) = some (.agg l) := by
    rw [hx]
    show (conv.cells hp (l.map AV.d)).map D.agg = _
    rw [convC_d]; rfl
  have e2 : openNames hp (ρ x) = [] := by
    rw [hx]; exact openC_d hp l
  unfold convsK
  rw [e1, e2]
  exact k
/-- a struct of data is boxed -/
theorem box_d {l : List D} {hp : Nat → Option Blk} {b : Nat} {K : List AV → Prop} (hok : ∀ x ∈ l, cell1.one x = true) (k : K (l.map AV.d)) :
    bif cells1 hp (l.map AV.d) then forceL (killB.cells b (l.map AV.d)) K else False := by
  rw [cells1_d hp l hok, killC_d]
  show forceL _ K
  rw [forceL_d]; exact k
/-- one cell of data is stored -/
theorem store_one {l l3 : List D} {x : D} {c : List AV} {j : Nat} {K : List AV → Prop} (hc : c = l.map AV.d) (h1 : j < l.length) (h3 : l.set j x = l3) (k : K (l3.map AV.d)) :
    bif Nat.ble (j + 1) c.length then storeK c j (.d x) K else False := by
  subst hc
  rw [List.length_map, Nat.ble_eq_true_of_le (by omega)]
  show K (splice (l.map AV.d) j [.d x])
  have : splice (l.map AV.d) j [AV.d x] = l3.map AV.d := by
    rw [← h3, List.map_set]; rfl
  rw [this]; exact k
/-- 'true' is stored in one cell -/
theorem store_tt {c c' : List AV} {j : Nat} {K : List AV → Prop} (h1 : j < c.length) (h3 : c.set j .tt = c') (k : K c') :
    bif Nat.ble (j + 1) c.length then storeK c j .tt K else False := by
  rw [Nat.ble_eq_true_of_le (show j + 1 ≤ c.length by omega)]
  subst h3
  exact k
end Go.Lk

namespace Go.Lk
open Go Go.Proofs Go.RowKit

/-! ### the document's map as data -/
def pL (P : Nat → Pg) : List D := (List.range 17).flatMap fun q => encP (P q)
def wL (W : Nat → Int) : List D := (List.range 17).map fun q => D.int .i64 (W q)
def mL (P : Nat → Pg) (W : Nat → Int) (n : Nat) : List D := pL P ++ (wL W ++ [.int .i64 n])
theorem mL_len {P W n} : (mL P W n).length = 69 := rfl
theorem mL_ok {P W n} : ∀ x ∈ mL P W n, cell1.one x = true := List.all_eq_true.1 (show (mL P W n).all cell1.one = true from rfl)
theorem mL_n {P W n} : (mL P W n)[68]? = some (.int .i64 n) := rfl
theorem mL_w {P W n} {q : Nat} (h : q < 17) : (mL P W n)[51 + q]? = some (.int .i64 (W q)) := by
  rw [mL, List.getElem?_append_right (by show 51 ≤ _; omega), List.getElem?_append_left (by show _ - 51 < 17; omega)]
  show (wL W)[51 + q - 51]? = _
  rw [Nat.add_sub_cancel_left, wL, List.getElem?_map, List.getElem?_range h]; rfl
theorem mL_p {P W n} {q : Nat} (h : q < 17) : ((mL P W n).drop (q * 3)).take 3 = encP (P q) := by
  match q, h with
  | 0, _ => rfl
  | 1, _ => rfl
  | 2, _ => rfl
  | 3, _ => rfl
  | 4, _ => rfl
  | 5, _ => rfl
  | 6, _ => rfl
  | 7, _ => rfl
  | 8, _ => rfl
  | 9, _ => rfl
  | 10, _ => rfl
  | 11, _ => rfl
  | 12, _ => rfl
  | 13, _ => rfl
  | 14, _ => rfl
  | 15, _ => rfl
  | 16, _ => rfl
  | q + 17, h => exact absurd h (by omega)
theorem mL_setP {P W n} {q : Nat} (h : q < 17) (x : Pg) : splice (mL P W n) (q * 3) (encP x) = mL (ud P q x) W n := by
  match q, h with
  | 0, _ => rfl
  | 1, _ => rfl
  | 2, _ => rfl
  | 3, _ => rfl
  | 4, _ => rfl
  | 5, _ => rfl
  | 6, _ => rfl
  | 7, _ => rfl
  | 8, _ => rfl
  | 9, _ => rfl
  | 10, _ => rfl
  | 11, _ => rfl
  | 12, _ => rfl
  | 13, _ => rfl
  | 14, _ => rfl
  | 15, _ => rfl
  | 16, _ => rfl
  | q + 17, h => exact absurd h (by omega)
theorem mL_setW {P W n} {q : Nat} (h : q < 17) (x : Int) : (mL P W n).set (51 + q) (.int .i64 x) = mL P (ud W q x) n := by
  match q, h with
  | 0, _ => rfl
  | 1, _ => rfl
  | 2, _ => rfl
  | 3, _ => rfl
  | 4, _ => rfl
  | 5, _ => rfl
  | 6, _ => rfl
  | 7, _ => rfl
  | 8, _ => rfl
  | 9, _ => rfl
  | 10, _ => rfl
  | 11, _ => rfl
  | 12, _ => rfl
  | 13, _ => rfl
  | 14, _ => rfl
  | 15, _ => rfl
  | 16, _ => rfl
  | q + 17, h => exact absurd h (by omega)
theorem szs : (T 3).size = 1 ∧ (T 42).size = 3 := ⟨rfl, rfl⟩
theorem bn_at {W : Nat → Int} {k : Nat} : bn W (k + 1) = bn W k + (if 0 < W (k + 1) then 1 else 0) := rfl
theorem bn_le {W : Nat → Int} : ∀ k, bn W k ≤ k
  | 0 => Nat.le_refl 0
  | k + 1 => by
    have := bn_le (W := W) k
    rw [bn_at]; split <;> omega
theorem busy_ok (P : Nat → Pg) (W : Nat → Int) (n q : Nat) (hq : q < 17) : ACall Tryz.prog 89 [.agg (mL P W n), .int .i64 q] (.bool (decide (W q = 0) && decide (bn W 16 = n))) := by
  obtain ⟨l, hl⟩ : ∃ l, mL P W n = l := ⟨_, rfl⟩
  have hlen : l.length = 69 := by rw [← hl]; exact mL_len
  have hok : ∀ x ∈ l, cell1.one x = true := by rw [← hl]; exact mL_ok
  have hn : l[68]? = some (.int .i64 n) := by rw [← hl]; exact mL_n
  have hw : ∀ {q : Nat}, q < 17 → l[51 + q]? = some (.int .i64 (W q)) := by rw [← hl]; exact fun h => mL_w h
  have hw' : ∀ {j q : Nat}, j = 51 + q → q < 17 → l[j]? = some (.int .i64 (W q)) := fun e h => by rw [e]; exact hw h
  rw [hl]
  refine acall_of Tryz.func89 2 rfl (by kernel_rfl) ?_
  conv => whnf
  refine box_d hok ?_
  conv => whnf
  repeat ((first | refine bF ?_ | refine bT ?_ | refine dK (by kernel_rfl) ?_ | refine cK rfl ?_ | refine cK (by first | decide | omega) ?_ | refine wK (by omega) (by omega) ?_); conv => whnf)
  refine aloop (ι := Nat) (fun k => [(1, .d (.int .i64 q)), (2, .ptr 2 0 0), (5, .d (.int .i64 (bn W k))), (6, .d (.int .i64 ((k : Int) + 1)))]) (fun _ => [(2, .box (l.map AV.d) false)])
    (fun k => k ≤ 16) (fun k => 16 - k) 0 (by omega) (le0 (le_of_cov ⟨rfl, rfl, rfl, rfl, trivial⟩ ⟨rfl, trivial⟩ ⟨rfl, rfl, rfl, rfl⟩)) ?_
  intro k hk
  have hb := bn_le (W := W) k
  conv => whnf
  refine bcase_p (fun h5 => ?_) (fun h5 => ?_) <;> conv => whnf
  · repeat ((first | refine bF ?_ | refine bT ?_ | refine dK (by kernel_rfl) ?_ | refine cK rfl ?_ | refine cK (by first | decide | omega) ?_ | refine wK (by omega) (by omega) ?_); conv => whnf)
    rw [show (k : Int) + 1 = (k + 1 : Nat) by omega]
    refine idxK_nat (by omega) ?_
    conv => whnf
    try (refine condK_of rfl ?_)
    refine (part_one (l := l) (.int .i64 (W (k + 1))) (by first | rfl | simp only [killC_d]) (hw' (by simp only [szs]; omega) (by omega)) ?_)
    conv => whnf
    repeat ((first | refine bF ?_ | refine bT ?_ | refine dK (by kernel_rfl) ?_ | refine cK rfl ?_ | refine cK (by first | decide | omega) ?_ | refine wK (by omega) (by omega) ?_); conv => whnf)
    refine bcase_p (fun h6 => ?_) (fun h6 => ?_) <;> conv => whnf
    · repeat ((first | refine bF ?_ | refine bT ?_ | refine dK (by kernel_rfl) ?_ | refine cK rfl ?_ | refine cK (by first | decide | omega) ?_ | refine wK (by omega) (by omega) ?_); conv => whnf)
      refine ⟨k + 1, by omega, by omega, le0 (le_of_cov ⟨rfl, rfl, by rw [bn_at, if_pos h6]; rfl, by rw [← Int.natCast_succ]; rfl, trivial⟩ ⟨rfl, trivial⟩ ⟨rfl, rfl, rfl, rfl⟩)⟩
    · repeat ((first | refine bF ?_ | refine bT ?_ | refine dK (by kernel_rfl) ?_ | refine cK rfl ?_ | refine cK (by first | decide | omega) ?_ | refine wK (by omega) (by omega) ?_); conv => whnf)
      refine ⟨k + 1, by omega, by omega, le0 (le_of_cov ⟨rfl, rfl, by rw [bn_at, if_neg h6]; rfl, by rw [← Int.natCast_succ]; rfl, trivial⟩ ⟨rfl, trivial⟩ ⟨rfl, rfl, rfl, rfl⟩)⟩
  · repeat ((first | refine bF ?_ | refine bT ?_ | refine dK (by kernel_rfl) ?_ | refine cK rfl ?_ | refine cK (by first | decide | omega) ?_ | refine wK (by omega) (by omega) ?_); conv => whnf)
    have ek : k = 16 := by omega
    subst ek
    refine idxK_nat (by omega) ?_
    conv => whnf
    try (refine condK_of rfl ?_)
    refine (part_one (l := l) (.int .i64 (W q)) (by first | rfl | simp only [killC_d]) (hw' (by simp only [szs]; omega) hq) ?_)
    conv => whnf
    repeat ((first | refine bF ?_ | refine bT ?_ | refine dK (by kernel_rfl) ?_ | refine cK rfl ?_ | refine cK (by first | decide | omega) ?_ | refine wK (by omega) (by omega) ?_); conv => whnf)
    refine bcase_p (fun h6 => ?_) (fun h6 => ?_) <;> conv => whnf
    · try (refine condK_of rfl ?_)
      refine (part_one (l := l) (.int .i64 n) (by first | rfl | simp only [killC_d]) ((by rw [← hn])) ?_)
      conv => whnf
      repeat ((first | refine bF ?_ | refine bT ?_ | refine dK (by kernel_rfl) ?_ | refine cK rfl ?_ | refine cK (by first | decide | omega) ?_ | refine wK (by omega) (by omega) ?_); conv => whnf)
      exact ret_of rfl (congrArg D.bool (by rw [h6]; simp; omega))
    · repeat ((first | refine bF ?_ | refine bT ?_ | refine dK (by kernel_rfl) ?_ | refine cK rfl ?_ | refine cK (by first | decide | omega) ?_ | refine wK (by omega) (by omega) ?_); conv => whnf)
      exact ret_of rfl (congrArg D.bool (by simp [h6]))
end Go.Lk

namespace Go.Lk
open Go Go.Proofs Go.RowKit

/-- a list that stands for the map: what is needed of it -/
structure ML (l : List D) (P : Nat → Pg) (W : Nat → Int) (n : Nat) : Prop where
  eq : mL P W n = l
  len : l.length = 69
  ok : ∀ x ∈ l, cell1.one x = true
  n_ : l[68]? = some (.int .i64 n)
  w : ∀ {j q : Nat}, j = 51 + q → q < 17 → l[j]? = some (.int .i64 (W q))
  p : ∀ {j q : Nat}, j = q * 3 → q < 17 → (l.drop j).take 3 = encP (P q)
theorem ML.of (P : Nat → Pg) (W : Nat → Int) (n : Nat) : ML (mL P W n) P W n := ⟨rfl, mL_len, mL_ok, mL_n, fun e h => by rw [e]; exact mL_w h, fun e h => by rw [e]; exact mL_p h⟩
theorem ML.ex (P : Nat → Pg) (W : Nat → Int) (n : Nat) : ∃ l, mL P W n = l ∧ ML l P W n := ⟨_, rfl, ML.of P W n⟩
theorem ML.setP {P W n} {j q : Nat} (e : j = q * 3) (h : q < 17) (x : Pg) : splice (mL P W n) j (encP x) = mL (ud P q x) W n := by rw [e]; exact mL_setP h x
theorem ML.setW {P W n} {j q : Nat} (e : j = 51 + q) (h : q < 17) (x : Int) : (mL P W n).set j (.int .i64 x) = mL P (ud W q x) n := by rw [e]; exact mL_setW h x
set_option maxRecDepth 100000 in
theorem there_ok (P : Nat → Pg) (W : Nat → Int) (n q : Nat) (k : Int) (hq : q < 17) (hW : W q < 9223372036854775807) (hW0 : 0 ≤ W q) (hk : k = 1 ∨ k = 2) : ACall Tryz.prog 47 [.agg (mL P W n), .int .i64 k, .int .i64 q]
    (.tup [.agg (mL (thereM P W n k q).1 (thereM P W n k q).2.1 n), .agg (encP (thereM P W n k q).2.2.1), .int .i64 (thereM P W n k q).2.2.2]) := by
  have hM := ML.of P W n
  have hlen : (mL P W n).length = 69 := rfl
  have hbusy := busy_ok P W n q hq
  rcases hk with rfl | rfl
  · refine acall_of Tryz.func47 3 rfl (by kernel_rfl) ?_
    conv => whnf
    repeat ((first | refine bF ?_ | refine bT ?_ | refine dK (by kernel_rfl) ?_ | refine cK rfl ?_ | refine cK (by first | decide | omega) ?_ | refine wK (by omega) (by omega) ?_); conv => whnf)
    refine idxK_nat (by omega) ?_
    conv => whnf
    try (refine condK_of rfl ?_)
    refine (part_agg (l := mL P W n) (l2 := encP (P q)) (by first | rfl | simp only [killC_d]) (by first | omega | (simp only [szs]; omega)) (hM.p (by simp only [szs]; omega) hq) ?_)
    conv => whnf
    repeat ((first | refine bF ?_ | refine bT ?_ | refine dK (by kernel_rfl) ?_ | refine cK rfl ?_ | refine cK (by first | decide | omega) ?_ | refine wK (by omega) (by omega) ?_); conv => whnf)
    refine bcase_p (fun h2 => ?_) (fun h2 => ?_) <;> conv => whnf
    · repeat ((first | refine bF ?_ | refine bT ?_ | refine dK (by kernel_rfl) ?_ | refine cK rfl ?_ | refine cK (by first | decide | omega) ?_ | refine wK (by omega) (by omega) ?_); conv => whnf)
      rw [thereM, if_pos ⟨rfl, h2⟩]
      exact ret_of rfl rfl
    repeat ((first | refine bF ?_ | refine bT ?_ | refine dK (by kernel_rfl) ?_ | refine cK rfl ?_ | refine cK (by first | decide | omega) ?_ | refine wK (by omega) (by omega) ?_); conv => whnf)
    refine callX_pure hbusy ?_
    conv => whnf
    repeat ((first | refine bF ?_ | refine bT ?_ | refine dK (by kernel_rfl) ?_ | refine cK rfl ?_ | refine cK (by first | decide | omega) ?_ | refine wK (by omega) (by omega) ?_); conv => whnf)
    refine bcase_intro (fun h3 => ?_) (fun h3 => ?_) <;> conv => whnf
    · repeat ((first | refine bF ?_ | refine bT ?_ | refine dK (by kernel_rfl) ?_ | refine cK rfl ?_ | refine cK (by first | decide | omega) ?_ | refine wK (by omega) (by omega) ?_); conv => whnf)
      rw [thereM, if_neg (fun g => h2 g.2), if_neg (fun g => absurd g.1 (by decide)), if_pos (by simpa using h3)]
      exact ret_of rfl rfl
    repeat ((first | refine bF ?_ | refine bT ?_ | refine dK (by kernel_rfl) ?_ | refine cK rfl ?_ | refine cK (by first | decide | omega) ?_ | refine wK (by omega) (by omega) ?_); conv => whnf)
    refine idxK_nat (by omega) ?_
    conv => whnf
    repeat ((first | refine bF ?_ | refine bT ?_ | refine dK (by kernel_rfl) ?_ | refine cK rfl ?_ | refine cK (by first | decide | omega) ?_ | refine wK (by omega) (by omega) ?_); conv => whnf)
    try (refine condK_of rfl ?_)
    refine (store_at (l := mL P W n) (l2 := encP (P q)) (l3 := mL (ud P q (P q)) W n) (by first | rfl | simp only [killC_d]) rfl (by first | omega | (simp only [szs]; omega)) (by first | omega | (simp only [szs]; omega)) rfl (ML.setP (by simp only [szs]; omega) hq _) ?_)
    conv => whnf
    repeat ((first | refine bF ?_ | refine bT ?_ | refine dK (by kernel_rfl) ?_ | refine cK rfl ?_ | refine cK (by first | decide | omega) ?_ | refine wK (by omega) (by omega) ?_); conv => whnf)
    refine idxK_nat (by omega) ?_
    conv => whnf
    have hM2 := ML.of (ud P q (P q)) W n
    have hlen2 : (mL (ud P q (P q)) W n).length = 69 := rfl
    try (refine condK_of rfl ?_)
    refine (part_one (l := mL (ud P q (P q)) W n) (.int .i64 (W q)) (by first | rfl | simp only [killC_d]) (hM2.w (by simp only [szs]; omega) hq) ?_)
    conv => whnf
    repeat ((first | refine bF ?_ | refine bT ?_ | refine dK (by kernel_rfl) ?_ | refine cK rfl ?_ | refine cK (by first | decide | omega) ?_ | refine wK (by omega) (by omega) ?_); conv => whnf)
    refine idxK_nat (by omega) ?_
    conv => whnf
    repeat ((first | refine bF ?_ | refine bT ?_ | refine dK (by kernel_rfl) ?_ | refine cK rfl ?_ | refine cK (by first | decide | omega) ?_ | refine wK (by omega) (by omega) ?_); conv => whnf)
    try (refine condK_of rfl ?_)
    refine (store_one (l := mL (ud P q (P q)) W n) (l3 := mL (ud P q (P q)) (ud W q (W q + 1)) n) (by first | rfl | simp only [killC_d]) (by first | omega | (simp only [szs]; omega)) (ML.setW (by simp only [szs]; omega) hq _) ?_)
    conv => whnf
    repeat ((first | refine bF ?_ | refine bT ?_ | refine dK (by kernel_rfl) ?_ | refine cK rfl ?_ | refine cK (by first | decide | omega) ?_ | refine wK (by omega) (by omega) ?_); conv => whnf)
    rw [thereM, if_neg (fun g => h2 g.2), if_neg (fun g => absurd g.1 (by decide)), if_neg (by simpa using h3), if_neg (by decide)]
    exact ret_of rfl rfl
  refine acall_of Tryz.func47 3 rfl (by kernel_rfl) ?_
  conv => whnf
  repeat ((first | refine bF ?_ | refine bT ?_ | refine dK (by kernel_rfl) ?_ | refine cK rfl ?_ | refine cK (by first | decide | omega) ?_ | refine wK (by omega) (by omega) ?_); conv => whnf)
  refine idxK_nat (by omega) ?_
  conv => whnf
  try (refine condK_of rfl ?_)
  refine (part_agg (l := mL P W n) (l2 := encP (P q)) (by first | rfl | simp only [killC_d]) (by first | omega | (simp only [szs]; omega)) (hM.p (by simp only [szs]; omega) hq) ?_)
  conv => whnf
  repeat ((first | refine bF ?_ | refine bT ?_ | refine dK (by kernel_rfl) ?_ | refine cK rfl ?_ | refine cK (by first | decide | omega) ?_ | refine wK (by omega) (by omega) ?_); conv => whnf)
  refine bcase_n (fun h2 => ?_) (fun h2 => ?_) <;> conv => whnf
  · repeat ((first | refine bF ?_ | refine bT ?_ | refine dK (by kernel_rfl) ?_ | refine cK rfl ?_ | refine cK (by first | decide | omega) ?_ | refine wK (by omega) (by omega) ?_); conv => whnf)
    rw [thereM, if_neg (fun g => absurd g.1 (by decide)), if_pos ⟨rfl, h2⟩]
    exact ret_of rfl rfl
  repeat ((first | refine bF ?_ | refine bT ?_ | refine dK (by kernel_rfl) ?_ | refine cK rfl ?_ | refine cK (by first | decide | omega) ?_ | refine wK (by omega) (by omega) ?_); conv => whnf)
  refine callX_pure hbusy ?_
  conv => whnf
  repeat ((first | refine bF ?_ | refine bT ?_ | refine dK (by kernel_rfl) ?_ | refine cK rfl ?_ | refine cK (by first | decide | omega) ?_ | refine wK (by omega) (by omega) ?_); conv => whnf)
  refine bcase_intro (fun h3 => ?_) (fun h3 => ?_) <;> conv => whnf
  · repeat ((first | refine bF ?_ | refine bT ?_ | refine dK (by kernel_rfl) ?_ | refine cK rfl ?_ | refine cK (by first | decide | omega) ?_ | refine wK (by omega) (by omega) ?_); conv => whnf)
    rw [thereM, if_neg (fun g => absurd g.1 (by decide)), if_neg (fun g => g.2 h2), if_pos (by simpa using h3)]
    exact ret_of rfl rfl
  repeat ((first | refine bF ?_ | refine bT ?_ | refine dK (by kernel_rfl) ?_ | refine cK rfl ?_ | refine cK (by first | decide | omega) ?_ | refine wK (by omega) (by omega) ?_); conv => whnf)
  refine idxK_nat (by omega) ?_
  conv => whnf
  repeat ((first | refine bF ?_ | refine bT ?_ | refine dK (by kernel_rfl) ?_ | refine cK rfl ?_ | refine cK (by first | decide | omega) ?_ | refine wK (by omega) (by omega) ?_); conv => whnf)
  try (refine condK_of rfl ?_)
  refine (store_at (l := mL P W n) (l2 := encP (newP q)) (l3 := mL (ud P q (newP q)) W n) (by first | rfl | simp only [killC_d]) rfl (by first | omega | (simp only [szs]; omega)) (by first | omega | (simp only [szs]; omega)) rfl (ML.setP (by simp only [szs]; omega) hq _) ?_)
  conv => whnf
  repeat ((first | refine bF ?_ | refine bT ?_ | refine dK (by kernel_rfl) ?_ | refine cK rfl ?_ | refine cK (by first | decide | omega) ?_ | refine wK (by omega) (by omega) ?_); conv => whnf)
  refine idxK_nat (by omega) ?_
  conv => whnf
  have hM2 := ML.of (ud P q (newP q)) W n
  have hlen2 : (mL (ud P q (newP q)) W n).length = 69 := rfl
  try (refine condK_of rfl ?_)
  refine (part_one (l := mL (ud P q (newP q)) W n) (.int .i64 (W q)) (by first | rfl | simp only [killC_d]) (hM2.w (by simp only [szs]; omega) hq) ?_)
  conv => whnf
  repeat ((first | refine bF ?_ | refine bT ?_ | refine dK (by kernel_rfl) ?_ | refine cK rfl ?_ | refine cK (by first | decide | omega) ?_ | refine wK (by omega) (by omega) ?_); conv => whnf)
  refine idxK_nat (by omega) ?_
  conv => whnf
  repeat ((first | refine bF ?_ | refine bT ?_ | refine dK (by kernel_rfl) ?_ | refine cK rfl ?_ | refine cK (by first | decide | omega) ?_ | refine wK (by omega) (by omega) ?_); conv => whnf)
  try (refine condK_of rfl ?_)
  refine (store_one (l := mL (ud P q (newP q)) W n) (l3 := mL (ud P q (newP q)) (ud W q (W q + 1)) n) (by first | rfl | simp only [killC_d]) (by first | omega | (simp only [szs]; omega)) (ML.setW (by simp only [szs]; omega) hq _) ?_)
  conv => whnf
  repeat ((first | refine bF ?_ | refine bT ?_ | refine dK (by kernel_rfl) ?_ | refine cK rfl ?_ | refine cK (by first | decide | omega) ?_ | refine wK (by omega) (by omega) ?_); conv => whnf)
  rw [thereM, if_neg (fun g => absurd g.1 (by decide)), if_neg (fun g => g.2 h2), if_neg (by simpa using h3), if_pos rfl]
  exact ret_of rfl rfl
end Go.Lk


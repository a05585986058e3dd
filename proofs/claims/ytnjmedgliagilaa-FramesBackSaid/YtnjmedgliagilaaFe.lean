/-
  What is proved here: appends, closures, calls: the abstract operations are the machine's; no condition beyond each theorem's own.
-/
import Derived.Test.YtnjmedgliagilaaFd
set_option linter.unusedSectionVars false
set_option linter.unusedSimpArgs false
set_option linter.unusedVariables false
set_option linter.unnecessarySimpa false
namespace Go.Lk
open Go Go.RowKit

theorem growBy_le (newLen : Nat) : ∀ (r c : Nat), c ≤ newLen → Builtin.growBy newLen r c ≤ 2 * newLen + 192
  | 0, c, h => by simp [Builtin.growBy]; omega
  | r + 1, c, h => by
    simp only [Builtin.growBy]
    split
    · omega
    · by_cases h2 : c + (c + 768) / 4 ≤ newLen
      · exact growBy_le newLen r _ h2
      · have hst : ∀ (r c : Nat), newLen ≤ c → Builtin.growBy newLen r c = c := by
          intro r c hc
          cases r with
          | zero => rfl
          | succ r => simp [Builtin.growBy, hc]
        rw [hst _ _ (by omega)]; omega

theorem nextcap_le {need old : Nat} (h : old < need) : Builtin.nextslicecap need old ≤ 2 * need + 192 := by
  unfold Builtin.nextslicecap
  split
  · omega
  · split
    · omega
    · exact growBy_le _ _ _ (by omega)

section
variable {P : Program} {T : Tab} (hT : TabOk P T)
include hT

/-- an append that stays where it is -/
theorem append_fits {t t2 e e2 ty : TypeId} (hk : (T t).k = .slice e) (hk2 : (T t2).k = .slice e2) {w w' : World} {base : Option Addr} {sLen sCap n c : Nat} {a : Option Addr} {vs : Array Value}
    (hn : sLen + n ≤ sCap) (hf : (Builtin.firstCells (T e).size n (.slice a n c)).run P w = .ok vs w)
    (hst : match base with | none => w' = w | some b => (storeCells (b.add (sLen * (T e).size)) vs.toList).run P w = .ok () w') :
    (Builtin.append_ #[t, t2] ty #[.slice base sLen sCap, .slice a n c]).run P w = .ok (.slice base (sLen + n) sCap) w' := by
  obtain ⟨hu, hke⟩ := und_slice hT hk
  obtain ⟨hu2, _⟩ := und_slice hT hk2
  have e1 : (#[t, t2] : Array TypeId)[1]? = some t2 := rfl
  cases base with
  | none =>
    subst hst
    simp [Builtin.append_, run_underlying hu, run_underlying hu2, run_sizeT hT, hke, Builtin.lenOf, hn, hf]
  | some b =>
    simp [Builtin.append_, run_underlying hu, run_underlying hu2, run_sizeT hT, hke, Builtin.lenOf, hn, hf, hst]

/-- an append that makes a new array -/
theorem append_grows {t t2 e e2 ty : TypeId} (hk : (T t).k = .slice e) (hk2 : (T t2).k = .slice e2) {w : World} {base : Option Addr} {sLen sCap n c : Nat} {a : Option Addr} {vs old : Array Value}
    (hn : sCap < sLen + n) (hroom : (sLen + n) * (T e).bytes ≤ 35184372088832) (hroom1 : sLen + n ≤ 35184372088832)
    (hf : ∀ w' : World, (∀ x, (w.cell? x).isSome → w'.cell? x = w.cell? x) → (Builtin.firstCells (T e).size n (.slice a n c)).run P w' = .ok vs w')
    (ho : ∀ w' : World, (∀ x, (w.cell? x).isSome → w'.cell? x = w.cell? x) → (Builtin.firstCells (T e).size sLen (.slice base sLen sCap)).run P w' = .ok old w') :
    ∃ (newCap : Nat) (z : Value), sLen + n ≤ newCap ∧ z.cells.size = (T e).size ∧ (Builtin.append_ #[t, t2] ty #[.slice base sLen sCap, .slice a n c]).run P w =
      .ok (.slice (some ⟨w.heap.size, 0, none⟩) (sLen + n) newCap) (w.drew.alloc (.cells (old ++ vs ++ Builtin.zeroCells z.cells (newCap - (sLen + n))) e)) := by
  obtain ⟨hu, hke⟩ := und_slice hT hk
  obtain ⟨hu2, _⟩ := und_slice hT hk2
  obtain ⟨_, ie, _, hie, _, hs, hb, ⟨z, hz, hzc⟩, _, hbm, hzl, _⟩ := (tyFact hT hke).desc
  have hzs : z.cells.size = (T e).size := by
    obtain ⟨z1, _⟩ := zeroChk_get hzc
    rw [← hzl, ← z1]; simp
  have h1 : ¬ (sLen + n ≤ sCap) := by omega
  have hcap := nextcap_le hn
  have h2 : ¬ (Builtin.nextslicecap (sLen + n) sCap * ie.bytes > 2 ^ 48) := by
    rw [hb]
    have hm : Builtin.nextslicecap (sLen + n) sCap * (T e).bytes ≤ (2 * (sLen + n) + 192) * (T e).bytes := Nat.mul_le_mul_right _ hcap
    have : (2 * (sLen + n) + 192) * (T e).bytes = 2 * ((sLen + n) * (T e).bytes) + 192 * (T e).bytes := by rw [Nat.add_mul, Nat.mul_assoc]
    have h48 : (2 : Nat) ^ 48 = 281474976710656 := by decide
    rw [h48]
    omega
  have h3 : ¬ (((sLen + n : Nat) : Int) > IntKind.i64.max) := by
    have : IntKind.i64.max = 9223372036854775807 := by decide
    rw [this]; omega
  have hd : ∀ x, (w.cell? x).isSome → w.drew.cell? x = w.cell? x := fun x _ => rfl
  refine ⟨sLen + n + w.tape w.drawn (.appendCap (sLen + n) sCap e) % (2 ^ 63 - (sLen + n)), z, by omega, hzs, ?_⟩
  have hf' := hf w.drew hd
  have ho' := ho w.drew hd
  have hch : (choose (.appendCap (sLen + n) sCap e)).run P w = .ok (sLen + n + w.tape w.drawn (.appendCap (sLen + n) sCap e) % (2 ^ 63 - (sLen + n))) w.drew := by
    simp [run_choose, Question.forced, Question.cut]
  have h3' : ¬ (9223372036854775807 < (sLen : Int) + (n : Int) ∧ ie.bytes = 0) := by
    rintro ⟨h, _⟩
    omega
  have hzr : (zeroValue e).run P w.drew = .ok z w.drew := by simp [zeroValue, typeInfo, hie, hz]
  simp [Builtin.append_, run_underlying hu, run_underlying hu2, run_sizeT hT, hke, Builtin.lenOf, h1, typeInfo, hie, h3', h2, Question.forced, Question.cut, ho', hf', hzr, newRow]
end
end Go.Lk

set_option linter.unusedSimpArgs false
set_option linter.unusedVariables false
set_option linter.unnecessarySimpa false
namespace Go.Lk
open Go Go.RowKit

section
variable {P : Program} {T : Tab} (hT : TabOk P T)
include hT

/-- what an append that grows leaves -/
theorem grown_post {own : Nat → Prop} {M : Mem} {ι : Inj} {hp : Nat → Option Blk} {w : World} (ho : ∀ c, w.heap.size ≤ c → own c) (ha : Agree M w) (hh : HRel own M ι hp w) {x : Nat} {l r : List (List D)} {sz : Nat} {old vs rest : Array Value} {Ty : TypeId} {cap : Nat}
    (h1 : RowAt M old l sz) (s1 : old.size = l.length * sz) (h2 : RowAt M vs r sz) (s2 : vs.size = r.length * sz) (hcap : l.length + r.length ≤ cap) (s3 : rest.size = (cap - (l.length + r.length)) * sz) :
    Post own M ι hp w ⟨.own x, [(x, .row (l ++ r) sz false)], some x⟩ (.slice (some ⟨w.heap.size, 0, none⟩) (l.length + r.length) cap) (w.drew.alloc (.cells (old ++ vs ++ rest) Ty)) := by
  have hrow : RowAt M (old ++ vs ++ rest) (l ++ r) sz := by
    refine row_append h1 h2 (fun k hk => ?_) fun k hk => ?_
    · rw [Array.getElem?_append_left (by simp; omega), Array.getElem?_append_left (by omega)]
    · rw [Array.getElem?_append_left (by simp; omega), Array.getElem?_append_right (by omega)]
      congr 1; omega
  have hsize : (old ++ vs ++ rest).size = cap * sz := by
    simp only [Array.size_append, s1, s2, s3, ← Nat.add_mul]
    congr 1; omega
  have hha : HRel own M ι hp w.drew := hh.keep (.refl M) fun b' L' hL' => ⟨rfl, hh.closed hL'⟩
  refine post_new (w := w) (w0 := w.drew) ho (.refl M) (.refl _ _) ha hha rfl rfl rfl rfl (e := ⟨.own x, [(x, .row (l ++ r) sz false)], some x⟩) (d := x) (B := .row (l ++ r) sz false) (sz := sz) (len := l.length + r.length) rfl rfl ?_ ?_
  · refine ⟨_, Ty, heap_alloc_size w.drew _, rfl, rfl, by simp, ?_, hrow, (by intro e; cases e), fun _ o => agree_new ha o⟩
    rw [hsize]
    simp only [List.length_append]
    exact Nat.mul_le_mul_right _ hcap
  · exact .own x ⟨w.heap.size, sz, (old ++ vs ++ rest).size, l.length + r.length⟩ cap (upd_same _ _ _) hcap (by rw [hsize]; exact Nat.le_refl _)

theorem append_nil_sem {t t2 e e2 ty : TypeId} (hk : (T t).k = .slice e) (hk2 : (T t2).k = .slice e2) {own : Nat → Prop} {M : Mem} {ι : Inj} {hp : Nat → Option Blk} {w : World} (ho : ∀ c, w.heap.size ≤ c → own c) (ha : Agree M w) (hh : HRel own M ι hp w)
    {x : Nat} {base : Option Addr} {r : List (List D)} {a : Option Addr} {c : Nat} {vs : Array Value} (hs : SrcAt P M w (.slice a r.length c) r (T e).size vs) (r1 : r.length * (T e).bytes ≤ 35184372088832) (r2 : r.length ≤ 35184372088832) :
    ∃ v w', (Builtin.append_ #[t, t2] ty #[.slice base 0 0, .slice a r.length c]).run P w = .ok v w' ∧ Post own M ι hp w ⟨.own x, [(x, .row r (T e).size false)], some x⟩ v w' := by
  by_cases hr : r = []
  · subst hr
    have hvs : vs = #[] := by
      have := hs.size
      simpa using this
    subst hvs
    refine ⟨.slice base 0 0, w, ?_, M, upd ι x (some none), .refl _ _, .refl M, ha, .refl _ _, hh.virtual x _ _, fun b hb => upd_other _ _ fun e => Kp_ne hb e, .ownE x base (upd_same _ _ _)⟩
    have := append_fits hT (ty := ty) hk hk2 (w := w) (w' := w) (base := base) (sLen := 0) (sCap := 0) (n := 0) (c := c) (a := a) (vs := #[]) (Nat.le_refl _) (hs.run w fun _ _ => rfl) (by
      cases base with
      | none => rfl
      | some b => simp [storeCells])
    simpa using this
  · have hpos : 0 < r.length := List.length_pos_iff.2 hr
    have hold : ∀ w' : World, (∀ x, (w.cell? x).isSome → w'.cell? x = w.cell? x) → (Builtin.firstCells (T e).size 0 (.slice base 0 0)).run P w' = .ok #[] w' := fun w' hw' =>
      (src_empty (P := P) (M := M) (w := w) (sz := (T e).size) base 0).run w' hw'
    obtain ⟨newCap, z, g1, g2, g3⟩ := append_grows hT (ty := ty) hk hk2 (w := w) (base := base) (sLen := 0) (sCap := 0) (n := r.length) (c := c) (a := a) (by omega) (by simpa using r1) (by omega) hs.run hold
    refine ⟨_, _, g3, ?_⟩
    have := grown_post hT (x := x) (Ty := e) (l := []) (r := r) (sz := (T e).size) (old := #[]) (vs := vs) (rest := Builtin.zeroCells z.cells (newCap - (0 + r.length))) (cap := newCap) ho ha hh
      ⟨fun i e h => by simp at h, fun i j e d h => by simp at h⟩ (by simp) hs.row hs.size (by simpa using g1) (by simp [Builtin.zeroCells, g2])
    simpa using this

theorem append_own_sem {t t2 e e2 ty : TypeId} (hk : (T t).k = .slice e) (hk2 : (T t2).k = .slice e2) {own : Nat → Prop} {M : Mem} {ι : Inj} {hp : Nat → Option Blk} {w : World} (ho : ∀ c, w.heap.size ≤ c → own c) (ha : Agree M w) (hh : HRel own M ι hp w)
    {x : Nat} {l r : List (List D)} (hb : hp x = some (.row l (T e).size false)) {s : Value} (hd : DenA M ι (.own x) s) {a : Option Addr} {c : Nat} {vs : Array Value} (hs : SrcAt P M w (.slice a r.length c) r (T e).size vs) (hone : ∀ v ∈ vs.toList, v.oneCell' = true)
    (r1 : (l.length + r.length) * (T e).bytes ≤ 35184372088832) (r2 : l.length + r.length ≤ 35184372088832) :
    ∃ v w', (Builtin.append_ #[t, t2] ty #[s, .slice a r.length c]).run P w = .ok v w' ∧ Post own M ι hp w ⟨.own x, [(x, .row (l ++ r) (T e).size false)], some x⟩ v w' := by
  cases hd with
  | ownL _ _ hL => rw [(hh.dom x).2 hL] at hb; cases hb
  | ownE _ a0 hL =>
    obtain ⟨sz2, fr2, e0⟩ := hh.virt x hL
    rw [hb] at e0; cases e0
    exact append_nil_sem hT hk hk2 ho ha hh hs (by simpa using r1) (by simpa using r2)
  | own _ L cap hL hn hc =>
    obtain ⟨hown1, cs, Ty, hheap, hsz, q1, q2, q3, q4, q5⟩ := hh.at_ x _ L hb hL
    have hcl := hh.closed hL _ hb rfl
    rw [← q1] at hc
    by_cases hfit : l.length + r.length ≤ cap
    · have hbnd : l.length * (T e).size + vs.toList.length ≤ cs.size := by
        have : vs.toList.length = r.length * (T e).size := by simpa using hs.size
        rw [this, ← Nat.add_mul, hsz]
        exact Nat.le_trans (Nat.mul_le_mul_right _ hfit) hc
      obtain ⟨cs', g1, g2, g3, g4, g5, g6, g7⟩ := write_cells (P := P) (own := own) ha hown1 hcl hheap vs.toList (l.length * (T e).size) hbnd hone
      have hvl : vs.toList.length = r.length * (T e).size := by simpa using hs.size
      refine ⟨.slice (some ⟨L.blk, 0, none⟩) (l.length + r.length) cap, w.setRow L.blk cs', ?_, M, upd ι x (some (some ⟨L.blk, (T e).size, cs'.size, l.length + r.length⟩)), g3, .refl M, g2, .refl _ _, ?_, fun b hb => upd_other _ _ fun e => Kp_ne hb e,
        .own x ⟨L.blk, (T e).size, cs'.size, l.length + r.length⟩ cap (upd_same _ _ _) hfit (by show cap * (T e).size ≤ cs'.size; rw [g5, hsz]; exact hc)⟩
      · rw [← q2]
        exact append_fits hT (ty := ty) hk hk2 (w := w) (w' := w.setRow L.blk cs') (base := some ⟨L.blk, 0, none⟩) (sLen := l.length) (sCap := cap) (n := r.length) (c := c) (a := a) (vs := vs) hfit (hs.run w fun _ _ => rfl) (by
          show (storeCells ((⟨L.blk, 0, none⟩ : Addr).add (l.length * (T e).size)) vs.toList).run P w = .ok () (w.setRow L.blk cs')
          rw [addr_add, Nat.zero_add]; exact g1)
      · refine hh.new x _ ⟨L.blk, (T e).size, cs'.size, l.length + r.length⟩ (.refl M) hown1 ?_ fun b' L' hne hL' => ⟨fun e => hne (hh.inj b' x L' L hL' hL e), g7 _ fun e => hne (hh.inj b' x L' L hL' hL e), hh.closed hL'⟩
        refine ⟨cs', Ty, g4, rfl, rfl, by simp, ?_, ?_, (by intro e; cases e), fun _ => hcl⟩
        · simp only [List.length_append]
          show _ ≤ cs'.size
          rw [g5, hsz]
          exact Nat.le_trans (Nat.mul_le_mul_right _ hfit) hc
        · refine row_append q4 hs.row (fun k hk => ?_) fun k hk => ?_
          · rw [g6, if_neg (by omega)]
          · rw [g6, hvl, if_pos ⟨by omega, by omega⟩, Nat.add_sub_cancel_left]; simp
    · have hsrc := src_cells (P := P) (M := M) (w := w) L.blk 0 cap (fun i j => (cs[i * (T e).size + j]?).getD undef) q4.len (fun i j e d he hj => by
        obtain ⟨v, e1, e2⟩ := q4.den i j e d he hj
        rw [cell_of_heap hheap, Nat.zero_add, e1]; rfl) (fun i j e d he hj => by
        obtain ⟨v, e1, e2⟩ := q4.den i j e d he hj
        simpa [e1] using e2)
      obtain ⟨old, hold⟩ := hsrc
      obtain ⟨newCap, z, g1, g2, g3⟩ := append_grows hT (ty := ty) hk hk2 (w := w) (base := some ⟨L.blk, 0, none⟩) (sLen := l.length) (sCap := cap) (n := r.length) (c := c) (a := a) (by omega) r1 r2 hs.run hold.run
      rw [← q2]
      refine ⟨_, _, g3, ?_⟩
      exact grown_post hT ho ha hh hold.row hold.size hs.row hs.size g1 (by simp [Builtin.zeroCells, g2])
end
end Go.Lk

set_option linter.unusedSimpArgs false
set_option linter.unusedVariables false
set_option linter.unnecessarySimpa false
namespace Go.Lk
open Go Go.RowKit

def BoxLe (hp hp' : Nat → Option Blk) : Prop := ∀ b, hp' b = hp b ∨ ∃ c fr, hp b = some (.box c fr) ∧ hp' b = some (.box c true)

theorem capsF_sem {own : Nat → Prop} {ι : Inj} {w : World} {hp : Nat → Option Blk} : ∀ {caps : List AV} {cs : List D} {ws : List (Nat × Blk)}, opG.capsF hp caps = some (cs, ws) → ∀ (M : Mem) (hp1 : Nat → Option Blk), BoxLe hp hp1 → Agree M w → HRel own M ι hp1 w →
    ∃ M', Sub M M' ∧ Agree M' w ∧ NewDom own M M' ∧ HRel own M' ι (writes hp1 ws) w ∧ cs.length = caps.length ∧ ∀ (i : Nat) (x : AV) (d : D) (v : Value), caps[i]? = some x → cs[i]? = some d → DenA M ι x v → DenD M' d v
  | [], cs, ws, h, M, hp1, hl, ha, hh => by
    simp only [opG.capsF, Option.some.injEq, Prod.mk.injEq] at h
    obtain ⟨rfl, rfl⟩ := h
    exact ⟨M, .refl M, ha, .refl _ _, hh, rfl, fun i x d v h1 => by simp at h1⟩
  | x :: r, cs, ws, h, M, hp1, hl, ha, hh => by
    have plain : ∀ d0 cs0 ws0, conv.pure1 x = some d0 → opG.capsF hp r = some (cs0, ws0) → cs = d0 :: cs0 → ws = ws0 →
        ∃ M', Sub M M' ∧ Agree M' w ∧ NewDom own M M' ∧ HRel own M' ι (writes hp1 ws) w ∧ cs.length = (x :: r).length ∧ ∀ (i : Nat) (y : AV) (d : D) (v : Value), (x :: r)[i]? = some y → cs[i]? = some d → DenA M ι y v → DenD M' d v := by
      intro d0 cs0 ws0 h1 h2 e1 e2
      subst e1 e2
      obtain ⟨M', s1, a1, n1, g1, l1, d1⟩ := capsF_sem h2 M hp1 hl ha hh
      refine ⟨M', s1, a1, n1, g1, by simp [l1], fun i y d v hy hd hv => ?_⟩
      cases i with
      | zero =>
        simp only [List.getElem?_cons_zero, Option.some.injEq] at hy hd
        subst hy hd
        exact (den_pure1 h1 hv).mono s1
      | succ i => exact d1 i y d v (by simpa using hy) (by simpa using hd) hv
    cases x with
    | ptr b i j =>
      simp only [opG.capsF] at h
      cases hb : hp b with
      | none => simp [hb] at h
      | some B =>
        cases B with
        | row l sz fr => simp [hb] at h
        | box c fr =>
          simp only [hb] at h
          cases hi : Nat.beq i 0 with
          | false => simp [hi] at h
          | true =>
            have hi0 := Nat.eq_of_beq_eq_true hi
            subst hi0
            cases hp2 : conv.pures c with
            | none => simp [hp2] at h
            | some ds =>
              cases hr : opG.capsF hp r with
              | none => simp [hp2, hr] at h
              | some q =>
                obtain ⟨cs0, ws0⟩ := q
                simp only [hi, hp2, hr, cond_true, Option.some.injEq, Prod.mk.injEq] at h
                obtain ⟨rfl, rfl⟩ := h
                have hb1 : ∃ fr', hp1 b = some (.box c fr') := by
                  rcases hl b with e | ⟨c', fr', e1, e2⟩
                  · exact ⟨fr, e.trans hb⟩
                  · rw [hb] at e1; cases e1; exact ⟨true, e2⟩
                obtain ⟨fr', hb1⟩ := hb1
                obtain ⟨M1, s1, a1, n1, g1⟩ := freeze ha hh hb1 (B' := .box c true) (.inr ⟨_, _, rfl, rfl⟩)
                have hl1 : BoxLe hp (upd hp1 b (some (.box c true))) := by
                  intro b'
                  by_cases e : b' = b
                  · subst e; rw [upd_same]; exact .inr ⟨c, fr, hb, rfl⟩
                  · rw [upd_other _ _ e]; exact hl b'
                obtain ⟨M', s2, a2, n2, g2, l2, d2⟩ := capsF_sem hr M1 _ hl1 a1 g1
                refine ⟨M', s1.trans s2, a2, n1.trans n2, g2, by simp [l2], fun i y d v hy hd hv => ?_⟩
                cases i with
                | succ i => exact d2 i y d v (by simpa using hy) (by simpa using hd) (hv.mono s1)
                | zero =>
                  simp only [List.getElem?_cons_zero, Option.some.injEq] at hy hd
                  subst hy hd
                  refine DenD.mono s2 (den_cap1 g1 (x := .ptr b 0 j) ?_ (hv.mono s1))
                  simp [conv.cap1, upd_same, hp2]
    | d x0 =>
      simp only [opG.capsF] at h
      cases hr : opG.capsF hp r with
      | none => simp [conv.pure1, hr] at h
      | some q =>
        simp only [conv.pure1, hr, Option.some.injEq, Prod.mk.injEq] at h
        exact plain x0 q.1 q.2 rfl hr h.1.symm h.2.symm
    | tt =>
      simp only [opG.capsF] at h
      cases hr : opG.capsF hp r with
      | none => simp [conv.pure1, hr] at h
      | some q =>
        simp only [conv.pure1, hr, Option.some.injEq, Prod.mk.injEq] at h
        exact plain _ q.1 q.2 rfl hr h.1.symm h.2.symm
    | ff =>
      simp only [opG.capsF] at h
      cases hr : opG.capsF hp r with
      | none => simp [conv.pure1, hr] at h
      | some q =>
        simp only [conv.pure1, hr, Option.some.injEq, Prod.mk.injEq] at h
        exact plain _ q.1 q.2 rfl hr h.1.symm h.2.symm
    | nil =>
      simp only [opG.capsF] at h
      cases hr : opG.capsF hp r with
      | none => simp [conv.pure1, hr] at h
      | some q =>
        simp only [conv.pure1, hr, Option.some.injEq, Prod.mk.injEq] at h
        exact plain _ q.1 q.2 rfl hr h.1.symm h.2.symm
    | agg c => simp [opG.capsF, conv.pure1] at h
    | tup c => simp [opG.capsF, conv.pure1] at h
    | own b => simp [opG.capsF, conv.pure1] at h
    | fn f c => simp [opG.capsF, conv.pure1] at h
    | dead => simp [opG.capsF, conv.pure1] at h

theorem evs_get {ρ : Operand → AV} : ∀ (l : List Operand) (i : Nat), (evs ρ l)[i]? = (l[i]?).map ρ
  | [], i => by simp [evs]
  | x :: r, 0 => by simp [evs]
  | x :: r, i + 1 => by simpa [evs] using evs_get r i
theorem evs_len {ρ : Operand → AV} : ∀ (l : List Operand), (evs ρ l).length = l.length
  | [] => rfl
  | x :: r => by simp [evs, evs_len r]

section
variable {P : Program} {T : Tab} (hT : TabOk P T)

theorem makeFunc_sem {o : Oper} {f : FuncId} {first cap : Array Operand} {ρ : Operand → AV} {hp : Nat → Option Blk} {K : Eff → Prop} (ho : o.op = .makeFunc (.func f) first cap)
    (h : bif Nat.beq first.size 0 then (match opG.capsF hp (evs ρ cap.toList) with
      | some (cs, ws) => K ⟨.d (.fn f cs), ws, none⟩
      | none => False) else False) : ∃ e, K e ∧ OpSem P o ρ hp e := by
  obtain ⟨hf, h⟩ := bif_one h
  have hf0 : first = #[] := by
    have := Nat.eq_of_beq_eq_true hf
    simpa using this
  cases hc : opG.capsF hp (evs ρ cap.toList) with
  | none => simp [hc] at h
  | some q =>
    obtain ⟨cs, ws⟩ := q
    simp only [hc] at h
    refine ⟨_, h, opSem_run fun own M ι a w hown ha hh hρ => ?_⟩
    obtain ⟨M', s1, a1, n1, g1, l1, d1⟩ := capsF_sem hc M hp (fun _ => .inl rfl) ha hh
    refine ⟨.func (.func f) #[] (cap.map a.eval), w, by simp [execOp, ho, hf0, Instr.makeFunc], M', ι, .refl _ _, s1, a1, n1, g1, fun _ _ => rfl, .d _ _ (.fn f cs _ ?_ fun i d v hd hv => ?_)⟩
    · rw [l1, evs_len]; simp
    · simp only [Array.getElem?_map] at hv
      cases hx : cap[i]? with
      | none => simp [hx] at hv
      | some x =>
        simp only [hx, Option.map_some, Option.some.injEq] at hv
        subst hv
        exact d1 i (ρ x) d _ (by rw [evs_get]; simp [hx]) hd (hρ x)

theorem emp_bd {lo hi : Option Int} (h0 : 0 ≤ lo.getD 0) (h1 : lo.getD 0 ≤ hi.getD ((0 : Nat) : Int)) (h2 : hi.getD ((0 : Nat) : Int) ≤ ((0 : Nat) : Int)) : (hi.getD ((0 : Nat) : Int)).toNat = 0 ∧ (lo.getD 0).toNat = 0 := by
  have a1 : lo.getD 0 ≤ hi.getD (0 : Int) := h1
  have a2 : hi.getD (0 : Int) ≤ (0 : Int) := h2
  show (hi.getD (0 : Int)).toNat = 0 ∧ (lo.getD 0).toNat = 0
  clear h1 h2
  omega

theorem sliceBd_out {ρ : Operand → AV} {o : Option Operand} {K : Option Int → Prop} (h : sliceBd ρ o K) :
    ∃ b, K b ∧ ((o = none ∧ b = none) ∨ ∃ x k n, o = some x ∧ b = some n ∧ ρ x = .d (.int k n)) := by
  unfold sliceBd at h
  split at h
  · exact ⟨none, h, .inl ⟨rfl, rfl⟩⟩
  · rename_i x
    split at h
    · rename_i k n hx
      exact ⟨some n, h, .inr ⟨x, k, n, rfl, rfl, hx⟩⟩
    · exact h.elim

theorem bd_eval {M : Mem} {ι : Inj} {ρ : Operand → AV} {a : Act} (hρ : ∀ x, DenA M ι (ρ x) (a.eval x)) {o : Option Operand} {b : Option Int} (h : (o = none ∧ b = none) ∨ ∃ x k n, o = some x ∧ b = some n ∧ ρ x = .d (.int k n)) :
    ∃ k, o.map a.eval = b.map (.int k) := by
  rcases h with ⟨rfl, rfl⟩ | ⟨x, k, n, rfl, rfl, hx⟩
  · exact ⟨.i64, rfl⟩
  · exact ⟨k, by simp [den_int (hx ▸ hρ x)]⟩

include hT in
theorem run_sliceT {t el : TypeId} (hk : (T t).k = .slice el) {w : World} {base : Option Addr} {len cap : Nat} {lo hi : Option Int} {k1 k2 : IntKind} (h0 : 0 ≤ lo.getD 0) (h1 : lo.getD 0 ≤ hi.getD len) (h2 : hi.getD len ≤ len) (hc : len ≤ cap) :
    (Instr.sliceAt t (.slice base len cap) (lo.map (.int k1)) (hi.map (.int k2)) none).run P w =
      .ok (.slice (if cap = (lo.getD 0).toNat then base else base.map (·.add ((lo.getD 0).toNat * (T el).size))) ((hi.getD len).toNat - (lo.getD 0).toNat) (cap - (lo.getD 0).toNat)) w := by
  obtain ⟨hu, hke⟩ := und_slice hT hk
  simp [Instr.sliceAt, Instr.slice, run_underlying hu, run_sliceBoundsT (P := P) w h0 h1 h2 hc, run_sizeT hT w hke]

theorem lst_slice {M : Mem} {r : List (List D)} {b off cap sz : Nat} {val : Nat → Nat → Value} (hl : r.length ≤ cap) (hs : ∀ (i : Nat) (e : List D), r[i]? = some e → e.length = sz)
    (hm : ∀ (i j : Nat) (e : List D) (d : D), r[i]? = some e → e[j]? = some d → M b (off + i * sz + j) = some (val i j)) (hd : ∀ (i j : Nat) (e : List D) (d : D), r[i]? = some e → e[j]? = some d → DenD M d (val i j))
    (l h : Nat) (h1 : l ≤ h) (h2 : h ≤ r.length) :
    DenD M (.lst ((r.take h).drop l)) (.slice (if cap = l then some ⟨b, off, none⟩ else some ⟨b, off + l * sz, none⟩) (h - l) (cap - l)) := by
  have hlen : ((r.take h).drop l).length = h - l := by simp; omega
  by_cases he : h - l = 0
  · have : (r.take h).drop l = [] := List.eq_nil_of_length_eq_zero (by omega)
    rw [this, he]
    exact .emp _ _
  · rw [if_neg (by omega), ← hlen]
    have hget : ∀ (i : Nat) (e : List D), ((r.take h).drop l)[i]? = some e → r[l + i]? = some e := by
      intro i e hi
      rw [List.getElem?_drop, List.getElem?_take] at hi
      split at hi
      · exact hi
      · cases hi
    refine .lst _ b (off + l * sz) (cap - l) sz (fun i j => val (l + i) j) (by omega) (fun i e hi => hs _ e (hget i e hi)) (fun i j e d hi hj => ?_) fun i j e d hi hj => hd _ j e d (hget i e hi) hj
    have := hm (l + i) j e d (hget i e hi) hj
    rw [Nat.add_mul] at this
    rw [show off + l * sz + i * sz + j = off + (l * sz + i * sz) + j by omega]
    exact this

include hT in
theorem slice_sem {o : Oper} {t : TypeId} {x : Operand} {lo hi mx : Option Operand} {ρ : Operand → AV} {hp : Nat → Option Blk} {K : Eff → Prop} (ho : o.op = .slice t x lo hi mx)
    (h : sliceBd ρ lo fun lo => sliceBd ρ hi fun hi => sliceBd ρ mx fun mx => sliceA T t (ρ x) hp lo hi mx K) : ∃ e, K e ∧ OpSem P o ρ hp e := by
  obtain ⟨lo', q1, hlo⟩ := sliceBd_out h
  clear h
  obtain ⟨hi', q2, hhi⟩ := sliceBd_out q1
  clear q1
  obtain ⟨mx', h, hmx⟩ := sliceBd_out q2
  clear q2
  have hex : ∀ a : Act, (∀ w : World, (execOp a.eval o).run P w = ((Instr.sliceAt t (a.eval x) (lo.map a.eval) (hi.map a.eval) (mx.map a.eval)).run P w).andThen fun v w => .ok (.value v) w) := by
    intro a w; simp [execOp, ho]
  unfold sliceA at h
  split at h
  · have hm0 : mx = none := by
      rcases hmx with ⟨h1, _⟩ | ⟨_, _, _, _, h2, _⟩
      · exact h1
      · cases h2
    subst hm0
    split at h
    · rename_i s hx
      split at h
      · rename_i hk
        have hu := und_str hT hk
        obtain ⟨h0, h1, h2, h⟩ := sliceK_out h
        refine ⟨_, h, opSem_val fun own M ι a w ha hh hρ => ?_⟩
        obtain ⟨k1, e1⟩ := bd_eval hρ hlo
        obtain ⟨k2, e2⟩ := bd_eval hρ hhi
        have ex := den_str (hx ▸ hρ x)
        refine ⟨_, ?_, .d _ _ (.str _)⟩
        rw [hex, e1, e2, ex]
        simp [Instr.sliceAt, Instr.slice, run_underlying hu, run_sliceBoundsT (P := P) w h0 h1 h2 (Nat.le_refl _)]
      · exact h.elim
    · rename_i r hx
      split at h
      · rename_i el hk
        obtain ⟨hsz, h⟩ := condK_out h
        obtain ⟨h0, h1, h2, h⟩ := sliceK_out h
        refine ⟨_, h, opSem_val fun own M ι a w ha hh hρ => ?_⟩
        obtain ⟨k1, e1⟩ := bd_eval hρ hlo
        obtain ⟨k2, e2⟩ := bd_eval hρ hhi
        have hd := hρ x
        rw [hx] at hd
        generalize hv : a.eval x = v at hd
        cases hd with
        | d _ _ hd =>
          cases hd with
          | emp a0 c =>
            have hh0 : (hi'.getD 0).toNat - (lo'.getD 0).toNat = 0 := by simp at h2; omega
            refine ⟨_, by rw [hex, e1, e2, hv, Option.map_none, run_sliceT hT hk (len := 0) h0 h1 h2 (Nat.zero_le _)]; rfl, ?_⟩
            simp only [List.length_nil] at *
            rw [show ((hi'.getD ((0 : Nat) : Int)).toNat - (lo'.getD 0).toNat) = 0 from hh0]
            have : ((([] : List (List D)).take (hi'.getD ((0 : Nat) : Int)).toNat).drop (lo'.getD 0).toNat) = [] := by simp
            rw [this]
            exact .d _ _ (.emp _ _)
          | lst _ b off cap sz val hl hs hm hdd =>
            refine ⟨_, by rw [hex, e1, e2, hv, Option.map_none, run_sliceT hT hk h0 h1 h2 hl]; rfl, ?_⟩
            have hlst := lst_slice (M := M) (b := b) (off := off) hl hs hm hdd (lo'.getD 0).toNat (hi'.getD r.length).toNat (by omega) (by omega)
            have hadd : (if cap = (lo'.getD 0).toNat then some (⟨b, off, none⟩ : Addr) else (some (⟨b, off, none⟩ : Addr)).map (·.add ((lo'.getD 0).toNat * (T el).size))) = (if cap = (lo'.getD 0).toNat then some (⟨b, off, none⟩ : Addr) else some ⟨b, off + (lo'.getD 0).toNat * (T el).size, none⟩) := by
              split
              · rfl
              · simp [addr_add]
            by_cases hr : r = []
            · subst hr
              have hh0 : (hi'.getD ((([] : List (List D)).length : Nat) : Int)).toNat - (lo'.getD 0).toNat = 0 := by
                  have := emp_bd h0 h1 h2
                  show (hi'.getD ((0 : Nat) : Int)).toNat - (lo'.getD 0).toNat = 0
                  rw [this.1]; exact Nat.zero_sub _
              rw [hh0]
              have : ((([] : List (List D)).take (hi'.getD ((([] : List (List D)).length : Nat) : Int)).toNat).drop (lo'.getD 0).toNat) = [] := by simp
              rw [this]
              exact .d _ _ (.emp _ _)
            · obtain ⟨e, he⟩ : ∃ e, r[0]? = some e := by
                cases r with
                | nil => exact absurd rfl hr
                | cons e r => exact ⟨e, rfl⟩
              have : sz = (T el).size := (hs 0 e he).symm.trans (hsz e (List.mem_of_getElem? he))
              subst this
              rw [hadd]
              exact .d _ _ hlst
      · exact h.elim
    · rename_i b hx
      split at h
      · rename_i r sz fr hb
        split at h
        · rename_i el hk
          obtain ⟨hsz, h⟩ := bif_one h
          have hsz := Nat.eq_of_beq_eq_true hsz
          obtain ⟨h0, h1, h2, h⟩ := sliceK_out h
          refine ⟨_, h, opSem_run fun own M ι a w hown ha hh hρ => ?_⟩
          obtain ⟨k1, e1⟩ := bd_eval hρ hlo
          obtain ⟨k2, e2⟩ := bd_eval hρ hhi
          obtain ⟨M1, s1, a1, n1, g1⟩ := freeze ha hh hb (B' := .row r sz true) (.inl ⟨_, _, _, rfl, rfl⟩)
          have hd := hρ x
          rw [hx] at hd
          have hdd := den_own g1 (upd_same _ _ _) (hd.mono s1)
          generalize hv : a.eval x = v at hd hdd
          have hrun : ∃ u, (Instr.sliceAt t v (lo'.map (.int k1)) (hi'.map (.int k2)) none).run P w = .ok u w ∧ DenA M1 ι (.d (.lst ((r.take (hi'.getD r.length).toNat).drop (lo'.getD 0).toNat))) u := by
            cases hdd with
            | emp a0 c =>
              simp only [List.length_nil] at *
              have hh0 : (hi'.getD ((0 : Nat) : Int)).toNat - (lo'.getD 0).toNat = 0 := by rw [(emp_bd h0 h1 h2).1]; exact Nat.zero_sub _
              refine ⟨_, run_sliceT hT hk (len := 0) h0 h1 h2 (Nat.zero_le _), ?_⟩
              rw [hh0]
              have : ((([] : List (List D)).take (hi'.getD ((0 : Nat) : Int)).toNat).drop (lo'.getD 0).toNat) = [] := by simp
              rw [this]
              exact .d _ _ (.emp _ _)
            | lst _ b' off cap sz' val hl hs hm hdd =>
              refine ⟨_, run_sliceT hT hk h0 h1 h2 hl, ?_⟩
              have hlst := lst_slice (M := M1) (b := b') (off := off) hl hs hm hdd (lo'.getD 0).toNat (hi'.getD r.length).toNat (by omega) (by omega)
              have hadd : (if cap = (lo'.getD 0).toNat then some (⟨b', off, none⟩ : Addr) else (some (⟨b', off, none⟩ : Addr)).map (·.add ((lo'.getD 0).toNat * (T el).size))) = (if cap = (lo'.getD 0).toNat then some (⟨b', off, none⟩ : Addr) else some ⟨b', off + (lo'.getD 0).toNat * (T el).size, none⟩) := by
                split
                · rfl
                · simp [addr_add]
              by_cases hr : r = []
              · subst hr
                have hh0 : (hi'.getD ((([] : List (List D)).length : Nat) : Int)).toNat - (lo'.getD 0).toNat = 0 := by
                  have := emp_bd h0 h1 h2
                  show (hi'.getD ((0 : Nat) : Int)).toNat - (lo'.getD 0).toNat = 0
                  rw [this.1]; exact Nat.zero_sub _
                rw [hh0]
                have : ((([] : List (List D)).take (hi'.getD ((([] : List (List D)).length : Nat) : Int)).toNat).drop (lo'.getD 0).toNat) = [] := by simp
                rw [this]
                exact .d _ _ (.emp _ _)
              · obtain ⟨e, he⟩ : ∃ e, r[0]? = some e := by
                  cases r with
                  | nil => exact absurd rfl hr
                  | cons e r => exact ⟨e, rfl⟩
                have hlen : e.length = sz := by
                  cases hL : ι b with
                  | none => rw [(hh.dom b).2 hL] at hb; cases hb
                  | some oL =>
                    cases oL with
                    | none =>
                      obtain ⟨sz2, fr2, e0⟩ := hh.virt b hL
                      rw [hb] at e0; cases e0
                      exact absurd rfl hr
                    | some L =>
                      obtain ⟨_, cs, Ty, _, _, _, _, _, q4, _⟩ := hh.at_ b _ L hb hL
                      exact q4.len 0 e he
                have : sz' = (T el).size := (hs 0 e he).symm.trans (hlen.trans hsz)
                subst this
                rw [hadd]
                exact .d _ _ hlst
          obtain ⟨u, hu1, hu2⟩ := hrun
          exact ⟨u, w, by rw [hex, hv, e1, e2, Option.map_none, hu1]; rfl, M1, ι, .refl _ _, s1, a1, n1, g1, fun _ _ => rfl, hu2⟩
        · exact h.elim
      · exact h.elim
    · rename_i hx
      split at h
      · rename_i el hk
        obtain ⟨h0, h1, h2, h⟩ := sliceK_out h
        refine ⟨_, h, opSem_val fun own M ι a w ha hh hρ => ?_⟩
        obtain ⟨k1, e1⟩ := bd_eval hρ hlo
        obtain ⟨k2, e2⟩ := bd_eval hρ hhi
        have hd := hρ x
        rw [hx] at hd
        generalize hv : a.eval x = v at hd
        cases hd with
        | nil a0 =>
          refine ⟨_, by rw [hex, hv, e1, e2, Option.map_none, run_sliceT hT hk (len := 0) (cap := 0) h0 h1 h2 (Nat.le_refl _)]; rfl, ?_⟩
          have hl0 : (lo'.getD 0).toNat = 0 := (emp_bd h0 h1 h2).2
          have hh0 : (hi'.getD ((0 : Nat) : Int)).toNat = 0 := (emp_bd h0 h1 h2).1
          rw [hl0, hh0]
          exact .nil _
      · exact h.elim
    · exact h.elim
  · rename_i m
    split at h
    · rename_i el hk
      have hc := (condK_out h).1
      have hK := (condK_out h).2
      clear h
      obtain ⟨rfl, rfl, rfl⟩ := hc
      have h := hK
      clear hK
      obtain ⟨hu, hke⟩ := und_slice hT hk
      have mk : ∀ (own : Nat → Prop) (M : Mem) (ι : Inj) (a : Act) (w : World), (∀ x, DenA M ι (ρ x) (a.eval x)) → ∀ a0 n c, n ≤ c → a.eval x = .slice a0 n c → ∃ v, (execOp a.eval o).run P w = .ok (.value v) w ∧ DenA M ι .nil v := by
        intro own M ι a w hρ a0 n c hnc hv
        obtain ⟨k1, e1⟩ := bd_eval hρ hlo
        obtain ⟨k2, e2⟩ := bd_eval hρ hhi
        obtain ⟨k3, e3⟩ := bd_eval hρ hmx
        refine ⟨.slice (if 0 = 0 then a0 else a0.map (·.add (0 * (T el).size))) (0 - 0) (0 - 0), ?_, .nil _⟩
        rw [hex, hv, e1, e2, e3]
        simp [Instr.sliceAt, Instr.slice, run_underlying hu, Instr.sliceBounds, Instr.sliceBound, asIntOf, run_sizeT hT w hke]
      split at h
      · rename_i r hx
        refine ⟨_, h, opSem_val fun own M ι a w ha hh hρ => ?_⟩
        have hd := hρ x
        rw [hx] at hd
        generalize hv : a.eval x = v at hd
        cases hd with
        | d _ _ hd =>
          cases hd with
          | emp a0 c => exact mk own M ι a w hρ a0 0 c (Nat.zero_le _) hv
          | lst _ b off cap sz val hl hs hm hdd => exact mk own M ι a w hρ _ _ _ hl hv
      · rename_i hx
        refine ⟨_, h, opSem_val fun own M ι a w ha hh hρ => ?_⟩
        have hd := hρ x
        rw [hx] at hd
        generalize hv : a.eval x = v at hd
        cases hd with
        | nil a0 => exact mk own M ι a w hρ a0 0 0 (Nat.le_refl _) hv
      · exact h.elim
    · exact h.elim
end
end Go.Lk

set_option linter.unusedSimpArgs false
set_option linter.unusedVariables false
set_option linter.unnecessarySimpa false
namespace Go.Lk
open Go Go.RowKit

section
variable {P : Program} {T : Tab} (hT : TabOk P T)

theorem kcode_eq {k k' : IntKind} {A : Prop} (h : bif Nat.beq (kcode k) (kcode k') then A else False) : k = k' ∧ A := by
  obtain ⟨h1, h2⟩ := bif_one h
  exact ⟨kcode_inj h1, h2⟩

/-- a step that yields a value and does nothing else -/
theorem sem_of {o : Oper} {ρ : Operand → AV} {hp : Nat → Option Blk} {av : AV} {s : (Operand → Value) → Sem Value}
    (ho : ∀ f : Operand → Value, execOp f o = (do pure (.value (← s f)))) (K : Eff → Prop) (hK : K ⟨av, [], none⟩)
    (h : ∀ (own : Nat → Prop) (M : Mem) (ι : Inj) (a : Act) (w : World), Agree M w → HRel own M ι hp w → (∀ x, DenA M ι (ρ x) (a.eval x)) → ∃ v, (s a.eval).run P w = .ok v w ∧ DenA M ι av v) :
    ∃ e, K e ∧ OpSem P o ρ hp e := by
  refine ⟨_, hK, opSem_val fun own M ι a w ha hh hρ => ?_⟩
  obtain ⟨v, h1, h2⟩ := h own M ι a w ha hh hρ
  exact ⟨v, by rw [ho]; simp [h1], h2⟩

include hT in
theorem len_sem {o : Oper} {c : Call} {x : Operand} {t : TypeId} {ρ : Operand → AV} {hp : Nat → Option Blk} {K : Eff → Prop} (ho : o.op = .call c) (hc : c.callee = .builtin .len) (ha : c.args.toList = [x]) (ht : c.argTypes.toList = [t])
    (h : lenA T t (ρ x) hp (val K)) : ∃ e, K e ∧ OpSem P o ρ hp e := by
  have ha' : c.args = #[x] := by rw [← Array.toList_inj]; exact ha
  have ht' : c.argTypes = #[t] := by rw [← Array.toList_inj]; exact ht
  have hex : ∀ f : Operand → Value, execOp f o = (do pure (.value (← (do let d ← resolve f c o.type; match d.target with | .builtin _ at' ty _ => Builtin.len_ at' ty d.args | _ => pure undef)))) := by
    intro f
    simp [execOp, ho, resolve, hc, invoke, builtin]
  have key : ∀ (n : Nat), (∀ (own : Nat → Prop) (M : Mem) (ι : Inj) (w : World) (v : Value), HRel own M ι hp w → DenA M ι (ρ x) v → (Builtin.len_ #[t] o.type #[v]).run P w = .ok (.int .i64 n) w) → K ⟨.d (.int .i64 n), [], none⟩ → ∃ e, K e ∧ OpSem P o ρ hp e := by
    intro n hr hK
    refine sem_of hex K hK fun own M ι a w hA hh hρ => ⟨.int .i64 n, ?_, .d _ _ (.int _ _)⟩
    have := hr own M ι w _ hh (hρ x)
    simp [resolve, hc, ha', ht', this]
  unfold lenA at h
  split at h
  · rename_i hk
    have hu := und_str hT hk
    split at h
    · rename_i s hx
      refine key s.size (fun own M ι w v hh hv => ?_) h
      rw [hx] at hv
      rw [den_str hv]
      simp [Builtin.len_, run_underlying hu, goInt]
    · exact h.elim
  · rename_i el hk
    obtain ⟨hu, _⟩ := und_slice hT hk
    have run : ∀ (w : World) (a : Option Addr) (n c : Nat), (Builtin.len_ #[t] o.type #[.slice a n c]).run P w = .ok (.int .i64 n) w := by
      intro w a n c
      simp [Builtin.len_, run_underlying hu, goInt]
    split at h
    · rename_i l hx
      refine key l.length (fun own M ι w v hh hv => ?_) h
      rw [hx] at hv
      cases hv with
      | d _ _ hv =>
        cases hv with
        | emp a c => exact run w a 0 c
        | lst _ b off cap sz val hl hs hm hd => exact run w _ _ _
    · rename_i hx
      refine key 0 (fun own M ι w v hh hv => ?_) h
      rw [hx] at hv
      cases hv with
      | nil a => exact run w a 0 0
    · rename_i b hx
      split at h
      · rename_i l sz fr hb
        refine key l.length (fun own M ι w v hh hv => ?_) h
        rw [hx] at hv
        cases hv with
        | own _ L cap hL hn hc =>
          obtain ⟨_, cs, Ty, _, _, _, q, _⟩ := hh.at_ b _ L hb hL
          rw [q]
          exact run w _ _ _
        | ownE _ a hL =>
          obtain ⟨sz2, fr2, e0⟩ := hh.virt b hL
          rw [hb] at e0; cases e0
          exact run w a 0 0
        | ownL _ _ hL => rw [(hh.dom b).2 hL] at hb; cases hb
      · exact h.elim
    · exact h.elim
  · exact h.elim

theorem minmax_sem {o : Oper} {c : Call} {x y : Operand} {ρ : Operand → AV} {hp : Nat → Option Blk} {K : Eff → Prop} {g : Int → Int → Int} {b : Go.Builtin} {s : Array TypeId → TypeId → Array Value → Sem Value} (ho : o.op = .call c) (hc : c.callee = .builtin b) (ha : c.args.toList = [x, y])
    (hb : ∀ t1 t2 cs vs, builtin b t1 t2 cs vs = do pure (.value (← s t1 t2 vs))) (hg : ∀ t1 t2 k n m w, (s t1 t2 #[.int k n, .int k m]).run P w = .ok (.int k (g n m)) w)
    (h : match ρ x with
        | .d (.int k a) => match ρ y with
          | .d (.int k' b) => bif Nat.beq (kcode k) (kcode k') then K ⟨.d (.int k (g a b)), [], none⟩ else False
          | _ => False
        | _ => False) : ∃ e, K e ∧ OpSem P o ρ hp e := by
  have ha' : c.args = #[x, y] := by rw [← Array.toList_inj]; exact ha
  split at h
  · rename_i k n hx
    split at h
    · rename_i k' m hy
      obtain ⟨e0, hK⟩ := kcode_eq h
      subst e0
      refine ⟨_, hK, opSem_val fun own M ι a w hA hh hρ => ⟨.int k (g n m), ?_, .d _ _ (.int _ _)⟩⟩
      have ex := den_int (hx ▸ hρ x)
      have ey := den_int (hy ▸ hρ y)
      simp [execOp, ho, resolve, hc, invoke, hb, ha', ex, ey, hg]
    · exact h.elim
  · exact h.elim

include hT in
theorem append_sem {o : Oper} {c : Call} {x y : Operand} {t t2 : TypeId} {ρ : Operand → AV} {hp : Nat → Option Blk} {K : Eff → Prop} (ho : o.op = .call c) (hc : c.callee = .builtin .append) (ha : c.args.toList = [x, y]) (ht : c.argTypes.toList = [t, t2]) {e e2 : TypeId} (hk : (T t).k = .slice e) (hk2 : (T t2).k = .slice e2)
    (h : srcRow (T e).size (ρ y) hp fun src => match ρ x with
            | .nil => match o.dst with
              | some d => roomK src.length (T e).bytes (K ⟨.own d, [(d, .row src (T e).size false)], some d⟩)
              | none => False
            | .own b => match hp b with
              | some (.row l sz false) => bif Nat.beq sz (T e).size then roomK (l.length + src.length) (T e).bytes (K ⟨.own b, [(b, .row (l ++ src) sz false)], some b⟩) else False
              | _ => False
            | _ => False) : ∃ e, K e ∧ OpSem P o ρ hp e := by
  have ha' : c.args = #[x, y] := by rw [← Array.toList_inj]; exact ha
  have ht' : c.argTypes = #[t, t2] := by rw [← Array.toList_inj]; exact ht
  have hex : ∀ (a : Act) (w w' : World) (v : Value), (Builtin.append_ #[t, t2] o.type #[a.eval x, a.eval y]).run P w = .ok v w' → (execOp a.eval o).run P w = .ok (.value v) w' := by
    intro a w w' v hr
    simp [execOp, ho, resolve, hc, invoke, builtin, ha', ht', hr]
  obtain ⟨src, h, hsrc⟩ := srcRow_out (P := P) h
  split at h
  · rename_i hx
    split at h
    · rename_i d hd
      obtain ⟨r1, r2, h⟩ := roomK_out h
      refine ⟨_, h, opSem_run fun own M ι a w hown hA hh hρ => ?_⟩
      obtain ⟨ad, cp, vs, hu, hs, hone⟩ := hsrc own M ι w _ hA hh (hρ y)
      have hv := hρ x
      rw [hx] at hv
      generalize hvx : a.eval x = v at hv
      cases hv with
      | nil a0 =>
        rw [hu] at hs
        obtain ⟨v, w', hr, hp'⟩ := append_nil_sem hT (ty := o.type) hk hk2 hown hA hh (x := d) (base := a0) hs r1 r2
        exact ⟨v, w', hex a w w' v (by rw [hvx, hu]; exact hr), hp'⟩
    · exact h.elim
  · rename_i b hx
    split at h
    · rename_i l sz hb
      obtain ⟨hsz, h⟩ := bif_one h
      have hsz := Nat.eq_of_beq_eq_true hsz
      subst hsz
      obtain ⟨r1, r2, h⟩ := roomK_out h
      refine ⟨_, h, opSem_run fun own M ι a w hown hA hh hρ => ?_⟩
      obtain ⟨ad, cp, vs, hu, hs, hone⟩ := hsrc own M ι w _ hA hh (hρ y)
      rw [hu] at hs
      obtain ⟨v, w', hr, hp'⟩ := append_own_sem hT (ty := o.type) hk hk2 hown hA hh hb (hx ▸ hρ x) hs hone r1 r2
      exact ⟨v, w', hex a w w' v (by rw [hu]; exact hr), hp'⟩
    · exact h.elim
  · exact h.elim

theorem evs_den {ρ : Operand → AV} {M : Mem} {ι : Inj} {a : Act} (hρ : ∀ x, DenA M ι (ρ x) (a.eval x)) (l : Array Operand) : DenAs M ι (evs ρ l.toList) (l.map a.eval) := by
  refine ⟨by rw [evs_len]; simp, fun i x v e1 e2 => ?_⟩
  rw [evs_get] at e1
  simp only [Array.getElem?_map] at e2
  cases hx : l[i]? with
  | none => simp [hx] at e2
  | some y =>
    simp only [hx, Option.map_some, Option.some.injEq] at e2
    rw [Array.getElem?_toList, hx] at e1
    simp only [Option.map_some, Option.some.injEq] at e1
    subst e1 e2
    exact hρ y

theorem enter_sem {o : Oper} {a : Act} {w : World} {f : FuncId} {vs : Array Value} {N : Act → World → Prop} {X : Exit → Act → World → Prop} (hr : (execOp a.eval o).run P w = .ok (.enter f vs) w)
    (h : Calls P f vs w fun en w' => ∃ v, en = .returned v ∧ N (a.put o.dst v) w') : o.wp P a w N X := by
  unfold Oper.wp
  rw [hr, Oper.upon_enter]
  refine h.mono fun en w' hq => ?_
  obtain ⟨v, rfl, hN⟩ := hq
  exact hN

theorem map_arr (f : Operand → Value) (l : Array Operand) : (l.toList.map f).toArray = l.map f := by
  rw [← Array.toList_inj]; simp

theorem anyPtr_callH {o : Oper} {c : Call} {f : FuncId} {ρ : Operand → AV} {hp : Nat → Option Blk} {K : Eff → Prop} (ho : o.op = .call c) (hc : c.callee = .value (.func f))
    (h : callH P f (evs ρ c.args.toList) hp K) : ∃ e, K e ∧ OpSem P o ρ hp e := by
  replace h := h.out
  obtain ⟨e, hE, hK⟩ := h
  refine ⟨e, hK, fun own M ι a w hown ha hh hρ => enter_sem (exec_static ho hc hE.1 a w) ?_⟩
  refine (hE.2 own M ι w _ hown ha hh (evs_den hρ c.args)).mono fun en w' hq => ?_
  obtain ⟨v, M', ι', e1, e2, e3, e4, e5, e6, e7, e8⟩ := hq
  exact ⟨v, e1, v, rfl, M', ι', e2, e3, e4, e5, e6, e7, e8⟩

theorem static_sem {o : Oper} {c : Call} {f : FuncId} {ρ : Operand → AV} {hp : Nat → Option Blk} {K : Eff → Prop} (ho : o.op = .call c) (hc : c.callee = .value (.func f))
    (h : convsK hp ρ c.args.toList fun ds ns => callX P f true (evs ρ c.args.toList) hp o.dst ds ns K) : ∃ e, K e ∧ OpSem P o ρ hp e := by
  obtain ⟨ds, ns, h, hlen, hd⟩ := convsK_out h
  have h' : callX P f true (evs ρ c.args.toList) hp o.dst (ds ++ []) ns K := by rw [List.append_nil]; exact h
  obtain ⟨e, hK, hf, hsem⟩ := callX_sem h' hlen hd (fun _ => ⟨rfl, rfl⟩)
  refine ⟨e, hK, fun own M ι a w hown ha hh hρ => enter_sem (exec_static ho hc hf a w) ?_⟩
  have := hsem own M ι a w #[] hown ha hh hρ ⟨rfl, fun i d v h1 => by simp at h1⟩
  rw [map_arr, Array.append_empty] at this
  exact this.mono fun en w' hq => let ⟨v, e1, e2⟩ := hq; ⟨v, e1, v, rfl, e2⟩

theorem closure_sem {o : Oper} {c : Call} {f : FuncId} {t : Tmp} {cs : List D} {ρ : Operand → AV} {hp : Nat → Option Blk} {K : Eff → Prop} (ho : o.op = .call c) (hc : c.callee = .value (.tmp t)) (ht : ρ (.tmp t) = .d (.fn f cs))
    (h : convsK hp ρ c.args.toList fun ds ns => callX P f false [] hp o.dst (ds ++ cs) ns K) : ∃ e, K e ∧ OpSem P o ρ hp e := by
  obtain ⟨ds, ns, h, hlen, hd⟩ := convsK_out h
  obtain ⟨e, hK, hf, hsem⟩ := callX_sem h hlen hd (fun h => by cases h)
  refine ⟨e, hK, fun own M ι a w hown ha hh hρ => ?_⟩
  have hv := hρ (.tmp t)
  rw [ht] at hv
  generalize hvt : a.eval (.tmp t) = v at hv
  cases hv with
  | d _ _ hv =>
    cases hv with
    | fn _ _ vs hl hdv =>
      refine enter_sem (exec_closure ho hc hf a w hvt) ?_
      have := hsem own M ι a w vs hown ha hh hρ ⟨hl, hdv⟩
      rw [map_arr] at this
      exact this.mono fun en w' hq => let ⟨v, e1, e2⟩ := hq; ⟨v, e1, v, rfl, e2⟩

include hT in
theorem callG_sound {o : Oper} {c : Call} {ρ : Operand → AV} {hp : Nat → Option Blk} {K : Eff → Prop} (ho : o.op = .call c) (h : callG T P o c ρ hp K) : ∃ e, K e ∧ OpSem P o ρ hp e := by
  unfold callG at h
  split at h
  · rename_i b hc
    split at h
    · split at h
      · rename_i x ha
        split at h
        · rename_i t ht
          exact len_sem hT ho hc ha ht h
        · exact h.elim
      · exact h.elim
    · split at h
      · rename_i x y ha
        exact minmax_sem (g := min) (s := Builtin.min_) ho hc ha (fun _ _ _ _ => rfl) (fun t1 t2 k n m w => by
          simp only [Builtin.min_, List.foldlM_cons, List.foldlM_nil, Builtin.min2, Sem.run_bind, Sem.run_pure, Result.andThen_ok]
          congr 2
          simp only [Int.min_def]
          split <;> split <;> first | rfl | omega) h
      · exact h.elim
    · split at h
      · rename_i x y ha
        exact minmax_sem (g := max) (s := Builtin.max_) ho hc ha (fun _ _ _ _ => rfl) (fun t1 t2 k n m w => by
          simp only [Builtin.max_, List.foldlM_cons, List.foldlM_nil, Builtin.max2, Sem.run_bind, Sem.run_pure, Result.andThen_ok]
          congr 2
          simp only [Int.max_def]
          split <;> split <;> first | rfl | omega) h
      · exact h.elim
    · split at h
      · rename_i x y ha
        split at h
        · rename_i t t2 ht
          split at h
          · rename_i e2 hk2
            split at h
            · rename_i e hk
              exact append_sem hT ho hc ha ht hk hk2 h
            · exact h.elim
          · exact h.elim
        · exact h.elim
      · exact h.elim
    · exact h.elim
  · rename_i f hc
    split at h
    · rename_i f
      cases hp1 : anyPtr (evs ρ c.args.toList) with
      | true => rw [hp1] at h; exact anyPtr_callH ho hc h
      | false => rw [hp1] at h; exact static_sem ho hc h
    · rename_i t
      split at h
      · rename_i f cs hcap
        refine closure_sem ho hc ?_ h
        unfold capList at hcap
        split at hcap
        · rename_i f' c' hx
          simp only [Option.some.injEq, Prod.mk.injEq] at hcap
          obtain ⟨rfl, rfl⟩ := hcap
          exact hx
        · cases hcap
      · exact h.elim
    · exact h.elim
  · exact h.elim

include hT in
theorem opG_sound {o : Oper} {ρ : Operand → AV} {hp : Nat → Option Blk} {K : Eff → Prop} (h : opG T P o ρ hp K) : ∃ e, K e ∧ OpSem P o ρ hp e := by
  unfold opG at h
  split at h
  case h_1 x ho => exact sem_of (s := fun f => pure (f x)) (fun f => by simp [execOp, ho]) K (force_out h).1 fun own M ι a w _ _ hρ => ⟨_, rfl, hρ x⟩
  case h_2 x ho => exact sem_of (s := fun f => pure (f x)) (fun f => by simp [execOp, ho]) K (force_out h).1 fun own M ι a w _ _ hρ => ⟨_, rfl, hρ x⟩
  case h_3 c x y ho =>
    have key : ∀ (b : Bool) (z : Operand), (∀ (M : Mem) (ι : Inj) v, DenA M ι (ρ c) v → v = .bool b) → (z = if b then x else y) → force (ρ z) (val K) → ∃ e, K e ∧ OpSem P o ρ hp e := by
      intro b z hb hz h
      refine sem_of (s := fun f => do pure (if ← asBool (f c) then f x else f y)) (fun f => by simp [execOp, ho]) K (force_out h).1 fun own M ι a w _ _ hρ => ⟨_, ?_, hρ z⟩
      rw [hb M ι _ (hρ c), hz]
      cases b <;> simp [asBool]
    split at h
    · rename_i hc
      exact key true x (fun M ι v hv => by rw [hc] at hv; cases hv; rfl) rfl h
    · rename_i hc
      exact key false y (fun M ι v hv => by rw [hc] at hv; cases hv; rfl) rfl h
    · rename_i b hc
      rcases bcase_out h with ⟨rfl, h1⟩ | ⟨rfl, h1⟩
      · exact key true x (fun M ι v hv => den_bool (hc ▸ hv)) rfl h1
      · exact key false y (fun M ι v hv => den_bool (hc ▸ hv)) rfl h1
    · exact h.elim
  case h_4 t x ho =>
    obtain ⟨av, hK, hs⟩ := loadA_out hT h
    exact sem_of (s := fun f => Instr.loadAt t (f x)) (fun f => by simp [execOp, ho]) K hK fun own M ι a w hA hh hρ => hs own M ι w _ hA hh (hρ x)
  case h_5 x ho =>
    split at h
    · rename_i b i j hx
      split at h
      · rename_i B hb
        refine ⟨_, h, opSem_val fun own M ι a w hA hh hρ => ⟨a.eval x, ?_, hx ▸ hρ x⟩⟩
        have hv := hρ x
        rw [hx] at hv
        generalize hvx : a.eval x = v at hv
        cases hv with
        | ptr _ _ _ L hL => simp [execOp, ho, hvx]
        | ptrL _ _ _ _ hL => rw [(hh.dom b).2 hL] at hb; cases hb
      · exact h.elim
    · rename_i c j hx
      refine ⟨_, h, opSem_val fun own M ι a w hA hh hρ => ⟨a.eval x, ?_, hx ▸ hρ x⟩⟩
      have hv := hρ x
      rw [hx] at hv
      generalize hvx : a.eval x = v at hv
      cases hv with
      | d _ _ hv =>
        cases hv with
        | dp _ _ b off val hm hdd => simp [execOp, ho, hvx]
    · exact h.elim
  case h_6 op t x y k ho =>
    obtain ⟨av, hK, hs⟩ := binA_out hT h
    exact sem_of (s := fun f => do eqGuard op t x y (f x) (f y); binOp op t (f x) (f y)) (fun f => by simp [execOp, ho]) K hK fun own M ι a w hA hh hρ => hs M ι _ _ (hρ x) (hρ y) x y w
  case h_7 op t x ho =>
    split at h
    · split at h
      · rename_i b hx
        exact sem_of (s := fun f => Op.unary .not (f x)) (fun f => by simp [execOp, ho]) K h fun own M ι a w hA hh hρ => ⟨.bool (!b), by have e0 := den_bool (hx ▸ hρ x); rw [e0]; simp [Op.unary], .d _ _ (.bool _)⟩
      · rename_i hx
        exact sem_of (s := fun f => Op.unary .not (f x)) (fun f => by simp [execOp, ho]) K h fun own M ι a w hA hh hρ => ⟨.bool false, by
          have hv := hρ x
          rw [hx] at hv
          generalize hvx : a.eval x = v at hv
          cases hv; simp [Op.unary], .ff⟩
      · rename_i hx
        exact sem_of (s := fun f => Op.unary .not (f x)) (fun f => by simp [execOp, ho]) K h fun own M ι a w hA hh hρ => ⟨.bool true, by
          have hv := hρ x
          rw [hx] at hv
          generalize hvx : a.eval x = v at hv
          cases hv; simp [Op.unary], .tt⟩
      · exact h.elim
    · split at h
      · rename_i k n hx
        exact sem_of (s := fun f => Op.unary .xor (f x)) (fun f => by simp [execOp, ho]) K h fun own M ι a w hA hh hρ => ⟨_, by have e0 := den_int (hx ▸ hρ x); rw [e0]; simp [Op.unary, Op.intBits, bitsV], .d _ _ (.int _ _)⟩
      · exact h.elim
    · exact h.elim
  case h_8 src dst x ho =>
    split at h
    · rename_i k hk
      split at h
      · rename_i k2 hk2
        split at h
        · rename_i k' n hx
          have hK := wrapK_out h
          exact sem_of (s := fun f => convert src dst (f x)) (fun f => by simp [execOp, ho]) K hK fun own M ι a w hA hh hρ => ⟨_, by have e0 := den_int (hx ▸ hρ x); rw [e0]; simp [convert, run_underlying (und_int hT hk), run_underlying (und_int hT hk2), Conv.intToInt], .d _ _ (.int _ _)⟩
        · exact h.elim
      · exact h.elim
    · exact h.elim
  case h_9 t x lo hi mx ho => exact slice_sem hT ho h
  case h_10 s x f ho =>
    split at h
    · rename_i b i j hx
      split at h
      · rename_i B hb
        obtain ⟨F, fl, hu, hf, hk, hK⟩ := fieldOff_out hT h
        refine sem_of (s := fun g => Instr.fieldAt s (g x) f) (fun f => by simp [execOp, ho]) K hK fun own M ι a w hA hh hρ => ?_
        have hv := hρ x
        rw [hx] at hv
        generalize hvx : a.eval x = v at hv
        cases hv with
        | ptr _ _ _ L hL => exact ⟨_, fieldAt_out hT hu hf hk _ _ w, by rw [Nat.add_assoc]; exact .ptr b i _ L hL⟩
        | ptrL _ _ _ _ hL => rw [(hh.dom b).2 hL] at hb; cases hb
      · exact h.elim
    · rename_i c j hx
      obtain ⟨F, fl, hu, hf, hk, hK⟩ := fieldOff_out hT h
      refine sem_of (s := fun g => Instr.fieldAt s (g x) f) (fun f => by simp [execOp, ho]) K hK fun own M ι a w hA hh hρ => ?_
      have hv := hρ x
      rw [hx] at hv
      generalize hvx : a.eval x = v at hv
      cases hv with
      | d _ _ hv =>
        cases hv with
        | dp _ _ b off val hm hdd => exact ⟨_, fieldAt_out hT hu hf hk _ _ w, by rw [Nat.add_assoc]; exact .d _ _ (.dp c _ b off val hm hdd)⟩
    · exact h.elim
  case h_11 s x f ho =>
    split at h
    · rename_i c hx
      obtain ⟨F, fl, hu, hf, hk, h⟩ := fieldOff_out hT h
      obtain ⟨av, hK, hl, hd⟩ := partA_out h (size_one hT hk)
      refine sem_of (s := fun g => Instr.field s (g x) f) (fun f => by simp [execOp, ho]) K hK fun own M ι a w hA hh hρ => ?_
      have hv := hρ x
      rw [hx] at hv
      obtain ⟨vs, hvs, hs, hdv⟩ := den_agg_inv hv
      obtain ⟨g, hg, hden⟩ := hd M ι (fun i => vs[i]?) (fun i x hx => by
        have hlt : i < vs.size := by rw [hs]; exact (List.getElem?_eq_some_iff.1 hx).1
        exact ⟨vs[i], by simp [hlt], hdv i x _ hx (by simp [hlt])⟩)
      refine ⟨_, ?_, hden⟩
      rw [hvs]
      simp only [Instr.field, asAgg, Sem.run_bind, Sem.run_pure, Result.andThen_ok, run_underlying hu, hf, part, run_isAggT hT w hk]
      cases ha : (T fl.type).k.agg with
      | true =>
        simp only [if_true, Sem.run_bind, run_sizeT hT w hk, Result.andThen_ok, Sem.run_pure]
        congr 2
        apply Array.ext_getElem?
        intro i
        rw [Array.getElem?_extract]
        simp only [List.getElem?_toArray, List.getElem?_map]
        split
        · rename_i hi
          rw [hg i (by omega), List.getElem?_range (by omega)]; rfl
        · rename_i hi
          rw [List.getElem?_eq_none (by simp; omega)]; rfl
      | false =>
        have := hg 0 (by have := size_pos hT hk; omega)
        simp only [Nat.add_zero] at this
        simp [this]
    · exact h.elim
  case h_12 t x i ho =>
    obtain ⟨av, hK, hs⟩ := indexAddrA_out hT h
    exact sem_of (s := fun f => Instr.indexAt t (f x) (f i)) (fun f => by simp [execOp, ho]) K hK fun own M ι a w hA hh hρ => hs own M ι w _ _ hh (hρ x) (hρ i)
  case h_13 t x i ho =>
    obtain ⟨av, hK, hs⟩ := indexA_out hT h
    exact sem_of (s := fun f => Instr.index t (f x) (f i)) (fun f => by simp [execOp, ho]) K hK fun own M ι a w hA hh hρ => hs M ι w _ _ (hρ x) (hρ i)
  case h_14 x i ho =>
    split at h
    · rename_i c hx
      unfold getC at h
      split at h
      · rename_i y hy
        refine sem_of (s := fun f => Instr.extract (f x) i) (fun f => by simp [execOp, ho]) K (force_out h).1 fun own M ι a w hA hh hρ => ?_
        have hv := hρ x
        rw [hx] at hv
        obtain ⟨vs, hvs, hs, hdv⟩ := den_tup_inv hv
        have hlt : i < vs.size := by rw [hs]; exact (List.getElem?_eq_some_iff.1 hy).1
        exact ⟨vs[i], by rw [hvs]; simp [Instr.extract, hlt], hdv i y _ hy (by simp [hlt])⟩
      · exact h.elim
    · exact h.elim
  case h_15 t ps ho => exact build_sem hT ho h
  case h_16 t ho =>
    split at h
    · rename_i d hd
      exact alloc_sem hT ho h
    · exact h.elim
  case h_17 t x ho =>
    split at h
    · rename_i d hd
      exact box_sem ho h
    · exact h.elim
  case h_18 t x y ho =>
    split at h
    · rename_i b i j hx
      split at h
      · rename_i c hb
        exact storeBox_sem hT ho hx hb h
      · rename_i l sz hb
        exact storeRow_sem hT ho hx hb h
      · exact h.elim
    · exact h.elim
  case h_19 t x y ho =>
    split at h
    · rename_i d hd
      split at h
      · rename_i e hk
        split at h
        · rename_i k1 n hx
          split at h
          · rename_i k2 c hy
            exact makeSlice_sem hT ho hx hy hk h
          · exact h.elim
        · exact h.elim
      · exact h.elim
    · exact h.elim
  case h_20 t n ps ho =>
    split at h
    · rename_i d hd
      exact buildSlice_sem hT ho h
    · exact h.elim
  case h_21 fn first cap ho =>
    split at h
    · rename_i f
      exact makeFunc_sem ho h
    · exact h.elim
  case h_22 c ho => exact callG_sound hT ho h
  case h_23 => exact h.elim

end
end Go.Lk


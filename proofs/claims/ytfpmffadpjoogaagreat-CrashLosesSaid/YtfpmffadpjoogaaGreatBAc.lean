/-
  What is proved here: what functions of the program compute, and what follows; no condition beyond each theorem's own.
-/
import Derived.Test.YtfpmffadpjoogaaGreatBAb
import Derived.Laws.BytesString
import Derived.Orders
import Derived.LoopN
set_option linter.unusedSimpArgs false
set_option linter.unusedVariables false
set_option linter.unnecessarySimpa false
set_option linter.unusedSectionVars false
namespace Go.Lk
open Go Go.RowKit

def BoxLe (hp hp' : Nat → Option Blk) : Prop := ∀ b, hp' b = hp b ∨ ∃ c fr, hp b = some (.box c fr) ∧ hp' b = some (.box c true)

theorem capsF_sem {own : Nat → Prop} {ι : Inj} {w : World} {hp : Nat → Option Blk} : ∀ {caps : List AV} {cs : List D} {ws : List (Nat × Blk)}, opG.capsF hp caps = some (cs, ws) → ∀ (M : Mem) (hp1 : Nat → Option Blk), BoxLe hp hp1 → Agree M w → HRel own M ι hp1 w →
    ∃ M', Sub M M' ∧ Agree M' w ∧ NewDom own M M' ∧ HRel own M' ι (writes hp1 ws) w ∧ cs.length = caps.length ∧ ∀ (i : Nat) (x : AV) (d : D) (v : Value), caps[i]? = some x → cs[i]? = some d → DenA M ι x v → DenD M' d v
  | [], cs, ws, h, M, hp1, hl, ha, hh => by
    simp only [opG.capsF, Option.some.injEq, Prod.mk.injEq] at h
    obtain ⟨rfl, rfl⟩ := h
    exact ⟨M, .refl M, ha, .refl _ _, hh, rfl, fun i x d v h1 => by simp at h1⟩
  | x :: r, cs, ws, h, M, hp1, hl, ha, hh => by
    have plain : ∀ d0 cs0 ws0, conv.pure1 x = some d0 → opG.capsF hp r = some (cs0, ws0) → cs = d0 :: cs0 → ws = ws0 →
        ∃ M', Sub M M' ∧ Agree M' w ∧ NewDom own M M' ∧ HRel own M' ι (writes hp1 ws) w ∧ cs.length = (x :: r).length ∧ ∀ (i : Nat) (y : AV) (d : D) (v : Value), (x :: r)[i]? = some y → cs[i]? = some d → DenA M ι y v → DenD M' d v := by
      intro d0 cs0 ws0 h1 h2 e1 e2
      subst e1 e2
      obtain ⟨M', s1, a1, n1, g1, l1, d1⟩ := capsF_sem h2 M hp1 hl ha hh
      refine ⟨M', s1, a1, n1, g1, by simp [l1], fun i y d v hy hd hv => ?_⟩
      cases i with
      | zero =>
        simp only [List.getElem?_cons_zero, Option.some.injEq] at hy hd
        subst hy hd
        exact (den_pure1 h1 hv).mono s1
      | succ i => exact d1 i y d v (by simpa using hy) (by simpa using hd) hv
    cases x with
    | ptr b i j =>
      simp only [opG.capsF] at h
      cases hb : hp b with
      | none => simp [hb] at h
      | some B =>
        cases B with
        | row l sz fr => simp [hb] at h
        | box c fr =>
          simp only [hb] at h
          cases hi : Nat.beq i 0 with
          | false => simp [hi] at h
          | true =>
            have hi0 := Nat.eq_of_beq_eq_true hi
            subst hi0
            cases hp2 : conv.pures c with
            | none => simp [hp2] at h
            | some ds =>
              cases hr : opG.capsF hp r with
              | none => simp [hp2, hr] at h
              | some q =>
                obtain ⟨cs0, ws0⟩ := q
                simp only [hi, hp2, hr, cond_true, Option.some.injEq, Prod.mk.injEq] at h
                obtain ⟨rfl, rfl⟩ := h
                have hb1 : ∃ fr', hp1 b = some (.box c fr') := by
                  rcases hl b with e | ⟨c', fr', e1, e2⟩
                  · exact ⟨fr, e.trans hb⟩
                  · rw [hb] at e1; cases e1; exact ⟨true, e2⟩
                obtain ⟨fr', hb1⟩ := hb1
                obtain ⟨M1, s1, a1, n1, g1⟩ := freeze ha hh hb1 (B' := .box c true) (.inr ⟨_, _, rfl, rfl⟩)
                have hl1 : BoxLe hp (upd hp1 b (some (.box c true))) := by
                  intro b'
                  by_cases e : b' = b
                  · subst e; rw [upd_same]; exact .inr ⟨c, fr, hb, rfl⟩
                  · rw [upd_other _ _ e]; exact hl b'
                obtain ⟨M', s2, a2, n2, g2, l2, d2⟩ := capsF_sem hr M1 _ hl1 a1 g1
                refine ⟨M', s1.trans s2, a2, n1.trans n2, g2, by simp [l2], fun i y d v hy hd hv => ?_⟩
                cases i with
                | succ i => exact d2 i y d v (by simpa using hy) (by simpa using hd) (hv.mono s1)
                | zero =>
                  simp only [List.getElem?_cons_zero, Option.some.injEq] at hy hd
                  subst hy hd
                  refine DenD.mono s2 (den_cap1 g1 (x := .ptr b 0 j) ?_ (hv.mono s1))
                  simp [conv.cap1, upd_same, hp2]
    | d x0 =>
      simp only [opG.capsF] at h
      cases hr : opG.capsF hp r with
      | none => simp [conv.pure1, hr] at h
      | some q =>
        simp only [conv.pure1, hr, Option.some.injEq, Prod.mk.injEq] at h
        exact plain x0 q.1 q.2 rfl hr h.1.symm h.2.symm
    | tt =>
      simp only [opG.capsF] at h
      cases hr : opG.capsF hp r with
      | none => simp [conv.pure1, hr] at h
      | some q =>
        simp only [conv.pure1, hr, Option.some.injEq, Prod.mk.injEq] at h
        exact plain _ q.1 q.2 rfl hr h.1.symm h.2.symm
    | ff =>
      simp only [opG.capsF] at h
      cases hr : opG.capsF hp r with
      | none => simp [conv.pure1, hr] at h
      | some q =>
        simp only [conv.pure1, hr, Option.some.injEq, Prod.mk.injEq] at h
        exact plain _ q.1 q.2 rfl hr h.1.symm h.2.symm
    | nil =>
      simp only [opG.capsF] at h
      cases hr : opG.capsF hp r with
      | none => simp [conv.pure1, hr] at h
      | some q =>
        simp only [conv.pure1, hr, Option.some.injEq, Prod.mk.injEq] at h
        exact plain _ q.1 q.2 rfl hr h.1.symm h.2.symm
    | agg c => simp [opG.capsF, conv.pure1] at h
    | tup c => simp [opG.capsF, conv.pure1] at h
    | own b => simp [opG.capsF, conv.pure1] at h
    | win b lo n c => simp [opG.capsF, conv.pure1] at h
    | fn f c => simp [opG.capsF, conv.pure1] at h
    | dead => simp [opG.capsF, conv.pure1] at h

theorem evs_get {ρ : Operand → AV} : ∀ (l : List Operand) (i : Nat), (evs ρ l)[i]? = (l[i]?).map ρ
  | [], i => by simp [evs]
  | x :: r, 0 => by simp [evs]
  | x :: r, i + 1 => by simpa [evs] using evs_get r i
theorem evs_len {ρ : Operand → AV} : ∀ (l : List Operand), (evs ρ l).length = l.length
  | [] => rfl
  | x :: r => by simp [evs, evs_len r]

section
variable {P : Program} {T : Tab} (hT : TabOk P T)

theorem makeFunc_sem {o : Oper} {f : FuncId} {first cap : Array Operand} {ρ : Operand → AV} {hp : Nat → Option Blk} {K : Eff → Prop} (ho : o.op = .makeFunc (.func f) first cap)
    (h : bif Nat.beq first.size 0 then (match opG.capsF hp (evs ρ cap.toList) with
      | some (cs, ws) => K ⟨.d (.fn f cs), ws, none⟩
      | none => False) else False) : ∃ e, K e ∧ OpSem P o ρ hp e := by
  obtain ⟨hf, h⟩ := bif_one h
  have hf0 : first = #[] := by
    have := Nat.eq_of_beq_eq_true hf
    simpa using this
  cases hc : opG.capsF hp (evs ρ cap.toList) with
  | none => simp [hc] at h
  | some q =>
    obtain ⟨cs, ws⟩ := q
    simp only [hc] at h
    refine ⟨_, h, opSem_run fun own M ι a w hown ha hh hρ => ?_⟩
    obtain ⟨M', s1, a1, n1, g1, l1, d1⟩ := capsF_sem hc M hp (fun _ => .inl rfl) ha hh
    refine ⟨.func (.func f) #[] (cap.map a.eval), w, by simp [execOp, ho, hf0, Instr.makeFunc], M', ι, .refl _ _, s1, a1, n1, g1, fun _ _ => rfl, .d _ _ (.fn f cs _ ?_ fun i d v hd hv => ?_)⟩
    · rw [l1, evs_len]; simp
    · simp only [Array.getElem?_map] at hv
      cases hx : cap[i]? with
      | none => simp [hx] at hv
      | some x =>
        simp only [hx, Option.map_some, Option.some.injEq] at hv
        subst hv
        exact d1 i (ρ x) d _ (by rw [evs_get]; simp [hx]) hd (hρ x)

theorem emp_bd {lo hi : Option Int} (h0 : 0 ≤ lo.getD 0) (h1 : lo.getD 0 ≤ hi.getD ((0 : Nat) : Int)) (h2 : hi.getD ((0 : Nat) : Int) ≤ ((0 : Nat) : Int)) : (hi.getD ((0 : Nat) : Int)).toNat = 0 ∧ (lo.getD 0).toNat = 0 := by
  have a1 : lo.getD 0 ≤ hi.getD (0 : Int) := h1
  have a2 : hi.getD (0 : Int) ≤ (0 : Int) := h2
  show (hi.getD (0 : Int)).toNat = 0 ∧ (lo.getD 0).toNat = 0
  clear h1 h2
  omega

theorem sliceBd_out {ρ : Operand → AV} {o : Option Operand} {K : Option Int → Prop} (h : sliceBd ρ o K) :
    ∃ b, K b ∧ ((o = none ∧ b = none) ∨ ∃ x k n, o = some x ∧ b = some n ∧ ρ x = .d (.int k n)) := by
  unfold sliceBd at h
  split at h
  · exact ⟨none, h, .inl ⟨rfl, rfl⟩⟩
  · rename_i x
    split at h
    · rename_i k n hx
      exact ⟨some n, h, .inr ⟨x, k, n, rfl, rfl, hx⟩⟩
    · exact h.elim

theorem bd_eval {M : Mem} {ι : Inj} {ρ : Operand → AV} {a : Act} (hρ : ∀ x, DenA M ι (ρ x) (a.eval x)) {o : Option Operand} {b : Option Int} (h : (o = none ∧ b = none) ∨ ∃ x k n, o = some x ∧ b = some n ∧ ρ x = .d (.int k n)) :
    ∃ k, o.map a.eval = b.map (.int k) := by
  rcases h with ⟨rfl, rfl⟩ | ⟨x, k, n, rfl, rfl, hx⟩
  · exact ⟨.i64, rfl⟩
  · exact ⟨k, by simp [den_int (hx ▸ hρ x)]⟩

include hT in
theorem run_sliceT {t el : TypeId} (hk : (T t).k = .slice el) {w : World} {base : Option Addr} {len cap : Nat} {lo hi : Option Int} {k1 k2 : IntKind} (h0 : 0 ≤ lo.getD 0) (h1 : lo.getD 0 ≤ hi.getD len) (h2 : hi.getD len ≤ len) (hc : len ≤ cap) :
    (Instr.sliceAt t (.slice base len cap) (lo.map (.int k1)) (hi.map (.int k2)) none).run P w =
      .ok (.slice (if cap = (lo.getD 0).toNat then base else base.map (·.add ((lo.getD 0).toNat * (T el).size))) ((hi.getD len).toNat - (lo.getD 0).toNat) (cap - (lo.getD 0).toNat)) w := by
  obtain ⟨hu, hke⟩ := und_slice hT hk
  simp [Instr.sliceAt, Instr.slice, run_underlying hu, run_sliceBoundsT (P := P) w h0 h1 h2 hc, run_sizeT hT w hke]

theorem lst_slice {M : Mem} {r : List (List D)} {b off cap sz : Nat} {val : Nat → Nat → Value} (hl : r.length ≤ cap) (hs : ∀ (i : Nat) (e : List D), r[i]? = some e → e.length = sz)
    (hm : ∀ (i j : Nat) (e : List D) (d : D), r[i]? = some e → e[j]? = some d → M b (off + i * sz + j) = some (val i j)) (hd : ∀ (i j : Nat) (e : List D) (d : D), r[i]? = some e → e[j]? = some d → DenD M d (val i j))
    (l h : Nat) (h1 : l ≤ h) (h2 : h ≤ r.length) :
    DenD M (.lst ((r.take h).drop l)) (.slice (if cap = l then some ⟨b, off, none⟩ else some ⟨b, off + l * sz, none⟩) (h - l) (cap - l)) := by
  have hlen : ((r.take h).drop l).length = h - l := by simp; omega
  by_cases he : h - l = 0
  · have : (r.take h).drop l = [] := List.eq_nil_of_length_eq_zero (by omega)
    rw [this, he]
    exact .emp _ _
  · rw [if_neg (by omega), ← hlen]
    have hget : ∀ (i : Nat) (e : List D), ((r.take h).drop l)[i]? = some e → r[l + i]? = some e := by
      intro i e hi
      rw [List.getElem?_drop, List.getElem?_take] at hi
      split at hi
      · exact hi
      · cases hi
    refine .lst _ b (off + l * sz) (cap - l) sz (fun i j => val (l + i) j) (by omega) (fun i e hi => hs _ e (hget i e hi)) (fun i j e d hi hj => ?_) fun i j e d hi hj => hd _ j e d (hget i e hi) hj
    have := hm (l + i) j e d (hget i e hi) hj
    rw [Nat.add_mul] at this
    rw [show off + l * sz + i * sz + j = off + (l * sz + i * sz) + j by omega]
    exact this

include hT in
theorem run_sliceW {t el : TypeId} (hk : (T t).k = .slice el) {w : World} {a : Addr} {len cap : Nat} {lo hi : Option Int} {k1 k2 : IntKind} (h0 : 0 ≤ lo.getD 0) (h1 : lo.getD 0 ≤ hi.getD len) (h2 : hi.getD len ≤ cap) (hc : len ≤ cap) :
    (Instr.sliceAt t (.slice (some a) len cap) (lo.map (.int k1)) (hi.map (.int k2)) none).run P w =
      .ok (.slice (if cap = (lo.getD 0).toNat then some a else some (a.add ((lo.getD 0).toNat * (T el).size))) ((hi.getD len).toNat - (lo.getD 0).toNat) (cap - (lo.getD 0).toNat)) w := by
  obtain ⟨hu, hke⟩ := und_slice hT hk
  have hb : (Instr.sliceBounds true len cap (lo.map (.int k1)) (hi.map (.int k2)) none).run P w = .ok ((lo.getD 0).toNat, (hi.getD len).toNat, cap) w := by
    cases lo with
    | none =>
      cases hi with
      | none => simp [Instr.sliceBounds]
      | some h =>
        simp only [Option.getD_some, Option.getD_none] at h0 h1 h2
        simp [Instr.sliceBounds, run_boundsOk (P := P) w (x := h) (y := cap) (k := k2) h1 (by omega)]
    | some l =>
      cases hi with
      | none =>
        simp only [Option.getD_some, Option.getD_none] at h0 h1 h2
        simp [Instr.sliceBounds, run_boundsOk (P := P) w (x := l) (y := len) (k := k1) h0 (by omega)]
      | some h =>
        simp only [Option.getD_some] at h0 h1 h2
        simp [Instr.sliceBounds, run_boundsOk (P := P) w (x := h) (y := cap) (k := k2) (by omega) (by omega), run_boundsOk (P := P) w (x := l) (y := h.toNat) (k := k1) h0 (by omega)]
  simp [Instr.sliceAt, Instr.slice, run_underlying hu, hb, run_sizeT hT w hke]

include hT in
theorem run_sliceX {t el : TypeId} (hk : (T t).k = .slice el) {w : World} {a : Addr} {len cap : Nat} {lo hi : Option Int} {m : Int} {k1 k2 k3 : IntKind} (hs : hi ≠ none) (hm0 : 0 ≤ m) (hm : m ≤ cap) (h0 : 0 ≤ lo.getD 0) (h1 : lo.getD 0 ≤ hi.getD len) (h2 : hi.getD len ≤ m.toNat) :
    (Instr.sliceAt t (.slice (some a) len cap) (lo.map (.int k1)) (hi.map (.int k2)) (some (.int k3 m))).run P w =
      .ok (.slice (if m.toNat = (lo.getD 0).toNat then some a else some (a.add ((lo.getD 0).toNat * (T el).size))) ((hi.getD len).toNat - (lo.getD 0).toNat) (m.toNat - (lo.getD 0).toNat)) w := by
  obtain ⟨hu, hke⟩ := und_slice hT hk
  have hb : (Instr.sliceBounds true len cap (lo.map (.int k1)) (hi.map (.int k2)) (some (.int k3 m))).run P w = .ok ((lo.getD 0).toNat, (hi.getD len).toNat, m.toNat) w := by
    cases hi with
    | none => exact absurd rfl hs
    | some h =>
      cases lo with
      | none =>
        simp only [Option.getD_some, Option.getD_none] at h0 h1 h2
        simp [Instr.sliceBounds, run_boundsOk (P := P) w (x := m) (y := cap) (k := k3) hm0 hm, run_boundsOk (P := P) w (x := h) (y := m.toNat) (k := k2) h1 (by omega)]
      | some l =>
        simp only [Option.getD_some] at h0 h1 h2
        simp [Instr.sliceBounds, run_boundsOk (P := P) w (x := m) (y := cap) (k := k3) hm0 hm, run_boundsOk (P := P) w (x := h) (y := m.toNat) (k := k2) (by omega) (by omega), run_boundsOk (P := P) w (x := l) (y := h.toNat) (k := k1) h0 (by omega)]
  simp [Instr.sliceAt, Instr.slice, run_underlying hu, hb, run_sizeT hT w hke]

theorem win_sub {M : Mem} {ι : Inj} {b lo n k base : Nat} {L : Loc} (h : ι b = some (some L)) (hk : (lo + k) * L.sz ≤ L.size) (hb : base = lo * L.sz ∨ (k = 0 ∧ 0 < lo)) {l h' kk : Nat} (h1 : l ≤ h') (h2 : h' ≤ kk) (h3 : kk ≤ k) {c : Option Nat} (hc : ∀ x, c = some x → kk - l = x) :
    DenA M ι (.win b (lo + l) (h' - l) c) (.slice (if kk = l then some ⟨L.blk, base, none⟩ else some ((⟨L.blk, base, none⟩ : Addr).add (l * L.sz))) (h' - l) (kk - l)) := by
  have hsz : (lo + l + (kk - l)) * L.sz ≤ L.size := Nat.le_trans (Nat.mul_le_mul_right _ (by omega)) hk
  by_cases e : kk = l
  · rw [if_pos e]
    refine .win b _ _ c L _ base h (by omega) hc hsz ?_
    rcases Nat.eq_zero_or_pos l with z | z
    · subst z
      subst e
      rcases hb with hb | hb
      · exact .inl (by simpa using hb)
      · exact .inr ⟨rfl, by omega⟩
    · exact .inr ⟨by omega, by omega⟩
  · rw [if_neg e, addr_add]
    refine .win b _ _ c L _ _ h (by omega) hc hsz (.inl ?_)
    rcases hb with hb | hb
    · rw [hb, Nat.add_mul]
    · omega

include hT in
theorem slice_sem {o : Oper} {t : TypeId} {x : Operand} {lo hi mx : Option Operand} {ρ : Operand → AV} {hp : Nat → Option Blk} {K : Eff → Prop} (ho : o.op = .slice t x lo hi mx)
    (h : sliceBd ρ lo fun lo => sliceBd ρ hi fun hi => sliceBd ρ mx fun mx => sliceA T t (ρ x) hp lo hi mx K) : ∃ e, K e ∧ OpSem P o ρ hp e := by
  obtain ⟨lo', q1, hlo⟩ := sliceBd_out h
  clear h
  obtain ⟨hi', q2, hhi⟩ := sliceBd_out q1
  clear q1
  obtain ⟨mx', h, hmx⟩ := sliceBd_out q2
  clear q2
  have hex : ∀ a : Act, (∀ w : World, (execOp a.eval o).run P w = ((Instr.sliceAt t (a.eval x) (lo.map a.eval) (hi.map a.eval) (mx.map a.eval)).run P w).andThen fun v w => .ok (.value v) w) := by
    intro a w; simp [execOp, ho]
  unfold sliceA at h
  split at h
  · have hm0 : mx = none := by
      rcases hmx with ⟨h1, _⟩ | ⟨_, _, _, _, h2, _⟩
      · exact h1
      · cases h2
    subst hm0
    split at h
    · rename_i s hx
      split at h
      · rename_i hk
        have hu := und_str hT hk
        obtain ⟨h0, h1, h2, h⟩ := sliceK_out h
        refine ⟨_, h, opSem_val fun own M ι a w ha hh hρ => ?_⟩
        obtain ⟨k1, e1⟩ := bd_eval hρ hlo
        obtain ⟨k2, e2⟩ := bd_eval hρ hhi
        have ex := den_str (hx ▸ hρ x)
        refine ⟨_, ?_, .d _ _ (.str _)⟩
        rw [hex, e1, e2, ex]
        simp [Instr.sliceAt, Instr.slice, run_underlying hu, run_sliceBoundsT (P := P) w h0 h1 h2 (Nat.le_refl _)]
      · exact h.elim
    · rename_i r hx
      split at h
      · rename_i el hk
        obtain ⟨hsz, h⟩ := condK_out h
        obtain ⟨h0, h1, h2, h⟩ := sliceK_out h
        refine ⟨_, h, opSem_val fun own M ι a w ha hh hρ => ?_⟩
        obtain ⟨k1, e1⟩ := bd_eval hρ hlo
        obtain ⟨k2, e2⟩ := bd_eval hρ hhi
        have hd := hρ x
        rw [hx] at hd
        generalize hv : a.eval x = v at hd
        cases hd with
        | d _ _ hd =>
          cases hd with
          | emp a0 c =>
            have hh0 : (hi'.getD 0).toNat - (lo'.getD 0).toNat = 0 := by simp at h2; omega
            refine ⟨_, by rw [hex, e1, e2, hv, Option.map_none, run_sliceT hT hk (len := 0) h0 h1 h2 (Nat.zero_le _)]; rfl, ?_⟩
            simp only [List.length_nil] at *
            rw [show ((hi'.getD ((0 : Nat) : Int)).toNat - (lo'.getD 0).toNat) = 0 from hh0]
            have : ((([] : List (List D)).take (hi'.getD ((0 : Nat) : Int)).toNat).drop (lo'.getD 0).toNat) = [] := by simp
            rw [this]
            exact .d _ _ (.emp _ _)
          | lst _ b off cap sz val hl hs hm hdd =>
            refine ⟨_, by rw [hex, e1, e2, hv, Option.map_none, run_sliceT hT hk h0 h1 h2 hl]; rfl, ?_⟩
            have hlst := lst_slice (M := M) (b := b) (off := off) hl hs hm hdd (lo'.getD 0).toNat (hi'.getD r.length).toNat (by omega) (by omega)
            have hadd : (if cap = (lo'.getD 0).toNat then some (⟨b, off, none⟩ : Addr) else (some (⟨b, off, none⟩ : Addr)).map (·.add ((lo'.getD 0).toNat * (T el).size))) = (if cap = (lo'.getD 0).toNat then some (⟨b, off, none⟩ : Addr) else some ⟨b, off + (lo'.getD 0).toNat * (T el).size, none⟩) := by
              split
              · rfl
              · simp [addr_add]
            by_cases hr : r = []
            · subst hr
              have hh0 : (hi'.getD ((([] : List (List D)).length : Nat) : Int)).toNat - (lo'.getD 0).toNat = 0 := by
                  have := emp_bd h0 h1 h2
                  show (hi'.getD ((0 : Nat) : Int)).toNat - (lo'.getD 0).toNat = 0
                  rw [this.1]; exact Nat.zero_sub _
              rw [hh0]
              have : ((([] : List (List D)).take (hi'.getD ((([] : List (List D)).length : Nat) : Int)).toNat).drop (lo'.getD 0).toNat) = [] := by simp
              rw [this]
              exact .d _ _ (.emp _ _)
            · obtain ⟨e, he⟩ : ∃ e, r[0]? = some e := by
                cases r with
                | nil => exact absurd rfl hr
                | cons e r => exact ⟨e, rfl⟩
              have : sz = (T el).size := (hs 0 e he).symm.trans (hsz e (List.mem_of_getElem? he))
              subst this
              rw [hadd]
              exact .d _ _ hlst
      · exact h.elim
    · rename_i b hx
      split at h
      · rename_i r sz fr hb
        split at h
        · rename_i el hk
          obtain ⟨hsz, h⟩ := bif_one h
          have hsz := Nat.eq_of_beq_eq_true hsz
          obtain ⟨h0, h1, h2, h⟩ := sliceK_out h
          refine ⟨_, h, opSem_run fun own M ι a w hown ha hh hρ => ?_⟩
          obtain ⟨k1, e1⟩ := bd_eval hρ hlo
          obtain ⟨k2, e2⟩ := bd_eval hρ hhi
          obtain ⟨M1, s1, a1, n1, g1⟩ := freeze ha hh hb (B' := .row r sz true) (.inl ⟨_, _, _, rfl, rfl⟩)
          have hd := hρ x
          rw [hx] at hd
          have hdd := den_own g1 (upd_same _ _ _) (hd.mono s1)
          generalize hv : a.eval x = v at hd hdd
          have hrun : ∃ u, (Instr.sliceAt t v (lo'.map (.int k1)) (hi'.map (.int k2)) none).run P w = .ok u w ∧ DenA M1 ι (.d (.lst ((r.take (hi'.getD r.length).toNat).drop (lo'.getD 0).toNat))) u := by
            cases hdd with
            | emp a0 c =>
              simp only [List.length_nil] at *
              have hh0 : (hi'.getD ((0 : Nat) : Int)).toNat - (lo'.getD 0).toNat = 0 := by rw [(emp_bd h0 h1 h2).1]; exact Nat.zero_sub _
              refine ⟨_, run_sliceT hT hk (len := 0) h0 h1 h2 (Nat.zero_le _), ?_⟩
              rw [hh0]
              have : ((([] : List (List D)).take (hi'.getD ((0 : Nat) : Int)).toNat).drop (lo'.getD 0).toNat) = [] := by simp
              rw [this]
              exact .d _ _ (.emp _ _)
            | lst _ b' off cap sz' val hl hs hm hdd =>
              refine ⟨_, run_sliceT hT hk h0 h1 h2 hl, ?_⟩
              have hlst := lst_slice (M := M1) (b := b') (off := off) hl hs hm hdd (lo'.getD 0).toNat (hi'.getD r.length).toNat (by omega) (by omega)
              have hadd : (if cap = (lo'.getD 0).toNat then some (⟨b', off, none⟩ : Addr) else (some (⟨b', off, none⟩ : Addr)).map (·.add ((lo'.getD 0).toNat * (T el).size))) = (if cap = (lo'.getD 0).toNat then some (⟨b', off, none⟩ : Addr) else some ⟨b', off + (lo'.getD 0).toNat * (T el).size, none⟩) := by
                split
                · rfl
                · simp [addr_add]
              by_cases hr : r = []
              · subst hr
                have hh0 : (hi'.getD ((([] : List (List D)).length : Nat) : Int)).toNat - (lo'.getD 0).toNat = 0 := by
                  have := emp_bd h0 h1 h2
                  show (hi'.getD ((0 : Nat) : Int)).toNat - (lo'.getD 0).toNat = 0
                  rw [this.1]; exact Nat.zero_sub _
                rw [hh0]
                have : ((([] : List (List D)).take (hi'.getD ((([] : List (List D)).length : Nat) : Int)).toNat).drop (lo'.getD 0).toNat) = [] := by simp
                rw [this]
                exact .d _ _ (.emp _ _)
              · obtain ⟨e, he⟩ : ∃ e, r[0]? = some e := by
                  cases r with
                  | nil => exact absurd rfl hr
                  | cons e r => exact ⟨e, rfl⟩
                have hlen : e.length = sz := by
                  cases hL : ι b with
                  | none => rw [(hh.dom b).2 hL] at hb; cases hb
                  | some oL =>
                    cases oL with
                    | none =>
                      obtain ⟨sz2, fr2, e0⟩ := hh.virt b hL
                      rw [hb] at e0; cases e0
                      exact absurd rfl hr
                    | some L =>
                      obtain ⟨_, cs, Ty, _, _, _, _, _, q4, _⟩ := hh.at_ b _ L hb hL
                      exact q4.len 0 e he
                have : sz' = (T el).size := (hs 0 e he).symm.trans (hlen.trans hsz)
                subst this
                rw [hadd]
                exact .d _ _ hlst
          obtain ⟨u, hu1, hu2⟩ := hrun
          exact ⟨u, w, by rw [hex, hv, e1, e2, Option.map_none, hu1]; rfl, M1, ι, .refl _ _, s1, a1, n1, g1, fun _ _ => rfl, hu2⟩
        · exact h.elim
      · exact h.elim
    · rename_i hx
      split at h
      · rename_i el hk
        obtain ⟨h0, h1, h2, h⟩ := sliceK_out h
        refine ⟨_, h, opSem_val fun own M ι a w ha hh hρ => ?_⟩
        obtain ⟨k1, e1⟩ := bd_eval hρ hlo
        obtain ⟨k2, e2⟩ := bd_eval hρ hhi
        have hd := hρ x
        rw [hx] at hd
        generalize hv : a.eval x = v at hd
        cases hd with
        | nil a0 =>
          refine ⟨_, by rw [hex, hv, e1, e2, Option.map_none, run_sliceT hT hk (len := 0) (cap := 0) h0 h1 h2 (Nat.le_refl _)]; rfl, ?_⟩
          have hl0 : (lo'.getD 0).toNat = 0 := (emp_bd h0 h1 h2).2
          have hh0 : (hi'.getD ((0 : Nat) : Int)).toNat = 0 := (emp_bd h0 h1 h2).1
          rw [hl0, hh0]
          exact .nil _
      · exact h.elim
    · rename_i b lo0 n c hx
      split at h
      · rename_i r sz hb
        split at h
        · rename_i el hk
          obtain ⟨hsz, h⟩ := bif_one h
          have hsz := Nat.eq_of_beq_eq_true hsz
          obtain ⟨h0, h1, h2, h⟩ := winK_out h
          refine ⟨_, h, opSem_val fun own M ι a w ha hh hρ => ?_⟩
          obtain ⟨k1, e1⟩ := bd_eval hρ hlo
          obtain ⟨k2, e2⟩ := bd_eval hρ hhi
          have hd := hρ x
          rw [hx] at hd
          generalize hv : a.eval x = v at hd
          cases hd with
          | winL _ _ _ _ _ hL => rw [(hh.dom b).2 hL] at hb; cases hb
          | win _ _ _ _ L k base hL hn hc hkk hbb =>
            obtain ⟨_, cs, Ty, _, _, q1, _⟩ := hh.at_ b _ L hb hL
            have hck : c.getD n ≤ k := by
              cases c with
              | none => exact hn
              | some m => exact Nat.le_of_eq (hc m rfl).symm
            refine ⟨_, by rw [hex, hv, e1, e2, Option.map_none, run_sliceW hT hk (len := n) (cap := k) h0 h1 (by omega) hn]; rfl, ?_⟩
            rw [← hsz, q1]
            refine win_sub (n := n) hL hkk hbb (by omega) (by omega) (Nat.le_refl _) ?_
            intro x hx
            cases c with
            | none => cases hx
            | some m => rw [hc m rfl]; simpa [subO] using hx
        · exact h.elim
      · exact h.elim
    · exact h.elim
  · rename_i m
    split at h
    · rename_i b lo0 n c hx
      split at h
      · rename_i r sz hb
        split at h
        · rename_i el hk
          obtain ⟨hsz, h⟩ := bif_one h
          have hsz := Nat.eq_of_beq_eq_true hsz
          obtain ⟨⟨hs, hm0, hm⟩, h⟩ := condK_out h
          obtain ⟨h0, h1, h2, h⟩ := winK_out h
          refine ⟨_, h, opSem_val fun own M ι a w ha hh hρ => ?_⟩
          obtain ⟨k1, e1⟩ := bd_eval hρ hlo
          obtain ⟨k2, e2⟩ := bd_eval hρ hhi
          obtain ⟨k3, e3⟩ := bd_eval hρ hmx
          have hd := hρ x
          rw [hx] at hd
          generalize hv : a.eval x = v at hd
          cases hd with
          | winL _ _ _ _ _ hL => rw [(hh.dom b).2 hL] at hb; cases hb
          | win _ _ _ _ L k base hL hn hc hkk hbb =>
            obtain ⟨_, cs, Ty, _, _, q1, _⟩ := hh.at_ b _ L hb hL
            have hck : c.getD n ≤ k := by
              cases c with
              | none => exact hn
              | some m => exact Nat.le_of_eq (hc m rfl).symm
            refine ⟨_, by rw [hex, hv, e1, e2, e3, Option.map_some, run_sliceX hT hk (len := n) (cap := k) hs hm0 (by omega) h0 h1 h2]; rfl, ?_⟩
            rw [← hsz, q1]
            exact win_sub (n := n) hL hkk hbb (by omega) (by omega) (by omega) (fun x hx => by simpa using hx)
        · exact h.elim
      · exact h.elim
    · split at h
      · rename_i el hk
        have hc := (condK_out h).1
        have hK := (condK_out h).2
        clear h
        obtain ⟨rfl, rfl, rfl⟩ := hc
        have h := hK
        clear hK
        obtain ⟨hu, hke⟩ := und_slice hT hk
        have mk : ∀ (own : Nat → Prop) (M : Mem) (ι : Inj) (a : Act) (w : World), (∀ x, DenA M ι (ρ x) (a.eval x)) → ∀ a0 n c, n ≤ c → a.eval x = .slice a0 n c → ∃ v, (execOp a.eval o).run P w = .ok (.value v) w ∧ DenA M ι .nil v := by
          intro own M ι a w hρ a0 n c hnc hv
          obtain ⟨k1, e1⟩ := bd_eval hρ hlo
          obtain ⟨k2, e2⟩ := bd_eval hρ hhi
          obtain ⟨k3, e3⟩ := bd_eval hρ hmx
          refine ⟨.slice (if 0 = 0 then a0 else a0.map (·.add (0 * (T el).size))) (0 - 0) (0 - 0), ?_, .nil _⟩
          rw [hex, hv, e1, e2, e3]
          simp [Instr.sliceAt, Instr.slice, run_underlying hu, Instr.sliceBounds, Instr.sliceBound, asIntOf, run_sizeT hT w hke]
        split at h
        · rename_i r hx
          refine ⟨_, h, opSem_val fun own M ι a w ha hh hρ => ?_⟩
          have hd := hρ x
          rw [hx] at hd
          generalize hv : a.eval x = v at hd
          cases hd with
          | d _ _ hd =>
            cases hd with
            | emp a0 c => exact mk own M ι a w hρ a0 0 c (Nat.zero_le _) hv
            | lst _ b off cap sz val hl hs hm hdd => exact mk own M ι a w hρ _ _ _ hl hv
        · rename_i hx
          refine ⟨_, h, opSem_val fun own M ι a w ha hh hρ => ?_⟩
          have hd := hρ x
          rw [hx] at hd
          generalize hv : a.eval x = v at hd
          cases hd with
          | nil a0 => exact mk own M ι a w hρ a0 0 0 (Nat.le_refl _) hv
        · exact h.elim
      · exact h.elim
end
end Go.Lk

namespace Go.Lk
open Go Go.RowKit

theorem srcAny_out {P : Program} {sz : Nat} {v : AV} {hp : Nat → Option Blk} {K : List (List D) → Prop} (h : srcAny sz v hp K) :
    ∃ l, K l ∧ ∀ n, okRows sz (l.take n) = true → ∀ (own : Nat → Prop) (M : Mem) (ι : Inj) (w : World) (u : Value), Agree M w → HRel own M ι hp w → DenA M ι v u →
      ∃ a c vs, u = .slice a l.length c ∧ SrcAt P M w (.slice a (l.take n).length c) (l.take n) sz vs ∧ ∀ v ∈ vs.toList, v.oneCell' = true := by
  have htk : ∀ (l : List (List D)) (n i : Nat) (e : List D), (l.take n)[i]? = some e → l[i]? = some e := by
    intro l n i e he
    rw [List.getElem?_take] at he
    split at he
    · exact he
    · cases he
  unfold srcAny at h
  split at h
  · rename_i l
    refine ⟨l, h, fun n hok own M ι w u ha hh hd => ?_⟩
    cases hd with
    | d _ _ hd =>
      cases hd with
      | emp a c => exact ⟨a, c, #[], rfl, by simpa using src_empty a c, fun v hv => by simp at hv⟩
      | lst _ b off cap sz' val hl hs hm hdd =>
        have hsz : ∀ i e, (l.take n)[i]? = some e → sz' = sz := fun i e he => (hs i e (htk l n i e he)).symm.trans (okRows_get hok i e he).1
        obtain ⟨vs, hvs⟩ := src_cells (P := P) (M := M) (w := w) (l := l.take n) (sz := sz) b off cap val (fun i e he => (okRows_get hok i e he).1) (fun i j e d he hj => by
          have := hsz i e he
          subst this
          exact ha _ _ _ (hm i j e d (htk l n i e he) hj)) fun i j e d he hj => hdd i j e d (htk l n i e he) hj
        exact ⟨_, _, vs, rfl, hvs, hvs.one hok⟩
  · refine ⟨[], h, fun n hok own M ι w u ha hh hd => ?_⟩
    cases hd with
    | nil a => exact ⟨a, 0, #[], rfl, by simpa using src_empty a 0, fun v hv => by simp at hv⟩
  · rename_i b
    split at h
    · rename_i l sz' fr hb
      obtain ⟨hs, h2⟩ := bif_one h
      clear h
      have := Nat.eq_of_beq_eq_true hs
      subst this
      refine ⟨l, h2, fun n hok own M ι w u ha hh hd => ?_⟩
      cases hd with
      | own _ L cap hL hn hc =>
        obtain ⟨_, cs, Ty, hheap, hsz, q1, q2, q3, q4, q5⟩ := hh.at_ b _ L hb hL
        obtain ⟨vs, hvs⟩ := src_cells (P := P) (M := M) (w := w) (l := l.take n) (sz := sz') L.blk 0 cap (fun i j => (cs[i * sz' + j]?).getD undef) (fun i e he => q4.len i e (htk l n i e he)) (fun i j e d he hj => by
          obtain ⟨v, e1, e2⟩ := q4.den i j e d (htk l n i e he) hj
          rw [cell_of_heap hheap, Nat.zero_add, e1]; rfl) (fun i j e d he hj => by
          obtain ⟨v, e1, e2⟩ := q4.den i j e d (htk l n i e he) hj
          simpa [e1] using e2)
        rw [← q2]
        exact ⟨_, _, vs, rfl, hvs, hvs.one hok⟩
      | ownE _ a hL =>
        obtain ⟨sz2, fr2, e⟩ := hh.virt b hL
        rw [hb] at e; cases e
        exact ⟨a, 0, #[], rfl, by simpa using src_empty a 0, fun v hv => by simp at hv⟩
      | ownL _ _ hL => rw [(hh.dom b).2 hL] at hb; cases hb
    · exact h.elim
  · rename_i b lo n0 c
    split at h
    · rename_i l sz' fr hb
      obtain ⟨hs, h2⟩ := bif_one h
      clear h
      have := Nat.eq_of_beq_eq_true hs
      subst this
      obtain ⟨hle, h⟩ := condK_out h2
      refine ⟨_, h, fun n hok own M ι w u ha hh hd => ?_⟩
      have hlen : ((l.drop lo).take n0).length = n0 := by simp; omega
      rw [hlen]
      have htt : ((l.drop lo).take n0).take n = (l.drop lo).take (min n n0) := by rw [List.take_take]
      rw [htt] at hok ⊢
      cases hd with
      | winL _ _ _ _ _ hL => rw [(hh.dom b).2 hL] at hb; cases hb
      | win _ _ _ _ L k base hL hn hc hk hbb =>
        have hd' : DenA M ι (.win b lo (min n n0) none) (.slice (some ⟨L.blk, base, none⟩) (min n n0) k) := .win b lo _ none L k base hL (by omega) (fun _ h => by cases h) hk hbb
        obtain ⟨vs, k', base', L', e1, e2⟩ := win_src (P := P) hh hb hd' (by omega)
        have hl2 : ((l.drop lo).take (min n n0)).length = min n n0 := by simp; omega
        rw [hl2]
        exact ⟨_, _, vs, rfl, e2, e2.one hok⟩
    · exact h.elim
  · exact h.elim

/-- an element of a row with a middle of its own -/
theorem mid_get {α : Type} (r l : List α) (lo i : Nat) (h : lo + l.length ≤ r.length) : (r.take lo ++ (l ++ r.drop (lo + l.length)))[i]? = if lo ≤ i ∧ i < lo + l.length then l[i - lo]? else r[i]? := by
  have h1 : (r.take lo).length = lo := by simp; omega
  by_cases a : i < lo
  · rw [if_neg (by omega), List.getElem?_append_left (by omega), List.getElem?_take, if_pos a]
  · rw [List.getElem?_append_right (by omega), h1]
    by_cases b : i < lo + l.length
    · rw [if_pos ⟨by omega, b⟩, List.getElem?_append_left (by omega)]
    · rw [if_neg (by omega), List.getElem?_append_right (by omega), List.getElem?_drop]
      congr 1; omega

theorem mid_len {α : Type} (r l : List α) (lo : Nat) (h : lo + l.length ≤ r.length) : (r.take lo ++ (l ++ r.drop (lo + l.length))).length = r.length := by
  simp; omega

section
variable {P : Program} {T : Tab} (hT : TabOk P T)

/-- a part of a row is written -/
theorem row_write {own : Nat → Prop} {M : Mem} {ι : Inj} {hp : Nat → Option Blk} {w : World} (ha : Agree M w) (hh : HRel own M ι hp w) {b lo base : Nat} {r l : List (List D)} {sz : Nat} (hb : hp b = some (.row r sz false)) {L : Loc} (hL : ι b = some (some L))
    {vs : Array Value} (hrow : RowAt M vs l sz) (hs : vs.size = l.length * sz) (hone : ∀ v ∈ vs.toList, v.oneCell' = true) (hle : lo + l.length ≤ r.length) (hbase : base = lo * sz ∨ l = []) :
    ∃ w', (storeCells ⟨L.blk, base, none⟩ vs.toList).run P w = .ok () w' ∧ ∀ (av : AV) (v : Value), DenA M ι av v → Post own M ι hp w ⟨av, [(b, .row (r.take lo ++ (l ++ r.drop (lo + l.length))) sz false)], none⟩ v w' := by
  by_cases hl0 : l = []
  · subst hl0
    have hv0 : vs = #[] := by simpa using hs
    subst hv0
    refine ⟨w, by simp [storeCells], fun av v hd => ⟨M, ι, .refl _ _, .refl M, ha, .refl _ _, ?_, fun _ _ => rfl, hd⟩⟩
    have : upd hp b (some (.row (r.take lo ++ ([] ++ r.drop (lo + ([] : List (List D)).length))) sz false)) = hp := by
      funext x
      by_cases e : x = b
      · subst e; rw [upd_same, hb]; simp
      · rw [upd_other _ _ e]
    show HRel own M ι (upd hp b (some (.row (r.take lo ++ ([] ++ r.drop (lo + ([] : List (List D)).length))) sz false))) w
    rw [this]; exact hh
  · have hbase : base = lo * sz := hbase.resolve_right hl0
    subst hbase
    obtain ⟨hown1, cs, Ty, hheap, hsz, q1, q2, q3, q4, q5⟩ := hh.at_ b _ L hb hL
    have hcl := hh.closed hL _ hb rfl
    have hvl : vs.toList.length = l.length * sz := by simpa using hs
    have hbnd : lo * sz + vs.toList.length ≤ cs.size := by
      rw [hvl, ← Nat.add_mul, hsz]
      exact Nat.le_trans (Nat.mul_le_mul_right _ hle) q3
    obtain ⟨cs', g1, g2, g3, g4, g5, g6, g7⟩ := write_cells (P := P) (own := own) ha hown1 hcl hheap vs.toList (lo * sz) hbnd hone
    refine ⟨w.setRow L.blk cs', g1, fun av v hd => ⟨M, ι, g3, .refl M, g2, .refl _ _, ?_, fun _ _ => rfl, hd⟩⟩
    show HRel own M ι (upd hp b (some (.row (r.take lo ++ (l ++ r.drop (lo + l.length))) sz false))) _
    refine hh.set b _ (by rw [hb]; simp) (.refl M) (fun e => by rw [hL] at e; cases e) (fun L' hL' => ?_) fun b' L' hne hL' => ⟨g7 _ fun e => hne (hh.inj b' b L' L hL' hL e), hh.closed hL'⟩
    rw [hL] at hL'; cases hL'
    have hml := mid_len r l lo hle
    have hlenE : ∀ (i : Nat) (e : List D), (r.take lo ++ (l ++ r.drop (lo + l.length)))[i]? = some e → e.length = sz := by
      intro i e he
      rw [mid_get r l lo i hle] at he
      split at he
      · exact hrow.len _ e he
      · exact q4.len _ e he
    refine ⟨cs', Ty, g4, by rw [g5]; exact hsz, q1, by rw [hml]; exact q2, by rw [hml]; exact q3, ⟨hlenE, fun i j e d he hj => ?_⟩, (by intro e; cases e), fun _ => hcl⟩
    have hjl : j < sz := by rw [← hlenE i e he]; exact (List.getElem?_eq_some_iff.1 hj).1
    rw [g6, hvl]
    rw [mid_get r l lo i hle] at he
    split at he
    · rename_i hin
      obtain ⟨x, x1, x2⟩ := hrow.den _ j e d he hj
      have e1 : i * sz + j = lo * sz + ((i - lo) * sz + j) := by
        rw [← Nat.add_assoc, ← Nat.add_mul]; congr 2; omega
      have h2 : (i - lo) * sz + j < l.length * sz := idx_lt (by omega) hjl
      rw [if_pos ⟨by omega, by omega⟩]
      refine ⟨x, ?_, x2⟩
      rw [e1, Nat.add_sub_cancel_left]
      simpa using x1
    · rename_i hin
      have : ¬ (lo * sz ≤ i * sz + j ∧ i * sz + j < lo * sz + l.length * sz) := by
        rintro ⟨p1, p2⟩
        by_cases a : i < lo
        · have := idx_lt (sz := sz) a hjl; omega
        · have h3 : lo + l.length ≤ i := by omega
          have := Nat.mul_le_mul_right sz h3
          rw [Nat.add_mul] at this
          omega
      rw [if_neg this]
      exact q4.den i j e d he hj

/-- zeros -/
theorem zero_rows {e : TypeId} {z : Value} (hzc : zeroChk z.cells.toList (T e).zero = true) (hzl : (T e).zero.length = (T e).size) (hpos : 0 < (T e).size) (n : Nat) (M : Mem) : RowAt M (Builtin.zeroCells z.cells n) (List.replicate n (T e).zero) (T e).size ∧ (Builtin.zeroCells z.cells n).size = n * (T e).size ∧
    (okRow (T e).size (T e).zero = true → ∀ v ∈ (Builtin.zeroCells z.cells n).toList, v.oneCell' = true) := by
  obtain ⟨z1, z2⟩ := zeroChk_get hzc
  have hzs : z.cells.size = (T e).size := by rw [← hzl, ← z1]; simp
  have hget : ∀ j d', (T e).zero[j]? = some d' → ∀ i, i < n → ∃ v, (Builtin.zeroCells z.cells n)[i * (T e).size + j]? = some v ∧ ∀ M, DenD M d' v := by
    intro j d' hd' i hi
    have hj := (List.getElem?_eq_some_iff.1 hd').1
    rw [hzl] at hj
    obtain ⟨v, g1, g2, _⟩ := z2 j d' hd'
    refine ⟨v, ?_, g2⟩
    have hlt : i * (T e).size + j < n * z.cells.size := by rw [hzs]; exact idx_lt hi hj
    simp only [Builtin.zeroCells, Array.getElem?_map, Array.getElem?_range, if_pos hlt, Option.map_some, Option.some.injEq]
    rw [hzs, Nat.mul_comm, Nat.mul_add_mod, Nat.mod_eq_of_lt hj]
    have hlt2 : j < z.cells.size := by omega
    rw [getElem!_pos z.cells _ hlt2]
    have : z.cells[j]? = some v := by simpa using g1
    rw [Array.getElem?_eq_getElem hlt2] at this
    simpa using this
  have hsize : (Builtin.zeroCells z.cells n).size = n * (T e).size := by simp [Builtin.zeroCells, hzs]
  refine ⟨⟨fun i el hel => ?_, fun i j el d' hel hd' => ?_⟩, hsize, fun hok v hv => ?_⟩
  · rw [List.getElem?_replicate] at hel
    split at hel
    · cases hel; exact hzl
    · cases hel
  · rw [List.getElem?_replicate] at hel
    split at hel
    · rename_i hi
      cases hel
      obtain ⟨v, g1, g2⟩ := hget j d' hd' i hi
      exact ⟨v, g1, g2 M⟩
    · cases hel
  · obtain ⟨k, hk, rfl⟩ := List.mem_iff_getElem.1 hv
    have hk' : k < n * (T e).size := by rw [← hsize]; simpa using hk
    obtain ⟨i, j, rfl, hi, hj⟩ := idx_split hk'
    have hd : (T e).zero[j]? = some ((T e).zero[j]'(by omega)) := List.getElem?_eq_getElem (by omega)
    obtain ⟨v, g1, g2⟩ := hget j _ hd i hi
    have : (Builtin.zeroCells z.cells n).toList[i * (T e).size + j] = v := by
      have h := g1
      rw [← Array.getElem?_toList, List.getElem?_eq_getElem hk] at h
      simpa using h
    rw [this]
    simp only [okRow, Bool.and_eq_true, List.all_eq_true] at hok
    exact one_cell (hok.2 _ (List.mem_of_getElem? hd)) (g2 (fun _ _ => none))

include hT in
theorem copy_sem {o : Oper} {c : Call} {x y : Operand} {t t2 e : TypeId} {ρ : Operand → AV} {hp : Nat → Option Blk} {K : Eff → Prop} (ho : o.op = .call c) (hc : c.callee = .builtin .copy) (ha : c.args.toList = [x, y]) (ht : c.argTypes.toList = [t, t2]) (hk : (T t).k = .slice e)
    (h : copyW T e (ρ x) (ρ y) hp K) : ∃ e, K e ∧ OpSem P o ρ hp e := by
  have ha' : c.args = #[x, y] := by rw [← Array.toList_inj]; exact ha
  have ht' : c.argTypes = #[t, t2] := by rw [← Array.toList_inj]; exact ht
  obtain ⟨hu, hke⟩ := und_slice hT hk
  unfold copyW at h
  split at h
  · rename_i b lo n cp hx
    split at h
    · rename_i r sz hb
      obtain ⟨hsz, h⟩ := bif_one h
      have hsz := Nat.eq_of_beq_eq_true hsz
      subst hsz
      obtain ⟨src, h, hsrc⟩ := srcAny_out (P := P) h
      obtain ⟨⟨hle, hok⟩, h⟩ := condK_out h
      refine ⟨_, h, opSem_run fun own M ι a w hown hA hh hρ => ?_⟩
      obtain ⟨a0, c0, vs, e1, e2, e3⟩ := hsrc _ hok own M ι w _ hA hh (hρ y)
      have hv := hρ x
      rw [hx] at hv
      generalize hvx : a.eval x = v at hv
      cases hv with
      | winL _ _ _ _ _ hL => rw [(hh.dom b).2 hL] at hb; cases hb
      | win _ _ _ _ L k base hL hn hcc hkk hbb =>
        obtain ⟨_, _, _, _, _, q1, _⟩ := hh.at_ b _ L hb hL
        have hm : (src.take (Nat.min src.length n)).length = Nat.min src.length n := by
          rw [List.length_take]; exact Nat.min_eq_left (Nat.min_le_left _ _)
        have hmn : Nat.min src.length n ≤ n := Nat.min_le_right _ _
        obtain ⟨w', g1, g2⟩ := row_write (P := P) hA hh hb hL (lo := lo) (base := base) e2.row e2.size e3 (by rw [hm]; omega) (by
          rcases hbb with h | h
          · exact .inl (by rw [h, q1])
          · right
            apply List.eq_nil_of_length_eq_zero
            rw [hm]; omega)
        have hp' := g2 (.d (.int .i64 (Nat.min src.length n))) (.int .i64 (Nat.min src.length n)) (.d _ _ (.int _ _))
        rw [hm] at hp'
        refine ⟨_, w', ?_, hp'⟩
        have hr := e2.run w fun _ _ => rfl
        have hfc : (Builtin.firstCells (T e).size (Nat.min src.length n) (.slice a0 src.length c0)).run P w = .ok vs w := by
          rw [hm] at hr
          cases a0 with
          | none => exact hr
          | some a0 => exact hr
        simp only [execOp, ho, resolve, hc, invoke, builtin, ha', ht', hvx, e1, Builtin.copy_, run_underlying hu, run_sizeT hT w hke, Builtin.lenOf, hfc, g1, goInt, Array.map, Sem.run_bind, Sem.run_pure, Result.andThen_ok]
        simp [Builtin.copy_, run_underlying hu, run_sizeT hT w hke, Builtin.lenOf, hfc, g1, goInt, hvx, e1]
    · exact h.elim
  · exact h.elim

include hT in
theorem clear_sem {o : Oper} {c : Call} {x : Operand} {t e : TypeId} {ρ : Operand → AV} {hp : Nat → Option Blk} {K : Eff → Prop} (ho : o.op = .call c) (hc : c.callee = .builtin .clear) (ha : c.args.toList = [x]) (ht : c.argTypes.toList = [t]) (hk : (T t).k = .slice e)
    (h : clearW T e (ρ x) hp K) : ∃ e, K e ∧ OpSem P o ρ hp e := by
  have ha' : c.args = #[x] := by rw [← Array.toList_inj]; exact ha
  have ht' : c.argTypes = #[t] := by rw [← Array.toList_inj]; exact ht
  obtain ⟨hu, hke⟩ := und_slice hT hk
  unfold clearW at h
  split at h
  · rename_i b lo n cp hx
    split at h
    · rename_i r sz hb
      obtain ⟨hsz, h⟩ := bif_one h
      have hsz := Nat.eq_of_beq_eq_true hsz
      subst hsz
      obtain ⟨⟨hle, hok⟩, h⟩ := condK_out h
      refine ⟨_, h, opSem_run fun own M ι a w hown hA hh hρ => ?_⟩
      have hv := hρ x
      rw [hx] at hv
      generalize hvx : a.eval x = v at hv
      cases hv with
      | winL _ _ _ _ _ hL => rw [(hh.dom b).2 hL] at hb; cases hb
      | win _ _ _ _ L k base hL hn hcc hkk hbb =>
        obtain ⟨_, _, _, _, _, q1, _⟩ := hh.at_ b _ L hb hL
        obtain ⟨_, ie, _, hie, _, _, _, ⟨z, hz, hzc⟩, _⟩ := (tyFact hT hke).desc
        have hzr : (zeroValue e).run P w = .ok z w := by simp [zeroValue, typeInfo, hie, hz]
        obtain ⟨r1, r2, r3⟩ := zero_rows hzc (zero_len hT hke) (size_pos hT hke) n M
        have hlr : (List.replicate n (T e).zero).length = n := List.length_replicate ..
        obtain ⟨w', g1, g2⟩ := row_write (P := P) hA hh hb hL (lo := lo) (base := base) r1 (by rw [hlr]; exact r2) (r3 hok) (by rw [hlr]; omega) (by
          rcases hbb with h | h
          · exact .inl (by rw [h, q1])
          · right
            apply List.eq_nil_of_length_eq_zero
            rw [hlr]; omega)
        have hp' := g2 (.tup []) (.tuple #[]) (.tup [] #[] rfl fun i x v h => by simp at h)
        rw [hlr] at hp'
        refine ⟨_, w', ?_, hp'⟩
        cases n with
        | zero =>
          have : w' = w := by
            have e0 : (storeCells ⟨L.blk, base, none⟩ (Builtin.zeroCells z.cells 0).toList).run P w = .ok () w := by simp [Builtin.zeroCells, storeCells]
            rw [e0] at g1
            cases g1; rfl
          subst this
          simp [execOp, ho, resolve, hc, invoke, builtin, ha', ht', hvx, Builtin.clear_, run_underlying hu]
        | succ n =>
          simp [execOp, ho, resolve, hc, invoke, builtin, ha', ht', hvx, Builtin.clear_, run_underlying hu, hzr, g1]
    · exact h.elim
  · exact h.elim

include hT in
theorem cap_sem {o : Oper} {c : Call} {x : Operand} {t e : TypeId} {ρ : Operand → AV} {hp : Nat → Option Blk} {K : Eff → Prop} (ho : o.op = .call c) (hc : c.callee = .builtin .cap) (ha : c.args.toList = [x]) (ht : c.argTypes.toList = [t]) (hk : (T t).k = .slice e)
    (h : match ρ x with
            | .win b _ _ (some c) => match hp b with
              | some _ => K ⟨.d (.int .i64 c), [], none⟩
              | none => False
            | _ => False) : ∃ e, K e ∧ OpSem P o ρ hp e := by
  have ha' : c.args = #[x] := by rw [← Array.toList_inj]; exact ha
  have ht' : c.argTypes = #[t] := by rw [← Array.toList_inj]; exact ht
  obtain ⟨hu, hke⟩ := und_slice hT hk
  split at h
  · rename_i b lo n cp hx
    split at h
    · rename_i B hb
      refine ⟨_, h, opSem_val fun own M ι a w hA hh hρ => ⟨.int .i64 cp, ?_, .d _ _ (.int _ _)⟩⟩
      have hv := hρ x
      rw [hx] at hv
      generalize hvx : a.eval x = v at hv
      cases hv with
      | winL _ _ _ _ _ hL => rw [(hh.dom b).2 hL] at hb; cases hb
      | win _ _ _ _ L k base hL hn hcc hkk hbb =>
        have := hcc cp rfl
        subst this
        simp [execOp, ho, resolve, hc, invoke, builtin, ha', ht', hvx, Builtin.cap_, run_underlying hu, goInt]
    · exact h.elim
  · exact h.elim

/-- what an append that grows leaves, as a window -/
theorem grown_win {own : Nat → Prop} {M : Mem} {ι : Inj} {hp : Nat → Option Blk} {w : World} (ho : ∀ c, w.heap.size ≤ c → own c) (ha : Agree M w) (hh : HRel own M ι hp w) {x : Nat} {l r : List (List D)} {sz : Nat} {old vs rest : Array Value} {Ty : TypeId} {cap : Nat}
    (h1 : RowAt M old l sz) (s1 : old.size = l.length * sz) (h2 : RowAt M vs r sz) (s2 : vs.size = r.length * sz) (hcap : l.length + r.length ≤ cap) (s3 : rest.size = (cap - (l.length + r.length)) * sz) :
    Post own M ι hp w ⟨.win x 0 (l.length + r.length) none, [(x, .row (l ++ r) sz false)], some x⟩ (.slice (some ⟨w.heap.size, 0, none⟩) (l.length + r.length) cap) (w.drew.alloc (.cells (old ++ vs ++ rest) Ty)) := by
  have hrow : RowAt M (old ++ vs ++ rest) (l ++ r) sz := by
    refine row_append h1 h2 (fun k hk => ?_) fun k hk => ?_
    · rw [Array.getElem?_append_left (by simp; omega), Array.getElem?_append_left (by omega)]
    · rw [Array.getElem?_append_left (by simp; omega), Array.getElem?_append_right (by omega)]
      congr 1; omega
  have hsize : (old ++ vs ++ rest).size = cap * sz := by
    simp only [Array.size_append, s1, s2, s3, ← Nat.add_mul]
    congr 1; omega
  have hha : HRel own M ι hp w.drew := hh.keep (.refl M) fun b' L' hL' => ⟨rfl, hh.closed hL'⟩
  refine post_new (w := w) (w0 := w.drew) ho (.refl M) (.refl _ _) ha hha rfl rfl rfl rfl (e := ⟨.win x 0 (l.length + r.length) none, [(x, .row (l ++ r) sz false)], some x⟩) (d := x) (B := .row (l ++ r) sz false) (sz := sz) (len := l.length + r.length) rfl rfl ?_ ?_
  · refine ⟨_, Ty, heap_alloc_size w.drew _, rfl, rfl, by simp, ?_, hrow, (by intro e; cases e), fun _ o => agree_new ha o⟩
    rw [hsize]
    simp only [List.length_append]
    exact Nat.mul_le_mul_right _ hcap
  · exact .win x 0 _ none ⟨w.heap.size, sz, (old ++ vs ++ rest).size, l.length + r.length⟩ cap 0 (upd_same _ _ _) hcap (fun _ h => by cases h) (by rw [hsize, Nat.zero_add]; exact Nat.le_refl _) (.inl (by simp))

include hT in
theorem append_win_sem {o : Oper} {c : Call} {x y : Operand} {t t2 e e2 : TypeId} {ρ : Operand → AV} {hp : Nat → Option Blk} {K : Eff → Prop} (ho : o.op = .call c) (hc : c.callee = .builtin .append) (ha : c.args.toList = [x, y]) (ht : c.argTypes.toList = [t, t2]) (hk : (T t).k = .slice e) (hk2 : (T t2).k = .slice e2)
    {b lo n cp : Nat} (hx : ρ x = .win b lo n (some cp)) {src : List (List D)} (hsrc : ∀ (own : Nat → Prop) (M : Mem) (ι : Inj) (w : World) (u : Value), Agree M w → HRel own M ι hp w → DenA M ι (ρ y) u → ∃ a c vs, u = .slice a src.length c ∧ SrcAt P M w u src (T e).size vs ∧ ∀ v ∈ vs.toList, v.oneCell' = true)
    (h : appendW T e b lo n cp src hp o.dst K) : ∃ e, K e ∧ OpSem P o ρ hp e := by
  have ha' : c.args = #[x, y] := by rw [← Array.toList_inj]; exact ha
  have ht' : c.argTypes = #[t, t2] := by rw [← Array.toList_inj]; exact ht
  have hex : ∀ (a : Act) (w w' : World) (v : Value), (Builtin.append_ #[t, t2] o.type #[a.eval x, a.eval y]).run P w = .ok v w' → (execOp a.eval o).run P w = .ok (.value v) w' := by
    intro a w w' v hr
    simp [execOp, ho, resolve, hc, invoke, builtin, ha', ht', hr]
  unfold appendW at h
  split at h
  · rename_i r sz hb
    obtain ⟨hsz, h⟩ := bif_one h
    have hsz := Nat.eq_of_beq_eq_true hsz
    subst hsz
    by_cases hf : n + src.length ≤ cp
    · obtain ⟨hle, h⟩ := condK_out (h.yes hf)
      refine ⟨_, h, opSem_run fun own M ι a w hown hA hh hρ => ?_⟩
      obtain ⟨a0, c0, vs, e1, e2, e3⟩ := hsrc own M ι w _ hA hh (hρ y)
      have hv := hρ x
      rw [hx] at hv
      generalize hvx : a.eval x = v at hv
      cases hv with
      | winL _ _ _ _ _ hL => rw [(hh.dom b).2 hL] at hb; cases hb
      | win _ _ _ _ L k base hL hn hcc hkk hbb =>
        have := hcc cp rfl
        subst this
        obtain ⟨_, _, _, _, _, q1, _⟩ := hh.at_ b _ L hb hL
        obtain ⟨w', g1, g2⟩ := row_write (P := P) hA hh hb hL (lo := lo + n) (base := base + n * (T e).size) e2.row e2.size e3 (by omega) (by
          rcases hbb with h | h
          · exact .inl (by rw [h, q1, Nat.add_mul])
          · right
            apply List.eq_nil_of_length_eq_zero
            omega)
        rw [e1] at e2
        refine ⟨.slice (some ⟨L.blk, base, none⟩) (n + src.length) k, w', hex a w w' _ ?_, g2 _ _ ?_⟩
        · rw [hvx, e1]
          exact append_fits hT hk hk2 hf (e2.run w fun _ _ => rfl) (by
            show (storeCells ((⟨L.blk, base, none⟩ : Addr).add (n * (T e).size)) vs.toList).run P w = .ok () w'
            rw [addr_add]; exact g1)
        · exact .win b lo _ (some k) L k base hL hf (fun m hm => by cases hm; rfl) hkk hbb
    · have h := h.no hf
      split at h
      · rename_i d hd
        obtain ⟨hle, h⟩ := condK_out h
        obtain ⟨r1, r2, h⟩ := roomK_out h
        refine ⟨_, h, opSem_run fun own M ι a w hown hA hh hρ => ?_⟩
        obtain ⟨a0, c0, vs, e1, e2, e3⟩ := hsrc own M ι w _ hA hh (hρ y)
        have hd' := hρ x
        rw [hx] at hd'
        obtain ⟨old, k, base, L, f1, f2⟩ := win_src (P := P) hh hb hd' hle
        have hlen : ((r.drop lo).take n).length = n := by simp; omega
        have hck : cp = k := by
          rw [f1, hlen] at hd'
          cases hd' with
          | win _ _ _ _ _ _ _ _ _ hcc _ _ => exact (hcc cp rfl).symm
          | winL _ _ _ _ _ hL => rw [(hh.dom b).2 hL] at hb; cases hb
        subst hck
        rw [f1] at f2
        rw [e1] at e2
        obtain ⟨newCap, z, g1, g2, g3⟩ := append_grows hT (ty := o.type) hk hk2 (w := w) (base := some ⟨L, base, none⟩) (sLen := ((r.drop lo).take n).length) (sCap := cp) (n := src.length) (c := c0) (a := a0) (by omega) (by rw [hlen]; exact r1) (by omega) e2.run f2.run
        have hp' := grown_win (x := d) (Ty := e) (l := (r.drop lo).take n) (r := src) (sz := (T e).size) (old := old) (vs := vs) (rest := Builtin.zeroCells z.cells (newCap - (((r.drop lo).take n).length + src.length))) (cap := newCap) hown hA hh f2.row f2.size e2.row e2.size g1 (by simp [Builtin.zeroCells, g2])
        rw [hlen] at g3 hp'
        rw [hlen] at f1
        exact ⟨_, _, hex a w _ _ (by rw [f1, e1]; exact g3), hp'⟩
      · exact h.elim
  · exact h.elim

include hT in
theorem appendZ_grows {t t2 e ty : TypeId} {ki : IntKind} (hk : (T t).k = .slice e) (hk2 : (T t2).k = .int ki) {w : World} {base : Option Addr} {sLen sCap : Nat} {k : Int} {kk : IntKind} {old : Array Value}
    (h0 : 0 ≤ k) (hn : sCap < sLen + k.toNat) (hkp : 0 < k.toNat) (hroom : (sLen + k.toNat) * (T e).bytes ≤ 35184372088832) (hroom1 : sLen + k.toNat ≤ 35184372088832)
    (ho : ∀ w' : World, (∀ x, (w.cell? x).isSome → w'.cell? x = w.cell? x) → (Builtin.firstCells (T e).size sLen (.slice base sLen sCap)).run P w' = .ok old w') :
    ∃ (newCap : Nat) (z : Value), sLen + k.toNat ≤ newCap ∧ z.cells.size = (T e).size ∧ zeroChk z.cells.toList (T e).zero = true ∧ (Builtin.append_ #[t, t2] ty #[.slice base sLen sCap, .int kk k]).run P w =
      .ok (.slice (some ⟨w.heap.size, 0, none⟩) (sLen + k.toNat) newCap) (w.drew.alloc (.cells (old ++ Builtin.zeroCells z.cells k.toNat ++ Builtin.zeroCells z.cells (newCap - (sLen + k.toNat))) e)) := by
  obtain ⟨hu, hke⟩ := und_slice hT hk
  have hu2 := und_int hT hk2
  obtain ⟨_, ie, _, hie, _, hs, hb, ⟨z, hz, hzc⟩, _, hbm, hzl, _⟩ := (tyFact hT hke).desc
  have hzs : z.cells.size = (T e).size := by
    obtain ⟨z1, _⟩ := zeroChk_get hzc
    rw [← hzl, ← z1]; simp
  have h1 : ¬ (sLen + k.toNat ≤ sCap) := by omega
  have hcap := nextcap_le hn
  have h2 : ¬ (Builtin.nextslicecap (sLen + k.toNat) sCap * ie.bytes > 2 ^ 48) := by
    rw [hb]
    have hm : Builtin.nextslicecap (sLen + k.toNat) sCap * (T e).bytes ≤ (2 * (sLen + k.toNat) + 192) * (T e).bytes := Nat.mul_le_mul_right _ hcap
    have : (2 * (sLen + k.toNat) + 192) * (T e).bytes = 2 * ((sLen + k.toNat) * (T e).bytes) + 192 * (T e).bytes := by rw [Nat.add_mul, Nat.mul_assoc]
    have h48 : (2 : Nat) ^ 48 = 281474976710656 := by decide
    rw [h48]
    omega
  have hkb : k.toNat * (T e).bytes ≤ 35184372088832 := Nat.le_trans (Nat.mul_le_mul_right _ (by omega)) hroom
  have hkn : (k.toNat : Int) = k := by omega
  have hwrap : IntKind.i64.wrap k = k := by
    simp only [IntKind.wrap]
    have e1 : IntKind.i64.signed = true := rfl
    have e2 : IntKind.i64.bits = 64 := rfl
    rw [e1, e2]
    have : k < 35184372088833 := by omega
    simp
    omega
  have hneg : ¬ k < 0 := by omega
  have hbig : ¬ (k * (ie.bytes : Int) > 2 ^ 48) := by
    rw [hb, ← hkn]
    have : ((k.toNat * (T e).bytes : Nat) : Int) ≤ 35184372088832 := by omega
    rw [Int.natCast_mul] at this
    omega
  have h3' : ¬ ((9223372036854775807 : Int) < (sLen : Int) + (k.toNat : Int)) := by omega
  have hd : ∀ x, (w.cell? x).isSome → w.drew.cell? x = w.cell? x := fun x _ => rfl
  refine ⟨sLen + k.toNat + w.tape w.drawn (.appendCap (sLen + k.toNat) sCap e) % (2 ^ 63 - (sLen + k.toNat)), z, by omega, hzs, hzc, ?_⟩
  have ho' := ho w.drew hd
  have hzr : (zeroValue e).run P w.drew = .ok z w.drew := by simp [zeroValue, typeInfo, hie, hz]
  have hns : ¬ (k.toNat * (T e).size = 0) := by
    have := size_pos hT hke
    intro h
    rcases Nat.mul_eq_zero.1 h with h | h <;> omega
  have hns' : ¬ (k.toNat = 0 ∨ (T e).size = 0) := fun h => hns (Nat.mul_eq_zero.2 h)
  have h48 : (2 : Int) ^ 48 = 281474976710656 := by decide
  have hbig' : ¬ ((281474976710656 : Int) < k * (ie.bytes : Int)) := fun h => hbig (by rw [h48]; exact h)
  have h3x : ¬ ((9223372036854775807 : Int) < (sLen : Int) + max k 0) := by omega
  have h1' : ¬ ((sLen : Int) + (k.toNat : Int) ≤ sCap) := by omega
  simp [Builtin.append_, run_underlying hu, run_underlying hu2, run_sizeT hT, hke, asInt, asIntOf, hwrap, hneg, hbig', h3x, h1, typeInfo, hie, h3', h2, Question.forced, Question.cut, ho', hzr, newRow, hns', hns]

include hT in
theorem appendZ_sem {o : Oper} {c : Call} {x y : Operand} {t t2 e : TypeId} {ki ky : IntKind} {q : Int} {ρ : Operand → AV} {hp : Nat → Option Blk} {K : Eff → Prop} (ho : o.op = .call c) (hc : c.callee = .builtin .append) (ha : c.args.toList = [x, y]) (ht : c.argTypes.toList = [t, t2]) (hk : (T t).k = .slice e) (hk2 : (T t2).k = .int ki)
    {b lo n cp : Nat} (hx : ρ x = .win b lo n (some cp)) (hy : ρ y = .d (.int ky q))
    (h : appendZ T e b lo n cp q hp o.dst K) : ∃ e, K e ∧ OpSem P o ρ hp e := by
  have ha' : c.args = #[x, y] := by rw [← Array.toList_inj]; exact ha
  have ht' : c.argTypes = #[t, t2] := by rw [← Array.toList_inj]; exact ht
  have hex : ∀ (a : Act) (w w' : World) (v : Value), (Builtin.append_ #[t, t2] o.type #[a.eval x, a.eval y]).run P w = .ok v w' → (execOp a.eval o).run P w = .ok (.value v) w' := by
    intro a w w' v hr
    simp [execOp, ho, resolve, hc, invoke, builtin, ha', ht', hr]
  obtain ⟨hu, hke⟩ := und_slice hT hk
  unfold appendZ at h
  split at h
  · rename_i r sz hb
    obtain ⟨hsz, h⟩ := bif_one h
    have hsz := Nat.eq_of_beq_eq_true hsz
    subst hsz
    obtain ⟨⟨h0, hcn, hle⟩, h⟩ := condK_out h
    split at h
    · rename_i d hd
      obtain ⟨r1, r2, h⟩ := roomK_out h
      refine ⟨_, h, opSem_run fun own M ι a w hown hA hh hρ => ?_⟩
      have ey := den_int (hy ▸ hρ y)
      have hd' := hρ x
      rw [hx] at hd'
      obtain ⟨old, k, base, L, f1, f2⟩ := win_src (P := P) hh hb hd' hle
      have hlen : ((r.drop lo).take n).length = n := by simp; omega
      have hck : cp = k ∧ n ≤ k := by
        rw [f1, hlen] at hd'
        cases hd' with
        | win _ _ _ _ _ _ _ _ hn hcc _ _ => exact ⟨(hcc cp rfl).symm, hn⟩
        | winL _ _ _ _ _ hL => rw [(hh.dom b).2 hL] at hb; cases hb
      obtain ⟨rfl, hnk⟩ := hck
      rw [f1] at f2
      obtain ⟨newCap, z, g1, g2, hzc, g3⟩ := appendZ_grows hT (ty := o.type) hk hk2 (w := w) (base := some ⟨L, base, none⟩) (sLen := ((r.drop lo).take n).length) (sCap := cp) (k := q) (kk := ky) h0 (by omega) (by omega) (by rw [hlen]; exact r1) (by omega) f2.run
      obtain ⟨z1, z2, _⟩ := zero_rows hzc (zero_len hT hke) (size_pos hT hke) q.toNat M
      have hlr : (List.replicate q.toNat (T e).zero).length = q.toNat := List.length_replicate ..
      have hp' := grown_win (x := d) (Ty := e) (l := (r.drop lo).take n) (r := List.replicate q.toNat (T e).zero) (sz := (T e).size) (old := old) (vs := Builtin.zeroCells z.cells q.toNat) (rest := Builtin.zeroCells z.cells (newCap - (((r.drop lo).take n).length + q.toNat))) (cap := newCap) hown hA hh f2.row f2.size z1 (by rw [hlr]; exact z2) (by rw [hlr]; exact g1) (by simp [Builtin.zeroCells, g2])
      rw [hlen] at g3 hp'
      rw [hlr] at hp'
      rw [hlen] at f1
      exact ⟨_, _, hex a w _ _ (by rw [f1, ey]; exact g3), hp'⟩
    · exact h.elim
  · exact h.elim
end
end Go.Lk

namespace Go.Lk
open Go Go.RowKit

section
variable {P : Program} {T : Tab} (hT : TabOk P T)

theorem bytesL_out : ∀ {l : List (List D)} {ns : List Int}, bytesL l = some ns → l = ns.map fun n => [D.int .u8 n]
  | [], ns, h => by simp [bytesL] at h; subst h; rfl
  | e :: r, ns, h => by
    simp only [bytesL] at h
    split at h
    · rename_i k n
      cases hk : Nat.beq (kcode k) 4 with
      | false => rw [hk] at h; cases h
      | true =>
        rw [hk] at h
        have ek : k = .u8 := by cases k <;> first | rfl | exact absurd hk (by decide)
        subst ek
        simp only [cond_true] at h
        split at h
        · rename_i ms hms
          cases h
          rw [bytesL_out hms]; rfl
        · cases h
    · cases h
theorem bytes_run {M : Mem} {w : World} {ad : Option Addr} {cp : Nat} {l : List (List D)} {vs : Array Value} {ns : List Int} (hs : SrcAt P M w (.slice ad l.length cp) l 1 vs) (h : bytesL l = some ns) :
    (Conv.bytesToString (.slice ad l.length cp)).run P w = .ok (.string (bstr ns)) w := by
  have hl := bytesL_out h
  have hln : l.length = ns.length := by rw [hl]; simp
  have hvs : vs = (ns.map (Value.int .u8)).toArray := by
    apply Array.ext
    · rw [hs.size]; simp [hln]
    · intro i h1 h2
      have hi : i < ns.length := by simpa using h2
      obtain ⟨v, hv, hd⟩ := hs.row.den i 0 [D.int .u8 ns[i]] (.int .u8 ns[i]) (by rw [hl]; simp [hi]) rfl
      rw [Nat.mul_one, Nat.add_zero, Array.getElem?_eq_getElem h1] at hv
      have hv : vs[i] = v := Option.some.inj hv
      generalize vs[i] = u at hv ⊢
      subst hv
      cases hd
      simp
  have hr := hs.run w (fun _ _ => rfl)
  cases ad with
  | none =>
    simp only [Builtin.firstCells, Sem.run_pure] at hr
    have e : vs = #[] := by injection hr with q _; exact q.symm
    have : ns = [] := by
      have := congrArg Array.size (hvs.symm.trans e)
      simpa using this
    subst this
    simp [Conv.bytesToString, bstr, Sem.run_pure]
  | some a =>
    simp only [Builtin.firstCells, Nat.mul_one] at hr
    exact run_bytesToString w a l.length cp ns (by rw [hr, hvs])

theorem kcode_eq {k k' : IntKind} {A : Prop} (h : bif Nat.beq (kcode k) (kcode k') then A else False) : k = k' ∧ A := by
  obtain ⟨h1, h2⟩ := bif_one h
  exact ⟨kcode_inj h1, h2⟩

/-- a step that yields a value and does nothing else -/
theorem sem_of {o : Oper} {ρ : Operand → AV} {hp : Nat → Option Blk} {av : AV} {s : (Operand → Value) → Sem Value}
    (ho : ∀ f : Operand → Value, execOp f o = (do pure (.value (← s f)))) (K : Eff → Prop) (hK : K ⟨av, [], none⟩)
    (h : ∀ (own : Nat → Prop) (M : Mem) (ι : Inj) (a : Act) (w : World), Agree M w → HRel own M ι hp w → (∀ x, DenA M ι (ρ x) (a.eval x)) → ∃ v, (s a.eval).run P w = .ok v w ∧ DenA M ι av v) :
    ∃ e, K e ∧ OpSem P o ρ hp e := by
  refine ⟨_, hK, opSem_val fun own M ι a w ha hh hρ => ?_⟩
  obtain ⟨v, h1, h2⟩ := h own M ι a w ha hh hρ
  exact ⟨v, by rw [ho]; simp [h1], h2⟩

include hT in
theorem len_sem {o : Oper} {c : Call} {x : Operand} {t : TypeId} {ρ : Operand → AV} {hp : Nat → Option Blk} {K : Eff → Prop} (ho : o.op = .call c) (hc : c.callee = .builtin .len) (ha : c.args.toList = [x]) (ht : c.argTypes.toList = [t])
    (h : lenA T t (ρ x) hp (val K)) : ∃ e, K e ∧ OpSem P o ρ hp e := by
  have ha' : c.args = #[x] := by rw [← Array.toList_inj]; exact ha
  have ht' : c.argTypes = #[t] := by rw [← Array.toList_inj]; exact ht
  have hex : ∀ f : Operand → Value, execOp f o = (do pure (.value (← (do let d ← resolve f c o.type; match d.target with | .builtin _ at' ty _ => Builtin.len_ at' ty d.args | _ => pure undef)))) := by
    intro f
    simp [execOp, ho, resolve, hc, invoke, builtin]
  have key : ∀ (n : Nat), (∀ (own : Nat → Prop) (M : Mem) (ι : Inj) (w : World) (v : Value), HRel own M ι hp w → DenA M ι (ρ x) v → (Builtin.len_ #[t] o.type #[v]).run P w = .ok (.int .i64 n) w) → K ⟨.d (.int .i64 n), [], none⟩ → ∃ e, K e ∧ OpSem P o ρ hp e := by
    intro n hr hK
    refine sem_of hex K hK fun own M ι a w hA hh hρ => ⟨.int .i64 n, ?_, .d _ _ (.int _ _)⟩
    have := hr own M ι w _ hh (hρ x)
    simp [resolve, hc, ha', ht', this]
  unfold lenA at h
  split at h
  · rename_i hk
    have hu := und_str hT hk
    split at h
    · rename_i s hx
      refine key s.size (fun own M ι w v hh hv => ?_) h
      rw [hx] at hv
      rw [den_str hv]
      simp [Builtin.len_, run_underlying hu, goInt]
    · exact h.elim
  · rename_i el hk
    obtain ⟨hu, _⟩ := und_slice hT hk
    have run : ∀ (w : World) (a : Option Addr) (n c : Nat), (Builtin.len_ #[t] o.type #[.slice a n c]).run P w = .ok (.int .i64 n) w := by
      intro w a n c
      simp [Builtin.len_, run_underlying hu, goInt]
    split at h
    · rename_i l hx
      refine key l.length (fun own M ι w v hh hv => ?_) h
      rw [hx] at hv
      cases hv with
      | d _ _ hv =>
        cases hv with
        | emp a c => exact run w a 0 c
        | lst _ b off cap sz val hl hs hm hd => exact run w _ _ _
    · rename_i hx
      refine key 0 (fun own M ι w v hh hv => ?_) h
      rw [hx] at hv
      cases hv with
      | nil a => exact run w a 0 0
    · rename_i b lo n cp hx
      split at h
      · rename_i B hb
        refine key n (fun own M ι w v hh hv => ?_) h
        rw [hx] at hv
        cases hv with
        | win _ _ _ _ L k base hL hn hc hk hbb => exact run w _ _ _
        | winL _ _ _ _ _ hL => rw [(hh.dom b).2 hL] at hb; cases hb
      · exact h.elim
    · rename_i b hx
      split at h
      · rename_i l sz fr hb
        refine key l.length (fun own M ι w v hh hv => ?_) h
        rw [hx] at hv
        cases hv with
        | own _ L cap hL hn hc =>
          obtain ⟨_, cs, Ty, _, _, _, q, _⟩ := hh.at_ b _ L hb hL
          rw [q]
          exact run w _ _ _
        | ownE _ a hL =>
          obtain ⟨sz2, fr2, e0⟩ := hh.virt b hL
          rw [hb] at e0; cases e0
          exact run w a 0 0
        | ownL _ _ hL => rw [(hh.dom b).2 hL] at hb; cases hb
      · exact h.elim
    · exact h.elim
  · exact h.elim

theorem minmax_sem {o : Oper} {c : Call} {x y : Operand} {ρ : Operand → AV} {hp : Nat → Option Blk} {K : Eff → Prop} {g : Int → Int → Int} {b : Go.Builtin} {s : Array TypeId → TypeId → Array Value → Sem Value} (ho : o.op = .call c) (hc : c.callee = .builtin b) (ha : c.args.toList = [x, y])
    (hb : ∀ t1 t2 cs vs, builtin b t1 t2 cs vs = do pure (.value (← s t1 t2 vs))) (hg : ∀ t1 t2 k n m w, (s t1 t2 #[.int k n, .int k m]).run P w = .ok (.int k (g n m)) w)
    (h : match ρ x with
        | .d (.int k a) => match ρ y with
          | .d (.int k' b) => bif Nat.beq (kcode k) (kcode k') then K ⟨.d (.int k (g a b)), [], none⟩ else False
          | _ => False
        | _ => False) : ∃ e, K e ∧ OpSem P o ρ hp e := by
  have ha' : c.args = #[x, y] := by rw [← Array.toList_inj]; exact ha
  split at h
  · rename_i k n hx
    split at h
    · rename_i k' m hy
      obtain ⟨e0, hK⟩ := kcode_eq h
      subst e0
      refine ⟨_, hK, opSem_val fun own M ι a w hA hh hρ => ⟨.int k (g n m), ?_, .d _ _ (.int _ _)⟩⟩
      have ex := den_int (hx ▸ hρ x)
      have ey := den_int (hy ▸ hρ y)
      simp [execOp, ho, resolve, hc, invoke, hb, ha', ex, ey, hg]
    · exact h.elim
  · exact h.elim

include hT in
theorem append_sem {o : Oper} {c : Call} {x y : Operand} {t t2 : TypeId} {ρ : Operand → AV} {hp : Nat → Option Blk} {K : Eff → Prop} (ho : o.op = .call c) (hc : c.callee = .builtin .append) (ha : c.args.toList = [x, y]) (ht : c.argTypes.toList = [t, t2]) {e e2 : TypeId} (hk : (T t).k = .slice e) (hk2 : (T t2).k = .slice e2)
    (h : srcRow (T e).size (ρ y) hp fun src => match ρ x with
            | .nil => match o.dst with
              | some d => roomK src.length (T e).bytes (K ⟨.own d, [(d, .row src (T e).size false)], some d⟩)
              | none => False
            | .own b => match hp b with
              | some (.row l sz false) => bif Nat.beq sz (T e).size then roomK (l.length + src.length) (T e).bytes (K ⟨.own b, [(b, .row (l ++ src) sz false)], some b⟩) else False
              | _ => False
            | .win b lo n (some c) => appendW T e b lo n c src hp o.dst K
            | _ => False) : ∃ e, K e ∧ OpSem P o ρ hp e := by
  have ha' : c.args = #[x, y] := by rw [← Array.toList_inj]; exact ha
  have ht' : c.argTypes = #[t, t2] := by rw [← Array.toList_inj]; exact ht
  have hex : ∀ (a : Act) (w w' : World) (v : Value), (Builtin.append_ #[t, t2] o.type #[a.eval x, a.eval y]).run P w = .ok v w' → (execOp a.eval o).run P w = .ok (.value v) w' := by
    intro a w w' v hr
    simp [execOp, ho, resolve, hc, invoke, builtin, ha', ht', hr]
  obtain ⟨src, h, hsrc⟩ := srcRow_out (P := P) h
  split at h
  · rename_i hx
    split at h
    · rename_i d hd
      obtain ⟨r1, r2, h⟩ := roomK_out h
      refine ⟨_, h, opSem_run fun own M ι a w hown hA hh hρ => ?_⟩
      obtain ⟨ad, cp, vs, hu, hs, hone⟩ := hsrc own M ι w _ hA hh (hρ y)
      have hv := hρ x
      rw [hx] at hv
      generalize hvx : a.eval x = v at hv
      cases hv with
      | nil a0 =>
        rw [hu] at hs
        obtain ⟨v, w', hr, hp'⟩ := append_nil_sem hT (ty := o.type) hk hk2 hown hA hh (x := d) (base := a0) hs r1 r2
        exact ⟨v, w', hex a w w' v (by rw [hvx, hu]; exact hr), hp'⟩
    · exact h.elim
  · rename_i b hx
    split at h
    · rename_i l sz hb
      obtain ⟨hsz, h⟩ := bif_one h
      have hsz := Nat.eq_of_beq_eq_true hsz
      subst hsz
      obtain ⟨r1, r2, h⟩ := roomK_out h
      refine ⟨_, h, opSem_run fun own M ι a w hown hA hh hρ => ?_⟩
      obtain ⟨ad, cp, vs, hu, hs, hone⟩ := hsrc own M ι w _ hA hh (hρ y)
      rw [hu] at hs
      obtain ⟨v, w', hr, hp'⟩ := append_own_sem hT (ty := o.type) hk hk2 hown hA hh hb (hx ▸ hρ x) hs hone r1 r2
      exact ⟨v, w', hex a w w' v (by rw [hu]; exact hr), hp'⟩
    · exact h.elim
  · rename_i b lo n cp hx
    exact append_win_sem hT ho hc ha ht hk hk2 hx hsrc h
  · exact h.elim

theorem evs_den {ρ : Operand → AV} {M : Mem} {ι : Inj} {a : Act} (hρ : ∀ x, DenA M ι (ρ x) (a.eval x)) (l : Array Operand) : DenAs M ι (evs ρ l.toList) (l.map a.eval) := by
  refine ⟨by rw [evs_len]; simp, fun i x v e1 e2 => ?_⟩
  rw [evs_get] at e1
  simp only [Array.getElem?_map] at e2
  cases hx : l[i]? with
  | none => simp [hx] at e2
  | some y =>
    simp only [hx, Option.map_some, Option.some.injEq] at e2
    rw [Array.getElem?_toList, hx] at e1
    simp only [Option.map_some, Option.some.injEq] at e1
    subst e1 e2
    exact hρ y

theorem enter_sem {o : Oper} {a : Act} {w : World} {f : FuncId} {vs : Array Value} {N : Act → World → Prop} {X : Exit → Act → World → Prop} (hr : (execOp a.eval o).run P w = .ok (.enter f vs) w)
    (h : Calls P f vs w fun en w' => ∃ v, en = .returned v ∧ N (a.put o.dst v) w') : o.wp P a w N X := by
  unfold Oper.wp
  rw [hr, Oper.upon_enter]
  refine h.mono fun en w' hq => ?_
  obtain ⟨v, rfl, hN⟩ := hq
  exact hN

theorem map_arr (f : Operand → Value) (l : Array Operand) : (l.toList.map f).toArray = l.map f := by
  rw [← Array.toList_inj]; simp

theorem anyPtr_callH {o : Oper} {c : Call} {f : FuncId} {ρ : Operand → AV} {hp : Nat → Option Blk} {K : Eff → Prop} (ho : o.op = .call c) (hc : c.callee = .value (.func f))
    (h : callH P f (evs ρ c.args.toList) hp K) : ∃ e, K e ∧ OpSem P o ρ hp e := by
  rcases h.out with ⟨e, hE, hK⟩ | ⟨b, hE, hK⟩
  · refine ⟨e, hK, fun own M ι a w hown ha hh hρ => enter_sem (exec_static ho hc hE.1 a w) ?_⟩
    refine (hE.2 own M ι w _ hown ha hh (evs_den hρ c.args)).mono fun en w' hq => ?_
    obtain ⟨v, M', ι', e1, e2, e3, e4, e5, e6, e7, e8⟩ := hq
    exact ⟨v, e1, v, rfl, M', ι', e2, e3, e4, e5, e6, e7, e8⟩
  · refine ⟨_, hK, opSem_val fun own M ι a w hA hh hρ => ⟨.bool b, ?_, .d _ _ (.bool b)⟩⟩
    have := hE.2 own M ι w _ hA hh (evs_den hρ c.args)
    simp [execOp, ho, resolve, hc, Act.eval, Deferred.ofValue, invoke, this]

theorem static_sem {o : Oper} {c : Call} {f : FuncId} {ρ : Operand → AV} {hp : Nat → Option Blk} {K : Eff → Prop} (ho : o.op = .call c) (hc : c.callee = .value (.func f))
    (h : convsK hp ρ c.args.toList fun ds ns => callX P f true (evs ρ c.args.toList) hp o.dst ds ns K) : ∃ e, K e ∧ OpSem P o ρ hp e := by
  obtain ⟨ds, ns, h, hlen, hd⟩ := convsK_out h
  have h' : callX P f true (evs ρ c.args.toList) hp o.dst (ds ++ []) ns K := by rw [List.append_nil]; exact h
  obtain ⟨e, hK, hf, hsem⟩ := callX_sem h' hlen hd (fun _ => ⟨rfl, rfl⟩)
  refine ⟨e, hK, fun own M ι a w hown ha hh hρ => enter_sem (exec_static ho hc hf a w) ?_⟩
  have := hsem own M ι a w #[] hown ha hh hρ ⟨rfl, fun i d v h1 => by simp at h1⟩
  rw [map_arr, Array.append_empty] at this
  exact this.mono fun en w' hq => let ⟨v, e1, e2⟩ := hq; ⟨v, e1, v, rfl, e2⟩

theorem closure_sem {o : Oper} {c : Call} {f : FuncId} {t : Tmp} {cs : List D} {ρ : Operand → AV} {hp : Nat → Option Blk} {K : Eff → Prop} (ho : o.op = .call c) (hc : c.callee = .value (.tmp t)) (ht : ρ (.tmp t) = .d (.fn f cs))
    (h : convsK hp ρ c.args.toList fun ds ns => callX P f false [] hp o.dst (ds ++ cs) ns K) : ∃ e, K e ∧ OpSem P o ρ hp e := by
  obtain ⟨ds, ns, h, hlen, hd⟩ := convsK_out h
  obtain ⟨e, hK, hf, hsem⟩ := callX_sem h hlen hd (fun h => by cases h)
  refine ⟨e, hK, fun own M ι a w hown ha hh hρ => ?_⟩
  have hv := hρ (.tmp t)
  rw [ht] at hv
  generalize hvt : a.eval (.tmp t) = v at hv
  cases hv with
  | d _ _ hv =>
    cases hv with
    | fn _ _ vs hl hdv =>
      refine enter_sem (exec_closure ho hc hf a w hvt) ?_
      have := hsem own M ι a w vs hown ha hh hρ ⟨hl, hdv⟩
      rw [map_arr] at this
      exact this.mono fun en w' hq => let ⟨v, e1, e2⟩ := hq; ⟨v, e1, v, rfl, e2⟩

include hT in
theorem callG_sound {o : Oper} {c : Call} {ρ : Operand → AV} {hp : Nat → Option Blk} {K : Eff → Prop} (ho : o.op = .call c) (h : callG T P o c ρ hp K) : ∃ e, K e ∧ OpSem P o ρ hp e := by
  unfold callG at h
  split at h
  · rename_i b hc
    split at h
    · split at h
      · rename_i x ha
        split at h
        · rename_i t ht
          exact len_sem hT ho hc ha ht h
        · exact h.elim
      · exact h.elim
    · split at h
      · rename_i x y ha
        exact minmax_sem (g := min) (s := Builtin.min_) ho hc ha (fun _ _ _ _ => rfl) (fun t1 t2 k n m w => by
          simp only [Builtin.min_, List.foldlM_cons, List.foldlM_nil, Builtin.min2, Sem.run_bind, Sem.run_pure, Result.andThen_ok]
          congr 2
          simp only [Int.min_def]
          split <;> split <;> first | rfl | omega) h
      · exact h.elim
    · split at h
      · rename_i x y ha
        exact minmax_sem (g := max) (s := Builtin.max_) ho hc ha (fun _ _ _ _ => rfl) (fun t1 t2 k n m w => by
          simp only [Builtin.max_, List.foldlM_cons, List.foldlM_nil, Builtin.max2, Sem.run_bind, Sem.run_pure, Result.andThen_ok]
          congr 2
          simp only [Int.max_def]
          split <;> split <;> first | rfl | omega) h
      · exact h.elim
    · split at h
      · rename_i x y ha
        split at h
        · rename_i t t2 ht
          split at h
          · rename_i e2 hk2
            split at h
            · rename_i e hk
              exact append_sem hT ho hc ha ht hk hk2 h
            · exact h.elim
          · rename_i ki hk2
            split at h
            · rename_i e hk
              split at h
              · rename_i b lo n cp hx
                split at h
                · rename_i ky q hy
                  exact appendZ_sem hT ho hc ha ht hk hk2 hx hy h
                · exact h.elim
              · exact h.elim
            · exact h.elim
          · exact h.elim
        · exact h.elim
      · exact h.elim
    · split at h
      · rename_i x ha
        split at h
        · rename_i t ht
          split at h
          · rename_i e hk
            exact cap_sem hT ho hc ha ht hk h
          · exact h.elim
        · exact h.elim
      · exact h.elim
    · split at h
      · rename_i x y ha
        split at h
        · rename_i t t2 ht
          split at h
          · rename_i e hk
            exact copy_sem hT ho hc ha ht hk h
          · exact h.elim
        · exact h.elim
      · exact h.elim
    · split at h
      · rename_i x ha
        split at h
        · rename_i t ht
          split at h
          · rename_i e hk
            exact clear_sem hT ho hc ha ht hk h
          · exact h.elim
        · exact h.elim
      · exact h.elim
    · exact h.elim
  · rename_i f hc
    split at h
    · rename_i f
      cases hp1 : anyPtr (evs ρ c.args.toList) with
      | true => rw [hp1] at h; exact anyPtr_callH ho hc h
      | false => rw [hp1] at h; exact static_sem ho hc h
    · rename_i t
      split at h
      · rename_i f cs hcap
        refine closure_sem ho hc ?_ h
        unfold capList at hcap
        split at hcap
        · rename_i f' c' hx
          simp only [Option.some.injEq, Prod.mk.injEq] at hcap
          obtain ⟨rfl, rfl⟩ := hcap
          exact hx
        · cases hcap
      · exact h.elim
    · exact h.elim
  · exact h.elim

include hT in
theorem opG_sound {o : Oper} {ρ : Operand → AV} {hp : Nat → Option Blk} {K : Eff → Prop} (h : opG T P o ρ hp K) : ∃ e, K e ∧ OpSem P o ρ hp e := by
  unfold opG at h
  split at h
  case h_1 x ho => exact sem_of (s := fun f => pure (f x)) (fun f => by simp [execOp, ho]) K (force_out h).1 fun own M ι a w _ _ hρ => ⟨_, rfl, hρ x⟩
  case h_2 x ho => exact sem_of (s := fun f => pure (f x)) (fun f => by simp [execOp, ho]) K (force_out h).1 fun own M ι a w _ _ hρ => ⟨_, rfl, hρ x⟩
  case h_3 c x y ho =>
    have key : ∀ (b : Bool) (z : Operand), (∀ (M : Mem) (ι : Inj) v, DenA M ι (ρ c) v → v = .bool b) → (z = if b then x else y) → force (ρ z) (val K) → ∃ e, K e ∧ OpSem P o ρ hp e := by
      intro b z hb hz h
      refine sem_of (s := fun f => do pure (if ← asBool (f c) then f x else f y)) (fun f => by simp [execOp, ho]) K (force_out h).1 fun own M ι a w _ _ hρ => ⟨_, ?_, hρ z⟩
      rw [hb M ι _ (hρ c), hz]
      cases b <;> simp [asBool]
    split at h
    · rename_i hc
      exact key true x (fun M ι v hv => by rw [hc] at hv; cases hv; rfl) rfl h
    · rename_i hc
      exact key false y (fun M ι v hv => by rw [hc] at hv; cases hv; rfl) rfl h
    · rename_i b hc
      rcases bcase_out h with ⟨rfl, h1⟩ | ⟨rfl, h1⟩
      · exact key true x (fun M ι v hv => den_bool (hc ▸ hv)) rfl h1
      · exact key false y (fun M ι v hv => den_bool (hc ▸ hv)) rfl h1
    · exact h.elim
  case h_4 t x ho =>
    obtain ⟨av, hK, hs⟩ := loadA_out hT h
    exact sem_of (s := fun f => Instr.loadAt t (f x)) (fun f => by simp [execOp, ho]) K hK fun own M ι a w hA hh hρ => hs own M ι w _ hA hh (hρ x)
  case h_5 x ho =>
    split at h
    · rename_i b i j hx
      split at h
      · rename_i B hb
        refine ⟨_, h, opSem_val fun own M ι a w hA hh hρ => ⟨a.eval x, ?_, hx ▸ hρ x⟩⟩
        have hv := hρ x
        rw [hx] at hv
        generalize hvx : a.eval x = v at hv
        cases hv with
        | ptr _ _ _ L hL => simp [execOp, ho, hvx]
        | ptrL _ _ _ _ hL => rw [(hh.dom b).2 hL] at hb; cases hb
      · exact h.elim
    · rename_i c j hx
      refine ⟨_, h, opSem_val fun own M ι a w hA hh hρ => ⟨a.eval x, ?_, hx ▸ hρ x⟩⟩
      have hv := hρ x
      rw [hx] at hv
      generalize hvx : a.eval x = v at hv
      cases hv with
      | d _ _ hv =>
        cases hv with
        | dp _ _ b off val hm hdd => simp [execOp, ho, hvx]
    · exact h.elim
  case h_6 op t x y k ho =>
    obtain ⟨av, hK, hs⟩ := binA_out hT h
    exact sem_of (s := fun f => do eqGuard op t x y (f x) (f y); binOp op t (f x) (f y)) (fun f => by simp [execOp, ho]) K hK fun own M ι a w hA hh hρ => hs M ι _ _ (hρ x) (hρ y) x y w
  case h_7 op t x ho =>
    split at h
    · split at h
      · rename_i b hx
        exact sem_of (s := fun f => Op.unary .not (f x)) (fun f => by simp [execOp, ho]) K h fun own M ι a w hA hh hρ => ⟨.bool (!b), by have e0 := den_bool (hx ▸ hρ x); rw [e0]; simp [Op.unary], .d _ _ (.bool _)⟩
      · rename_i hx
        exact sem_of (s := fun f => Op.unary .not (f x)) (fun f => by simp [execOp, ho]) K h fun own M ι a w hA hh hρ => ⟨.bool false, by
          have hv := hρ x
          rw [hx] at hv
          generalize hvx : a.eval x = v at hv
          cases hv; simp [Op.unary], .ff⟩
      · rename_i hx
        exact sem_of (s := fun f => Op.unary .not (f x)) (fun f => by simp [execOp, ho]) K h fun own M ι a w hA hh hρ => ⟨.bool true, by
          have hv := hρ x
          rw [hx] at hv
          generalize hvx : a.eval x = v at hv
          cases hv; simp [Op.unary], .tt⟩
      · exact h.elim
    · split at h
      · rename_i k n hx
        exact sem_of (s := fun f => Op.unary .xor (f x)) (fun f => by simp [execOp, ho]) K h fun own M ι a w hA hh hρ => ⟨_, by have e0 := den_int (hx ▸ hρ x); rw [e0]; simp [Op.unary, Op.intBits, bitsV], .d _ _ (.int _ _)⟩
      · exact h.elim
    · exact h.elim
  case h_8 src dst x ho =>
    split at h
    · rename_i k hk
      split at h
      · rename_i k2 hk2
        split at h
        · rename_i k' n hx
          have hK := wrapK_out h
          exact sem_of (s := fun f => convert src dst (f x)) (fun f => by simp [execOp, ho]) K hK fun own M ι a w hA hh hρ => ⟨_, by have e0 := den_int (hx ▸ hρ x); rw [e0]; simp [convert, run_underlying (und_int hT hk), run_underlying (und_int hT hk2), Conv.intToInt], .d _ _ (.int _ _)⟩
        · exact h.elim
      · exact h.elim
    · rename_i hk
      split at h
      · rename_i e hk2
        split at h
        · rename_i ik hk3
          cases hik : Nat.beq (kcode ik) 4 with
          | false => rw [hik] at h; exact h.elim
          | true =>
            rw [hik] at h
            have eik : ik = .u8 := by cases ik <;> first | rfl | exact absurd hik (by decide)
            subst eik
            obtain ⟨l, h, hsrc⟩ := srcRow_out (P := P) (show srcRow 1 (ρ x) hp _ from h)
            split at h
            · rename_i ns hns
              refine sem_of (s := fun f => convert src dst (f x)) (fun f => by simp [execOp, ho]) K h fun own M ι a w hA hh hρ => ?_
              obtain ⟨ad, cp, vs, hu, hs, _⟩ := hsrc own M ι w _ hA hh (hρ x)
              rw [hu] at hs
              refine ⟨_, ?_, .d _ _ (.str _)⟩
              rw [hu, run_convert_bytes_string w src dst e ad _ _ (und_slice hT hk2).1 (und_int hT hk3) (und_str hT hk)]
              exact bytes_run hs hns
            · exact h.elim
        · exact h.elim
      · exact h.elim
    · exact h.elim
  case h_9 t x lo hi mx ho => exact slice_sem hT ho h
  case h_10 s x f ho =>
    split at h
    · rename_i b i j hx
      split at h
      · rename_i B hb
        obtain ⟨F, fl, hu, hf, hk, hK⟩ := fieldOff_out hT h
        refine sem_of (s := fun g => Instr.fieldAt s (g x) f) (fun f => by simp [execOp, ho]) K hK fun own M ι a w hA hh hρ => ?_
        have hv := hρ x
        rw [hx] at hv
        generalize hvx : a.eval x = v at hv
        cases hv with
        | ptr _ _ _ L hL => exact ⟨_, fieldAt_out hT hu hf hk _ _ w, by rw [Nat.add_assoc]; exact .ptr b i _ L hL⟩
        | ptrL _ _ _ _ hL => rw [(hh.dom b).2 hL] at hb; cases hb
      · exact h.elim
    · rename_i c j hx
      obtain ⟨F, fl, hu, hf, hk, hK⟩ := fieldOff_out hT h
      refine sem_of (s := fun g => Instr.fieldAt s (g x) f) (fun f => by simp [execOp, ho]) K hK fun own M ι a w hA hh hρ => ?_
      have hv := hρ x
      rw [hx] at hv
      generalize hvx : a.eval x = v at hv
      cases hv with
      | d _ _ hv =>
        cases hv with
        | dp _ _ b off val hm hdd => exact ⟨_, fieldAt_out hT hu hf hk _ _ w, by rw [Nat.add_assoc]; exact .d _ _ (.dp c _ b off val hm hdd)⟩
    · exact h.elim
  case h_11 s x f ho =>
    split at h
    · rename_i c hx
      obtain ⟨F, fl, hu, hf, hk, h⟩ := fieldOff_out hT h
      obtain ⟨av, hK, hl, hd⟩ := partA_out h (size_one hT hk)
      refine sem_of (s := fun g => Instr.field s (g x) f) (fun f => by simp [execOp, ho]) K hK fun own M ι a w hA hh hρ => ?_
      have hv := hρ x
      rw [hx] at hv
      obtain ⟨vs, hvs, hs, hdv⟩ := den_agg_inv hv
      obtain ⟨g, hg, hden⟩ := hd M ι (fun i => vs[i]?) (fun i x hx => by
        have hlt : i < vs.size := by rw [hs]; exact (List.getElem?_eq_some_iff.1 hx).1
        exact ⟨vs[i], by simp [hlt], hdv i x _ hx (by simp [hlt])⟩)
      refine ⟨_, ?_, hden⟩
      rw [hvs]
      simp only [Instr.field, asAgg, Sem.run_bind, Sem.run_pure, Result.andThen_ok, run_underlying hu, hf, part, run_isAggT hT w hk]
      cases ha : (T fl.type).k.agg with
      | true =>
        simp only [if_true, Sem.run_bind, run_sizeT hT w hk, Result.andThen_ok, Sem.run_pure]
        congr 2
        apply Array.ext_getElem?
        intro i
        rw [Array.getElem?_extract]
        simp only [List.getElem?_toArray, List.getElem?_map]
        split
        · rename_i hi
          rw [hg i (by omega), List.getElem?_range (by omega)]; rfl
        · rename_i hi
          rw [List.getElem?_eq_none (by simp; omega)]; rfl
      | false =>
        have := hg 0 (by have := size_pos hT hk; omega)
        simp only [Nat.add_zero] at this
        simp [this]
    · exact h.elim
  case h_12 t x i ho =>
    obtain ⟨av, hK, hs⟩ := indexAddrA_out hT h
    exact sem_of (s := fun f => Instr.indexAt t (f x) (f i)) (fun f => by simp [execOp, ho]) K hK fun own M ι a w hA hh hρ => hs own M ι w _ _ hh (hρ x) (hρ i)
  case h_13 t x i ho =>
    obtain ⟨av, hK, hs⟩ := indexA_out hT h
    exact sem_of (s := fun f => Instr.index t (f x) (f i)) (fun f => by simp [execOp, ho]) K hK fun own M ι a w hA hh hρ => hs M ι w _ _ (hρ x) (hρ i)
  case h_14 x i ho =>
    split at h
    · rename_i c hx
      unfold getC at h
      split at h
      · rename_i y hy
        refine sem_of (s := fun f => Instr.extract (f x) i) (fun f => by simp [execOp, ho]) K (force_out h).1 fun own M ι a w hA hh hρ => ?_
        have hv := hρ x
        rw [hx] at hv
        obtain ⟨vs, hvs, hs, hdv⟩ := den_tup_inv hv
        have hlt : i < vs.size := by rw [hs]; exact (List.getElem?_eq_some_iff.1 hy).1
        exact ⟨vs[i], by rw [hvs]; simp [Instr.extract, hlt], hdv i y _ hy (by simp [hlt])⟩
      · exact h.elim
    · exact h.elim
  case h_15 t ps ho => exact build_sem hT ho h
  case h_16 t ho =>
    split at h
    · rename_i d hd
      exact alloc_sem hT ho h
    · exact h.elim
  case h_17 t x ho =>
    split at h
    · rename_i d hd
      exact box_sem ho h
    · exact h.elim
  case h_18 t x y ho =>
    split at h
    · rename_i b i j hx
      split at h
      · rename_i c hb
        exact storeBox_sem hT ho hx hb h
      · rename_i l sz hb
        exact storeRow_sem hT ho hx hb h
      · exact h.elim
    · exact h.elim
  case h_19 t x y ho =>
    split at h
    · rename_i d hd
      split at h
      · rename_i e hk
        split at h
        · rename_i k1 n hx
          split at h
          · rename_i k2 c hy
            exact makeSlice_sem hT ho hx hy hk h
          · exact h.elim
        · exact h.elim
      · exact h.elim
    · exact h.elim
  case h_20 t n ps ho =>
    split at h
    · rename_i d hd
      exact buildSlice_sem hT ho h
    · exact h.elim
  case h_21 fn first cap ho =>
    split at h
    · rename_i f
      exact makeFunc_sem ho h
    · exact h.elim
  case h_22 c ho => exact callG_sound hT ho h
  case h_23 => exact h.elim

end
end Go.Lk

namespace Go.Lk
open Go Go.RowKit

/-! ### operands -/
theorem ofConst_den (M : Mem) (ι : Inj) (v : Value) : DenA M ι (ofConst v) v := by
  have one : ∀ v : Value, DenA M ι (ofConst.one v) v := by
    intro v
    unfold ofConst.one
    split
    · exact .d _ _ (.int _ _)
    · exact .tt
    · exact .ff
    · exact .d _ _ (.str _)
    · exact .nil _
    · exact .d _ _ .nilp
    · exact .dead _
  have cells : ∀ l : List Value, (ofConst.cells l).length = l.length ∧ ∀ (i : Nat) (x : AV) (v : Value), (ofConst.cells l)[i]? = some x → l[i]? = some v → DenA M ι x v := by
    intro l
    induction l with
    | nil => exact ⟨rfl, fun i x v h => by simp [ofConst.cells] at h⟩
    | cons y r ih =>
      refine ⟨by simp [ofConst.cells, ih.1], fun i x v h1 h2 => ?_⟩
      cases i with
      | zero =>
        simp only [ofConst.cells, List.getElem?_cons_zero, Option.some.injEq] at h1 h2
        subst h1 h2
        exact one y
      | succ i => exact ih.2 i x v (by simpa [ofConst.cells] using h1) (by simpa using h2)
  unfold ofConst
  split
  · exact .d _ _ (.int _ _)
  · exact .tt
  · exact .ff
  · exact .d _ _ (.str _)
  · exact .nil _
  · exact .d _ _ .nilp
  · rename_i cs
    exact .agg _ _ (by simp [(cells cs.toList).1]) fun i x v h1 h2 => (cells cs.toList).2 i x v h1 (by simpa using h2)
  · exact .dead _

theorem evT_den {M : Mem} {ι : Inj} {tm : Nat → AV} {a : Act} (h : ∀ t, DenA M ι (tm t) (a.tmps.getD t undef)) (x : Operand) : DenA M ι (evT tm x) (a.eval x) := by
  cases x with
  | tmp t => exact h t
  | const v => exact ofConst_den M ι v
  | global g => exact .dead _
  | func f => exact .d _ _ (.fn f [] #[] rfl fun i x v h => by simp at h)

/-! ### the state -/
def Keeps (ι0 ι : Inj) : Prop := ∀ b, 1000000 ≤ b → b < 1000004 → ι b = ι0 b

/-- what the abstract state says of the machine's -/
def ARel (own : Nat → Prop) (w0 : World) (M0 : Mem) (ι0 : Inj) (N : Nat) (st : AState) (a : Act) (w : World) : Prop :=
  ∃ (M : Mem) (ι : Inj), Sub M0 M ∧ Agree M w ∧ NewDom own M0 M ∧ FrameOwn own w0 w ∧ HRel own M ι st.hp w ∧ Keeps ι0 ι ∧ (∀ t, DenA M ι (st.tm t) (a.tmps.getD t undef)) ∧ a.tmps.size = N ∧ a.defers = []

theorem put_get {a : Act} {t : Tmp} {v : Value} (ht : t < a.tmps.size) (s : Tmp) : ((a.put (some t) v).tmps.getD s undef) = if s = t then v else a.tmps.getD s undef := by
  simp only [Act.put, Array.getD_eq_getD_getElem?]
  by_cases h : s = t
  · subst h
    rw [Array.getElem?_setIfInBounds_self_of_lt ht]; simp
  · rw [Array.getElem?_setIfInBounds_ne (fun e => h e.symm), if_neg h]

theorem killT_den {M M' : Mem} {ι ι' : Inj} {k : Option Nat} (hs : Sub M M') (hι : ∀ b, Kp k b → ι' b = ι b) {tm : Nat → AV} {t : Nat} {v : Value} (h : DenA M ι (tm t) v) : DenA M' ι' (killT k tm t) v := by
  cases k with
  | none =>
    have : ι' = ι := funext fun b => hι b trivial
    subst this
    exact h.mono hs
  | some k => exact ((h.killV k).mono hs).turn (b := k) (fun b' hb => hι b' hb) (killV_free k (tm t))

/-- the caller's boxes go with no name that a step takes -/
theorem Kp_far {kl : Option Nat} {b : Nat} (hk : ∀ k, kl = some k → ¬ (1000000 ≤ k ∧ k < 1000004)) (h0 : 1000000 ≤ b) (h1 : b < 1000004) : Kp kl b := by
  cases kl with
  | none => trivial
  | some k =>
    have hk := hk k rfl
    show Fm k b = false
    unfold Fm
    cases hb : Nat.ble 2000000 k && Nat.beq (k % 8) 0 with
    | true =>
      have := Nat.le_of_ble_eq_true (Bool.and_eq_true_iff.1 hb).1
      cases hc : Nat.beq (b / 8) (k / 8) with
      | false => rfl
      | true => have := Nat.eq_of_beq_eq_true hc; omega
    | false =>
      cases hc : Nat.beq b k with
      | false => rfl
      | true => have := Nat.eq_of_beq_eq_true hc; omega

def DstOk (N : Nat) (o : Oper) : Prop := ∀ d, o.dst = some d → d < N

section
variable {own : Nat → Prop} {w0 : World} {M0 : Mem} {ι0 : Inj} {N : Nat}

theorem put_size (a : Act) (d : Option Tmp) (v : Value) : (a.put d v).tmps.size = a.tmps.size := by
  cases d <;> simp [Act.put]
theorem put_def (a : Act) (d : Option Tmp) (v : Value) : (a.put d v).defers = a.defers := by
  cases d <;> rfl

theorem put_den {M : Mem} {ι : Inj} {tm : Nat → AV} {a : Act} {av : AV} {v : Value} {dst : Option Tmp} (hd : ∀ d, dst = some d → d < a.tmps.size) (hv : DenA M ι av v) (h : ∀ t, DenA M ι (tm t) (a.tmps.getD t undef)) (t : Tmp) :
    DenA M ι (putT tm dst av t) ((a.put dst v).tmps.getD t undef) := by
  cases dst with
  | none => exact h t
  | some d =>
    rw [put_get (hd d rfl)]
    simp only [putT]
    by_cases e : t = d
    · subst e; rw [upd_same, if_pos rfl]; exact hv
    · rw [upd_other _ _ e, if_neg e]; exact h t

theorem step_rel {M : Mem} {ι : Inj} {tm : Nat → AV} {hp : Nat → Option Blk} {a : Act} {w w' : World} {e : Eff} {v : Value} {dst : Option Tmp} (hown : ∀ c, w0.heap.size ≤ c → own c) (h1 : Sub M0 M) (h3 : NewDom own M0 M) (h4 : FrameOwn own w0 w) (h6 : Keeps ι0 ι) (h7 : ∀ t, DenA M ι (tm t) (a.tmps.getD t undef)) (h8 : a.tmps.size = N) (h9 : a.defers = [])
    (hp1 : Post own M ι hp w e v w') (hd : ∀ d, dst = some d → d < N) (hk : ∀ k, e.kl = some k → ¬ (1000000 ≤ k ∧ k < 1000004)) :
    ARel own w0 M0 ι0 N ⟨putT (killT e.kl tm) dst e.av, e.hp hp⟩ (a.put dst v) w' := by
  obtain ⟨M', ι', f1, s1, a1, n1, g1, k1, d1⟩ := hp1
  refine ⟨M', ι', h1.trans s1, a1, h3.trans n1, h4.trans f1, g1, fun b hb hb' => ?_, put_den (by rw [h8]; exact hd) d1 fun t => killT_den s1 k1 (h7 t), by rw [put_size, h8], by rw [put_def, h9]⟩
  rw [k1 b (Kp_far hk hb hb')]
  exact h6 b hb hb'

/-- a step that is not taken -/
theorem skip_rel {tm : Nat → AV} {hp : Nat → Option Blk} {a : Act} {w : World} {dst : Option Tmp} (h : ARel own w0 M0 ι0 N ⟨tm, hp⟩ a w) (hd : ∀ d, dst = some d → d < N) :
    ARel own w0 M0 ι0 N ⟨putT tm dst (.tup []), hp⟩ (a.put dst undef) w := by
  obtain ⟨M, ι, h1, h2, h3, h4, h5, h6, h7, h8, h9⟩ := h
  exact ⟨M, ι, h1, h2, h3, h4, h5, h6, put_den (by rw [h8]; exact hd) (.tup [] #[] rfl fun i x v h => by simp at h) h7, by rw [put_size, h8], by rw [put_def, h9]⟩

/-- a value seen with fewer blocks -/
theorem DenA.fewer {M : Mem} {ι ι' : Inj} (hι : ∀ b, ι' b = none ∨ ι' b = ι b) {x : AV} {v : Value} (h : DenA M ι x v) : DenA M ι' x v := by
  induction h with
  | d x v hx => exact .d x v hx
  | tt => exact .tt
  | ff => exact .ff
  | agg c vs hl _ ih => exact .agg c vs hl ih
  | tup c vs hl _ ih => exact .tup c vs hl ih
  | own b L cap hL hn hc =>
    rcases hι b with e | e
    · exact .ownL _ _ e
    · exact .own b L cap (e.trans hL) hn hc
  | ownE b a hL =>
    rcases hι b with e | e
    · exact .ownL _ _ e
    · exact .ownE b a (e.trans hL)
  | ownL b v hL =>
    rcases hι b with e | e
    · exact .ownL _ _ e
    · exact .ownL b v (e.trans hL)
  | ptr b i j L hL =>
    rcases hι b with e | e
    · exact .ptrL _ _ _ _ e
    · exact .ptr b i j L (e.trans hL)
  | ptrL b i j v hL =>
    rcases hι b with e | e
    · exact .ptrL _ _ _ _ e
    · exact .ptrL b i j v (e.trans hL)
  | win b lo n c L k base hL q1 q2 q3 q4 =>
    rcases hι b with e | e
    · exact .winL _ _ _ _ _ e
    · exact .win b lo n c L k base (e.trans hL) q1 q2 q3 q4
  | winL b lo n c v hL =>
    rcases hι b with e | e
    · exact .winL _ _ _ _ _ e
    · exact .winL b lo n c v (e.trans hL)
  | nil a => exact .nil a
  | fn f cap vs hl _ ih => exact .fn f cap vs hl ih
  | dead v => exact .dead v

/-- fewer blocks -/
theorem HRel.fewer {M : Mem} {ι ι' : Inj} {hp hp' : Nat → Option Blk} {w : World} (h : HRel own M ι hp w) (hb : ∀ b, (hp' b = none ∧ ι' b = none) ∨ (hp' b = hp b ∧ ι' b = ι b)) : HRel own M ι' hp' w := by
  have hι : ∀ b, ι' b = none ∨ ι' b = ι b := fun b => (hb b).elim (fun e => .inl e.2) (fun e => .inr e.2)
  have up : ∀ b L, ι' b = some L → ι b = some L ∧ hp' b = hp b := fun b L e => by
    rcases hb b with ⟨_, e2⟩ | ⟨e1, e2⟩
    · rw [e2] at e; cases e
    · exact ⟨e2 ▸ e, e1⟩
  refine ⟨fun b => ?_, fun b hv => ?_, fun b B L hB hL => ?_, fun b b' L L' h1 h2 he => h.inj b b' L L' (up b _ h1).1 (up b' _ h2).1 he⟩
  · rcases hb b with ⟨e1, e2⟩ | ⟨e1, e2⟩
    · simp [e1, e2]
    · rw [e1, e2]; exact h.dom b
  · obtain ⟨e1, e2⟩ := up b _ hv
    rw [e2]; exact h.virt b e1
  · obtain ⟨e1, e2⟩ := up b _ hL
    rw [e2] at hB
    obtain ⟨g1, cs, Ty, g2, g3, g4⟩ := h.at_ b B L hB e1
    refine ⟨g1, cs, Ty, g2, g3, ?_⟩
    cases B with
    | row l sz fr => exact g4
    | box c fr => exact ⟨g4.1, g4.2.1, ⟨g4.2.2.1.size, fun j x hx => let ⟨v, y1, y2⟩ := g4.2.2.1.den j x hx; ⟨v, y1, y2.fewer hι⟩⟩, g4.2.2.2⟩

open Classical in
/-- fewer facts -/
theorem ARel.le {s st : AState} {a : Act} {w : World} (h : ARel own w0 M0 ι0 N st a w) (hl : Le s st) : ARel own w0 M0 ι0 N s a w := by
  obtain ⟨M, ι, h1, h2, h3, h4, h5, h6, h7, h8, h9⟩ := h
  obtain ⟨l1, l2, l3⟩ := hl
  let ι' : Inj := fun b => if s.hp b = none then none else ι b
  have hι : ∀ b, ι' b = none ∨ ι' b = ι b := fun b => by
    by_cases e : s.hp b = none
    · exact .inl (if_pos e)
    · exact .inr (if_neg e)
  have hb : ∀ b, (s.hp b = none ∧ ι' b = none) ∨ (s.hp b = st.hp b ∧ ι' b = ι b) := fun b => by
    by_cases e : s.hp b = none
    · exact .inl ⟨e, if_pos e⟩
    · exact .inr ⟨(l2 b).resolve_left e, if_neg e⟩
  refine ⟨M, ι', h1, h2, h3, h4, h5.fewer hb, fun b hb1 hb2 => ?_, fun t => ?_, h8, h9⟩
  · rw [← h6 b hb1 hb2]
    have e : s.hp b = st.hp b := by
      obtain ⟨a1, a2, a3, a4⟩ := l3
      have : b = 1000000 ∨ b = 1000001 ∨ b = 1000002 ∨ b = 1000003 := by omega
      rcases this with rfl | rfl | rfl | rfl
      · exact a1
      · exact a2
      · exact a3
      · exact a4
    by_cases hn : s.hp b = none
    · rw [show ι' b = none from if_pos hn]
      exact ((h5.dom b).1 (e ▸ hn)).symm
    · exact if_neg hn
  · rcases l1 t with e | e
    · rw [e]; exact .dead _
    · rw [e]; exact (h7 t).fewer hι

theorem ARel.nil1 {k : NilK} {st : AState} {a : Act} {w : World} (h : ARel own w0 M0 ι0 N st a w) (hk : nilOk1 k st) : ARel own w0 M0 ι0 N (Lk.nil1 k st) a w := by
  obtain ⟨M, ι, h1, h2, h3, h4, h5, h6, h7, h8, h9⟩ := h
  cases k with
  | row t b sz =>
    obtain ⟨e1, e2⟩ := hk
    refine ⟨M, upd ι b (some none), h1, h2, h3, h4, h5.virtual b sz false, fun c hc hc' => ?_, fun s => ?_, h8, h9⟩
    · rw [upd_other _ _ (fun e => ?_)]
      · exact h6 c hc hc'
      · subst e
        rw [Nat.ble_eq_true_of_le hc, Nat.ble_eq_true_of_le (show c ≤ 1000003 by omega)] at e2
        cases e2
    · by_cases e : s = t
      · subst e
        show DenA M _ (upd (killT (some b) st.tm) s (.own b) s) _
        rw [upd_same]
        have := h7 s
        rw [e1] at this
        generalize a.tmps.getD s undef = u at this ⊢
        cases this with
        | nil a0 => exact .ownE b a0 (upd_same _ _ _)
      · show DenA M _ (upd (killT (some b) st.tm) t (.own b) s) _
        rw [upd_other _ _ e]
        exact killT_den (.refl M) (fun c hc => upd_other _ _ (Kp_ne hc)) (h7 s)
  | lst t =>
    refine ⟨M, ι, h1, h2, h3, h4, h5, h6, fun s => ?_, h8, h9⟩
    by_cases e : s = t
    · subst e
      show DenA M _ (upd st.tm s (.d (.lst [])) s) _
      rw [upd_same]
      have := h7 s
      rw [show st.tm s = .nil from hk] at this
      generalize a.tmps.getD s undef = u at this ⊢
      cases this with
      | nil a0 => exact .d _ _ (.emp a0 0)
    · show DenA M _ (upd st.tm t (.d (.lst [])) s) _
      rw [upd_other _ _ e]
      exact h7 s
  | cell bx j b sz =>
    obtain ⟨e1, e2, e3⟩ := hk
    have hne : bx ≠ b := fun e => by subst e; simp at e2
    have hv := h5.virtual b sz false
    have hk6 : ∀ c, 1000000 ≤ c → c < 1000004 → upd ι b (some none) c = ι0 c := fun c hc hc' => by
      rw [upd_other _ _ (fun e => ?_)]
      · exact h6 c hc hc'
      · subst e
        rw [Nat.ble_eq_true_of_le hc, Nat.ble_eq_true_of_le (show c ≤ 1000003 by omega)] at e3
        cases e3
    unfold Lk.nil1
    split at e1
    · rename_i c fr hb
      obtain ⟨e4, rfl⟩ := e1
      simp only [hb]
      have hb' : upd (killH (some b) st.hp) b (some (.row [] sz false)) bx = some (.box (killB.cells b c) false) := by
        rw [upd_other _ _ hne]
        simp only [killH, hb]; rfl
      refine ⟨M, upd ι b (some none), h1, h2, h3, h4, ?_, hk6, fun s => killT_den (.refl M) (fun c hc => upd_other _ _ (Kp_ne hc)) (h7 s), h8, h9⟩
      refine hv.set bx _ (by rw [hb']; simp) (.refl M) (fun e => ?_) (fun L hL => ?_) (fun b' L' hbb hL' => ⟨rfl, fun B' hB' hfr o => hv.closed hL' B' hB' hfr o⟩)
      · obtain ⟨sz2, fr2, e0⟩ := hv.virt bx e
        rw [hb'] at e0; cases e0
      · obtain ⟨_, cs, Ty, q1, q2, q3, q4, q5, q6⟩ := hv.at_ bx _ L hb' hL
        refine ⟨cs, Ty, q1, q2, by simpa using q3, by simpa using q4, ⟨by simpa using q5.size, fun i x hx => ?_⟩, ⟨fun h => (by cases h), fun _ => q6.2 rfl⟩⟩
        rw [List.getElem?_set] at hx
        split at hx
        · rename_i e
          subst e
          split at hx
          · cases hx
            obtain ⟨v, hv1, hv2⟩ := q5.den j .nil (by rw [killB_cells_get, e4]; rfl)
            refine ⟨v, hv1, ?_⟩
            cases hv2 with
            | nil a0 => exact .ownE b a0 (upd_same _ _ _)
          · cases hx
        · exact q5.den i x hx
    · exact e1.elim
  | wk t y =>
    refine ⟨M, ι, h1, h2, h3, h4, h5, h6, fun s => ?_, h8, h9⟩
    by_cases e : s = t
    · subst e
      show DenA M _ (upd st.tm s y s) _
      rw [upd_same]
      exact hk.out _ _ _ (h7 s)
    · show DenA M _ (upd st.tm t y s) _
      rw [upd_other _ _ e]
      exact h7 s
  | wkc bx j y =>
    dsimp only [nilOk1] at hk
    dsimp only [Lk.nil1]
    split at hk
    · rename_i c fr hb
      obtain ⟨⟨x0, e4, e5⟩, rfl⟩ := hk
      refine ⟨M, ι, h1, h2, h3, h4, ?_, h6, h7, h8, h9⟩
      refine h5.set bx _ (by rw [hb]; simp) (.refl M) (fun e => ?_) (fun L hL => ?_) (fun b' L' hbb hL' => ⟨rfl, fun B' hB' hfr o => h5.closed hL' B' hB' hfr o⟩)
      · obtain ⟨sz2, fr2, e0⟩ := h5.virt bx e
        rw [hb] at e0; cases e0
      · obtain ⟨_, cs, Ty, q1, q2, q3, q4, q5, q6⟩ := h5.at_ bx _ L hb hL
        refine ⟨cs, Ty, q1, q2, by simpa using q3, by simpa using q4, ⟨by simpa using q5.size, fun i x hx => ?_⟩, ⟨fun h => (by cases h), fun _ => q6.2 rfl⟩⟩
        rw [List.getElem?_set] at hx
        split at hx
        · rename_i e
          subst e
          split at hx
          · cases hx
            obtain ⟨v, hv1, hv2⟩ := q5.den j x0 e4
            exact ⟨v, hv1, e5.out _ _ _ hv2⟩
          · cases hx
        · exact q5.den i x hx
    · exact hk.elim
  | frz b l sz =>
    obtain ⟨fr, hb⟩ := hk
    obtain ⟨M1, s1, a1, n1, g1⟩ := freeze h2 h5 hb (B' := .row l sz true) (.inl ⟨_, _, _, rfl, rfl⟩)
    exact ⟨M1, ι, h1.trans s1, a1, h3.trans n1, h4, g1, h6, fun t => (h7 t).mono s1, h8, h9⟩
  | sd t b l sz =>
    obtain ⟨e1, e2⟩ := hk
    refine ⟨M, ι, h1, h2, h3, h4, h5, h6, fun s => ?_, h8, h9⟩
    by_cases e : s = t
    · subst e
      show DenA M ι (upd st.tm s (.d (.lst l)) s) _
      rw [upd_same]
      have := h7 s
      rw [e1] at this
      exact .d _ _ (den_own h5 e2 this)
    · show DenA M ι (upd st.tm t (.d (.lst l)) s) _
      rw [upd_other _ _ e]
      exact h7 s
  | cd bx j b l sz =>
    dsimp only [nilOk1] at hk
    dsimp only [Lk.nil1]
    obtain ⟨e2, hk⟩ := hk
    split at hk
    · rename_i c fr hb
      obtain ⟨e4, rfl⟩ := hk
      refine ⟨M, ι, h1, h2, h3, h4, ?_, h6, h7, h8, h9⟩
      refine h5.set bx _ (by rw [hb]; simp) (.refl M) (fun e => ?_) (fun L hL => ?_) (fun b' L' hbb hL' => ⟨rfl, fun B' hB' hfr o => h5.closed hL' B' hB' hfr o⟩)
      · obtain ⟨sz2, fr2, e0⟩ := h5.virt bx e
        rw [hb] at e0; cases e0
      · obtain ⟨_, cs, Ty, q1, q2, q3, q4, q5, q6⟩ := h5.at_ bx _ L hb hL
        refine ⟨cs, Ty, q1, q2, by simpa using q3, by simpa using q4, ⟨by simpa using q5.size, fun i x hx => ?_⟩, ⟨fun h => (by cases h), fun _ => q6.2 rfl⟩⟩
        rw [List.getElem?_set] at hx
        split at hx
        · rename_i e
          subst e
          split at hx
          · cases hx
            obtain ⟨v, hv1, hv2⟩ := q5.den j _ e4
            exact ⟨v, hv1, .d _ _ (den_own h5 e2 hv2)⟩
          · cases hx
        · exact q5.den i x hx
    · exact hk.elim
theorem ARel.nilsR : ∀ {ns : List NilK} {st : AState} {a : Act} {w : World}, ARel own w0 M0 ι0 N st a w → nilsOk ns st → ARel own w0 M0 ι0 N (Lk.nils ns st) a w
  | [], _, _, _, h, _ => h
  | k :: r, st, _, _, h, hk => ARel.nilsR (ns := r) (st := Lk.nil1 k st) (ARel.nil1 h hk.1) hk.2
theorem ARel.leN {s st : AState} {a : Act} {w : World} (h : ARel own w0 M0 ι0 N st a w) (hl : LeN s st) : ARel own w0 M0 ι0 N s a w := by
  obtain ⟨ns, h1, h2⟩ := hl.out
  exact (ARel.nilsR h h1).le h2

/-! ### regions in the order of the text -/
theorem Oper.wp_monoQ {P : Program} {o : Oper} {a : Act} {w : World} {K K' : Act → World → Prop} {Q Q' : Exit → Act → World → Prop} (hK : ∀ a w, K a w → K' a w) (hQ : ∀ e a w, Q e a w → Q' e a w) (h : o.wp P a w K Q) : o.wp P a w K' Q' := by
  unfold Oper.wp at *
  generalize (execOp a.eval o).run P w = r at *
  cases r with
  | ok n w' =>
    cases n <;> simp only [Oper.upon] at h ⊢ <;>
      first
        | exact hK _ _ h
        | exact Calls.mono h (fun e w'' he => by
            cases e with
            | returned v => exact hK _ _ he
            | panicked c => exact hQ _ _ _ he
            | outgrown => obtain ⟨a0, w0, q⟩ := he; exact ⟨a0, w0, hQ _ _ _ q⟩)
        | exact Rows.mono h (fun _ _ he => hK _ _ he)
  | halt x w' => cases x <;> simp only [Oper.upon] at h ⊢ <;> exact hQ _ _ _ h

theorem yields_bool {ops : Array Oper} {a : Act} {g : Nat} {t : Tmp} {b : Bool} (ht : (ops[g]?).bind (·.dst) = some t) (h : a.tmps.getD t undef = .bool b) : yielded ops a.tmps g = some b := by
  have : a.tmps[t]? = some (.bool b) := by
    rw [Array.getD_eq_getD_getElem?] at h
    cases hx : a.tmps[t]? with
    | none => rw [hx] at h; simp [undef] at h
    | some v => rw [hx] at h; simp at h; rw [h]
  simp [yielded, ht, this]

theorem ARel.refine {tm : Nat → AV} {hp : Nat → Option Blk} {a : Act} {w : World} {t : Tmp} {b : Bool} (h : ARel own w0 M0 ι0 N ⟨tm, hp⟩ a w) (ht : tm t = .d (.bool b)) :
    ARel own w0 M0 ι0 N ⟨upd tm t (bif b then .tt else .ff), hp⟩ a w := by
  obtain ⟨M, ι, h1, h2, h3, h4, h5, h6, h7, h8, h9⟩ := h
  refine ⟨M, ι, h1, h2, h3, h4, h5, h6, fun s => ?_, h8, h9⟩
  by_cases e : s = t
  · subst e
    show DenA M ι (upd tm s _ s) _
    rw [upd_same]
    have := h7 s
    have hv : a.tmps.getD s undef = .bool b := den_bool (by rw [← ht]; exact this)
    rw [hv]
    cases b
    · exact .ff
    · exact .tt
  · show DenA M ι (upd tm t _ s) _
    rw [upd_other _ _ e]; exact h7 s

theorem den_guard {M : Mem} {ι : Inj} {x : AV} {v : Value} (h : DenA M ι x v) : (x = .tt → v = .bool true) ∧ (x = .ff → v = .bool false) :=
  ⟨fun e => by subst e; cases h; rfl, fun e => by subst e; cases h; rfl⟩

theorem den_undef {M : Mem} {ι : Inj} {v : Value} (h : DenA M ι (.tup []) v) : v = undef := by
  cases h with
  | tup _ vs hl _ =>
    have : vs = #[] := by simpa using hl
    rw [this]; rfl
theorem yields_undef {ops : Array Oper} {a : Act} {g : Nat} {t : Tmp} (ht : (ops[g]?).bind (·.dst) = some t) (h : a.tmps.getD t undef = undef) : yielded ops a.tmps g = none := by
  unfold yielded
  rw [ht]
  simp only [Option.bind_some]
  rw [Array.getD_eq_getD_getElem?] at h
  cases hx : a.tmps[t]? with
  | none => rfl
  | some v =>
    rw [hx] at h
    simp only [Option.getD_some] at h
    rw [h]; rfl

theorem wpOps_cons' {P : Program} {ops : Array Oper} {Q : Exit → Act → World → Prop} {i : Nat} {rest : List Nat} {o : Oper} {a : Act} {w : World} (ho : ops[i]? = some o)
    (h : if Region.wanted o (yielded ops a.tmps) then o.wp P a w (wpOps P ops Q rest) Q else wpOps P ops Q rest (a.put o.dst undef) w) : wpOps P ops Q (i :: rest) a w := by
  simp only [wpOps, ho]
  split
  · rename_i hw
    rw [if_pos hw] at h
    exact .inl h
  · rename_i hw
    rw [if_neg hw] at h
    exact h

variable {P : Program} {T : Tab} (hT : TabOk P T)

theorem run_equalIn_slice {P : Program} (w : World) (n : Nat) (t e : TypeId) (b : Option Addr) (k c : Nat) (hu : P.underlying t = some (.slice e)) : (Op.equalIn (n + 1) t (.slice b k c) (.slice none 0 0)).run P w = .ok b.isNone w := by
  cases b <;> simp [Op.equalIn, run_underlying hu]
include hT in
theorem nil_run {bo : BinOp} {t e : TypeId} {x y : Operand} {av : AV} {hp : Nat → Option Blk} {K : Eff → Prop} {M : Mem} {ι : Inj} {w : World} {a : Act} {v : Value} (hk : (T t).k = .slice e) (hy : isNilC y = true)
    (h : nilCmp av hp (nilOp bo K)) (hh : HRel own M ι hp w) (hv : DenA M ι av v) : ∃ b : Bool, K ⟨.d (.bool b), [], none⟩ ∧ (do eqGuard bo t x y v (a.eval y); binOp bo t v (a.eval y) : Sem Value).run P w = .ok (.bool b) w := by
  have hu := (und_slice hT hk).1
  have hyv : a.eval y = .slice none 0 0 := by
    unfold isNilC at hy
    split at hy
    · rfl
    · cases hy
  rw [hyv]
  have key : ∀ (r : Bool) (b : Option Addr) (n c : Nat), v = .slice b n c → r = b.isNone → nilOp bo K r → ∃ b : Bool, K ⟨.d (.bool b), [], none⟩ ∧ (do eqGuard bo t x y v (.slice none 0 0); binOp bo t v (.slice none 0 0) : Sem Value).run P w = .ok (.bool b) w := by
    intro r b n c hv hr hK
    subst hv
    have heq := run_equalIn_slice w 9999 t e b n c hu
    rw [← hr] at heq
    unfold nilOp at hK
    split at hK
    · exact ⟨r, hK, by simp [eqGuard, binOp, Op.equal, Op.maxDepth, heq]⟩
    · exact ⟨!r, hK, by simp [eqGuard, binOp, Op.equal, Op.maxDepth, heq]⟩
    · exact hK.elim
  unfold nilCmp at h
  split at h
  · rename_i l
    cases hv with
    | d _ _ hd =>
      cases hd with
      | emp a0 c => exact key _ a0 0 c rfl rfl (h.out _ fun _ => rfl)
      | lst _ b off cap sz val hl _ _ _ => exact key false _ _ _ rfl rfl (h.out _ fun e => by cases e)
  · cases hv with
    | nil a0 => exact key _ a0 0 0 rfl rfl (h.out _ fun _ => rfl)
  · rename_i b
    split at h
    · rename_i l sz fr hb
      cases hv with
      | own _ L cap hL hn hc => exact key false _ _ _ rfl rfl (h.out _ fun e => by cases e)
      | ownE _ a0 hL =>
        obtain ⟨sz2, fr2, e0⟩ := hh.virt b hL
        rw [hb] at e0; cases e0
        exact key _ a0 0 0 rfl rfl (h.out _ fun _ => rfl)
      | ownL _ _ hL => rw [(hh.dom b).2 hL] at hb; cases hb
    · exact h.elim
  · exact h.elim

include hT in
theorem take_rel (hown : ∀ c, w0.heap.size ≤ c → own c) {o : Oper} {tm : Nat → AV} {hp : Nat → Option Blk} {a : Act} {w : World} {K : AState → Prop} {Q : Exit → Act → World → Prop} (h : opN T P o (evT tm) hp fun e => step tm hp o.dst e K)
    (hr : ARel own w0 M0 ι0 N ⟨tm, hp⟩ a w) (hd : DstOk N o) : o.wp P a w (fun a' w' => ∃ st, K st ∧ ARel own w0 M0 ι0 N st a' w') Q := by
  obtain ⟨M, ι, h1, h2, h3, h4, h5, h6, h7, h8, h9⟩ := hr
  have plain : opG T P o (evT tm) hp (fun e => step tm hp o.dst e K) → o.wp P a w (fun a' w' => ∃ st, K st ∧ ARel own w0 M0 ι0 N st a' w') Q := by
    intro h
    obtain ⟨e, hs, hsem⟩ := opG_sound hT h
    obtain ⟨hk, hK⟩ := step_out hs
    refine Oper.wp_monoQ (fun a' w' hq => ?_) (fun _ _ _ hf => hf.elim) (hsem own M ι a w (fun c hc => hown c (Nat.le_trans h4.size hc)) h2 h5 (evT_den h7))
    obtain ⟨v, rfl, hpost⟩ := hq
    exact ⟨_, hK, step_rel hown h1 h3 h4 h6 h7 h8 h9 hpost hd hk⟩
  unfold opN at h
  split at h
  · rename_i bo t x y z ho
    split at h
    · rename_i e hk
      cases hn : isNilC y with
      | false => simp [hn] at h
      | true =>
        simp only [hn, cond_true] at h
        obtain ⟨b, hs, hrun⟩ := nil_run (a := a) (x := x) hT hk hn h h5 (evT_den h7 x)
        obtain ⟨hk2, hK⟩ := step_out hs
        unfold Oper.wp
        have : (execOp a.eval o).run P w = .ok (.value (.bool b)) w := by
          rw [show execOp a.eval o = (do pure (.value (← (do eqGuard bo t x y (a.eval x) (a.eval y); binOp bo t (a.eval x) (a.eval y) : Sem Value)))) by simp [execOp, ho]]
          generalize (do eqGuard bo t x y (a.eval x) (a.eval y); binOp bo t (a.eval x) (a.eval y) : Sem Value) = s at hrun
          simp [hrun]
        rw [this]
        exact ⟨_, hK, step_rel hown h1 h3 h4 h6 h7 h8 h9 (post_val h2 h5 (.d _ _ (.bool b))) hd hk2⟩
    · exact plain h
  · exact plain h

include hT in
theorem AOps_sound (hown : ∀ c, w0.heap.size ≤ c → own c) {ops : Array Oper} {Q : Exit → Act → World → Prop} {K : AState → Prop} (hQ : ∀ st a w, K st → ARel own w0 M0 ι0 N st a w → Q .normal a w) (hd : ∀ o ∈ ops, DstOk N o) :
    ∀ (l : List Oper) (i : Nat) (st : AState) (a : Act) (w : World), ops.toList.drop i = l → AOps T P ops l st K → ARel own w0 M0 ι0 N st a w → wpOps P ops Q (List.range' i l.length) a w
  | [], i, st, a, w, hl, h, hr => hQ st a w (AOps_nil.mp h) hr
  | o :: rest, i, st, a, w, hl, h, hr => by
    have ho : ops[i]? = some o := by
      have := congrArg (·[0]?) hl
      simpa using this
    have hl' : ops.toList.drop (i + 1) = rest := by
      have := congrArg (List.drop 1) hl
      simpa [Nat.add_comm] using this
    have hdo := hd o (Array.mem_of_getElem? ho)
    obtain ⟨tm, hp⟩ := st
    simp only [List.length_cons, List.range'_succ]
    have take : ∀ tm', opN T P o (evT tm') hp (fun e => step tm' hp o.dst e fun st => AOps T P ops rest st K) → ARel own w0 M0 ι0 N ⟨tm', hp⟩ a w → o.wp P a w (wpOps P ops Q (List.range' (i + 1) rest.length)) Q := by
      intro tm' h hr
      refine Oper.wp_monoQ (fun a' w' hq => ?_) (fun _ _ _ h => h) (take_rel hT hown h hr hdo)
      obtain ⟨st', k1, k2⟩ := hq
      exact AOps_sound hown hQ hd rest (i + 1) st' a' w' hl' k1 k2
    have skip : ∀ tm', step tm' hp o.dst ⟨.tup [], [], none⟩ (fun st => AOps T P ops rest st K) → ARel own w0 M0 ι0 N ⟨tm', hp⟩ a w → wpOps P ops Q (List.range' (i + 1) rest.length) (a.put o.dst undef) w := by
      intro tm' h hr
      exact AOps_sound hown hQ hd rest (i + 1) _ _ w hl' (step_out h).2 (skip_rel hr hdo)
    apply wpOps_cons' ho
    rw [AOps_cons] at h
    simp only [stepA] at h
    cases hg : o.guard with
    | none =>
      simp only [hg] at h
      rw [if_pos (by simp [Region.wanted, hg])]
      exact take tm h hr
    | some gw =>
      obtain ⟨g, want⟩ := gw
      simp only [hg] at h
      cases ht : (ops[g]?).bind (·.dst) with
      | none => simp [ht] at h
      | some t =>
        simp only [ht] at h
        have hden : ∃ M ι, DenA M ι (tm t) (a.tmps.getD t undef) := by
          obtain ⟨M, ι, h1, h2, h3, h4, h5, h6, h7, h8, h9⟩ := hr
          exact ⟨M, ι, h7 t⟩
        obtain ⟨M, ι, hden⟩ := hden
        have run : ∀ (b : Bool) tm', a.tmps.getD t undef = .bool b → ARel own w0 M0 ι0 N ⟨tm', hp⟩ a w →
            (if b = want then opN T P o (evT tm') hp (fun e => step tm' hp o.dst e fun st => AOps T P ops rest st K) else step tm' hp o.dst ⟨.tup [], [], none⟩ (fun st => AOps T P ops rest st K)) →
            if Region.wanted o (yielded ops a.tmps) then o.wp P a w (wpOps P ops Q (List.range' (i + 1) rest.length)) Q else wpOps P ops Q (List.range' (i + 1) rest.length) (a.put o.dst undef) w := by
          intro b tm' hv hr' h
          have hy := yields_bool ht hv
          have hw : Region.wanted o (yielded ops a.tmps) = (b == want) := by
            simp [Region.wanted, hg, hy]
          rw [hw]
          by_cases e : b = want
          · subst e
            rw [if_pos rfl] at h
            rw [if_pos (by simp)]
            exact take tm' h hr'
          · rw [if_neg e] at h
            rw [if_neg (by simpa using e)]
            exact skip tm' h hr'
        split at h
        · rename_i hx
          refine run true tm ((den_guard hden).1 hx) hr ?_
          cases want
          · simpa using h
          · simpa using h
        · rename_i hx
          refine run false tm ((den_guard hden).2 hx) hr ?_
          cases want
          · simpa using h
          · simpa using h
        · rename_i b hx
          rcases bcase_out h with ⟨rfl, h1⟩ | ⟨rfl, h1⟩
          · refine run true (upd tm t .tt) (den_bool (hx ▸ hden)) (hr.refine hx) ?_
            cases want
            · simpa using h1
            · simpa using h1
          · refine run false (upd tm t .ff) (den_bool (hx ▸ hden)) (hr.refine hx) ?_
            cases want
            · simpa using h1
            · simpa using h1
        · rename_i hx
          have hv : a.tmps.getD t undef = undef := den_undef (hx ▸ hden)
          have hw : Region.wanted o (yielded ops a.tmps) = false := by
            simp [Region.wanted, hg, yields_undef ht hv]
          rw [hw, if_neg (by simp)]
          exact skip tm h hr
        · exact h.elim
end
end Go.Lk

namespace Go.Lk
open Go Go.RowKit

/-! ### names -/
theorem memN_iff {b : Nat} : ∀ {l : List Nat}, memN b l = true ↔ b ∈ l
  | [] => by simp [memN]
  | x :: r => by
    simp only [memN]
    cases hb : Nat.beq b x with
    | true =>
      have : b = x := Nat.eq_of_beq_eq_true hb
      simp [this]
    | false =>
      have : b ≠ x := fun e => by subst e; simp at hb
      simp [this, memN_iff]

theorem subN_out : ∀ {l F : List Nat}, subN l F = true → ∀ x ∈ l, x ∈ F
  | [], F, _, x, hx => by cases hx
  | y :: r, F, h, x, hx => by
    simp only [subN] at h
    cases hm : memN y F with
    | false => simp [hm] at h
    | true =>
      simp only [hm, cond_true] at h
      cases hx with
      | head => exact memN_iff.1 hm
      | tail _ hx => exact subN_out h x hx

theorem disN_out : ∀ {l F : List Nat}, disN l F = true → ∀ x ∈ l, x ∉ F
  | [], F, _, x, hx => by cases hx
  | y :: r, F, h, x, hx => by
    simp only [disN] at h
    cases hm : memN y F with
    | true => simp [hm] at h
    | false =>
      simp only [hm, cond_false] at h
      cases hx with
      | head => exact fun e => by rw [memN_iff.2 e] at hm; cases hm
      | tail _ hx => exact disN_out h x hx

theorem one_keep {k : Nat} (hl : k < 2000000) {x : AV} {ns : List Nat} (h : namesO.one x = some ns) (hk : k ∉ ns) : killV.one k x = false := by
  cases x with
  | own b =>
    simp only [namesO.one, Option.some.injEq] at h
    subst h
    simp only [killV.one, Fm_lt hl]
    cases hb : Nat.beq b k with
    | true => exact absurd (by rw [Nat.eq_of_beq_eq_true hb]; exact List.mem_singleton_self _) hk
    | false => rfl
  | ptr b i j =>
    simp only [namesO.one, Option.some.injEq] at h
    subst h
    simp only [killV.one, Fm_lt hl]
    cases hb : Nat.beq b k with
    | true => exact absurd (by rw [Nat.eq_of_beq_eq_true hb]; exact List.mem_singleton_self _) hk
    | false => rfl
  | win b lo n c =>
    simp only [namesO.one, Option.some.injEq] at h
    subst h
    simp only [killV.one, Fm_lt hl]
    cases hb : Nat.beq b k with
    | true => exact absurd (by rw [Nat.eq_of_beq_eq_true hb]; exact List.mem_singleton_self _) hk
    | false => rfl
  | d x => rfl
  | tt => rfl
  | ff => rfl
  | nil => rfl
  | dead => rfl
  | agg c => cases h
  | tup c => cases h
  | fn f c => cases h

theorem cells_keep {k : Nat} (hl : k < 2000000) : ∀ {c : List AV} {ns : List Nat}, namesO.cells c = some ns → k ∉ ns → killV.names k c = false
  | [], ns, h, hk => rfl
  | x :: r, ns, h, hk => by
    simp only [namesO.cells] at h
    cases h1 : namesO.one x with
    | none => simp [h1] at h
    | some a =>
      cases h2 : namesO.cells r with
      | none => simp [h1, h2] at h
      | some b =>
        simp only [h1, h2, Option.some.injEq] at h
        subst h
        simp only [killV.names, one_keep hl h1 fun e => hk (List.mem_append_left _ e), cond_false]
        exact cells_keep hl h2 fun e => hk (List.mem_append_right _ e)

theorem part_keep {k : Nat} (hl : k < 2000000) {x : AV} {ns : List Nat} (h : namesO.part x = some ns) (hk : k ∉ ns) : killV.part k x = false := by
  cases x with
  | agg c => exact cells_keep hl h hk
  | _ => simp only [namesO.part] at h; simp only [killV.part]; exact one_keep hl h hk

theorem parts_keep {k : Nat} (hl : k < 2000000) : ∀ {c : List AV} {ns : List Nat}, namesO.parts c = some ns → k ∉ ns → killV.parts k c = false
  | [], ns, h, hk => rfl
  | x :: r, ns, h, hk => by
    simp only [namesO.parts] at h
    cases h1 : namesO.part x with
    | none => simp [h1] at h
    | some a =>
      cases h2 : namesO.parts r with
      | none => simp [h1, h2] at h
      | some b =>
        simp only [h1, h2, Option.some.injEq] at h
        subst h
        simp only [killV.parts, part_keep hl h1 fun e => hk (List.mem_append_left _ e), cond_false]
        exact parts_keep hl h2 fun e => hk (List.mem_append_right _ e)

theorem killV_keep {k : Nat} (hl : k < 2000000) {x : AV} {ns : List Nat} (h : namesO x = some ns) (hk : k ∉ ns) : killV k x = x := by
  cases x with
  | own b => have := one_keep hl (x := .own b) h hk; simp only [killV.one] at this; simp [killV, this]
  | ptr b i j => have := one_keep hl (x := .ptr b i j) h hk; simp only [killV.one] at this; simp [killV, this]
  | win b lo n c => have := one_keep hl (x := .win b lo n c) h hk; simp only [killV.one] at this; simp [killV, this]
  | agg c => simp only [killV, cells_keep hl h hk, cond_false]
  | tup c => simp only [killV, parts_keep hl h hk, cond_false]
  | fn f c => simp only [killV, cells_keep hl h hk, cond_false]
  | _ => rfl

theorem killV_clean {k : Nat} {x : AV} (h : namesO (killV k x) ≠ none) : killV k x = x := by
  cases x with
  | own b => simp only [killV] at h ⊢; cases hb : Fm k b <;> simp_all [namesO, namesO.one]
  | ptr b i j => simp only [killV] at h ⊢; cases hb : Fm k b <;> simp_all [namesO, namesO.one]
  | win b lo n c => simp only [killV] at h ⊢; cases hb : Fm k b <;> simp_all [namesO, namesO.one]
  | agg c => simp only [killV] at h ⊢; cases hb : killV.names k c <;> simp_all [namesO, namesO.one]
  | tup c => simp only [killV] at h ⊢; cases hb : killV.parts k c <;> simp_all [namesO, namesO.one]
  | fn f c => simp only [killV] at h ⊢; cases hb : killV.names k c <;> simp_all [namesO, namesO.one]
  | _ => rfl

theorem killV_comm (a b : Nat) (x : AV) : killV a (killV b x) = killV b (killV a x) := by
  cases x with
  | own c => simp only [killV]; cases h1 : Fm a c <;> cases h2 : Fm b c <;> simp [killV, h1, h2]
  | ptr c i j => simp only [killV]; cases h1 : Fm a c <;> cases h2 : Fm b c <;> simp [killV, h1, h2]
  | win c lo n q => simp only [killV]; cases h1 : Fm a c <;> cases h2 : Fm b c <;> simp [killV, h1, h2]
  | agg c => simp only [killV]; cases h1 : killV.names a c <;> cases h2 : killV.names b c <;> simp [killV, h1, h2]
  | tup c => simp only [killV]; cases h1 : killV.parts a c <;> cases h2 : killV.parts b c <;> simp [killV, h1, h2]
  | fn f c => simp only [killV]; cases h1 : killV.names a c <;> cases h2 : killV.names b c <;> simp [killV, h1, h2]
  | _ => rfl

theorem one_none {x : AV} (h : namesO.one x ≠ none) : namesO x ≠ none := by
  cases x <;> first | exact h | exact absurd rfl h
theorem one_killV {k : Nat} {x : AV} (h : namesO.one (killV k x) ≠ none) : killV k x = x := killV_clean (one_none h)

theorem killBc_keep {k : Nat} (hl : k < 2000000) : ∀ {c : List AV} {ns : List Nat}, namesO.cells c = some ns → k ∉ ns → killB.cells k c = c
  | [], ns, h, hk => rfl
  | x :: r, ns, h, hk => by
    simp only [namesO.cells] at h
    cases h1 : namesO.one x with
    | none => simp [h1] at h
    | some a =>
      cases h2 : namesO.cells r with
      | none => simp [h1, h2] at h
      | some b =>
        simp only [h1, h2, Option.some.injEq] at h
        subst h
        have hx : namesO x = some a := by cases x <;> first | exact h1 | cases h1
        simp only [killB.cells, killV_keep hl hx fun e => hk (List.mem_append_left _ e), killBc_keep hl h2 fun e => hk (List.mem_append_right _ e)]

theorem killBc_clean {k : Nat} : ∀ {c : List AV}, namesO.cells (killB.cells k c) ≠ none → killB.cells k c = c
  | [], h => rfl
  | x :: r, h => by
    simp only [killB.cells, namesO.cells] at h ⊢
    cases h1 : namesO.one (killV k x) with
    | none => simp [h1] at h
    | some a =>
      cases h2 : namesO.cells (killB.cells k r) with
      | none => simp [h1, h2] at h
      | some b => rw [one_killV (by rw [h1]; simp), killBc_clean (by rw [h2]; simp)]

theorem killB_keep {k : Nat} (hl : k < 2000000) {B : Blk} {ns : List Nat} (h : namesB B = some ns) (hk : k ∉ ns) : killB k B = B := by
  cases B with
  | row l sz fr => rfl
  | box c fr => simp only [killB, killBc_keep hl h hk]
theorem killB_clean {k : Nat} {B : Blk} (h : namesB (killB k B) ≠ none) : killB k B = B := by
  cases B with
  | row l sz fr => rfl
  | box c fr => simp only [killB, namesB] at h ⊢; rw [killBc_clean h]
theorem killB_comm (a b : Nat) (B : Blk) : killB a (killB b B) = killB b (killB a B) := by
  cases B with
  | row l sz fr => rfl
  | box c fr =>
    simp only [killB]
    congr 1
    induction c with
    | nil => rfl
    | cons x r ih => simp only [killB.cells, killV_comm, ih]

theorem inO_out {o : Option (List Nat)} {F : List Nat} (h : inO o F = true) : ∃ ns, o = some ns ∧ ∀ b ∈ ns, b ∈ F := by
  cases o with
  | none => cases h
  | some ns => exact ⟨ns, rfl, subN_out h⟩

theorem one_free {b : Nat} {x : AV} {ns : List Nat} (h : namesO.one x = some ns) (hb : b ∉ ns) : Free b x := by
  cases x with
  | own b' => cases h; exact .own b' fun e => hb (by simp [e])
  | ptr b' i j => cases h; exact .ptr b' i j fun e => hb (by simp [e])
  | win b' lo n c => cases h; exact .win b' lo n c fun e => hb (by simp [e])
  | d x => exact .d x
  | tt => exact .tt
  | ff => exact .ff
  | nil => exact .nil
  | dead => exact .dead
  | agg c => cases h
  | tup c => cases h
  | fn f c => cases h
theorem cells_free {b : Nat} : ∀ {c : List AV} {ns : List Nat}, namesO.cells c = some ns → b ∉ ns → ∀ x ∈ c, Free b x
  | [], ns, h, hb, x, hx => by cases hx
  | y :: r, ns, h, hb, x, hx => by
    simp only [namesO.cells] at h
    cases h1 : namesO.one y with
    | none => simp [h1] at h
    | some a =>
      cases h2 : namesO.cells r with
      | none => simp [h1, h2] at h
      | some q =>
        simp only [h1, h2, Option.some.injEq] at h
        subst h
        cases hx with
        | head => exact one_free h1 fun e => hb (List.mem_append_left _ e)
        | tail _ hx => exact cells_free h2 (fun e => hb (List.mem_append_right _ e)) x hx
theorem part_free {b : Nat} {x : AV} {ns : List Nat} (h : namesO.part x = some ns) (hb : b ∉ ns) : Free b x := by
  cases x with
  | agg c => exact .agg c (cells_free h hb)
  | _ => exact one_free h hb
theorem parts_free {b : Nat} : ∀ {c : List AV} {ns : List Nat}, namesO.parts c = some ns → b ∉ ns → ∀ x ∈ c, Free b x
  | [], ns, h, hb, x, hx => by cases hx
  | y :: r, ns, h, hb, x, hx => by
    simp only [namesO.parts] at h
    cases h1 : namesO.part y with
    | none => simp [h1] at h
    | some a =>
      cases h2 : namesO.parts r with
      | none => simp [h1, h2] at h
      | some q =>
        simp only [h1, h2, Option.some.injEq] at h
        subst h
        cases hx with
        | head => exact part_free h1 fun e => hb (List.mem_append_left _ e)
        | tail _ hx => exact parts_free h2 (fun e => hb (List.mem_append_right _ e)) x hx
theorem names_free {b : Nat} {x : AV} {ns : List Nat} (h : namesO x = some ns) (hb : b ∉ ns) : Free b x := by
  cases x with
  | agg c => exact .agg c (cells_free h hb)
  | tup c => exact .tup c (parts_free h hb)
  | fn f c => exact .fn f c (cells_free h hb)
  | _ => exact one_free h hb

theorem free_of_in {x : AV} {F : List Nat} (h : inO (namesO x) F = true) (b : Nat) (hb : b ∉ F) : Free b x := by
  obtain ⟨ns, e, hn⟩ := inO_out h
  exact names_free e fun hm => hb (hn b hm)

theorem free_of_inB {B : Blk} {F : List Nat} (h : inO (namesB B) F = true) (b : Nat) (hb : b ∉ F) : ∀ c fr, B = .box c fr → ∀ x ∈ c, Free b x := by
  rintro c fr rfl x hx
  obtain ⟨ns, e, hn⟩ := inO_out h
  exact cells_free e (fun hm => hb (hn b hm)) x hx

/-! ### what an effect leaves behind -/
def wrGet : List (Nat × Blk) → Nat → Option Blk
  | [], _ => none
  | (b, B) :: r, c => match wrGet r c with
    | some B' => some B'
    | none => bif Nat.beq c b then some B else none

theorem writes_get : ∀ (ws : List (Nat × Blk)) (hp : Nat → Option Blk) (c : Nat), writes hp ws c = match wrGet ws c with | some B => some B | none => hp c
  | [], hp, c => rfl
  | (b, B) :: r, hp, c => by
    simp only [writes, wrGet]
    rw [writes_get r]
    cases hr : wrGet r c with
    | some B' => rfl
    | none =>
      simp only [upd]
      cases Nat.beq c b <;> rfl

theorem wrGet_none {ws : List (Nat × Blk)} {c : Nat} : wrGet ws c = none ↔ c ∉ wrNames ws := by
  induction ws with
  | nil => simp [wrGet, wrNames]
  | cons p r ih =>
    obtain ⟨b, B⟩ := p
    simp only [wrGet, wrNames, List.mem_cons, not_or]
    cases hr : wrGet r c with
    | some B' => rw [hr] at ih; simp at ih; simp [ih]
    | none =>
      rw [hr] at ih
      have := ih.1 rfl
      cases hb : Nat.beq c b with
      | true => simp [Nat.eq_of_beq_eq_true hb]
      | false =>
        have hne : c ≠ b := fun e => by subst e; simp at hb
        simp [this, hne]

theorem wrGet_mem {ws : List (Nat × Blk)} {c : Nat} {B : Blk} (h : wrGet ws c = some B) : (c, B) ∈ ws := by
  induction ws with
  | nil => cases h
  | cons p r ih =>
    obtain ⟨b, B0⟩ := p
    simp only [wrGet] at h
    cases hr : wrGet r c with
    | some B' => rw [hr] at h; simp only [Option.some.injEq] at h; subst h; exact List.mem_cons_of_mem _ (ih hr)
    | none =>
      rw [hr] at h
      cases hb : Nat.beq c b with
      | false => simp [hb] at h
      | true =>
        simp only [hb, cond_true, Option.some.injEq] at h
        subst h
        rw [Nat.eq_of_beq_eq_true hb]; exact List.mem_cons_self ..

def killO (k : Option Nat) (o : Option Blk) : Option Blk := match k with | none => o | some k => o.map (killB k)
theorem killH_eq (k : Option Nat) (hp : Nat → Option Blk) (c : Nat) : killH k hp c = killO k (hp c) := by
  cases k with
  | none => rfl
  | some k => simp only [killH, killO]; cases hp c <;> rfl
theorem eff_hp_get (e : Eff) (hp : Nat → Option Blk) (c : Nat) : e.hp hp c = match wrGet e.wr c with | some B => some B | none => killO e.kl (hp c) := by
  unfold Eff.hp
  rw [writes_get, killH_eq]

def killA (k : Option Nat) (x : AV) : AV := match k with | none => x | some k => killV k x
theorem killT_eq (k : Option Nat) (tm : Nat → AV) (t : Nat) : killT k tm t = killA k (tm t) := by cases k <;> rfl

structure EffFact (F : List Nat) (dst : Option Tmp) (e : Eff) : Prop where
  kl : ∀ k, e.kl = some k → k ∈ wrNames e.wr
  lt : ∀ k, e.kl = some k → k < 2000000
  wr : ∀ b ∈ wrNames e.wr, b ∈ F ∨ e.kl = some b
  blk : ∀ c B, wrGet e.wr c = some B → inO (namesB B) (F ++ effW e) = true
  av : ∀ d, dst = some d → e.av = .dead ∨ inO (namesO e.av) (F ++ effW e) = true

theorem subN_of : ∀ {l F : List Nat}, (∀ x ∈ l, x ∈ F) → subN l F = true
  | [], F, _ => rfl
  | y :: r, F, h => by simp only [subN, memN_iff.2 (h y (List.mem_cons_self ..)), cond_true]; exact subN_of fun x hx => h x (List.mem_cons_of_mem _ hx)
theorem inO_mono {o : Option (List Nat)} {F G : List Nat} (h : inO o F = true) (hs : ∀ b ∈ F, b ∈ G) : inO o G = true := by
  obtain ⟨ns, rfl, hn⟩ := inO_out h
  exact subN_of fun x hx => hs x (hn x hx)

theorem wrOk_out {F : List Nat} : ∀ {ws : List (Nat × Blk)}, wrOk F ws = true → ∀ p ∈ ws, p.1 ∈ F ∧ inO (namesB p.2) F = true
  | [], _, p, hp => by cases hp
  | (b, B) :: r, h, p, hp => by
    simp only [wrOk] at h
    cases hm : (memN b F && inO (namesB B) F) with
    | false => simp [hm] at h
    | true =>
      simp only [hm, cond_true] at h
      simp only [Bool.and_eq_true] at hm
      cases hp with
      | head => exact ⟨memN_iff.1 hm.1, hm.2⟩
      | tail _ hp => exact wrOk_out h p hp

theorem mem_wrNames {ws : List (Nat × Blk)} {b : Nat} : b ∈ wrNames ws ↔ ∃ B, (b, B) ∈ ws := by
  induction ws with
  | nil => simp [wrNames]
  | cons p r ih =>
    obtain ⟨c, B⟩ := p
    simp only [wrNames, List.mem_cons, ih, Prod.mk.injEq]
    constructor
    · rintro (rfl | ⟨B', h⟩)
      · exact ⟨B, .inl ⟨rfl, rfl⟩⟩
      · exact ⟨B', .inr h⟩
    · rintro ⟨B', ⟨rfl, _⟩ | h⟩
      · exact .inl rfl
      · exact .inr ⟨B', h⟩

theorem avOk_out {F : List Nat} {dst : Option Tmp} {av : AV} (h : avOk F dst av = true) (d : Tmp) (hd : dst = some d) : av = .dead ∨ inO (namesO av) F = true := by
  subst hd
  cases av <;> first | exact .inl rfl | exact .inr h

theorem effOk_out {F : List Nat} {dst : Option Tmp} {e : Eff} (h : effOk F dst e = true) : EffFact F dst e := by
  unfold effOk at h
  cases hk : e.kl with
  | none =>
    simp only [hk, Bool.and_eq_true] at h
    obtain ⟨h1, h2⟩ := h
    refine ⟨fun k hk' => (by rw [hk] at hk'; cases hk'), fun k hk' => (by rw [hk] at hk'; cases hk'), fun b hb => ?_, fun c B hc => ?_, fun d hd => ?_⟩
    · obtain ⟨B, hB⟩ := mem_wrNames.1 hb
      exact .inl (wrOk_out h1 _ hB).1
    · exact inO_mono (wrOk_out h1 _ (wrGet_mem hc)).2 fun b hb => List.mem_append_left _ hb
    · exact orR (avOk_out h2 d hd) fun h => inO_mono h fun b hb => List.mem_append_left _ hb
  | some k =>
    simp only [hk, Bool.and_eq_true] at h
    obtain ⟨⟨⟨h00, h0⟩, h1⟩, h2⟩ := h
    have hsub : ∀ b ∈ k :: F, b ∈ F ++ effW e := by
      intro b hb
      cases hb with
      | head => exact List.mem_append_right _ (by simp [effW, hk])
      | tail _ hb => exact List.mem_append_left _ hb
    refine ⟨fun k' hk' => ?_, fun k' hk' => ?_, fun b hb => ?_, fun c B hc => ?_, fun d hd => ?_⟩
    · rw [hk] at hk'; cases hk'; exact memN_iff.1 h0
    · rw [hk] at hk'; cases hk'; have := Nat.le_of_ble_eq_true h00; omega
    · obtain ⟨B, hB⟩ := mem_wrNames.1 hb
      have := (wrOk_out h1 _ hB).1
      cases this with
      | head => exact .inr hk
      | tail _ h => exact .inl h
    · exact inO_mono (wrOk_out h1 _ (wrGet_mem hc)).2 hsub
    · exact orR (avOk_out h2 d hd) fun h => inO_mono h hsub

theorem effW_mem {e : Eff} {b : Nat} : b ∈ effW e ↔ e.kl = some b ∨ b ∈ wrNames e.wr := by
  unfold effW
  cases e.kl with
  | none => simp
  | some k => simp [eq_comm]


/-! ### the frame of an operation -/
theorem BlkAt.turnS {M : Mem} {ι ι' : Inj} {S : Nat → Prop} (hι : ∀ b, S b → ι' b = ι b) {w : World} {B : Blk} {L : Loc} (h : BlkAt M ι w B L) (hf : ∀ b, ¬ S b → ∀ c fr, B = .box c fr → ∀ x ∈ c, Free b x) : BlkAt M ι' w B L := by
  obtain ⟨cs, Ty, g2, g3, g4⟩ := h
  refine ⟨cs, Ty, g2, g3, ?_⟩
  cases B with
  | row l sz fr => exact g4
  | box c fr => exact ⟨g4.1, g4.2.1, ⟨g4.2.2.1.size, fun j x hx => let ⟨v, y1, y2⟩ := g4.2.2.1.den j x hx; ⟨v, y1, y2.turnS hι fun b hb => hf b hb c fr rfl x (List.mem_of_getElem? hx)⟩⟩, g4.2.2.2⟩

open Classical in
theorem opSem_frame {P : Program} {o : Oper} {ρ ρ' : Operand → AV} {F : List Nat} {hp hp' : Nat → Option Blk} {e : Eff} (hsem : OpSem P o ρ (restrH F hp) e) (he : EffFact F o.dst e)
    (hρ : ∀ x, ρ x = .dead ∨ ρ x = ρ' x) (hH : ∀ b ∈ F, hp' b = hp b) (hcl : ∀ b ∈ F, ∀ B, hp b = some B → inO (namesB B) F = true) :
    ∀ (own : Nat → Prop) (M : Mem) (ι : Inj) (a : Act) (w : World), (∀ c, w.heap.size ≤ c → own c) → Agree M w → HRel own M ι hp' w → (∀ x, DenA M ι (ρ' x) (a.eval x)) →
    o.wp P a w (fun a' w' => ∃ v, a' = a.put o.dst v ∧ ∃ (M' : Mem) (ι' : Inj), FrameOwn own w w' ∧ Sub M M' ∧ Agree M' w' ∧ NewDom own M M' ∧ HRel own M' ι' (e.hp hp') w' ∧ (∀ b, Kp e.kl b → ι' b = ι b) ∧ (o.dst ≠ none → DenA M' ι' e.av v)) (fun _ _ _ => False) := by
  intro own M ι a w hown ha hh hden
  let ι0 : Inj := fun b => if b ∈ F then ι b else none
  let own0 : Nat → Prop := fun c => own c ∧ ∀ b L, b ∉ F → ι b = some (some L) → L.blk ≠ c
  have hr0 : ∀ b ∈ F, restrH F hp b = hp' b := fun b hb => by unfold restrH; rw [memN_iff.2 hb, cond_true, hH b hb]
  have hrn : ∀ b, b ∉ F → restrH F hp b = none := fun b hb => by
    unfold restrH
    cases hm : memN b F with
    | true => exact absurd (memN_iff.1 hm) hb
    | false => rfl
  have hi0 : ∀ b ∈ F, ι0 b = ι b := fun b hb => if_pos hb
  have hin : ∀ b, b ∉ F → ι0 b = none := fun b hb => if_neg hb
  have hfew : ∀ b, ι0 b = none ∨ ι0 b = ι b := fun b => by
    by_cases hb : b ∈ F
    · exact .inr (hi0 b hb)
    · exact .inl (hin b hb)
  have hh1 : HRel own M ι0 (restrH F hp) w := hh.fewer fun b => by
    by_cases hb : b ∈ F
    · exact .inr ⟨hr0 b hb, hi0 b hb⟩
    · exact .inl ⟨hrn b hb, hin b hb⟩
  have hh0 : HRel own0 M ι0 (restrH F hp) w := by
    refine ⟨hh1.dom, hh1.virt, fun b B L hB hL => ⟨⟨(hh1.at_ b B L hB hL).1, fun b' L' hb' hL' e => ?_⟩, (hh1.at_ b B L hB hL).2⟩, hh1.inj⟩
    have hbF : b ∈ F := Classical.byContradiction fun hb => by rw [hin b hb] at hL; cases hL
    have := hh.inj b' b L' L hL' (hi0 b hbF ▸ hL) e
    exact hb' (this ▸ hbF)
  have hown0 : ∀ c, w.heap.size ≤ c → own0 c := fun c hc => ⟨hown c hc, fun b L _ hL e => by have := hh.lt hL; omega⟩
  have hden0 : ∀ x, DenA M ι0 (ρ x) (a.eval x) := fun x => by
    rcases hρ x with e | e
    · rw [e]; exact .dead _
    · rw [e]; exact (hden x).fewer hfew
  refine Oper.wp_monoQ (fun a' w' hq => ?_) (fun _ _ _ h => h) (hsem own0 M ι0 a w hown0 ha hh0 hden0)
  obtain ⟨v, rfl, M', ι1, f1, s1, a1, n1, g1, k1, d1⟩ := hq
  refine ⟨v, rfl, ?_⟩
  let S : Nat → Prop := fun b => b ∈ F ∨ e.kl = some b
  let ι' : Inj := fun b => if S b then ι1 b else ι b
  have hSi : ∀ b, S b → ι' b = ι1 b := fun b hb => if_pos hb
  have hSn : ∀ b, ¬ S b → ι' b = ι b := fun b hb => if_neg hb
  have hkeep : ∀ b, Kp e.kl b → ι' b = ι b := fun b hb => by
    by_cases hF : b ∈ F
    · rw [hSi b (.inl hF), k1 b hb, hi0 b hF]
    · exact hSn b fun h => h.elim hF fun h => by rw [h] at hb; exact Kp_ne hb rfl
  have hSin : ∀ b, b ∈ F ++ effW e → S b := fun b hb => by
    rcases List.mem_append.1 hb with h | h
    · exact .inl h
    · rcases effW_mem.1 h with h | h
      · exact .inr h
      · exact he.wr b h
  have hnames : ∀ {o : Option (List Nat)}, inO o (F ++ effW e) = true → ∀ b, ¬ S b → b ∉ F ++ effW e := fun _ b hb hm => hb (hSin b hm)
  -- the heap behind, block by block
  have hpS : ∀ b, S b → e.hp hp' b = e.hp (restrH F hp) b := fun b hb => by
    rw [eff_hp_get, eff_hp_get]
    cases hw : wrGet e.wr b with
    | some B => rfl
    | none =>
      rcases hb with hb | hb
      · rw [hr0 b hb]
      · exact absurd (he.kl b hb) (wrGet_none.1 hw)
  have hpN : ∀ b, ¬ S b → e.hp hp' b = killO e.kl (hp' b) := fun b hb => by
    rw [eff_hp_get]
    have : wrGet e.wr b = none := wrGet_none.2 fun hm => hb (he.wr b hm)
    rw [this]
  have hboxS : ∀ b B, S b → e.hp (restrH F hp) b = some B → ∀ b', ¬ S b' → ∀ c fr, B = .box c fr → ∀ x ∈ c, Free b' x := by
    intro b B hb hB b' hb'
    rw [eff_hp_get] at hB
    cases hw : wrGet e.wr b with
    | some B0 =>
      rw [hw] at hB
      simp only [Option.some.injEq] at hB
      subst hB
      exact free_of_inB (he.blk b B0 hw) b' fun hm => hb' (hSin b' hm)
    | none =>
      rw [hw] at hB
      have hbF : b ∈ F := hb.elim id fun h => absurd (he.kl b h) (wrGet_none.1 hw)
      rw [hr0 b hbF] at hB
      simp only at hB
      intro c fr e1 x hx
      cases hx2 : hp' b with
      | none => rw [hx2] at hB; unfold killO at hB; split at hB <;> cases hB
      | some B0 =>
        have hB0 := hcl b hbF B0 (by rw [← hH b hbF]; exact hx2)
        have hF' : b' ∉ F := fun hm => hb' (.inl hm)
        rw [hx2] at hB
        unfold killO at hB
        split at hB
        · simp only [Option.some.injEq] at hB
          subst hB
          exact free_of_inB hB0 b' hF' c fr e1 x hx
        · rename_i k hk
          simp only [Option.map_some, Option.some.injEq] at hB
          subst hB
          cases B0 with
          | row l sz fr => cases e1
          | box c0 fr0 =>
            simp only [killB, Blk.box.injEq] at e1
            obtain ⟨rfl, rfl⟩ := e1
            obtain ⟨i, hi⟩ := List.getElem?_of_mem hx
            rw [killB_cells_get] at hi
            cases hc0 : c0[i]? with
            | none => rw [hc0] at hi; cases hi
            | some y =>
              rw [hc0] at hi
              simp only [Option.map_some, Option.some.injEq] at hi
              subst hi
              rcases killV_cases k y with e2 | e2
              · rw [e2]; exact free_of_inB hB0 b' hF' c0 fr0 rfl y (List.mem_of_getElem? hc0)
              · rw [e2]; exact .dead
  have hkey : ∀ b B L, e.hp hp' b = some B → ι' b = some (some L) → own L.blk ∧ BlkAt M' ι' w' B L ∧ (S b → own0 L.blk) ∧ (¬ S b → ¬ own0 L.blk) := by
    intro b B L hB hL
    by_cases hb : S b
    · rw [hpS b hb] at hB
      rw [hSi b hb] at hL
      obtain ⟨q1, q2⟩ := g1.at_ b B L hB hL
      exact ⟨q1.1, q2.turnS hSi fun b' hb' => hboxS b B hb hB b' hb', fun _ => q1, fun h => absurd hb h⟩
    · rw [hpN b hb] at hB
      rw [hSn b hb] at hL
      have hno : ¬ own0 L.blk := fun h => h.2 b L (fun hm => hb (.inl hm)) hL rfl
      cases hx2 : hp' b with
      | none => rw [hx2] at hB; unfold killO at hB; split at hB <;> cases hB
      | some B0 =>
        obtain ⟨q1, q2⟩ := hh.at_ b B0 L hx2 hL
        have q3 : BlkAt M' ι w' B0 L := q2.keep s1 (f1.block _ hno) fun hfr o => by
          cases hv : M' L.blk o with
          | none => rfl
          | some u =>
            rcases n1 _ _ _ hv with h | h
            · rw [hh.closed hL B0 hx2 hfr o] at h; cases h
            · exact absurd h hno
        refine ⟨q1, ?_, fun h => absurd h hb, fun _ => hno⟩
        rw [hx2] at hB
        unfold killO at hB
        split at hB
        · rename_i hk
          simp only [Option.some.injEq] at hB
          subst hB
          have : ι' = ι := funext fun b => hkeep b (by rw [hk]; trivial)
          rw [this]; exact q3
        · rename_i k hk
          simp only [Option.map_some, Option.some.injEq] at hB
          subst hB
          exact q3.kill fun b' hb' => hkeep b' (by rw [hk]; exact hb')
  refine ⟨M', ι', ⟨f1.os, f1.tape, f1.output, f1.size, fun c hc => f1.block c fun h => hc h.1⟩, s1, a1, fun b o v hv => orR (n1 b o v hv) fun h => h.1, ⟨fun b => ?_, fun b hv => ?_, fun b B L hB hL => ⟨(hkey b B L hB hL).1, (hkey b B L hB hL).2.1⟩, fun b b' L L' hL hL' heq => ?_⟩, hkeep, fun hd => ?_⟩
  · by_cases hb : S b
    · rw [hpS b hb, hSi b hb]; exact g1.dom b
    · rw [hpN b hb, hSn b hb, ← hh.dom b]
      unfold killO
      split
      · rfl
      · cases hp' b <;> simp
  · by_cases hb : S b
    · rw [hSi b hb] at hv
      rw [hpS b hb]; exact g1.virt b hv
    · rw [hSn b hb] at hv
      obtain ⟨sz, fr, e0⟩ := hh.virt b hv
      rw [hpN b hb, e0]
      refine ⟨sz, fr, ?_⟩
      unfold killO
      split <;> rfl
  · have get : ∀ b L, ι' b = some (some L) → ∃ B, e.hp hp' b = some B := fun b L hL => by
      cases hx : e.hp hp' b with
      | some B => exact ⟨B, rfl⟩
      | none =>
        exfalso
        by_cases hb : S b
        · rw [hpS b hb] at hx
          rw [hSi b hb, (g1.dom b).1 hx] at hL; cases hL
        · rw [hpN b hb] at hx
          rw [hSn b hb] at hL
          have : hp' b = none := by
            unfold killO at hx
            split at hx
            · exact hx
            · cases hq : hp' b <;> simp_all
          rw [(hh.dom b).1 this] at hL; cases hL
    obtain ⟨B, hB⟩ := get b L hL
    obtain ⟨B', hB'⟩ := get b' L' hL'
    have q := (hkey b B L hB hL).2.2
    have q' := (hkey b' B' L' hB' hL').2.2
    by_cases hb : S b
    · by_cases hb' : S b'
      · rw [hSi b hb] at hL
        rw [hSi b' hb'] at hL'
        exact g1.inj b b' L L' hL hL' heq
      · exact absurd (heq ▸ q.1 hb) (q'.2 hb')
    · by_cases hb' : S b'
      · exact absurd (heq ▸ q'.1 hb') (q.2 hb)
      · rw [hSn b hb] at hL
        rw [hSn b' hb'] at hL'
        exact hh.inj b b' L L' hL hL' heq
  · cases hdst : o.dst with
    | none => exact absurd hdst hd
    | some d =>
      rcases he.av d hdst with e1 | e1
      · rw [e1]; exact .dead _
      · exact d1.turnS hSi fun b hb => free_of_in e1 b fun hm => hb (hSin b hm)

end Go.Lk


/-
  What is proved here: what functions of the program compute, and what follows; no condition beyond each theorem's own.
-/
import Derived.Test.YtfpmffadpjoogaaGreatBAc
import Derived.Laws.BytesString
import Derived.Orders
import Derived.LoopN
set_option linter.unusedSimpArgs false
set_option linter.unusedVariables false
set_option linter.unnecessarySimpa false
set_option linter.unusedSectionVars false
namespace Go.Lk
open Go Go.RowKit

theorem srcAny_out {P : Program} {sz : Nat} {v : AV} {hp : Nat → Option Blk} {K : List (List D) → Prop} (h : srcAny sz v hp K) :
    ∃ l, K l ∧ ∀ n, okRows sz (l.take n) = true → ∀ (own : Nat → Prop) (M : Mem) (ι : Inj) (w : World) (u : Value), Agree M w → HRel own M ι hp w → DenA M ι v u →
      ∃ a c vs, u = .slice a l.length c ∧ SrcAt P M w (.slice a (l.take n).length c) (l.take n) sz vs ∧ ∀ v ∈ vs.toList, v.oneCell' = true := by
  have htk : ∀ (l : List (List D)) (n i : Nat) (e : List D), (l.take n)[i]? = some e → l[i]? = some e := by
    intro l n i e he
    rw [List.getElem?_take] at he
    split at he
    · exact he
    · cases he
  unfold srcAny at h
  split at h
  · rename_i l
    refine ⟨l, h, fun n hok own M ι w u ha hh hd => ?_⟩
    cases hd with
    | d _ _ hd =>
      cases hd with
      | emp a c => exact ⟨a, c, #[], rfl, by simpa using src_empty a c, fun v hv => by simp at hv⟩
      | lst _ b off cap sz' val hl hs hm hdd =>
        have hsz : ∀ i e, (l.take n)[i]? = some e → sz' = sz := fun i e he => (hs i e (htk l n i e he)).symm.trans (okRows_get hok i e he).1
        obtain ⟨vs, hvs⟩ := src_cells (P := P) (M := M) (w := w) (l := l.take n) (sz := sz) b off cap val (fun i e he => (okRows_get hok i e he).1) (fun i j e d he hj => by
          have := hsz i e he
          subst this
          exact ha _ _ _ (hm i j e d (htk l n i e he) hj)) fun i j e d he hj => hdd i j e d (htk l n i e he) hj
        exact ⟨_, _, vs, rfl, hvs, hvs.one hok⟩
  · refine ⟨[], h, fun n hok own M ι w u ha hh hd => ?_⟩
    cases hd with
    | nil a => exact ⟨a, 0, #[], rfl, by simpa using src_empty a 0, fun v hv => by simp at hv⟩
  · rename_i b
    split at h
    · rename_i l sz' fr hb
      obtain ⟨hs, h2⟩ := bif_one h
      clear h
      have := Nat.eq_of_beq_eq_true hs
      subst this
      refine ⟨l, h2, fun n hok own M ι w u ha hh hd => ?_⟩
      cases hd with
      | own _ L cap hL hn hc =>
        obtain ⟨_, cs, Ty, hheap, hsz, q1, q2, q3, q4, q5⟩ := hh.at_ b _ L hb hL
        obtain ⟨vs, hvs⟩ := src_cells (P := P) (M := M) (w := w) (l := l.take n) (sz := sz') L.blk 0 cap (fun i j => (cs[i * sz' + j]?).getD undef) (fun i e he => q4.len i e (htk l n i e he)) (fun i j e d he hj => by
          obtain ⟨v, e1, e2⟩ := q4.den i j e d (htk l n i e he) hj
          rw [cell_of_heap hheap, Nat.zero_add, e1]; rfl) (fun i j e d he hj => by
          obtain ⟨v, e1, e2⟩ := q4.den i j e d (htk l n i e he) hj
          simpa [e1] using e2)
        rw [← q2]
        exact ⟨_, _, vs, rfl, hvs, hvs.one hok⟩
      | ownE _ a hL =>
        obtain ⟨sz2, fr2, e⟩ := hh.virt b hL
        rw [hb] at e; cases e
        exact ⟨a, 0, #[], rfl, by simpa using src_empty a 0, fun v hv => by simp at hv⟩
      | ownL _ _ hL => rw [(hh.dom b).2 hL] at hb; cases hb
    · exact h.elim
  · rename_i b lo n0 c
    split at h
    · rename_i l sz' fr hb
      obtain ⟨hs, h2⟩ := bif_one h
      clear h
      have := Nat.eq_of_beq_eq_true hs
      subst this
      obtain ⟨hle, h⟩ := condK_out h2
      refine ⟨_, h, fun n hok own M ι w u ha hh hd => ?_⟩
      have hlen : ((l.drop lo).take n0).length = n0 := by simp; omega
      rw [hlen]
      have htt : ((l.drop lo).take n0).take n = (l.drop lo).take (min n n0) := by rw [List.take_take]
      rw [htt] at hok ⊢
      cases hd with
      | winL _ _ _ _ _ hL => rw [(hh.dom b).2 hL] at hb; cases hb
      | win _ _ _ _ L k base hL hn hc hk hbb =>
        have hd' : DenA M ι (.win b lo (min n n0) none) (.slice (some ⟨L.blk, base, none⟩) (min n n0) k) := .win b lo _ none L k base hL (by omega) (fun _ h => by cases h) hk hbb
        obtain ⟨vs, k', base', L', e1, e2⟩ := win_src (P := P) hh hb hd' (by omega)
        have hl2 : ((l.drop lo).take (min n n0)).length = min n n0 := by simp; omega
        rw [hl2]
        exact ⟨_, _, vs, rfl, e2, e2.one hok⟩
    · exact h.elim
  · exact h.elim

/-- an element of a row with a middle of its own -/
theorem mid_get {α : Type} (r l : List α) (lo i : Nat) (h : lo + l.length ≤ r.length) : (r.take lo ++ (l ++ r.drop (lo + l.length)))[i]? = if lo ≤ i ∧ i < lo + l.length then l[i - lo]? else r[i]? := by
  have h1 : (r.take lo).length = lo := by simp; omega
  by_cases a : i < lo
  · rw [if_neg (by omega), List.getElem?_append_left (by omega), List.getElem?_take, if_pos a]
  · rw [List.getElem?_append_right (by omega), h1]
    by_cases b : i < lo + l.length
    · rw [if_pos ⟨by omega, b⟩, List.getElem?_append_left (by omega)]
    · rw [if_neg (by omega), List.getElem?_append_right (by omega), List.getElem?_drop]
      congr 1; omega

theorem mid_len {α : Type} (r l : List α) (lo : Nat) (h : lo + l.length ≤ r.length) : (r.take lo ++ (l ++ r.drop (lo + l.length))).length = r.length := by
  simp; omega

section
variable {P : Program} {T : Tab} (hT : TabOk P T)

/-- a part of a row is written -/
theorem row_write {own : Nat → Prop} {M : Mem} {ι : Inj} {hp : Nat → Option Blk} {w : World} (ha : Agree M w) (hh : HRel own M ι hp w) {b lo base : Nat} {r l : List (List D)} {sz : Nat} (hb : hp b = some (.row r sz false)) {L : Loc} (hL : ι b = some (some L))
    {vs : Array Value} (hrow : RowAt M vs l sz) (hs : vs.size = l.length * sz) (hone : ∀ v ∈ vs.toList, v.oneCell' = true) (hle : lo + l.length ≤ r.length) (hbase : base = lo * sz ∨ l = []) :
    ∃ w', (storeCells ⟨L.blk, base, none⟩ vs.toList).run P w = .ok () w' ∧ ∀ (av : AV) (v : Value), DenA M ι av v → Post own M ι hp w ⟨av, [(b, .row (r.take lo ++ (l ++ r.drop (lo + l.length))) sz false)], none⟩ v w' := by
  by_cases hl0 : l = []
  · subst hl0
    have hv0 : vs = #[] := by simpa using hs
    subst hv0
    refine ⟨w, by simp [storeCells], fun av v hd => ⟨M, ι, .refl _ _, .refl M, ha, .refl _ _, ?_, fun _ _ => rfl, hd⟩⟩
    have : upd hp b (some (.row (r.take lo ++ ([] ++ r.drop (lo + ([] : List (List D)).length))) sz false)) = hp := by
      funext x
      by_cases e : x = b
      · subst e; rw [upd_same, hb]; simp
      · rw [upd_other _ _ e]
    show HRel own M ι (upd hp b (some (.row (r.take lo ++ ([] ++ r.drop (lo + ([] : List (List D)).length))) sz false))) w
    rw [this]; exact hh
  · have hbase : base = lo * sz := hbase.resolve_right hl0
    subst hbase
    obtain ⟨hown1, cs, Ty, hheap, hsz, q1, q2, q3, q4, q5⟩ := hh.at_ b _ L hb hL
    have hcl := hh.closed hL _ hb rfl
    have hvl : vs.toList.length = l.length * sz := by simpa using hs
    have hbnd : lo * sz + vs.toList.length ≤ cs.size := by
      rw [hvl, ← Nat.add_mul, hsz]
      exact Nat.le_trans (Nat.mul_le_mul_right _ hle) q3
    obtain ⟨cs', g1, g2, g3, g4, g5, g6, g7⟩ := write_cells (P := P) (own := own) ha hown1 hcl hheap vs.toList (lo * sz) hbnd hone
    refine ⟨w.setRow L.blk cs', g1, fun av v hd => ⟨M, ι, g3, .refl M, g2, .refl _ _, ?_, fun _ _ => rfl, hd⟩⟩
    show HRel own M ι (upd hp b (some (.row (r.take lo ++ (l ++ r.drop (lo + l.length))) sz false))) _
    refine hh.set b _ (by rw [hb]; simp) (.refl M) (fun e => by rw [hL] at e; cases e) (fun L' hL' => ?_) fun b' L' hne hL' => ⟨g7 _ fun e => hne (hh.inj b' b L' L hL' hL e), hh.closed hL'⟩
    rw [hL] at hL'; cases hL'
    have hml := mid_len r l lo hle
    have hlenE : ∀ (i : Nat) (e : List D), (r.take lo ++ (l ++ r.drop (lo + l.length)))[i]? = some e → e.length = sz := by
      intro i e he
      rw [mid_get r l lo i hle] at he
      split at he
      · exact hrow.len _ e he
      · exact q4.len _ e he
    refine ⟨cs', Ty, g4, by rw [g5]; exact hsz, q1, by rw [hml]; exact q2, by rw [hml]; exact q3, ⟨hlenE, fun i j e d he hj => ?_⟩, (by intro e; cases e), fun _ => hcl⟩
    have hjl : j < sz := by rw [← hlenE i e he]; exact (List.getElem?_eq_some_iff.1 hj).1
    rw [g6, hvl]
    rw [mid_get r l lo i hle] at he
    split at he
    · rename_i hin
      obtain ⟨x, x1, x2⟩ := hrow.den _ j e d he hj
      have e1 : i * sz + j = lo * sz + ((i - lo) * sz + j) := by
        rw [← Nat.add_assoc, ← Nat.add_mul]; congr 2; omega
      have h2 : (i - lo) * sz + j < l.length * sz := idx_lt (by omega) hjl
      rw [if_pos ⟨by omega, by omega⟩]
      refine ⟨x, ?_, x2⟩
      rw [e1, Nat.add_sub_cancel_left]
      simpa using x1
    · rename_i hin
      have : ¬ (lo * sz ≤ i * sz + j ∧ i * sz + j < lo * sz + l.length * sz) := by
        rintro ⟨p1, p2⟩
        by_cases a : i < lo
        · have := idx_lt (sz := sz) a hjl; omega
        · have h3 : lo + l.length ≤ i := by omega
          have := Nat.mul_le_mul_right sz h3
          rw [Nat.add_mul] at this
          omega
      rw [if_neg this]
      exact q4.den i j e d he hj

/-- zeros -/
theorem zero_rows {e : TypeId} {z : Value} (hzc : zeroChk z.cells.toList (T e).zero = true) (hzl : (T e).zero.length = (T e).size) (hpos : 0 < (T e).size) (n : Nat) (M : Mem) : RowAt M (Builtin.zeroCells z.cells n) (List.replicate n (T e).zero) (T e).size ∧ (Builtin.zeroCells z.cells n).size = n * (T e).size ∧
    (okRow (T e).size (T e).zero = true → ∀ v ∈ (Builtin.zeroCells z.cells n).toList, v.oneCell' = true) := by
  obtain ⟨z1, z2⟩ := zeroChk_get hzc
  have hzs : z.cells.size = (T e).size := by rw [← hzl, ← z1]; simp
  have hget : ∀ j d', (T e).zero[j]? = some d' → ∀ i, i < n → ∃ v, (Builtin.zeroCells z.cells n)[i * (T e).size + j]? = some v ∧ ∀ M, DenD M d' v := by
    intro j d' hd' i hi
    have hj := (List.getElem?_eq_some_iff.1 hd').1
    rw [hzl] at hj
    obtain ⟨v, g1, g2, _⟩ := z2 j d' hd'
    refine ⟨v, ?_, g2⟩
    have hlt : i * (T e).size + j < n * z.cells.size := by rw [hzs]; exact idx_lt hi hj
    simp only [Builtin.zeroCells, Array.getElem?_map, Array.getElem?_range, if_pos hlt, Option.map_some, Option.some.injEq]
    rw [hzs, Nat.mul_comm, Nat.mul_add_mod, Nat.mod_eq_of_lt hj]
    have hlt2 : j < z.cells.size := by omega
    rw [getElem!_pos z.cells _ hlt2]
    have : z.cells[j]? = some v := by simpa using g1
    rw [Array.getElem?_eq_getElem hlt2] at this
    simpa using this
  have hsize : (Builtin.zeroCells z.cells n).size = n * (T e).size := by simp [Builtin.zeroCells, hzs]
  refine ⟨⟨fun i el hel => ?_, fun i j el d' hel hd' => ?_⟩, hsize, fun hok v hv => ?_⟩
  · rw [List.getElem?_replicate] at hel
    split at hel
    · cases hel; exact hzl
    · cases hel
  · rw [List.getElem?_replicate] at hel
    split at hel
    · rename_i hi
      cases hel
      obtain ⟨v, g1, g2⟩ := hget j d' hd' i hi
      exact ⟨v, g1, g2 M⟩
    · cases hel
  · obtain ⟨k, hk, rfl⟩ := List.mem_iff_getElem.1 hv
    have hk' : k < n * (T e).size := by rw [← hsize]; simpa using hk
    obtain ⟨i, j, rfl, hi, hj⟩ := idx_split hk'
    have hd : (T e).zero[j]? = some ((T e).zero[j]'(by omega)) := List.getElem?_eq_getElem (by omega)
    obtain ⟨v, g1, g2⟩ := hget j _ hd i hi
    have : (Builtin.zeroCells z.cells n).toList[i * (T e).size + j] = v := by
      have h := g1
      rw [← Array.getElem?_toList, List.getElem?_eq_getElem hk] at h
      simpa using h
    rw [this]
    simp only [okRow, Bool.and_eq_true, List.all_eq_true] at hok
    exact one_cell (hok.2 _ (List.mem_of_getElem? hd)) (g2 (fun _ _ => none))

include hT in
theorem copy_sem {o : Oper} {c : Call} {x y : Operand} {t t2 e : TypeId} {ρ : Operand → AV} {hp : Nat → Option Blk} {K : Eff → Prop} (ho : o.op = .call c) (hc : c.callee = .builtin .copy) (ha : c.args.toList = [x, y]) (ht : c.argTypes.toList = [t, t2]) (hk : (T t).k = .slice e)
    (h : copyW T e (ρ x) (ρ y) hp K) : ∃ e, K e ∧ OpSem P o ρ hp e := by
  have ha' : c.args = #[x, y] := by rw [← Array.toList_inj]; exact ha
  have ht' : c.argTypes = #[t, t2] := by rw [← Array.toList_inj]; exact ht
  obtain ⟨hu, hke⟩ := und_slice hT hk
  unfold copyW at h
  split at h
  · rename_i b lo n cp hx
    split at h
    · rename_i r sz hb
      obtain ⟨hsz, h⟩ := bif_one h
      have hsz := Nat.eq_of_beq_eq_true hsz
      subst hsz
      obtain ⟨src, h, hsrc⟩ := srcAny_out (P := P) h
      obtain ⟨⟨hle, hok⟩, h⟩ := condK_out h
      refine ⟨_, h, opSem_run fun own M ι a w hown hA hh hρ => ?_⟩
      obtain ⟨a0, c0, vs, e1, e2, e3⟩ := hsrc _ hok own M ι w _ hA hh (hρ y)
      have hv := hρ x
      rw [hx] at hv
      generalize hvx : a.eval x = v at hv
      cases hv with
      | winL _ _ _ _ _ hL => rw [(hh.dom b).2 hL] at hb; cases hb
      | win _ _ _ _ L k base hL hn hcc hkk hbb =>
        obtain ⟨_, _, _, _, _, q1, _⟩ := hh.at_ b _ L hb hL
        have hm : (src.take (Nat.min src.length n)).length = Nat.min src.length n := by
          rw [List.length_take]; exact Nat.min_eq_left (Nat.min_le_left _ _)
        have hmn : Nat.min src.length n ≤ n := Nat.min_le_right _ _
        obtain ⟨w', g1, g2⟩ := row_write (P := P) hA hh hb hL (lo := lo) (base := base) e2.row e2.size e3 (by rw [hm]; omega) (by
          rcases hbb with h | h
          · exact .inl (by rw [h, q1])
          · right
            apply List.eq_nil_of_length_eq_zero
            rw [hm]; omega)
        have hp' := g2 (.d (.int .i64 (Nat.min src.length n))) (.int .i64 (Nat.min src.length n)) (.d _ _ (.int _ _))
        rw [hm] at hp'
        refine ⟨_, w', ?_, hp'⟩
        have hr := e2.run w fun _ _ => rfl
        have hfc : (Builtin.firstCells (T e).size (Nat.min src.length n) (.slice a0 src.length c0)).run P w = .ok vs w := by
          rw [hm] at hr
          cases a0 with
          | none => exact hr
          | some a0 => exact hr
        simp only [execOp, ho, resolve, hc, invoke, builtin, ha', ht', hvx, e1, Builtin.copy_, run_underlying hu, run_sizeT hT w hke, Builtin.lenOf, hfc, g1, goInt, Array.map, Sem.run_bind, Sem.run_pure, Result.andThen_ok]
        simp [Builtin.copy_, run_underlying hu, run_sizeT hT w hke, Builtin.lenOf, hfc, g1, goInt, hvx, e1]
    · exact h.elim
  · exact h.elim

include hT in
theorem clear_sem {o : Oper} {c : Call} {x : Operand} {t e : TypeId} {ρ : Operand → AV} {hp : Nat → Option Blk} {K : Eff → Prop} (ho : o.op = .call c) (hc : c.callee = .builtin .clear) (ha : c.args.toList = [x]) (ht : c.argTypes.toList = [t]) (hk : (T t).k = .slice e)
    (h : clearW T e (ρ x) hp K) : ∃ e, K e ∧ OpSem P o ρ hp e := by
  have ha' : c.args = #[x] := by rw [← Array.toList_inj]; exact ha
  have ht' : c.argTypes = #[t] := by rw [← Array.toList_inj]; exact ht
  obtain ⟨hu, hke⟩ := und_slice hT hk
  unfold clearW at h
  split at h
  · rename_i b lo n cp hx
    split at h
    · rename_i r sz hb
      obtain ⟨hsz, h⟩ := bif_one h
      have hsz := Nat.eq_of_beq_eq_true hsz
      subst hsz
      obtain ⟨⟨hle, hok⟩, h⟩ := condK_out h
      refine ⟨_, h, opSem_run fun own M ι a w hown hA hh hρ => ?_⟩
      have hv := hρ x
      rw [hx] at hv
      generalize hvx : a.eval x = v at hv
      cases hv with
      | winL _ _ _ _ _ hL => rw [(hh.dom b).2 hL] at hb; cases hb
      | win _ _ _ _ L k base hL hn hcc hkk hbb =>
        obtain ⟨_, _, _, _, _, q1, _⟩ := hh.at_ b _ L hb hL
        obtain ⟨_, ie, _, hie, _, _, _, ⟨z, hz, hzc⟩, _⟩ := (tyFact hT hke).desc
        have hzr : (zeroValue e).run P w = .ok z w := by simp [zeroValue, typeInfo, hie, hz]
        obtain ⟨r1, r2, r3⟩ := zero_rows hzc (zero_len hT hke) (size_pos hT hke) n M
        have hlr : (List.replicate n (T e).zero).length = n := List.length_replicate ..
        obtain ⟨w', g1, g2⟩ := row_write (P := P) hA hh hb hL (lo := lo) (base := base) r1 (by rw [hlr]; exact r2) (r3 hok) (by rw [hlr]; omega) (by
          rcases hbb with h | h
          · exact .inl (by rw [h, q1])
          · right
            apply List.eq_nil_of_length_eq_zero
            rw [hlr]; omega)
        have hp' := g2 (.tup []) (.tuple #[]) (.tup [] #[] rfl fun i x v h => by simp at h)
        rw [hlr] at hp'
        refine ⟨_, w', ?_, hp'⟩
        cases n with
        | zero =>
          have : w' = w := by
            have e0 : (storeCells ⟨L.blk, base, none⟩ (Builtin.zeroCells z.cells 0).toList).run P w = .ok () w := by simp [Builtin.zeroCells, storeCells]
            rw [e0] at g1
            cases g1; rfl
          subst this
          simp [execOp, ho, resolve, hc, invoke, builtin, ha', ht', hvx, Builtin.clear_, run_underlying hu]
        | succ n =>
          simp [execOp, ho, resolve, hc, invoke, builtin, ha', ht', hvx, Builtin.clear_, run_underlying hu, hzr, g1]
    · exact h.elim
  · exact h.elim

include hT in
theorem cap_sem {o : Oper} {c : Call} {x : Operand} {t e : TypeId} {ρ : Operand → AV} {hp : Nat → Option Blk} {K : Eff → Prop} (ho : o.op = .call c) (hc : c.callee = .builtin .cap) (ha : c.args.toList = [x]) (ht : c.argTypes.toList = [t]) (hk : (T t).k = .slice e)
    (h : match ρ x with
            | .win b _ _ (some c) => match hp b with
              | some _ => K ⟨.d (.int .i64 c), [], none⟩
              | none => False
            | _ => False) : ∃ e, K e ∧ OpSem P o ρ hp e := by
  have ha' : c.args = #[x] := by rw [← Array.toList_inj]; exact ha
  have ht' : c.argTypes = #[t] := by rw [← Array.toList_inj]; exact ht
  obtain ⟨hu, hke⟩ := und_slice hT hk
  split at h
  · rename_i b lo n cp hx
    split at h
    · rename_i B hb
      refine ⟨_, h, opSem_val fun own M ι a w hA hh hρ => ⟨.int .i64 cp, ?_, .d _ _ (.int _ _)⟩⟩
      have hv := hρ x
      rw [hx] at hv
      generalize hvx : a.eval x = v at hv
      cases hv with
      | winL _ _ _ _ _ hL => rw [(hh.dom b).2 hL] at hb; cases hb
      | win _ _ _ _ L k base hL hn hcc hkk hbb =>
        have := hcc cp rfl
        subst this
        simp [execOp, ho, resolve, hc, invoke, builtin, ha', ht', hvx, Builtin.cap_, run_underlying hu, goInt]
    · exact h.elim
  · exact h.elim

/-- what an append that grows leaves, as a window -/
theorem grown_win {own : Nat → Prop} {M : Mem} {ι : Inj} {hp : Nat → Option Blk} {w : World} (ho : ∀ c, w.heap.size ≤ c → own c) (ha : Agree M w) (hh : HRel own M ι hp w) {x : Nat} {l r : List (List D)} {sz : Nat} {old vs rest : Array Value} {Ty : TypeId} {cap : Nat}
    (h1 : RowAt M old l sz) (s1 : old.size = l.length * sz) (h2 : RowAt M vs r sz) (s2 : vs.size = r.length * sz) (hcap : l.length + r.length ≤ cap) (s3 : rest.size = (cap - (l.length + r.length)) * sz) :
    Post own M ι hp w ⟨.win x 0 (l.length + r.length) none, [(x, .row (l ++ r) sz false)], some x⟩ (.slice (some ⟨w.heap.size, 0, none⟩) (l.length + r.length) cap) (w.drew.alloc (.cells (old ++ vs ++ rest) Ty)) := by
  have hrow : RowAt M (old ++ vs ++ rest) (l ++ r) sz := by
    refine row_append h1 h2 (fun k hk => ?_) fun k hk => ?_
    · rw [Array.getElem?_append_left (by simp; omega), Array.getElem?_append_left (by omega)]
    · rw [Array.getElem?_append_left (by simp; omega), Array.getElem?_append_right (by omega)]
      congr 1; omega
  have hsize : (old ++ vs ++ rest).size = cap * sz := by
    simp only [Array.size_append, s1, s2, s3, ← Nat.add_mul]
    congr 1; omega
  have hha : HRel own M ι hp w.drew := hh.keep (.refl M) fun b' L' hL' => ⟨rfl, hh.closed hL'⟩
  refine post_new (w := w) (w0 := w.drew) ho (.refl M) (.refl _ _) ha hha rfl rfl rfl rfl (e := ⟨.win x 0 (l.length + r.length) none, [(x, .row (l ++ r) sz false)], some x⟩) (d := x) (B := .row (l ++ r) sz false) (sz := sz) (len := l.length + r.length) rfl rfl ?_ ?_
  · refine ⟨_, Ty, heap_alloc_size w.drew _, rfl, rfl, by simp, ?_, hrow, (by intro e; cases e), fun _ o => agree_new ha o⟩
    rw [hsize]
    simp only [List.length_append]
    exact Nat.mul_le_mul_right _ hcap
  · exact .win x 0 _ none ⟨w.heap.size, sz, (old ++ vs ++ rest).size, l.length + r.length⟩ cap 0 (upd_same _ _ _) hcap (fun _ h => by cases h) (by rw [hsize, Nat.zero_add]; exact Nat.le_refl _) (.inl (by simp))

include hT in
theorem append_win_sem {o : Oper} {c : Call} {x y : Operand} {t t2 e e2 : TypeId} {ρ : Operand → AV} {hp : Nat → Option Blk} {K : Eff → Prop} (ho : o.op = .call c) (hc : c.callee = .builtin .append) (ha : c.args.toList = [x, y]) (ht : c.argTypes.toList = [t, t2]) (hk : (T t).k = .slice e) (hk2 : (T t2).k = .slice e2)
    {b lo n cp : Nat} (hx : ρ x = .win b lo n (some cp)) {src : List (List D)} (hsrc : ∀ (own : Nat → Prop) (M : Mem) (ι : Inj) (w : World) (u : Value), Agree M w → HRel own M ι hp w → DenA M ι (ρ y) u → ∃ a c vs, u = .slice a src.length c ∧ SrcAt P M w u src (T e).size vs ∧ ∀ v ∈ vs.toList, v.oneCell' = true)
    (h : appendW T e b lo n cp src hp o.dst K) : ∃ e, K e ∧ OpSem P o ρ hp e := by
  have ha' : c.args = #[x, y] := by rw [← Array.toList_inj]; exact ha
  have ht' : c.argTypes = #[t, t2] := by rw [← Array.toList_inj]; exact ht
  have hex : ∀ (a : Act) (w w' : World) (v : Value), (Builtin.append_ #[t, t2] o.type #[a.eval x, a.eval y]).run P w = .ok v w' → (execOp a.eval o).run P w = .ok (.value v) w' := by
    intro a w w' v hr
    simp [execOp, ho, resolve, hc, invoke, builtin, ha', ht', hr]
  unfold appendW at h
  split at h
  · rename_i r sz hb
    obtain ⟨hsz, h⟩ := bif_one h
    have hsz := Nat.eq_of_beq_eq_true hsz
    subst hsz
    by_cases hf : n + src.length ≤ cp
    · obtain ⟨hle, h⟩ := condK_out (h.yes hf)
      refine ⟨_, h, opSem_run fun own M ι a w hown hA hh hρ => ?_⟩
      obtain ⟨a0, c0, vs, e1, e2, e3⟩ := hsrc own M ι w _ hA hh (hρ y)
      have hv := hρ x
      rw [hx] at hv
      generalize hvx : a.eval x = v at hv
      cases hv with
      | winL _ _ _ _ _ hL => rw [(hh.dom b).2 hL] at hb; cases hb
      | win _ _ _ _ L k base hL hn hcc hkk hbb =>
        have := hcc cp rfl
        subst this
        obtain ⟨_, _, _, _, _, q1, _⟩ := hh.at_ b _ L hb hL
        obtain ⟨w', g1, g2⟩ := row_write (P := P) hA hh hb hL (lo := lo + n) (base := base + n * (T e).size) e2.row e2.size e3 (by omega) (by
          rcases hbb with h | h
          · exact .inl (by rw [h, q1, Nat.add_mul])
          · right
            apply List.eq_nil_of_length_eq_zero
            omega)
        rw [e1] at e2
        refine ⟨.slice (some ⟨L.blk, base, none⟩) (n + src.length) k, w', hex a w w' _ ?_, g2 _ _ ?_⟩
        · rw [hvx, e1]
          exact append_fits hT hk hk2 hf (e2.run w fun _ _ => rfl) (by
            show (storeCells ((⟨L.blk, base, none⟩ : Addr).add (n * (T e).size)) vs.toList).run P w = .ok () w'
            rw [addr_add]; exact g1)
        · exact .win b lo _ (some k) L k base hL hf (fun m hm => by cases hm; rfl) hkk hbb
    · have h := h.no hf
      split at h
      · rename_i d hd
        obtain ⟨hle, h⟩ := condK_out h
        obtain ⟨r1, r2, h⟩ := roomK_out h
        refine ⟨_, h, opSem_run fun own M ι a w hown hA hh hρ => ?_⟩
        obtain ⟨a0, c0, vs, e1, e2, e3⟩ := hsrc own M ι w _ hA hh (hρ y)
        have hd' := hρ x
        rw [hx] at hd'
        obtain ⟨old, k, base, L, f1, f2⟩ := win_src (P := P) hh hb hd' hle
        have hlen : ((r.drop lo).take n).length = n := by simp; omega
        have hck : cp = k := by
          rw [f1, hlen] at hd'
          cases hd' with
          | win _ _ _ _ _ _ _ _ _ hcc _ _ => exact (hcc cp rfl).symm
          | winL _ _ _ _ _ hL => rw [(hh.dom b).2 hL] at hb; cases hb
        subst hck
        rw [f1] at f2
        rw [e1] at e2
        obtain ⟨newCap, z, g1, g2, g3⟩ := append_grows hT (ty := o.type) hk hk2 (w := w) (base := some ⟨L, base, none⟩) (sLen := ((r.drop lo).take n).length) (sCap := cp) (n := src.length) (c := c0) (a := a0) (by omega) (by rw [hlen]; exact r1) (by omega) e2.run f2.run
        have hp' := grown_win (x := d) (Ty := e) (l := (r.drop lo).take n) (r := src) (sz := (T e).size) (old := old) (vs := vs) (rest := Builtin.zeroCells z.cells (newCap - (((r.drop lo).take n).length + src.length))) (cap := newCap) hown hA hh f2.row f2.size e2.row e2.size g1 (by simp [Builtin.zeroCells, g2])
        rw [hlen] at g3 hp'
        rw [hlen] at f1
        exact ⟨_, _, hex a w _ _ (by rw [f1, e1]; exact g3), hp'⟩
      · exact h.elim
  · exact h.elim

include hT in
theorem appendZ_grows {t t2 e ty : TypeId} {ki : IntKind} (hk : (T t).k = .slice e) (hk2 : (T t2).k = .int ki) {w : World} {base : Option Addr} {sLen sCap : Nat} {k : Int} {kk : IntKind} {old : Array Value}
    (h0 : 0 ≤ k) (hn : sCap < sLen + k.toNat) (hkp : 0 < k.toNat) (hroom : (sLen + k.toNat) * (T e).bytes ≤ 35184372088832) (hroom1 : sLen + k.toNat ≤ 35184372088832)
    (ho : ∀ w' : World, (∀ x, (w.cell? x).isSome → w'.cell? x = w.cell? x) → (Builtin.firstCells (T e).size sLen (.slice base sLen sCap)).run P w' = .ok old w') :
    ∃ (newCap : Nat) (z : Value), sLen + k.toNat ≤ newCap ∧ z.cells.size = (T e).size ∧ zeroChk z.cells.toList (T e).zero = true ∧ (Builtin.append_ #[t, t2] ty #[.slice base sLen sCap, .int kk k]).run P w =
      .ok (.slice (some ⟨w.heap.size, 0, none⟩) (sLen + k.toNat) newCap) (w.drew.alloc (.cells (old ++ Builtin.zeroCells z.cells k.toNat ++ Builtin.zeroCells z.cells (newCap - (sLen + k.toNat))) e)) := by
  obtain ⟨hu, hke⟩ := und_slice hT hk
  have hu2 := und_int hT hk2
  obtain ⟨_, ie, _, hie, _, hs, hb, ⟨z, hz, hzc⟩, _, hbm, hzl, _⟩ := (tyFact hT hke).desc
  have hzs : z.cells.size = (T e).size := by
    obtain ⟨z1, _⟩ := zeroChk_get hzc
    rw [← hzl, ← z1]; simp
  have h1 : ¬ (sLen + k.toNat ≤ sCap) := by omega
  have hcap := nextcap_le hn
  have h2 : ¬ (Builtin.nextslicecap (sLen + k.toNat) sCap * ie.bytes > 2 ^ 48) := by
    rw [hb]
    have hm : Builtin.nextslicecap (sLen + k.toNat) sCap * (T e).bytes ≤ (2 * (sLen + k.toNat) + 192) * (T e).bytes := Nat.mul_le_mul_right _ hcap
    have : (2 * (sLen + k.toNat) + 192) * (T e).bytes = 2 * ((sLen + k.toNat) * (T e).bytes) + 192 * (T e).bytes := by rw [Nat.add_mul, Nat.mul_assoc]
    have h48 : (2 : Nat) ^ 48 = 281474976710656 := by decide
    rw [h48]
    omega
  have hkb : k.toNat * (T e).bytes ≤ 35184372088832 := Nat.le_trans (Nat.mul_le_mul_right _ (by omega)) hroom
  have hkn : (k.toNat : Int) = k := by omega
  have hwrap : IntKind.i64.wrap k = k := by
    simp only [IntKind.wrap]
    have e1 : IntKind.i64.signed = true := rfl
    have e2 : IntKind.i64.bits = 64 := rfl
    rw [e1, e2]
    have : k < 35184372088833 := by omega
    simp
    omega
  have hneg : ¬ k < 0 := by omega
  have hbig : ¬ (k * (ie.bytes : Int) > 2 ^ 48) := by
    rw [hb, ← hkn]
    have : ((k.toNat * (T e).bytes : Nat) : Int) ≤ 35184372088832 := by omega
    rw [Int.natCast_mul] at this
    omega
  have h3' : ¬ ((9223372036854775807 : Int) < (sLen : Int) + (k.toNat : Int)) := by omega
  have hd : ∀ x, (w.cell? x).isSome → w.drew.cell? x = w.cell? x := fun x _ => rfl
  refine ⟨sLen + k.toNat + w.tape w.drawn (.appendCap (sLen + k.toNat) sCap e) % (2 ^ 63 - (sLen + k.toNat)), z, by omega, hzs, hzc, ?_⟩
  have ho' := ho w.drew hd
  have hzr : (zeroValue e).run P w.drew = .ok z w.drew := by simp [zeroValue, typeInfo, hie, hz]
  have hns : ¬ (k.toNat * (T e).size = 0) := by
    have := size_pos hT hke
    intro h
    rcases Nat.mul_eq_zero.1 h with h | h <;> omega
  have hns' : ¬ (k.toNat = 0 ∨ (T e).size = 0) := fun h => hns (Nat.mul_eq_zero.2 h)
  have h48 : (2 : Int) ^ 48 = 281474976710656 := by decide
  have hbig' : ¬ ((281474976710656 : Int) < k * (ie.bytes : Int)) := fun h => hbig (by rw [h48]; exact h)
  have h3x : ¬ ((9223372036854775807 : Int) < (sLen : Int) + max k 0) := by omega
  have h1' : ¬ ((sLen : Int) + (k.toNat : Int) ≤ sCap) := by omega
  simp [Builtin.append_, run_underlying hu, run_underlying hu2, run_sizeT hT, hke, asInt, asIntOf, hwrap, hneg, hbig', h3x, h1, typeInfo, hie, h3', h2, Question.forced, Question.cut, ho', hzr, newRow, hns', hns]

include hT in
theorem appendZ_sem {o : Oper} {c : Call} {x y : Operand} {t t2 e : TypeId} {ki ky : IntKind} {q : Int} {ρ : Operand → AV} {hp : Nat → Option Blk} {K : Eff → Prop} (ho : o.op = .call c) (hc : c.callee = .builtin .append) (ha : c.args.toList = [x, y]) (ht : c.argTypes.toList = [t, t2]) (hk : (T t).k = .slice e) (hk2 : (T t2).k = .int ki)
    {b lo n cp : Nat} (hx : ρ x = .win b lo n (some cp)) (hy : ρ y = .d (.int ky q))
    (h : appendZ T e b lo n cp q hp o.dst K) : ∃ e, K e ∧ OpSem P o ρ hp e := by
  have ha' : c.args = #[x, y] := by rw [← Array.toList_inj]; exact ha
  have ht' : c.argTypes = #[t, t2] := by rw [← Array.toList_inj]; exact ht
  have hex : ∀ (a : Act) (w w' : World) (v : Value), (Builtin.append_ #[t, t2] o.type #[a.eval x, a.eval y]).run P w = .ok v w' → (execOp a.eval o).run P w = .ok (.value v) w' := by
    intro a w w' v hr
    simp [execOp, ho, resolve, hc, invoke, builtin, ha', ht', hr]
  obtain ⟨hu, hke⟩ := und_slice hT hk
  unfold appendZ at h
  split at h
  · rename_i r sz hb
    obtain ⟨hsz, h⟩ := bif_one h
    have hsz := Nat.eq_of_beq_eq_true hsz
    subst hsz
    obtain ⟨⟨h0, hcn, hle⟩, h⟩ := condK_out h
    split at h
    · rename_i d hd
      obtain ⟨r1, r2, h⟩ := roomK_out h
      refine ⟨_, h, opSem_run fun own M ι a w hown hA hh hρ => ?_⟩
      have ey := den_int (hy ▸ hρ y)
      have hd' := hρ x
      rw [hx] at hd'
      obtain ⟨old, k, base, L, f1, f2⟩ := win_src (P := P) hh hb hd' hle
      have hlen : ((r.drop lo).take n).length = n := by simp; omega
      have hck : cp = k ∧ n ≤ k := by
        rw [f1, hlen] at hd'
        cases hd' with
        | win _ _ _ _ _ _ _ _ hn hcc _ _ => exact ⟨(hcc cp rfl).symm, hn⟩
        | winL _ _ _ _ _ hL => rw [(hh.dom b).2 hL] at hb; cases hb
      obtain ⟨rfl, hnk⟩ := hck
      rw [f1] at f2
      obtain ⟨newCap, z, g1, g2, hzc, g3⟩ := appendZ_grows hT (ty := o.type) hk hk2 (w := w) (base := some ⟨L, base, none⟩) (sLen := ((r.drop lo).take n).length) (sCap := cp) (k := q) (kk := ky) h0 (by omega) (by omega) (by rw [hlen]; exact r1) (by omega) f2.run
      obtain ⟨z1, z2, _⟩ := zero_rows hzc (zero_len hT hke) (size_pos hT hke) q.toNat M
      have hlr : (List.replicate q.toNat (T e).zero).length = q.toNat := List.length_replicate ..
      have hp' := grown_win (x := d) (Ty := e) (l := (r.drop lo).take n) (r := List.replicate q.toNat (T e).zero) (sz := (T e).size) (old := old) (vs := Builtin.zeroCells z.cells q.toNat) (rest := Builtin.zeroCells z.cells (newCap - (((r.drop lo).take n).length + q.toNat))) (cap := newCap) hown hA hh f2.row f2.size z1 (by rw [hlr]; exact z2) (by rw [hlr]; exact g1) (by simp [Builtin.zeroCells, g2])
      rw [hlen] at g3 hp'
      rw [hlr] at hp'
      rw [hlen] at f1
      exact ⟨_, _, hex a w _ _ (by rw [f1, ey]; exact g3), hp'⟩
    · exact h.elim
  · exact h.elim
end
end Go.Lk

namespace Go.Lk
open Go Go.RowKit

section
variable {P : Program} {T : Tab} (hT : TabOk P T)

theorem bytesL_out : ∀ {l : List (List D)} {ns : List Int}, bytesL l = some ns → l = ns.map fun n => [D.int .u8 n]
  | [], ns, h => by simp [bytesL] at h; subst h; rfl
  | e :: r, ns, h => by
    simp only [bytesL] at h
    split at h
    · rename_i k n
      cases hk : Nat.beq (kcode k) 4 with
      | false => rw [hk] at h; cases h
      | true =>
        rw [hk] at h
        have ek : k = .u8 := by cases k <;> first | rfl | exact absurd hk (by decide)
        subst ek
        simp only [cond_true] at h
        split at h
        · rename_i ms hms
          cases h
          rw [bytesL_out hms]; rfl
        · cases h
    · cases h
theorem bytes_run {M : Mem} {w : World} {ad : Option Addr} {cp : Nat} {l : List (List D)} {vs : Array Value} {ns : List Int} (hs : SrcAt P M w (.slice ad l.length cp) l 1 vs) (h : bytesL l = some ns) :
    (Conv.bytesToString (.slice ad l.length cp)).run P w = .ok (.string (bstr ns)) w := by
  have hl := bytesL_out h
  have hln : l.length = ns.length := by rw [hl]; simp
  have hvs : vs = (ns.map (Value.int .u8)).toArray := by
    apply Array.ext
    · rw [hs.size]; simp [hln]
    · intro i h1 h2
      have hi : i < ns.length := by simpa using h2
      obtain ⟨v, hv, hd⟩ := hs.row.den i 0 [D.int .u8 ns[i]] (.int .u8 ns[i]) (by rw [hl]; simp [hi]) rfl
      rw [Nat.mul_one, Nat.add_zero, Array.getElem?_eq_getElem h1] at hv
      have hv : vs[i] = v := Option.some.inj hv
      generalize vs[i] = u at hv ⊢
      subst hv
      cases hd
      simp
  have hr := hs.run w (fun _ _ => rfl)
  cases ad with
  | none =>
    simp only [Builtin.firstCells, Sem.run_pure] at hr
    have e : vs = #[] := by injection hr with q _; exact q.symm
    have : ns = [] := by
      have := congrArg Array.size (hvs.symm.trans e)
      simpa using this
    subst this
    simp [Conv.bytesToString, bstr, Sem.run_pure]
  | some a =>
    simp only [Builtin.firstCells, Nat.mul_one] at hr
    exact run_bytesToString w a l.length cp ns (by rw [hr, hvs])

theorem kcode_eq {k k' : IntKind} {A : Prop} (h : bif Nat.beq (kcode k) (kcode k') then A else False) : k = k' ∧ A := by
  obtain ⟨h1, h2⟩ := bif_one h
  exact ⟨kcode_inj h1, h2⟩

/-- a step that yields a value and does nothing else -/
theorem sem_of {o : Oper} {ρ : Operand → AV} {hp : Nat → Option Blk} {av : AV} {s : (Operand → Value) → Sem Value}
    (ho : ∀ f : Operand → Value, execOp f o = (do pure (.value (← s f)))) (K : Eff → Prop) (hK : K ⟨av, [], none⟩)
    (h : ∀ (own : Nat → Prop) (M : Mem) (ι : Inj) (a : Act) (w : World), Agree M w → HRel own M ι hp w → (∀ x, DenA M ι (ρ x) (a.eval x)) → ∃ v, (s a.eval).run P w = .ok v w ∧ DenA M ι av v) :
    ∃ e, K e ∧ OpSem P o ρ hp e := by
  refine ⟨_, hK, opSem_val fun own M ι a w ha hh hρ => ?_⟩
  obtain ⟨v, h1, h2⟩ := h own M ι a w ha hh hρ
  exact ⟨v, by rw [ho]; simp [h1], h2⟩

include hT in
theorem len_sem {o : Oper} {c : Call} {x : Operand} {t : TypeId} {ρ : Operand → AV} {hp : Nat → Option Blk} {K : Eff → Prop} (ho : o.op = .call c) (hc : c.callee = .builtin .len) (ha : c.args.toList = [x]) (ht : c.argTypes.toList = [t])
    (h : lenA T t (ρ x) hp (val K)) : ∃ e, K e ∧ OpSem P o ρ hp e := by
  have ha' : c.args = #[x] := by rw [← Array.toList_inj]; exact ha
  have ht' : c.argTypes = #[t] := by rw [← Array.toList_inj]; exact ht
  have hex : ∀ f : Operand → Value, execOp f o = (do pure (.value (← (do let d ← resolve f c o.type; match d.target with | .builtin _ at' ty _ => Builtin.len_ at' ty d.args | _ => pure undef)))) := by
    intro f
    simp [execOp, ho, resolve, hc, invoke, builtin]
  have key : ∀ (n : Nat), (∀ (own : Nat → Prop) (M : Mem) (ι : Inj) (w : World) (v : Value), HRel own M ι hp w → DenA M ι (ρ x) v → (Builtin.len_ #[t] o.type #[v]).run P w = .ok (.int .i64 n) w) → K ⟨.d (.int .i64 n), [], none⟩ → ∃ e, K e ∧ OpSem P o ρ hp e := by
    intro n hr hK
    refine sem_of hex K hK fun own M ι a w hA hh hρ => ⟨.int .i64 n, ?_, .d _ _ (.int _ _)⟩
    have := hr own M ι w _ hh (hρ x)
    simp [resolve, hc, ha', ht', this]
  unfold lenA at h
  split at h
  · rename_i hk
    have hu := und_str hT hk
    split at h
    · rename_i s hx
      refine key s.size (fun own M ι w v hh hv => ?_) h
      rw [hx] at hv
      rw [den_str hv]
      simp [Builtin.len_, run_underlying hu, goInt]
    · exact h.elim
  · rename_i el hk
    obtain ⟨hu, _⟩ := und_slice hT hk
    have run : ∀ (w : World) (a : Option Addr) (n c : Nat), (Builtin.len_ #[t] o.type #[.slice a n c]).run P w = .ok (.int .i64 n) w := by
      intro w a n c
      simp [Builtin.len_, run_underlying hu, goInt]
    split at h
    · rename_i l hx
      refine key l.length (fun own M ι w v hh hv => ?_) h
      rw [hx] at hv
      cases hv with
      | d _ _ hv =>
        cases hv with
        | emp a c => exact run w a 0 c
        | lst _ b off cap sz val hl hs hm hd => exact run w _ _ _
    · rename_i hx
      refine key 0 (fun own M ι w v hh hv => ?_) h
      rw [hx] at hv
      cases hv with
      | nil a => exact run w a 0 0
    · rename_i b lo n cp hx
      split at h
      · rename_i B hb
        refine key n (fun own M ι w v hh hv => ?_) h
        rw [hx] at hv
        cases hv with
        | win _ _ _ _ L k base hL hn hc hk hbb => exact run w _ _ _
        | winL _ _ _ _ _ hL => rw [(hh.dom b).2 hL] at hb; cases hb
      · exact h.elim
    · rename_i b hx
      split at h
      · rename_i l sz fr hb
        refine key l.length (fun own M ι w v hh hv => ?_) h
        rw [hx] at hv
        cases hv with
        | own _ L cap hL hn hc =>
          obtain ⟨_, cs, Ty, _, _, _, q, _⟩ := hh.at_ b _ L hb hL
          rw [q]
          exact run w _ _ _
        | ownE _ a hL =>
          obtain ⟨sz2, fr2, e0⟩ := hh.virt b hL
          rw [hb] at e0; cases e0
          exact run w a 0 0
        | ownL _ _ hL => rw [(hh.dom b).2 hL] at hb; cases hb
      · exact h.elim
    · exact h.elim
  · exact h.elim

theorem minmax_sem {o : Oper} {c : Call} {x y : Operand} {ρ : Operand → AV} {hp : Nat → Option Blk} {K : Eff → Prop} {g : Int → Int → Int} {b : Go.Builtin} {s : Array TypeId → TypeId → Array Value → Sem Value} (ho : o.op = .call c) (hc : c.callee = .builtin b) (ha : c.args.toList = [x, y])
    (hb : ∀ t1 t2 cs vs, builtin b t1 t2 cs vs = do pure (.value (← s t1 t2 vs))) (hg : ∀ t1 t2 k n m w, (s t1 t2 #[.int k n, .int k m]).run P w = .ok (.int k (g n m)) w)
    (h : match ρ x with
        | .d (.int k a) => match ρ y with
          | .d (.int k' b) => bif Nat.beq (kcode k) (kcode k') then K ⟨.d (.int k (g a b)), [], none⟩ else False
          | _ => False
        | _ => False) : ∃ e, K e ∧ OpSem P o ρ hp e := by
  have ha' : c.args = #[x, y] := by rw [← Array.toList_inj]; exact ha
  split at h
  · rename_i k n hx
    split at h
    · rename_i k' m hy
      obtain ⟨e0, hK⟩ := kcode_eq h
      subst e0
      refine ⟨_, hK, opSem_val fun own M ι a w hA hh hρ => ⟨.int k (g n m), ?_, .d _ _ (.int _ _)⟩⟩
      have ex := den_int (hx ▸ hρ x)
      have ey := den_int (hy ▸ hρ y)
      simp [execOp, ho, resolve, hc, invoke, hb, ha', ex, ey, hg]
    · exact h.elim
  · exact h.elim

include hT in
theorem append_sem {o : Oper} {c : Call} {x y : Operand} {t t2 : TypeId} {ρ : Operand → AV} {hp : Nat → Option Blk} {K : Eff → Prop} (ho : o.op = .call c) (hc : c.callee = .builtin .append) (ha : c.args.toList = [x, y]) (ht : c.argTypes.toList = [t, t2]) {e e2 : TypeId} (hk : (T t).k = .slice e) (hk2 : (T t2).k = .slice e2)
    (h : srcRow (T e).size (ρ y) hp fun src => match ρ x with
            | .nil => match o.dst with
              | some d => roomK src.length (T e).bytes (K ⟨.own d, [(d, .row src (T e).size false)], some d⟩)
              | none => False
            | .own b => match hp b with
              | some (.row l sz false) => bif Nat.beq sz (T e).size then roomK (l.length + src.length) (T e).bytes (K ⟨.own b, [(b, .row (l ++ src) sz false)], some b⟩) else False
              | _ => False
            | .win b lo n (some c) => appendW T e b lo n c src hp o.dst K
            | _ => False) : ∃ e, K e ∧ OpSem P o ρ hp e := by
  have ha' : c.args = #[x, y] := by rw [← Array.toList_inj]; exact ha
  have ht' : c.argTypes = #[t, t2] := by rw [← Array.toList_inj]; exact ht
  have hex : ∀ (a : Act) (w w' : World) (v : Value), (Builtin.append_ #[t, t2] o.type #[a.eval x, a.eval y]).run P w = .ok v w' → (execOp a.eval o).run P w = .ok (.value v) w' := by
    intro a w w' v hr
    simp [execOp, ho, resolve, hc, invoke, builtin, ha', ht', hr]
  obtain ⟨src, h, hsrc⟩ := srcRow_out (P := P) h
  split at h
  · rename_i hx
    split at h
    · rename_i d hd
      obtain ⟨r1, r2, h⟩ := roomK_out h
      refine ⟨_, h, opSem_run fun own M ι a w hown hA hh hρ => ?_⟩
      obtain ⟨ad, cp, vs, hu, hs, hone⟩ := hsrc own M ι w _ hA hh (hρ y)
      have hv := hρ x
      rw [hx] at hv
      generalize hvx : a.eval x = v at hv
      cases hv with
      | nil a0 =>
        rw [hu] at hs
        obtain ⟨v, w', hr, hp'⟩ := append_nil_sem hT (ty := o.type) hk hk2 hown hA hh (x := d) (base := a0) hs r1 r2
        exact ⟨v, w', hex a w w' v (by rw [hvx, hu]; exact hr), hp'⟩
    · exact h.elim
  · rename_i b hx
    split at h
    · rename_i l sz hb
      obtain ⟨hsz, h⟩ := bif_one h
      have hsz := Nat.eq_of_beq_eq_true hsz
      subst hsz
      obtain ⟨r1, r2, h⟩ := roomK_out h
      refine ⟨_, h, opSem_run fun own M ι a w hown hA hh hρ => ?_⟩
      obtain ⟨ad, cp, vs, hu, hs, hone⟩ := hsrc own M ι w _ hA hh (hρ y)
      rw [hu] at hs
      obtain ⟨v, w', hr, hp'⟩ := append_own_sem hT (ty := o.type) hk hk2 hown hA hh hb (hx ▸ hρ x) hs hone r1 r2
      exact ⟨v, w', hex a w w' v (by rw [hu]; exact hr), hp'⟩
    · exact h.elim
  · rename_i b lo n cp hx
    exact append_win_sem hT ho hc ha ht hk hk2 hx hsrc h
  · exact h.elim

theorem evs_den {ρ : Operand → AV} {M : Mem} {ι : Inj} {a : Act} (hρ : ∀ x, DenA M ι (ρ x) (a.eval x)) (l : Array Operand) : DenAs M ι (evs ρ l.toList) (l.map a.eval) := by
  refine ⟨by rw [evs_len]; simp, fun i x v e1 e2 => ?_⟩
  rw [evs_get] at e1
  simp only [Array.getElem?_map] at e2
  cases hx : l[i]? with
  | none => simp [hx] at e2
  | some y =>
    simp only [hx, Option.map_some, Option.some.injEq] at e2
    rw [Array.getElem?_toList, hx] at e1
    simp only [Option.map_some, Option.some.injEq] at e1
    subst e1 e2
    exact hρ y

theorem enter_sem {o : Oper} {a : Act} {w : World} {f : FuncId} {vs : Array Value} {N : Act → World → Prop} {X : Exit → Act → World → Prop} (hr : (execOp a.eval o).run P w = .ok (.enter f vs) w)
    (h : Calls P f vs w fun en w' => ∃ v, en = .returned v ∧ N (a.put o.dst v) w') : o.wp P a w N X := by
  unfold Oper.wp
  rw [hr, Oper.upon_enter]
  refine h.mono fun en w' hq => ?_
  obtain ⟨v, rfl, hN⟩ := hq
  exact hN

theorem map_arr (f : Operand → Value) (l : Array Operand) : (l.toList.map f).toArray = l.map f := by
  rw [← Array.toList_inj]; simp

theorem anyPtr_callH {o : Oper} {c : Call} {f : FuncId} {ρ : Operand → AV} {hp : Nat → Option Blk} {K : Eff → Prop} (ho : o.op = .call c) (hc : c.callee = .value (.func f))
    (h : callH P f (evs ρ c.args.toList) hp K) : ∃ e, K e ∧ OpSem P o ρ hp e := by
  rcases h.out with ⟨e, hE, hK⟩ | ⟨b, hE, hK⟩
  · refine ⟨e, hK, fun own M ι a w hown ha hh hρ => enter_sem (exec_static ho hc hE.1 a w) ?_⟩
    refine (hE.2 own M ι w _ hown ha hh (evs_den hρ c.args)).mono fun en w' hq => ?_
    obtain ⟨v, M', ι', e1, e2, e3, e4, e5, e6, e7, e8⟩ := hq
    exact ⟨v, e1, v, rfl, M', ι', e2, e3, e4, e5, e6, e7, e8⟩
  · refine ⟨_, hK, opSem_val fun own M ι a w hA hh hρ => ⟨.bool b, ?_, .d _ _ (.bool b)⟩⟩
    have := hE.2 own M ι w _ hA hh (evs_den hρ c.args)
    simp [execOp, ho, resolve, hc, Act.eval, Deferred.ofValue, invoke, this]

theorem static_sem {o : Oper} {c : Call} {f : FuncId} {ρ : Operand → AV} {hp : Nat → Option Blk} {K : Eff → Prop} (ho : o.op = .call c) (hc : c.callee = .value (.func f))
    (h : convsK hp ρ c.args.toList fun ds ns => callX P f true (evs ρ c.args.toList) hp o.dst ds ns K) : ∃ e, K e ∧ OpSem P o ρ hp e := by
  obtain ⟨ds, ns, h, hlen, hd⟩ := convsK_out h
  have h' : callX P f true (evs ρ c.args.toList) hp o.dst (ds ++ []) ns K := by rw [List.append_nil]; exact h
  obtain ⟨e, hK, hf, hsem⟩ := callX_sem h' hlen hd (fun _ => ⟨rfl, rfl⟩)
  refine ⟨e, hK, fun own M ι a w hown ha hh hρ => enter_sem (exec_static ho hc hf a w) ?_⟩
  have := hsem own M ι a w #[] hown ha hh hρ ⟨rfl, fun i d v h1 => by simp at h1⟩
  rw [map_arr, Array.append_empty] at this
  exact this.mono fun en w' hq => let ⟨v, e1, e2⟩ := hq; ⟨v, e1, v, rfl, e2⟩

theorem closure_sem {o : Oper} {c : Call} {f : FuncId} {t : Tmp} {cs : List D} {ρ : Operand → AV} {hp : Nat → Option Blk} {K : Eff → Prop} (ho : o.op = .call c) (hc : c.callee = .value (.tmp t)) (ht : ρ (.tmp t) = .d (.fn f cs))
    (h : convsK hp ρ c.args.toList fun ds ns => callX P f false [] hp o.dst (ds ++ cs) ns K) : ∃ e, K e ∧ OpSem P o ρ hp e := by
  obtain ⟨ds, ns, h, hlen, hd⟩ := convsK_out h
  obtain ⟨e, hK, hf, hsem⟩ := callX_sem h hlen hd (fun h => by cases h)
  refine ⟨e, hK, fun own M ι a w hown ha hh hρ => ?_⟩
  have hv := hρ (.tmp t)
  rw [ht] at hv
  generalize hvt : a.eval (.tmp t) = v at hv
  cases hv with
  | d _ _ hv =>
    cases hv with
    | fn _ _ vs hl hdv =>
      refine enter_sem (exec_closure ho hc hf a w hvt) ?_
      have := hsem own M ι a w vs hown ha hh hρ ⟨hl, hdv⟩
      rw [map_arr] at this
      exact this.mono fun en w' hq => let ⟨v, e1, e2⟩ := hq; ⟨v, e1, v, rfl, e2⟩

include hT in
theorem callG_sound {o : Oper} {c : Call} {ρ : Operand → AV} {hp : Nat → Option Blk} {K : Eff → Prop} (ho : o.op = .call c) (h : callG T P o c ρ hp K) : ∃ e, K e ∧ OpSem P o ρ hp e := by
  unfold callG at h
  split at h
  · rename_i b hc
    split at h
    · split at h
      · rename_i x ha
        split at h
        · rename_i t ht
          exact len_sem hT ho hc ha ht h
        · exact h.elim
      · exact h.elim
    · split at h
      · rename_i x y ha
        exact minmax_sem (g := min) (s := Builtin.min_) ho hc ha (fun _ _ _ _ => rfl) (fun t1 t2 k n m w => by
          simp only [Builtin.min_, List.foldlM_cons, List.foldlM_nil, Builtin.min2, Sem.run_bind, Sem.run_pure, Result.andThen_ok]
          congr 2
          simp only [Int.min_def]
          split <;> split <;> first | rfl | omega) h
      · exact h.elim
    · split at h
      · rename_i x y ha
        exact minmax_sem (g := max) (s := Builtin.max_) ho hc ha (fun _ _ _ _ => rfl) (fun t1 t2 k n m w => by
          simp only [Builtin.max_, List.foldlM_cons, List.foldlM_nil, Builtin.max2, Sem.run_bind, Sem.run_pure, Result.andThen_ok]
          congr 2
          simp only [Int.max_def]
          split <;> split <;> first | rfl | omega) h
      · exact h.elim
    · split at h
      · rename_i x y ha
        split at h
        · rename_i t t2 ht
          split at h
          · rename_i e2 hk2
            split at h
            · rename_i e hk
              exact append_sem hT ho hc ha ht hk hk2 h
            · exact h.elim
          · rename_i ki hk2
            split at h
            · rename_i e hk
              split at h
              · rename_i b lo n cp hx
                split at h
                · rename_i ky q hy
                  exact appendZ_sem hT ho hc ha ht hk hk2 hx hy h
                · exact h.elim
              · exact h.elim
            · exact h.elim
          · exact h.elim
        · exact h.elim
      · exact h.elim
    · split at h
      · rename_i x ha
        split at h
        · rename_i t ht
          split at h
          · rename_i e hk
            exact cap_sem hT ho hc ha ht hk h
          · exact h.elim
        · exact h.elim
      · exact h.elim
    · split at h
      · rename_i x y ha
        split at h
        · rename_i t t2 ht
          split at h
          · rename_i e hk
            exact copy_sem hT ho hc ha ht hk h
          · exact h.elim
        · exact h.elim
      · exact h.elim
    · split at h
      · rename_i x ha
        split at h
        · rename_i t ht
          split at h
          · rename_i e hk
            exact clear_sem hT ho hc ha ht hk h
          · exact h.elim
        · exact h.elim
      · exact h.elim
    · exact h.elim
  · rename_i f hc
    split at h
    · rename_i f
      cases hp1 : anyPtr (evs ρ c.args.toList) with
      | true => rw [hp1] at h; exact anyPtr_callH ho hc h
      | false => rw [hp1] at h; exact static_sem ho hc h
    · rename_i t
      split at h
      · rename_i f cs hcap
        refine closure_sem ho hc ?_ h
        unfold capList at hcap
        split at hcap
        · rename_i f' c' hx
          simp only [Option.some.injEq, Prod.mk.injEq] at hcap
          obtain ⟨rfl, rfl⟩ := hcap
          exact hx
        · cases hcap
      · exact h.elim
    · exact h.elim
  · exact h.elim

include hT in
theorem opG_sound {o : Oper} {ρ : Operand → AV} {hp : Nat → Option Blk} {K : Eff → Prop} (h : opG T P o ρ hp K) : ∃ e, K e ∧ OpSem P o ρ hp e := by
  unfold opG at h
  split at h
  case h_1 x ho => exact sem_of (s := fun f => pure (f x)) (fun f => by simp [execOp, ho]) K (force_out h).1 fun own M ι a w _ _ hρ => ⟨_, rfl, hρ x⟩
  case h_2 x ho => exact sem_of (s := fun f => pure (f x)) (fun f => by simp [execOp, ho]) K (force_out h).1 fun own M ι a w _ _ hρ => ⟨_, rfl, hρ x⟩
  case h_3 c x y ho =>
    have key : ∀ (b : Bool) (z : Operand), (∀ (M : Mem) (ι : Inj) v, DenA M ι (ρ c) v → v = .bool b) → (z = if b then x else y) → force (ρ z) (val K) → ∃ e, K e ∧ OpSem P o ρ hp e := by
      intro b z hb hz h
      refine sem_of (s := fun f => do pure (if ← asBool (f c) then f x else f y)) (fun f => by simp [execOp, ho]) K (force_out h).1 fun own M ι a w _ _ hρ => ⟨_, ?_, hρ z⟩
      rw [hb M ι _ (hρ c), hz]
      cases b <;> simp [asBool]
    split at h
    · rename_i hc
      exact key true x (fun M ι v hv => by rw [hc] at hv; cases hv; rfl) rfl h
    · rename_i hc
      exact key false y (fun M ι v hv => by rw [hc] at hv; cases hv; rfl) rfl h
    · rename_i b hc
      rcases bcase_out h with ⟨rfl, h1⟩ | ⟨rfl, h1⟩
      · exact key true x (fun M ι v hv => den_bool (hc ▸ hv)) rfl h1
      · exact key false y (fun M ι v hv => den_bool (hc ▸ hv)) rfl h1
    · exact h.elim
  case h_4 t x ho =>
    obtain ⟨av, hK, hs⟩ := loadA_out hT h
    exact sem_of (s := fun f => Instr.loadAt t (f x)) (fun f => by simp [execOp, ho]) K hK fun own M ι a w hA hh hρ => hs own M ι w _ hA hh (hρ x)
  case h_5 x ho =>
    split at h
    · rename_i b i j hx
      split at h
      · rename_i B hb
        refine ⟨_, h, opSem_val fun own M ι a w hA hh hρ => ⟨a.eval x, ?_, hx ▸ hρ x⟩⟩
        have hv := hρ x
        rw [hx] at hv
        generalize hvx : a.eval x = v at hv
        cases hv with
        | ptr _ _ _ L hL => simp [execOp, ho, hvx]
        | ptrL _ _ _ _ hL => rw [(hh.dom b).2 hL] at hb; cases hb
      · exact h.elim
    · rename_i c j hx
      refine ⟨_, h, opSem_val fun own M ι a w hA hh hρ => ⟨a.eval x, ?_, hx ▸ hρ x⟩⟩
      have hv := hρ x
      rw [hx] at hv
      generalize hvx : a.eval x = v at hv
      cases hv with
      | d _ _ hv =>
        cases hv with
        | dp _ _ b off val hm hdd => simp [execOp, ho, hvx]
    · exact h.elim
  case h_6 op t x y k ho =>
    obtain ⟨av, hK, hs⟩ := binA_out hT h
    exact sem_of (s := fun f => do eqGuard op t x y (f x) (f y); binOp op t (f x) (f y)) (fun f => by simp [execOp, ho]) K hK fun own M ι a w hA hh hρ => hs M ι _ _ (hρ x) (hρ y) x y w
  case h_7 op t x ho =>
    split at h
    · split at h
      · rename_i b hx
        exact sem_of (s := fun f => Op.unary .not (f x)) (fun f => by simp [execOp, ho]) K h fun own M ι a w hA hh hρ => ⟨.bool (!b), by have e0 := den_bool (hx ▸ hρ x); rw [e0]; simp [Op.unary], .d _ _ (.bool _)⟩
      · rename_i hx
        exact sem_of (s := fun f => Op.unary .not (f x)) (fun f => by simp [execOp, ho]) K h fun own M ι a w hA hh hρ => ⟨.bool false, by
          have hv := hρ x
          rw [hx] at hv
          generalize hvx : a.eval x = v at hv
          cases hv; simp [Op.unary], .ff⟩
      · rename_i hx
        exact sem_of (s := fun f => Op.unary .not (f x)) (fun f => by simp [execOp, ho]) K h fun own M ι a w hA hh hρ => ⟨.bool true, by
          have hv := hρ x
          rw [hx] at hv
          generalize hvx : a.eval x = v at hv
          cases hv; simp [Op.unary], .tt⟩
      · exact h.elim
    · split at h
      · rename_i k n hx
        exact sem_of (s := fun f => Op.unary .xor (f x)) (fun f => by simp [execOp, ho]) K h fun own M ι a w hA hh hρ => ⟨_, by have e0 := den_int (hx ▸ hρ x); rw [e0]; simp [Op.unary, Op.intBits, bitsV], .d _ _ (.int _ _)⟩
      · exact h.elim
    · exact h.elim
  case h_8 src dst x ho =>
    split at h
    · rename_i k hk
      split at h
      · rename_i k2 hk2
        split at h
        · rename_i k' n hx
          have hK := wrapK_out h
          exact sem_of (s := fun f => convert src dst (f x)) (fun f => by simp [execOp, ho]) K hK fun own M ι a w hA hh hρ => ⟨_, by have e0 := den_int (hx ▸ hρ x); rw [e0]; simp [convert, run_underlying (und_int hT hk), run_underlying (und_int hT hk2), Conv.intToInt], .d _ _ (.int _ _)⟩
        · exact h.elim
      · exact h.elim
    · rename_i hk
      split at h
      · rename_i e hk2
        split at h
        · rename_i ik hk3
          cases hik : Nat.beq (kcode ik) 4 with
          | false => rw [hik] at h; exact h.elim
          | true =>
            rw [hik] at h
            have eik : ik = .u8 := by cases ik <;> first | rfl | exact absurd hik (by decide)
            subst eik
            obtain ⟨l, h, hsrc⟩ := srcRow_out (P := P) (show srcRow 1 (ρ x) hp _ from h)
            split at h
            · rename_i ns hns
              refine sem_of (s := fun f => convert src dst (f x)) (fun f => by simp [execOp, ho]) K h fun own M ι a w hA hh hρ => ?_
              obtain ⟨ad, cp, vs, hu, hs, _⟩ := hsrc own M ι w _ hA hh (hρ x)
              rw [hu] at hs
              refine ⟨_, ?_, .d _ _ (.str _)⟩
              rw [hu, run_convert_bytes_string w src dst e ad _ _ (und_slice hT hk2).1 (und_int hT hk3) (und_str hT hk)]
              exact bytes_run hs hns
            · exact h.elim
        · exact h.elim
      · exact h.elim
    · exact h.elim
  case h_9 t x lo hi mx ho => exact slice_sem hT ho h
  case h_10 s x f ho =>
    split at h
    · rename_i b i j hx
      split at h
      · rename_i B hb
        obtain ⟨F, fl, hu, hf, hk, hK⟩ := fieldOff_out hT h
        refine sem_of (s := fun g => Instr.fieldAt s (g x) f) (fun f => by simp [execOp, ho]) K hK fun own M ι a w hA hh hρ => ?_
        have hv := hρ x
        rw [hx] at hv
        generalize hvx : a.eval x = v at hv
        cases hv with
        | ptr _ _ _ L hL => exact ⟨_, fieldAt_out hT hu hf hk _ _ w, by rw [Nat.add_assoc]; exact .ptr b i _ L hL⟩
        | ptrL _ _ _ _ hL => rw [(hh.dom b).2 hL] at hb; cases hb
      · exact h.elim
    · rename_i c j hx
      obtain ⟨F, fl, hu, hf, hk, hK⟩ := fieldOff_out hT h
      refine sem_of (s := fun g => Instr.fieldAt s (g x) f) (fun f => by simp [execOp, ho]) K hK fun own M ι a w hA hh hρ => ?_
      have hv := hρ x
      rw [hx] at hv
      generalize hvx : a.eval x = v at hv
      cases hv with
      | d _ _ hv =>
        cases hv with
        | dp _ _ b off val hm hdd => exact ⟨_, fieldAt_out hT hu hf hk _ _ w, by rw [Nat.add_assoc]; exact .d _ _ (.dp c _ b off val hm hdd)⟩
    · exact h.elim
  case h_11 s x f ho =>
    split at h
    · rename_i c hx
      obtain ⟨F, fl, hu, hf, hk, h⟩ := fieldOff_out hT h
      obtain ⟨av, hK, hl, hd⟩ := partA_out h (size_one hT hk)
      refine sem_of (s := fun g => Instr.field s (g x) f) (fun f => by simp [execOp, ho]) K hK fun own M ι a w hA hh hρ => ?_
      have hv := hρ x
      rw [hx] at hv
      obtain ⟨vs, hvs, hs, hdv⟩ := den_agg_inv hv
      obtain ⟨g, hg, hden⟩ := hd M ι (fun i => vs[i]?) (fun i x hx => by
        have hlt : i < vs.size := by rw [hs]; exact (List.getElem?_eq_some_iff.1 hx).1
        exact ⟨vs[i], by simp [hlt], hdv i x _ hx (by simp [hlt])⟩)
      refine ⟨_, ?_, hden⟩
      rw [hvs]
      simp only [Instr.field, asAgg, Sem.run_bind, Sem.run_pure, Result.andThen_ok, run_underlying hu, hf, part, run_isAggT hT w hk]
      cases ha : (T fl.type).k.agg with
      | true =>
        simp only [if_true, Sem.run_bind, run_sizeT hT w hk, Result.andThen_ok, Sem.run_pure]
        congr 2
        apply Array.ext_getElem?
        intro i
        rw [Array.getElem?_extract]
        simp only [List.getElem?_toArray, List.getElem?_map]
        split
        · rename_i hi
          rw [hg i (by omega), List.getElem?_range (by omega)]; rfl
        · rename_i hi
          rw [List.getElem?_eq_none (by simp; omega)]; rfl
      | false =>
        have := hg 0 (by have := size_pos hT hk; omega)
        simp only [Nat.add_zero] at this
        simp [this]
    · exact h.elim
  case h_12 t x i ho =>
    obtain ⟨av, hK, hs⟩ := indexAddrA_out hT h
    exact sem_of (s := fun f => Instr.indexAt t (f x) (f i)) (fun f => by simp [execOp, ho]) K hK fun own M ι a w hA hh hρ => hs own M ι w _ _ hh (hρ x) (hρ i)
  case h_13 t x i ho =>
    obtain ⟨av, hK, hs⟩ := indexA_out hT h
    exact sem_of (s := fun f => Instr.index t (f x) (f i)) (fun f => by simp [execOp, ho]) K hK fun own M ι a w hA hh hρ => hs M ι w _ _ (hρ x) (hρ i)
  case h_14 x i ho =>
    split at h
    · rename_i c hx
      unfold getC at h
      split at h
      · rename_i y hy
        refine sem_of (s := fun f => Instr.extract (f x) i) (fun f => by simp [execOp, ho]) K (force_out h).1 fun own M ι a w hA hh hρ => ?_
        have hv := hρ x
        rw [hx] at hv
        obtain ⟨vs, hvs, hs, hdv⟩ := den_tup_inv hv
        have hlt : i < vs.size := by rw [hs]; exact (List.getElem?_eq_some_iff.1 hy).1
        exact ⟨vs[i], by rw [hvs]; simp [Instr.extract, hlt], hdv i y _ hy (by simp [hlt])⟩
      · exact h.elim
    · exact h.elim
  case h_15 t ps ho => exact build_sem hT ho h
  case h_16 t ho =>
    split at h
    · rename_i d hd
      exact alloc_sem hT ho h
    · exact h.elim
  case h_17 t x ho =>
    split at h
    · rename_i d hd
      exact box_sem ho h
    · exact h.elim
  case h_18 t x y ho =>
    split at h
    · rename_i b i j hx
      split at h
      · rename_i c hb
        exact storeBox_sem hT ho hx hb h
      · rename_i l sz hb
        exact storeRow_sem hT ho hx hb h
      · exact h.elim
    · exact h.elim
  case h_19 t x y ho =>
    split at h
    · rename_i d hd
      split at h
      · rename_i e hk
        split at h
        · rename_i k1 n hx
          split at h
          · rename_i k2 c hy
            exact makeSlice_sem hT ho hx hy hk h
          · exact h.elim
        · exact h.elim
      · exact h.elim
    · exact h.elim
  case h_20 t n ps ho =>
    split at h
    · rename_i d hd
      exact buildSlice_sem hT ho h
    · exact h.elim
  case h_21 fn first cap ho =>
    split at h
    · rename_i f
      exact makeFunc_sem ho h
    · exact h.elim
  case h_22 c ho => exact callG_sound hT ho h
  case h_23 => exact h.elim

end
end Go.Lk

namespace Go.Lk
open Go Go.RowKit

/-! ### operands -/
theorem ofConst_den (M : Mem) (ι : Inj) (v : Value) : DenA M ι (ofConst v) v := by
  have one : ∀ v : Value, DenA M ι (ofConst.one v) v := by
    intro v
    unfold ofConst.one
    split
    · exact .d _ _ (.int _ _)
    · exact .tt
    · exact .ff
    · exact .d _ _ (.str _)
    · exact .nil _
    · exact .d _ _ .nilp
    · exact .dead _
  have cells : ∀ l : List Value, (ofConst.cells l).length = l.length ∧ ∀ (i : Nat) (x : AV) (v : Value), (ofConst.cells l)[i]? = some x → l[i]? = some v → DenA M ι x v := by
    intro l
    induction l with
    | nil => exact ⟨rfl, fun i x v h => by simp [ofConst.cells] at h⟩
    | cons y r ih =>
      refine ⟨by simp [ofConst.cells, ih.1], fun i x v h1 h2 => ?_⟩
      cases i with
      | zero =>
        simp only [ofConst.cells, List.getElem?_cons_zero, Option.some.injEq] at h1 h2
        subst h1 h2
        exact one y
      | succ i => exact ih.2 i x v (by simpa [ofConst.cells] using h1) (by simpa using h2)
  unfold ofConst
  split
  · exact .d _ _ (.int _ _)
  · exact .tt
  · exact .ff
  · exact .d _ _ (.str _)
  · exact .nil _
  · exact .d _ _ .nilp
  · rename_i cs
    exact .agg _ _ (by simp [(cells cs.toList).1]) fun i x v h1 h2 => (cells cs.toList).2 i x v h1 (by simpa using h2)
  · exact .dead _

theorem evT_den {M : Mem} {ι : Inj} {tm : Nat → AV} {a : Act} (h : ∀ t, DenA M ι (tm t) (a.tmps.getD t undef)) (x : Operand) : DenA M ι (evT tm x) (a.eval x) := by
  cases x with
  | tmp t => exact h t
  | const v => exact ofConst_den M ι v
  | global g => exact .dead _
  | func f => exact .d _ _ (.fn f [] #[] rfl fun i x v h => by simp at h)

/-! ### the state -/
def Keeps (ι0 ι : Inj) : Prop := ∀ b, 1000000 ≤ b → b < 1000004 → ι b = ι0 b

/-- what the abstract state says of the machine's -/
def ARel (own : Nat → Prop) (w0 : World) (M0 : Mem) (ι0 : Inj) (N : Nat) (st : AState) (a : Act) (w : World) : Prop :=
  ∃ (M : Mem) (ι : Inj), Sub M0 M ∧ Agree M w ∧ NewDom own M0 M ∧ FrameOwn own w0 w ∧ HRel own M ι st.hp w ∧ Keeps ι0 ι ∧ (∀ t, DenA M ι (st.tm t) (a.tmps.getD t undef)) ∧ a.tmps.size = N ∧ a.defers = []

theorem put_get {a : Act} {t : Tmp} {v : Value} (ht : t < a.tmps.size) (s : Tmp) : ((a.put (some t) v).tmps.getD s undef) = if s = t then v else a.tmps.getD s undef := by
  simp only [Act.put, Array.getD_eq_getD_getElem?]
  by_cases h : s = t
  · subst h
    rw [Array.getElem?_setIfInBounds_self_of_lt ht]; simp
  · rw [Array.getElem?_setIfInBounds_ne (fun e => h e.symm), if_neg h]

theorem killT_den {M M' : Mem} {ι ι' : Inj} {k : Option Nat} (hs : Sub M M') (hι : ∀ b, Kp k b → ι' b = ι b) {tm : Nat → AV} {t : Nat} {v : Value} (h : DenA M ι (tm t) v) : DenA M' ι' (killT k tm t) v := by
  cases k with
  | none =>
    have : ι' = ι := funext fun b => hι b trivial
    subst this
    exact h.mono hs
  | some k => exact ((h.killV k).mono hs).turn (b := k) (fun b' hb => hι b' hb) (killV_free k (tm t))

/-- the caller's boxes go with no name that a step takes -/
theorem Kp_far {kl : Option Nat} {b : Nat} (hk : ∀ k, kl = some k → ¬ (1000000 ≤ k ∧ k < 1000004)) (h0 : 1000000 ≤ b) (h1 : b < 1000004) : Kp kl b := by
  cases kl with
  | none => trivial
  | some k =>
    have hk := hk k rfl
    show Fm k b = false
    unfold Fm
    cases hb : Nat.ble 2000000 k with
    | true =>
      have := Nat.le_of_ble_eq_true hb
      cases hc : Nat.beq (b / 8) (k / 8) with
      | false => rfl
      | true => have := Nat.eq_of_beq_eq_true hc; omega
    | false =>
      cases hc : Nat.beq b k with
      | false => rfl
      | true => have := Nat.eq_of_beq_eq_true hc; omega

def DstOk (N : Nat) (o : Oper) : Prop := ∀ d, o.dst = some d → d < N

section
variable {own : Nat → Prop} {w0 : World} {M0 : Mem} {ι0 : Inj} {N : Nat}

theorem put_size (a : Act) (d : Option Tmp) (v : Value) : (a.put d v).tmps.size = a.tmps.size := by
  cases d <;> simp [Act.put]
theorem put_def (a : Act) (d : Option Tmp) (v : Value) : (a.put d v).defers = a.defers := by
  cases d <;> rfl

theorem put_den {M : Mem} {ι : Inj} {tm : Nat → AV} {a : Act} {av : AV} {v : Value} {dst : Option Tmp} (hd : ∀ d, dst = some d → d < a.tmps.size) (hv : DenA M ι av v) (h : ∀ t, DenA M ι (tm t) (a.tmps.getD t undef)) (t : Tmp) :
    DenA M ι (putT tm dst av t) ((a.put dst v).tmps.getD t undef) := by
  cases dst with
  | none => exact h t
  | some d =>
    rw [put_get (hd d rfl)]
    simp only [putT]
    by_cases e : t = d
    · subst e; rw [upd_same, if_pos rfl]; exact hv
    · rw [upd_other _ _ e, if_neg e]; exact h t

theorem step_rel {M : Mem} {ι : Inj} {tm : Nat → AV} {hp : Nat → Option Blk} {a : Act} {w w' : World} {e : Eff} {v : Value} {dst : Option Tmp} (hown : ∀ c, w0.heap.size ≤ c → own c) (h1 : Sub M0 M) (h3 : NewDom own M0 M) (h4 : FrameOwn own w0 w) (h6 : Keeps ι0 ι) (h7 : ∀ t, DenA M ι (tm t) (a.tmps.getD t undef)) (h8 : a.tmps.size = N) (h9 : a.defers = [])
    (hp1 : Post own M ι hp w e v w') (hd : ∀ d, dst = some d → d < N) (hk : ∀ k, e.kl = some k → ¬ (1000000 ≤ k ∧ k < 1000004)) :
    ARel own w0 M0 ι0 N ⟨putT (killT e.kl tm) dst e.av, e.hp hp⟩ (a.put dst v) w' := by
  obtain ⟨M', ι', f1, s1, a1, n1, g1, k1, d1⟩ := hp1
  refine ⟨M', ι', h1.trans s1, a1, h3.trans n1, h4.trans f1, g1, fun b hb hb' => ?_, put_den (by rw [h8]; exact hd) d1 fun t => killT_den s1 k1 (h7 t), by rw [put_size, h8], by rw [put_def, h9]⟩
  rw [k1 b (Kp_far hk hb hb')]
  exact h6 b hb hb'

/-- a step that is not taken -/
theorem skip_rel {tm : Nat → AV} {hp : Nat → Option Blk} {a : Act} {w : World} {dst : Option Tmp} (h : ARel own w0 M0 ι0 N ⟨tm, hp⟩ a w) (hd : ∀ d, dst = some d → d < N) :
    ARel own w0 M0 ι0 N ⟨putT tm dst (.tup []), hp⟩ (a.put dst undef) w := by
  obtain ⟨M, ι, h1, h2, h3, h4, h5, h6, h7, h8, h9⟩ := h
  exact ⟨M, ι, h1, h2, h3, h4, h5, h6, put_den (by rw [h8]; exact hd) (.tup [] #[] rfl fun i x v h => by simp at h) h7, by rw [put_size, h8], by rw [put_def, h9]⟩

/-- a value seen with fewer blocks -/
theorem DenA.fewer {M : Mem} {ι ι' : Inj} (hι : ∀ b, ι' b = none ∨ ι' b = ι b) {x : AV} {v : Value} (h : DenA M ι x v) : DenA M ι' x v := by
  induction h with
  | d x v hx => exact .d x v hx
  | tt => exact .tt
  | ff => exact .ff
  | agg c vs hl _ ih => exact .agg c vs hl ih
  | tup c vs hl _ ih => exact .tup c vs hl ih
  | own b L cap hL hn hc =>
    rcases hι b with e | e
    · exact .ownL _ _ e
    · exact .own b L cap (e.trans hL) hn hc
  | ownE b a hL =>
    rcases hι b with e | e
    · exact .ownL _ _ e
    · exact .ownE b a (e.trans hL)
  | ownL b v hL =>
    rcases hι b with e | e
    · exact .ownL _ _ e
    · exact .ownL b v (e.trans hL)
  | ptr b i j L hL =>
    rcases hι b with e | e
    · exact .ptrL _ _ _ _ e
    · exact .ptr b i j L (e.trans hL)
  | ptrL b i j v hL =>
    rcases hι b with e | e
    · exact .ptrL _ _ _ _ e
    · exact .ptrL b i j v (e.trans hL)
  | win b lo n c L k base hL q1 q2 q3 q4 =>
    rcases hι b with e | e
    · exact .winL _ _ _ _ _ e
    · exact .win b lo n c L k base (e.trans hL) q1 q2 q3 q4
  | winL b lo n c v hL =>
    rcases hι b with e | e
    · exact .winL _ _ _ _ _ e
    · exact .winL b lo n c v (e.trans hL)
  | nil a => exact .nil a
  | fn f cap vs hl _ ih => exact .fn f cap vs hl ih
  | dead v => exact .dead v

/-- fewer blocks -/
theorem HRel.fewer {M : Mem} {ι ι' : Inj} {hp hp' : Nat → Option Blk} {w : World} (h : HRel own M ι hp w) (hb : ∀ b, (hp' b = none ∧ ι' b = none) ∨ (hp' b = hp b ∧ ι' b = ι b)) : HRel own M ι' hp' w := by
  have hι : ∀ b, ι' b = none ∨ ι' b = ι b := fun b => (hb b).elim (fun e => .inl e.2) (fun e => .inr e.2)
  have up : ∀ b L, ι' b = some L → ι b = some L ∧ hp' b = hp b := fun b L e => by
    rcases hb b with ⟨_, e2⟩ | ⟨e1, e2⟩
    · rw [e2] at e; cases e
    · exact ⟨e2 ▸ e, e1⟩
  refine ⟨fun b => ?_, fun b hv => ?_, fun b B L hB hL => ?_, fun b b' L L' h1 h2 he => h.inj b b' L L' (up b _ h1).1 (up b' _ h2).1 he⟩
  · rcases hb b with ⟨e1, e2⟩ | ⟨e1, e2⟩
    · simp [e1, e2]
    · rw [e1, e2]; exact h.dom b
  · obtain ⟨e1, e2⟩ := up b _ hv
    rw [e2]; exact h.virt b e1
  · obtain ⟨e1, e2⟩ := up b _ hL
    rw [e2] at hB
    obtain ⟨g1, cs, Ty, g2, g3, g4⟩ := h.at_ b B L hB e1
    refine ⟨g1, cs, Ty, g2, g3, ?_⟩
    cases B with
    | row l sz fr => exact g4
    | box c fr => exact ⟨g4.1, g4.2.1, ⟨g4.2.2.1.size, fun j x hx => let ⟨v, y1, y2⟩ := g4.2.2.1.den j x hx; ⟨v, y1, y2.fewer hι⟩⟩, g4.2.2.2⟩

open Classical in
/-- fewer facts -/
theorem ARel.le {s st : AState} {a : Act} {w : World} (h : ARel own w0 M0 ι0 N st a w) (hl : Le s st) : ARel own w0 M0 ι0 N s a w := by
  obtain ⟨M, ι, h1, h2, h3, h4, h5, h6, h7, h8, h9⟩ := h
  obtain ⟨l1, l2, l3⟩ := hl
  let ι' : Inj := fun b => if s.hp b = none then none else ι b
  have hι : ∀ b, ι' b = none ∨ ι' b = ι b := fun b => by
    by_cases e : s.hp b = none
    · exact .inl (if_pos e)
    · exact .inr (if_neg e)
  have hb : ∀ b, (s.hp b = none ∧ ι' b = none) ∨ (s.hp b = st.hp b ∧ ι' b = ι b) := fun b => by
    by_cases e : s.hp b = none
    · exact .inl ⟨e, if_pos e⟩
    · exact .inr ⟨(l2 b).resolve_left e, if_neg e⟩
  refine ⟨M, ι', h1, h2, h3, h4, h5.fewer hb, fun b hb1 hb2 => ?_, fun t => ?_, h8, h9⟩
  · rw [← h6 b hb1 hb2]
    have e : s.hp b = st.hp b := by
      obtain ⟨a1, a2, a3, a4⟩ := l3
      have : b = 1000000 ∨ b = 1000001 ∨ b = 1000002 ∨ b = 1000003 := by omega
      rcases this with rfl | rfl | rfl | rfl
      · exact a1
      · exact a2
      · exact a3
      · exact a4
    by_cases hn : s.hp b = none
    · rw [show ι' b = none from if_pos hn]
      exact ((h5.dom b).1 (e ▸ hn)).symm
    · exact if_neg hn
  · rcases l1 t with e | e
    · rw [e]; exact .dead _
    · rw [e]; exact (h7 t).fewer hι

theorem ARel.nil1 {k : NilK} {st : AState} {a : Act} {w : World} (h : ARel own w0 M0 ι0 N st a w) (hk : nilOk1 k st) : ARel own w0 M0 ι0 N (Lk.nil1 k st) a w := by
  obtain ⟨M, ι, h1, h2, h3, h4, h5, h6, h7, h8, h9⟩ := h
  cases k with
  | row t b sz =>
    obtain ⟨e1, e2⟩ := hk
    refine ⟨M, upd ι b (some none), h1, h2, h3, h4, h5.virtual b sz false, fun c hc hc' => ?_, fun s => ?_, h8, h9⟩
    · rw [upd_other _ _ (fun e => ?_)]
      · exact h6 c hc hc'
      · subst e
        rw [Nat.ble_eq_true_of_le hc, Nat.ble_eq_true_of_le (show c ≤ 1000003 by omega)] at e2
        cases e2
    · by_cases e : s = t
      · subst e
        show DenA M _ (upd (killT (some b) st.tm) s (.own b) s) _
        rw [upd_same]
        have := h7 s
        rw [e1] at this
        generalize a.tmps.getD s undef = u at this ⊢
        cases this with
        | nil a0 => exact .ownE b a0 (upd_same _ _ _)
      · show DenA M _ (upd (killT (some b) st.tm) t (.own b) s) _
        rw [upd_other _ _ e]
        exact killT_den (.refl M) (fun c hc => upd_other _ _ (Kp_ne hc)) (h7 s)
  | lst t =>
    refine ⟨M, ι, h1, h2, h3, h4, h5, h6, fun s => ?_, h8, h9⟩
    by_cases e : s = t
    · subst e
      show DenA M _ (upd st.tm s (.d (.lst [])) s) _
      rw [upd_same]
      have := h7 s
      rw [show st.tm s = .nil from hk] at this
      generalize a.tmps.getD s undef = u at this ⊢
      cases this with
      | nil a0 => exact .d _ _ (.emp a0 0)
    · show DenA M _ (upd st.tm t (.d (.lst [])) s) _
      rw [upd_other _ _ e]
      exact h7 s
  | cell bx j b sz =>
    obtain ⟨e1, e2, e3⟩ := hk
    have hne : bx ≠ b := fun e => by subst e; simp at e2
    have hv := h5.virtual b sz false
    have hk6 : ∀ c, 1000000 ≤ c → c < 1000004 → upd ι b (some none) c = ι0 c := fun c hc hc' => by
      rw [upd_other _ _ (fun e => ?_)]
      · exact h6 c hc hc'
      · subst e
        rw [Nat.ble_eq_true_of_le hc, Nat.ble_eq_true_of_le (show c ≤ 1000003 by omega)] at e3
        cases e3
    unfold Lk.nil1
    split at e1
    · rename_i c fr hb
      obtain ⟨e4, rfl⟩ := e1
      simp only [hb]
      have hb' : upd (killH (some b) st.hp) b (some (.row [] sz false)) bx = some (.box (killB.cells b c) false) := by
        rw [upd_other _ _ hne]
        simp only [killH, hb]; rfl
      refine ⟨M, upd ι b (some none), h1, h2, h3, h4, ?_, hk6, fun s => killT_den (.refl M) (fun c hc => upd_other _ _ (Kp_ne hc)) (h7 s), h8, h9⟩
      refine hv.set bx _ (by rw [hb']; simp) (.refl M) (fun e => ?_) (fun L hL => ?_) (fun b' L' hbb hL' => ⟨rfl, fun B' hB' hfr o => hv.closed hL' B' hB' hfr o⟩)
      · obtain ⟨sz2, fr2, e0⟩ := hv.virt bx e
        rw [hb'] at e0; cases e0
      · obtain ⟨_, cs, Ty, q1, q2, q3, q4, q5, q6⟩ := hv.at_ bx _ L hb' hL
        refine ⟨cs, Ty, q1, q2, by simpa using q3, by simpa using q4, ⟨by simpa using q5.size, fun i x hx => ?_⟩, ⟨fun h => (by cases h), fun _ => q6.2 rfl⟩⟩
        rw [List.getElem?_set] at hx
        split at hx
        · rename_i e
          subst e
          split at hx
          · cases hx
            obtain ⟨v, hv1, hv2⟩ := q5.den j .nil (by rw [killB_cells_get, e4]; rfl)
            refine ⟨v, hv1, ?_⟩
            cases hv2 with
            | nil a0 => exact .ownE b a0 (upd_same _ _ _)
          · cases hx
        · exact q5.den i x hx
    · exact e1.elim
  | wk t y =>
    refine ⟨M, ι, h1, h2, h3, h4, h5, h6, fun s => ?_, h8, h9⟩
    by_cases e : s = t
    · subst e
      show DenA M _ (upd st.tm s y s) _
      rw [upd_same]
      exact hk.out _ _ _ (h7 s)
    · show DenA M _ (upd st.tm t y s) _
      rw [upd_other _ _ e]
      exact h7 s
  | wkc bx j y =>
    dsimp only [nilOk1] at hk
    dsimp only [Lk.nil1]
    split at hk
    · rename_i c fr hb
      obtain ⟨⟨x0, e4, e5⟩, rfl⟩ := hk
      refine ⟨M, ι, h1, h2, h3, h4, ?_, h6, h7, h8, h9⟩
      refine h5.set bx _ (by rw [hb]; simp) (.refl M) (fun e => ?_) (fun L hL => ?_) (fun b' L' hbb hL' => ⟨rfl, fun B' hB' hfr o => h5.closed hL' B' hB' hfr o⟩)
      · obtain ⟨sz2, fr2, e0⟩ := h5.virt bx e
        rw [hb] at e0; cases e0
      · obtain ⟨_, cs, Ty, q1, q2, q3, q4, q5, q6⟩ := h5.at_ bx _ L hb hL
        refine ⟨cs, Ty, q1, q2, by simpa using q3, by simpa using q4, ⟨by simpa using q5.size, fun i x hx => ?_⟩, ⟨fun h => (by cases h), fun _ => q6.2 rfl⟩⟩
        rw [List.getElem?_set] at hx
        split at hx
        · rename_i e
          subst e
          split at hx
          · cases hx
            obtain ⟨v, hv1, hv2⟩ := q5.den j x0 e4
            exact ⟨v, hv1, e5.out _ _ _ hv2⟩
          · cases hx
        · exact q5.den i x hx
    · exact hk.elim
  | frz b l sz =>
    obtain ⟨fr, hb⟩ := hk
    obtain ⟨M1, s1, a1, n1, g1⟩ := freeze h2 h5 hb (B' := .row l sz true) (.inl ⟨_, _, _, rfl, rfl⟩)
    exact ⟨M1, ι, h1.trans s1, a1, h3.trans n1, h4, g1, h6, fun t => (h7 t).mono s1, h8, h9⟩
  | sd t b l sz =>
    obtain ⟨e1, e2⟩ := hk
    refine ⟨M, ι, h1, h2, h3, h4, h5, h6, fun s => ?_, h8, h9⟩
    by_cases e : s = t
    · subst e
      show DenA M ι (upd st.tm s (.d (.lst l)) s) _
      rw [upd_same]
      have := h7 s
      rw [e1] at this
      exact .d _ _ (den_own h5 e2 this)
    · show DenA M ι (upd st.tm t (.d (.lst l)) s) _
      rw [upd_other _ _ e]
      exact h7 s
  | cd bx j b l sz =>
    dsimp only [nilOk1] at hk
    dsimp only [Lk.nil1]
    obtain ⟨e2, hk⟩ := hk
    split at hk
    · rename_i c fr hb
      obtain ⟨e4, rfl⟩ := hk
      refine ⟨M, ι, h1, h2, h3, h4, ?_, h6, h7, h8, h9⟩
      refine h5.set bx _ (by rw [hb]; simp) (.refl M) (fun e => ?_) (fun L hL => ?_) (fun b' L' hbb hL' => ⟨rfl, fun B' hB' hfr o => h5.closed hL' B' hB' hfr o⟩)
      · obtain ⟨sz2, fr2, e0⟩ := h5.virt bx e
        rw [hb] at e0; cases e0
      · obtain ⟨_, cs, Ty, q1, q2, q3, q4, q5, q6⟩ := h5.at_ bx _ L hb hL
        refine ⟨cs, Ty, q1, q2, by simpa using q3, by simpa using q4, ⟨by simpa using q5.size, fun i x hx => ?_⟩, ⟨fun h => (by cases h), fun _ => q6.2 rfl⟩⟩
        rw [List.getElem?_set] at hx
        split at hx
        · rename_i e
          subst e
          split at hx
          · cases hx
            obtain ⟨v, hv1, hv2⟩ := q5.den j _ e4
            exact ⟨v, hv1, .d _ _ (den_own h5 e2 hv2)⟩
          · cases hx
        · exact q5.den i x hx
    · exact hk.elim
theorem ARel.nilsR : ∀ {ns : List NilK} {st : AState} {a : Act} {w : World}, ARel own w0 M0 ι0 N st a w → nilsOk ns st → ARel own w0 M0 ι0 N (Lk.nils ns st) a w
  | [], _, _, _, h, _ => h
  | k :: r, st, _, _, h, hk => ARel.nilsR (ns := r) (st := Lk.nil1 k st) (ARel.nil1 h hk.1) hk.2
theorem ARel.leN {s st : AState} {a : Act} {w : World} (h : ARel own w0 M0 ι0 N st a w) (hl : LeN s st) : ARel own w0 M0 ι0 N s a w := by
  obtain ⟨ns, h1, h2⟩ := hl.out
  exact (ARel.nilsR h h1).le h2

/-! ### regions in the order of the text -/
theorem Oper.wp_monoQ {P : Program} {o : Oper} {a : Act} {w : World} {K K' : Act → World → Prop} {Q Q' : Exit → Act → World → Prop} (hK : ∀ a w, K a w → K' a w) (hQ : ∀ e a w, Q e a w → Q' e a w) (h : o.wp P a w K Q) : o.wp P a w K' Q' := by
  unfold Oper.wp at *
  generalize (execOp a.eval o).run P w = r at *
  cases r with
  | ok n w' =>
    cases n <;> simp only [Oper.upon] at h ⊢ <;>
      first
        | exact hK _ _ h
        | exact Calls.mono h (fun e w'' he => by
            cases e with
            | returned v => exact hK _ _ he
            | panicked c => exact hQ _ _ _ he
            | outgrown => obtain ⟨a0, w0, q⟩ := he; exact ⟨a0, w0, hQ _ _ _ q⟩)
        | exact Rows.mono h (fun _ _ he => hK _ _ he)
  | halt x w' => cases x <;> simp only [Oper.upon] at h ⊢ <;> exact hQ _ _ _ h

theorem yields_bool {ops : Array Oper} {a : Act} {g : Nat} {t : Tmp} {b : Bool} (ht : (ops[g]?).bind (·.dst) = some t) (h : a.tmps.getD t undef = .bool b) : yielded ops a.tmps g = some b := by
  have : a.tmps[t]? = some (.bool b) := by
    rw [Array.getD_eq_getD_getElem?] at h
    cases hx : a.tmps[t]? with
    | none => rw [hx] at h; simp [undef] at h
    | some v => rw [hx] at h; simp at h; rw [h]
  simp [yielded, ht, this]

theorem ARel.refine {tm : Nat → AV} {hp : Nat → Option Blk} {a : Act} {w : World} {t : Tmp} {b : Bool} (h : ARel own w0 M0 ι0 N ⟨tm, hp⟩ a w) (ht : tm t = .d (.bool b)) :
    ARel own w0 M0 ι0 N ⟨upd tm t (bif b then .tt else .ff), hp⟩ a w := by
  obtain ⟨M, ι, h1, h2, h3, h4, h5, h6, h7, h8, h9⟩ := h
  refine ⟨M, ι, h1, h2, h3, h4, h5, h6, fun s => ?_, h8, h9⟩
  by_cases e : s = t
  · subst e
    show DenA M ι (upd tm s _ s) _
    rw [upd_same]
    have := h7 s
    have hv : a.tmps.getD s undef = .bool b := den_bool (by rw [← ht]; exact this)
    rw [hv]
    cases b
    · exact .ff
    · exact .tt
  · show DenA M ι (upd tm t _ s) _
    rw [upd_other _ _ e]; exact h7 s

theorem den_guard {M : Mem} {ι : Inj} {x : AV} {v : Value} (h : DenA M ι x v) : (x = .tt → v = .bool true) ∧ (x = .ff → v = .bool false) :=
  ⟨fun e => by subst e; cases h; rfl, fun e => by subst e; cases h; rfl⟩

theorem den_undef {M : Mem} {ι : Inj} {v : Value} (h : DenA M ι (.tup []) v) : v = undef := by
  cases h with
  | tup _ vs hl _ =>
    have : vs = #[] := by simpa using hl
    rw [this]; rfl
theorem yields_undef {ops : Array Oper} {a : Act} {g : Nat} {t : Tmp} (ht : (ops[g]?).bind (·.dst) = some t) (h : a.tmps.getD t undef = undef) : yielded ops a.tmps g = none := by
  unfold yielded
  rw [ht]
  simp only [Option.bind_some]
  rw [Array.getD_eq_getD_getElem?] at h
  cases hx : a.tmps[t]? with
  | none => rfl
  | some v =>
    rw [hx] at h
    simp only [Option.getD_some] at h
    rw [h]; rfl

theorem wpOps_cons' {P : Program} {ops : Array Oper} {Q : Exit → Act → World → Prop} {i : Nat} {rest : List Nat} {o : Oper} {a : Act} {w : World} (ho : ops[i]? = some o)
    (h : if Region.wanted o (yielded ops a.tmps) then o.wp P a w (wpOps P ops Q rest) Q else wpOps P ops Q rest (a.put o.dst undef) w) : wpOps P ops Q (i :: rest) a w := by
  simp only [wpOps, ho]
  split
  · rename_i hw
    rw [if_pos hw] at h
    exact .inl h
  · rename_i hw
    rw [if_neg hw] at h
    exact h

variable {P : Program} {T : Tab} (hT : TabOk P T)

theorem run_equalIn_slice {P : Program} (w : World) (n : Nat) (t e : TypeId) (b : Option Addr) (k c : Nat) (hu : P.underlying t = some (.slice e)) : (Op.equalIn (n + 1) t (.slice b k c) (.slice none 0 0)).run P w = .ok b.isNone w := by
  cases b <;> simp [Op.equalIn, run_underlying hu]
include hT in
theorem nil_run {bo : BinOp} {t e : TypeId} {x y : Operand} {av : AV} {hp : Nat → Option Blk} {K : Eff → Prop} {M : Mem} {ι : Inj} {w : World} {a : Act} {v : Value} (hk : (T t).k = .slice e) (hy : isNilC y = true)
    (h : nilCmp av hp (nilOp bo K)) (hh : HRel own M ι hp w) (hv : DenA M ι av v) : ∃ b : Bool, K ⟨.d (.bool b), [], none⟩ ∧ (do eqGuard bo t x y v (a.eval y); binOp bo t v (a.eval y) : Sem Value).run P w = .ok (.bool b) w := by
  have hu := (und_slice hT hk).1
  have hyv : a.eval y = .slice none 0 0 := by
    unfold isNilC at hy
    split at hy
    · rfl
    · cases hy
  rw [hyv]
  have key : ∀ (r : Bool) (b : Option Addr) (n c : Nat), v = .slice b n c → r = b.isNone → nilOp bo K r → ∃ b : Bool, K ⟨.d (.bool b), [], none⟩ ∧ (do eqGuard bo t x y v (.slice none 0 0); binOp bo t v (.slice none 0 0) : Sem Value).run P w = .ok (.bool b) w := by
    intro r b n c hv hr hK
    subst hv
    have heq := run_equalIn_slice w 9999 t e b n c hu
    rw [← hr] at heq
    unfold nilOp at hK
    split at hK
    · exact ⟨r, hK, by simp [eqGuard, binOp, Op.equal, Op.maxDepth, heq]⟩
    · exact ⟨!r, hK, by simp [eqGuard, binOp, Op.equal, Op.maxDepth, heq]⟩
    · exact hK.elim
  unfold nilCmp at h
  split at h
  · rename_i l
    cases hv with
    | d _ _ hd =>
      cases hd with
      | emp a0 c => exact key _ a0 0 c rfl rfl (h.out _ fun _ => rfl)
      | lst _ b off cap sz val hl _ _ _ => exact key false _ _ _ rfl rfl (h.out _ fun e => by cases e)
  · cases hv with
    | nil a0 => exact key _ a0 0 0 rfl rfl (h.out _ fun _ => rfl)
  · rename_i b
    split at h
    · rename_i l sz fr hb
      cases hv with
      | own _ L cap hL hn hc => exact key false _ _ _ rfl rfl (h.out _ fun e => by cases e)
      | ownE _ a0 hL =>
        obtain ⟨sz2, fr2, e0⟩ := hh.virt b hL
        rw [hb] at e0; cases e0
        exact key _ a0 0 0 rfl rfl (h.out _ fun _ => rfl)
      | ownL _ _ hL => rw [(hh.dom b).2 hL] at hb; cases hb
    · exact h.elim
  · exact h.elim

include hT in
theorem take_rel (hown : ∀ c, w0.heap.size ≤ c → own c) {o : Oper} {tm : Nat → AV} {hp : Nat → Option Blk} {a : Act} {w : World} {K : AState → Prop} {Q : Exit → Act → World → Prop} (h : opN T P o (evT tm) hp fun e => step tm hp o.dst e K)
    (hr : ARel own w0 M0 ι0 N ⟨tm, hp⟩ a w) (hd : DstOk N o) : o.wp P a w (fun a' w' => ∃ st, K st ∧ ARel own w0 M0 ι0 N st a' w') Q := by
  obtain ⟨M, ι, h1, h2, h3, h4, h5, h6, h7, h8, h9⟩ := hr
  have plain : opG T P o (evT tm) hp (fun e => step tm hp o.dst e K) → o.wp P a w (fun a' w' => ∃ st, K st ∧ ARel own w0 M0 ι0 N st a' w') Q := by
    intro h
    obtain ⟨e, hs, hsem⟩ := opG_sound hT h
    obtain ⟨hk, hK⟩ := step_out hs
    refine Oper.wp_monoQ (fun a' w' hq => ?_) (fun _ _ _ hf => hf.elim) (hsem own M ι a w (fun c hc => hown c (Nat.le_trans h4.size hc)) h2 h5 (evT_den h7))
    obtain ⟨v, rfl, hpost⟩ := hq
    exact ⟨_, hK, step_rel hown h1 h3 h4 h6 h7 h8 h9 hpost hd hk⟩
  unfold opN at h
  split at h
  · rename_i bo t x y z ho
    split at h
    · rename_i e hk
      cases hn : isNilC y with
      | false => simp [hn] at h
      | true =>
        simp only [hn, cond_true] at h
        obtain ⟨b, hs, hrun⟩ := nil_run (a := a) (x := x) hT hk hn h h5 (evT_den h7 x)
        obtain ⟨hk2, hK⟩ := step_out hs
        unfold Oper.wp
        have : (execOp a.eval o).run P w = .ok (.value (.bool b)) w := by
          rw [show execOp a.eval o = (do pure (.value (← (do eqGuard bo t x y (a.eval x) (a.eval y); binOp bo t (a.eval x) (a.eval y) : Sem Value)))) by simp [execOp, ho]]
          generalize (do eqGuard bo t x y (a.eval x) (a.eval y); binOp bo t (a.eval x) (a.eval y) : Sem Value) = s at hrun
          simp [hrun]
        rw [this]
        exact ⟨_, hK, step_rel hown h1 h3 h4 h6 h7 h8 h9 (post_val h2 h5 (.d _ _ (.bool b))) hd hk2⟩
    · exact plain h
  · exact plain h

include hT in
theorem AOps_sound (hown : ∀ c, w0.heap.size ≤ c → own c) {ops : Array Oper} {Q : Exit → Act → World → Prop} {K : AState → Prop} (hQ : ∀ st a w, K st → ARel own w0 M0 ι0 N st a w → Q .normal a w) (hd : ∀ o ∈ ops, DstOk N o) :
    ∀ (l : List Oper) (i : Nat) (st : AState) (a : Act) (w : World), ops.toList.drop i = l → AOps T P ops l st K → ARel own w0 M0 ι0 N st a w → wpOps P ops Q (List.range' i l.length) a w
  | [], i, st, a, w, hl, h, hr => hQ st a w (AOps_nil.mp h) hr
  | o :: rest, i, st, a, w, hl, h, hr => by
    have ho : ops[i]? = some o := by
      have := congrArg (·[0]?) hl
      simpa using this
    have hl' : ops.toList.drop (i + 1) = rest := by
      have := congrArg (List.drop 1) hl
      simpa [Nat.add_comm] using this
    have hdo := hd o (Array.mem_of_getElem? ho)
    obtain ⟨tm, hp⟩ := st
    simp only [List.length_cons, List.range'_succ]
    have take : ∀ tm', opN T P o (evT tm') hp (fun e => step tm' hp o.dst e fun st => AOps T P ops rest st K) → ARel own w0 M0 ι0 N ⟨tm', hp⟩ a w → o.wp P a w (wpOps P ops Q (List.range' (i + 1) rest.length)) Q := by
      intro tm' h hr
      refine Oper.wp_monoQ (fun a' w' hq => ?_) (fun _ _ _ h => h) (take_rel hT hown h hr hdo)
      obtain ⟨st', k1, k2⟩ := hq
      exact AOps_sound hown hQ hd rest (i + 1) st' a' w' hl' k1 k2
    have skip : ∀ tm', step tm' hp o.dst ⟨.tup [], [], none⟩ (fun st => AOps T P ops rest st K) → ARel own w0 M0 ι0 N ⟨tm', hp⟩ a w → wpOps P ops Q (List.range' (i + 1) rest.length) (a.put o.dst undef) w := by
      intro tm' h hr
      exact AOps_sound hown hQ hd rest (i + 1) _ _ w hl' (step_out h).2 (skip_rel hr hdo)
    apply wpOps_cons' ho
    rw [AOps_cons] at h
    simp only [stepA] at h
    cases hg : o.guard with
    | none =>
      simp only [hg] at h
      rw [if_pos (by simp [Region.wanted, hg])]
      exact take tm h hr
    | some gw =>
      obtain ⟨g, want⟩ := gw
      simp only [hg] at h
      cases ht : (ops[g]?).bind (·.dst) with
      | none => simp [ht] at h
      | some t =>
        simp only [ht] at h
        have hden : ∃ M ι, DenA M ι (tm t) (a.tmps.getD t undef) := by
          obtain ⟨M, ι, h1, h2, h3, h4, h5, h6, h7, h8, h9⟩ := hr
          exact ⟨M, ι, h7 t⟩
        obtain ⟨M, ι, hden⟩ := hden
        have run : ∀ (b : Bool) tm', a.tmps.getD t undef = .bool b → ARel own w0 M0 ι0 N ⟨tm', hp⟩ a w →
            (if b = want then opN T P o (evT tm') hp (fun e => step tm' hp o.dst e fun st => AOps T P ops rest st K) else step tm' hp o.dst ⟨.tup [], [], none⟩ (fun st => AOps T P ops rest st K)) →
            if Region.wanted o (yielded ops a.tmps) then o.wp P a w (wpOps P ops Q (List.range' (i + 1) rest.length)) Q else wpOps P ops Q (List.range' (i + 1) rest.length) (a.put o.dst undef) w := by
          intro b tm' hv hr' h
          have hy := yields_bool ht hv
          have hw : Region.wanted o (yielded ops a.tmps) = (b == want) := by
            simp [Region.wanted, hg, hy]
          rw [hw]
          by_cases e : b = want
          · subst e
            rw [if_pos rfl] at h
            rw [if_pos (by simp)]
            exact take tm' h hr'
          · rw [if_neg e] at h
            rw [if_neg (by simpa using e)]
            exact skip tm' h hr'
        split at h
        · rename_i hx
          refine run true tm ((den_guard hden).1 hx) hr ?_
          cases want
          · simpa using h
          · simpa using h
        · rename_i hx
          refine run false tm ((den_guard hden).2 hx) hr ?_
          cases want
          · simpa using h
          · simpa using h
        · rename_i b hx
          rcases bcase_out h with ⟨rfl, h1⟩ | ⟨rfl, h1⟩
          · refine run true (upd tm t .tt) (den_bool (hx ▸ hden)) (hr.refine hx) ?_
            cases want
            · simpa using h1
            · simpa using h1
          · refine run false (upd tm t .ff) (den_bool (hx ▸ hden)) (hr.refine hx) ?_
            cases want
            · simpa using h1
            · simpa using h1
        · rename_i hx
          have hv : a.tmps.getD t undef = undef := den_undef (hx ▸ hden)
          have hw : Region.wanted o (yielded ops a.tmps) = false := by
            simp [Region.wanted, hg, yields_undef ht hv]
          rw [hw, if_neg (by simp)]
          exact skip tm h hr
        · exact h.elim
end
end Go.Lk


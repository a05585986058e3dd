/-
  What is proved here: what functions of the program compute, and what follows; no condition beyond each theorem's own.
-/
import Derived.Test.YtfpmffadpjoogaaGreatBAe
set_option linter.unusedSimpArgs false
set_option linter.unusedVariables false
set_option linter.unnecessarySimpa false
set_option linter.unusedSectionVars false
namespace Go.Proofs
open Go.RowKit Go.Shelf
attribute [local go_sem] Oper.semAt_some

theorem Tryz.keptC {A B : World} {row : Option Nat} {k : Nat} {c : Array Value} {t : TypeId} (h : A.heap[k]? = some (.cells c t)) (hg : A.grownBy B row) (hr : ∀ r, row = some r → ∃ o : Obj, A.heap[r]? = some o ∧ o.isCells = false) : B.heap[k]? = some (.cells c t) :=
  (hg.block k (Array.getElem?_eq_some_iff.1 h).1 (fun e => by
    obtain ⟨o, h1, h2⟩ := hr k e.symm
    rw [h] at h1
    cases h1
    cases h2)).trans h
def Tryz.DPost (sn len : Nat) (secs : Nat → ByteArray) (ws : Nat → Tryz.W) (m : Int) (right : Bool) (w : World) (e : Ending) (W' : World) : Prop := Below w.heap.size w W' ∧
      ((¬ (right = true ∧ 0 ≤ m ∧ m < sn) ∧ e = .returned (.tuple #[.string ByteArray.empty, .int .i64 1])) ∨
       (right = true ∧ 0 ≤ m ∧ m < sn ∧ ((∃ k, k < len ∧ (ws k).1 = m ∧ (∀ j, k < j → j < len → (ws j).1 ≠ m) ∧ e = .returned (.tuple #[.string (ws k).2, .int .i64 0])) ∨ ((∀ j, j < len → (ws j).1 ≠ m) ∧ e = .returned (.tuple #[.string (secs m.toNat), .int .i64 0])))) )
set_option maxRecDepth 100000 in
set_option maxHeartbeats 4000000 in
theorem Tryz.dread_in (sa : Option Addr) (sn scap : Nat) (a : Option Addr) (len cap : Nat) (sb soff b off : Nat) (secs : Nat → ByteArray) (ws : Nat → Tryz.W) (m : Int) (right : Bool) (w : World)
    (h105 : ∀ W : World, Below w.heap.size w W → Calls Tryz.prog 105 #[.agg #[.slice sa sn scap, .slice a len cap]] W fun e W' => e = .returned (.bool right) ∧ Below W.heap.size W W')
    (hlen : right = true → len ≤ 200 ∧ sn ≤ 64) (hS : 0 < sn → sa = some ⟨sb, soff, none⟩) (hSb : 0 < sn → sb < w.heap.size) (hSc : ∀ j, j < sn → w.cell? ⟨sb, soff + j, none⟩ = some (.string (secs j)))
    (hH : Tryz.Held w.heap.size w a len b off ws) :
    Calls Tryz.prog 92 #[.agg #[.slice sa sn scap, .slice a len cap], .int .i64 m] w (Tryz.DPost sn len secs ws m right w) := by
  refine (callsIn_wide (n := 3)).1 ?_
  refine callsIn_of_wp_marks Tryz.func92 rfl trivial ?_ rfl
  simp only [Tryz.ntmps92, List.size_toArray, List.length_cons, List.length_nil, Nat.reduceAdd, Nat.reduceSub, Array.replicate_succ, Array.replicate_zero, List.push_toArray, List.append_toArray, List.nil_append, List.cons_append]
  gi_wp2
  have hB0 : Below w.heap.size w ((((w.alloc (.cells #[.slice sa sn scap, .slice a len cap] 38)).alloc (.cells #[.int .i64 m] 3)).alloc (.cells #[.string { data := #[] }] 9)).alloc (.cells #[.int .i64 0] 50)) :=
    ((((Below.refl _ w).alloc (Nat.le_refl _) _).alloc (by simp) _).alloc (by simp; omega) _).alloc (by simp; omega) _
  have x2 : ((((w.alloc (.cells #[.slice sa sn scap, .slice a len cap] 38)).alloc (.cells #[.int .i64 m] 3)).alloc (.cells #[.string { data := #[] }] 9)).alloc (.cells #[.int .i64 0] 50)).heap[w.heap.size]? = some (.cells #[.slice sa sn scap, .slice a len cap] 38) := by
    exact (Below.heap_alloc _ _ _ (by simp; omega)).trans ((Below.heap_alloc _ _ _ (by simp; omega)).trans ((Below.heap_alloc _ _ _ (by simp)).trans (World.alloc_heap_new w _)))
  have x3 : Boxed ((((w.alloc (.cells #[.slice sa sn scap, .slice a len cap] 38)).alloc (.cells #[.int .i64 m] 3)).alloc (.cells #[.string { data := #[] }] 9)).alloc (.cells #[.int .i64 0] 50)) (w.heap.size + 1) 3 (.int .i64 m) := by
    have := ((Boxed.new (w.alloc (.cells #[.slice sa sn scap, .slice a len cap] 38)) 3 (.int .i64 m)).alloc (.cells #[.string { data := #[] }] 9)).alloc (.cells #[.int .i64 0] 50)
    rwa [World.size_alloc] at this
  have x4 : Boxed ((((w.alloc (.cells #[.slice sa sn scap, .slice a len cap] 38)).alloc (.cells #[.int .i64 m] 3)).alloc (.cells #[.string { data := #[] }] 9)).alloc (.cells #[.int .i64 0] 50)) (w.heap.size + 1 + 1) 9 (.string { data := #[] }) := by
    have := (Boxed.new ((w.alloc (.cells #[.slice sa sn scap, .slice a len cap] 38)).alloc (.cells #[.int .i64 m] 3)) 9 (.string { data := #[] })).alloc (.cells #[.int .i64 0] 50)
    rwa [World.size_alloc, World.size_alloc] at this
  have x5 : Boxed ((((w.alloc (.cells #[.slice sa sn scap, .slice a len cap] 38)).alloc (.cells #[.int .i64 m] 3)).alloc (.cells #[.string { data := #[] }] 9)).alloc (.cells #[.int .i64 0] 50)) (w.heap.size + 1 + 1 + 1) 50 (.int .i64 0) := by
    have := (Boxed.new (((w.alloc (.cells #[.slice sa sn scap, .slice a len cap] 38)).alloc (.cells #[.int .i64 m] 3)).alloc (.cells #[.string { data := #[] }] 9)) 50 (.int .i64 0))
    rwa [World.size_alloc, World.size_alloc, World.size_alloc] at this
  have hz0 : ((((w.alloc (.cells #[.slice sa sn scap, .slice a len cap] 38)).alloc (.cells #[.int .i64 m] 3)).alloc (.cells #[.string { data := #[] }] 9)).alloc (.cells #[.int .i64 0] 50)).heap.size = w.heap.size + 4 := by simp
  refine ⟨trivial, ?_⟩
  refine (callsIn_wide.2 (h105 _ hB0)).mono ?_
  generalize ((((w.alloc (.cells #[.slice sa sn scap, .slice a len cap] 38)).alloc (.cells #[.int .i64 m] 3)).alloc (.cells #[.string { data := #[] }] 9)).alloc (.cells #[.int .i64 0] 50)) = W0 at hB0 x2 x3 x4 x5 hz0
  rintro e W1 ⟨rfl, hb1⟩
  have hB1 : Below w.heap.size w W1 := hB0.trans (hb1.mono (by omega))
  have y2 : W1.heap[w.heap.size]? = some (.cells #[.slice sa sn scap, .slice a len cap] 38) := (hb1.block _ (by omega)).trans x2
  have y3 : Boxed W1 (w.heap.size + 1) 3 (.int .i64 m) := (hb1.block _ (by omega)).trans x3
  have y4 : Boxed W1 (w.heap.size + 1 + 1) 9 (.string { data := #[] }) := (hb1.block _ (by omega)).trans x4
  have y5 : Boxed W1 (w.heap.size + 1 + 1 + 1) 50 (.int .i64 0) := (hb1.block _ (by omega)).trans x5
  have hz1 : w.heap.size + 4 ≤ W1.heap.size := by have := hb1.size; omega
  have c20 : W1.cell? ⟨w.heap.size, 0, none⟩ = some (.slice sa sn scap) := by simp [World.cell?, y2]
  have c21 : W1.cell? ⟨w.heap.size, 1, none⟩ = some (.slice a len cap) := by simp [World.cell?, y2]
  have c3 := y3.cell
  have c4 := y4.cell
  have c5 := y5.cell
  have f4 := y4.frozen
  have f5 := y5.frozen
  clear x2 x3 x4 x5
  dsimp only
  have fin : ∀ (tmps : Array Value) (W : World) (s : ByteArray) (k : Int), tmps[4]?.getD undef = .pointer (some ⟨w.heap.size + 1 + 1, 0, none⟩) → tmps[5]?.getD undef = .pointer (some ⟨w.heap.size + 1 + 1 + 1, 0, none⟩) →
      W.cell? ⟨w.heap.size + 1 + 1, 0, none⟩ = some (.string s) → W.cell? ⟨w.heap.size + 1 + 1 + 1, 0, none⟩ = some (.int .i64 k) → (results Tryz.f92 tmps).run Tryz.prog W = .ok (.tuple #[.string s, .int .i64 k]) W := by
    intro tmps W s k h4 h5 q4 q5
    simp [results, Tryz.f92, go_sem, h4, h5, q4, q5]
  have early : ¬ (right = true ∧ 0 ≤ m ∧ m < sn) → ∀ tmps : Array Value, tmps[4]?.getD undef = .pointer (some ⟨w.heap.size + 1 + 1, 0, none⟩) → tmps[5]?.getD undef = .pointer (some ⟨w.heap.size + 1 + 1 + 1, 0, none⟩) →
      bodyPostM Fence.wide 3 Tryz.prog Tryz.f92 (Tryz.DPost sn len secs ws m right w) Exit.ret { tmps := tmps, defers := [] } ((W1.setCell ⟨w.heap.size + 1 + 1, 0, none⟩ (.string { data := #[] })).setCell ⟨w.heap.size + 1 + 1 + 1, 0, none⟩ (.int .i64 1)) := by
    intro hn tmps h4 h5
    have z4 : Boxed ((W1.setCell ⟨w.heap.size + 1 + 1, 0, none⟩ (.string { data := #[] })).setCell ⟨w.heap.size + 1 + 1 + 1, 0, none⟩ (.int .i64 1)) (w.heap.size + 1 + 1) 9 (.string { data := #[] }) := (y4.set _).other (by omega) _
    have z5 : Boxed ((W1.setCell ⟨w.heap.size + 1 + 1, 0, none⟩ (.string { data := #[] })).setCell ⟨w.heap.size + 1 + 1 + 1, 0, none⟩ (.int .i64 1)) (w.heap.size + 1 + 1 + 1) 50 (.int .i64 1) := (y5.other (by omega) _).set _
    exact ⟨_, fin tmps _ _ _ h4 h5 z4.cell z5.cell, (hB1.setCell (by simp; omega) _).setCell (by simp; omega) _, .inl ⟨hn, rfl⟩⟩
  cases right with
  | false =>
    gi_wp2
    exact early (by simp) _ rfl rfl
  | true =>
    have hlen := hlen rfl
    by_cases hm : 0 ≤ m ∧ m < sn
    · obtain ⟨hm0, hm1⟩ := hm
      obtain ⟨mj, rfl⟩ : ∃ j : Nat, m = (j : Int) := ⟨m.toNat, by omega⟩
      have hd0 : decide ((mj : Int) < 0) = false := by simp
      have hd1 : decide ((sn : Int) ≤ (mj : Int)) = false := by simp; omega
      gi_wp2
      all_goals try omega
      refine ⟨trivial, ?_⟩
      refine (Tryz.back_in Fence.wide 2 trivial rfl _ _ _ _).mono ?_
      rintro e w' ⟨rfl, rfl⟩
      gi_wp2
      have hB2 : Below w.heap.size w (W1.alloc (.cells #[.slice a len cap] 36)) := hB1.alloc (by omega) _
      have hz2 : (W1.alloc (.cells #[.slice a len cap] 36)).heap.size = W1.heap.size + 1 := by simp
      have bS := Boxed.new W1 36 (.slice a len cap)
      have z2 : (W1.alloc (.cells #[.slice a len cap] 36)).heap[w.heap.size]? = some (.cells #[.slice sa sn scap, .slice a len cap] 38) := (Below.heap_alloc _ _ _ (by omega)).trans y2
      have z3 := y3.alloc (.cells #[.slice a len cap] 36)
      have z4 := y4.alloc (.cells #[.slice a len cap] 36)
      have z5 := y5.alloc (.cells #[.slice a len cap] 36)
      generalize (W1.alloc (.cells #[.slice a len cap] 36)) = W2 at hB2 hz2 bS z2 z3 z4 z5
      have hH2 : Tryz.Held W2.heap.size W2 a len b off ws := ⟨hH.at_, fun h => by have := hH.lt h; omega, (hH.below hB2).cells⟩
      refine wpIn_rangeFunc_ownH (w := W2) rfl (by decide) (gf := 156) (lb := #[.pointer (some ⟨W1.heap.size, 0, none⟩)]) rfl trivial (enters_of Tryz.func156 (by kernel_rfl) rfl)
        (Tryz.back_stops Fence.wide 2 trivial rfl (by decide) W1.heap.size W2.heap.size len cap b off a ws (by omega) W2 (by omega) (Nat.le_refl _) bS.cell hH2) belowK_t (belowK_b (Nat.le_refl _)) (Below.refl _ _) (fun _ => rfl)
        (fun pre W => ((∀ p ∈ pre, p.2.1 ≠ (mj : Int)) ∧ W.heap[w.heap.size]? = some (.cells #[.slice sa sn scap, .slice a len cap] 38) ∧ Boxed W (w.heap.size + 1) 3 (.int .i64 (mj : Int)) ∧ Boxed W (w.heap.size + 1 + 1) 9 (.string { data := #[] }) ∧ Boxed W (w.heap.size + 1 + 1 + 1) 50 (.int .i64 0)) ∧ Below W2.heap.size W2 W)
        (fun c pre W => (c = .ret ∧ ∃ ini last, pre = ini ++ [last] ∧ (∀ p ∈ ini, p.2.1 ≠ (mj : Int)) ∧ last.2.1 = (mj : Int) ∧ Boxed W (w.heap.size + 1 + 1) 9 (.string last.2.2) ∧ Boxed W (w.heap.size + 1 + 1 + 1) 50 (.int .i64 0)) ∧ Below w.heap.size w W)
        (OwnFrom.and (fun s A B row hs hg hr => ⟨hs.1, Tryz.keptC hs.2.1 hg (fun r e => (hr r e).2), Tryz.keptC hs.2.2.1 hg (fun r e => (hr r e).2), Tryz.keptC hs.2.2.2.1 hg (fun r e => (hr r e).2), Tryz.keptC hs.2.2.2.2 hg (fun r e => (hr r e).2)⟩) (ownFrom_below (Nat.le_refl _) (Nat.le_refl _)))
        (fun c => OwnFrom.and (fun s A B row hs hg hr => by obtain ⟨hc, ini, last, e1, e2, e3, e4, e5⟩ := hs; exact ⟨hc, ini, last, e1, e2, e3, Tryz.keptC e4 hg (fun r e => (hr r e).2), Tryz.keptC e5 hg (fun r e => (hr r e).2)⟩) (ownFrom_below (Nat.le_refl _) (by omega)))
        ⟨⟨by simp, z2, z3, z4, z5⟩, Below.refl _ _⟩
        (fun x a' W => ∃ Bx, W2.heap.size ≤ Bx ∧ W.heap[Bx]? = some (.cells #[.int .i64 x.2.1, .string x.2.2] 117) ∧ a' = { tmps := #[.agg #[.slice sa sn scap, .slice a len cap], .int .i64 (mj : Int), .pointer (some ⟨w.heap.size, 0, none⟩), .pointer (some ⟨w.heap.size + 1, 0, none⟩), .pointer (some ⟨w.heap.size + 1 + 1, 0, none⟩), .pointer (some ⟨w.heap.size + 1 + 1 + 1, 0, none⟩), undef, .pointer (some ⟨Bx, 0, none⟩),
          .agg #[.slice sa sn scap, .slice a len cap], .bool true, .bool false, .bool false, .int .i64 (mj : Int), .bool false, .bool false, .bool false, .int .i64 (mj : Int), .pointer (some ⟨w.heap.size, 0, none⟩), .slice sa sn scap, .int .i64 sn, .bool false, .bool false, .pointer (some ⟨w.heap.size, 1, none⟩), .slice a len cap,
          .func (.func 156) #[] #[.pointer (some ⟨W1.heap.size, 0, none⟩)], .int .i64 (x.1 : Int), .agg #[.int .i64 x.2.1, .string x.2.2], undef, undef, undef, undef, undef, undef, undef, undef, undef, undef, undef], defers := [] })
        (fun x a' s A B row hs hg hr => by obtain ⟨Bx, e1, e2, e3⟩ := hs; exact ⟨Bx, e1, Tryz.keptC e2 hg (fun r e => (hr r e).2), e3⟩) ?assign ?body ?done ?stop
      case assign =>
        rintro l pre x W K hI hK
        gi_wp2
        obtain ⟨⟨hp, q2, q3, q4, q5⟩, hB⟩ := hI
        exact hK _ _ ((KeepsOthers.alloc _ _).from _) ((Below.refl _ W).alloc hB.size _) ⟨⟨hp, (Below.heap_alloc _ _ _ (by have := hB.size; omega)).trans q2, q3.alloc _, q4.alloc _, q5.alloc _⟩, hB.alloc hB.size _⟩ ⟨W.heap.size, hB.size, World.alloc_heap_new W _, rfl⟩
      case body =>
        rintro l pre x a' W hl ⟨r, hr⟩ ⟨⟨hp, q2, q3, q4, q5⟩, hB⟩ ⟨Bx, hBx, bX, rfl⟩ hlt
        have c0 : W.cell? ⟨Bx, 0, none⟩ = some (.int .i64 x.2.1) := by simp [World.cell?, bX]
        have c1 : W.cell? ⟨Bx, 1, none⟩ = some (.string x.2.2) := by simp [World.cell?, bX]
        have c3 := q3.cell
        have c4 := q4.cell
        have c5 := q5.cell
        have f4 := q4.frozen
        have f5 := q5.frozen
        have hBw : Below w.heap.size w W := hB2.trans (hB.mono (by omega))
        gi_wp2
        · have hx : x.2.1 = (mj : Int) := by simpa using (by assumption : (x.2.1 == (mj : Int)) = true)
          exact ⟨((KeepsOthers.setCell _ _ _).trans (KeepsOthers.setCell _ _ _)).from _, ⟨rfl, pre, x, rfl, hp, hx, (q4.set _).other (by omega) _, (q5.other (by omega) _).set _⟩, (hBw.setCell (by simp; omega) _).setCell (by simp; omega) _⟩
        · have hx : x.2.1 ≠ (mj : Int) := by simpa using (by assumption : (x.2.1 == (mj : Int)) = false)
          exact ⟨KeepsFrom.refl _ _, Below.refl _ _, ⟨⟨fun p hp' => (List.mem_append.1 hp').elim (hp p) (fun e => by simp at e; subst e; exact hx), q2, q3, q4, q5⟩, hB⟩⟩
      case done =>
        rintro D ys W hD rfl ⟨⟨hne, q2, q3, q4, q5⟩, hB⟩ hK
        have hBw : Below w.heap.size w W := hB2.trans (hB.mono (by omega))
        have c0 : W.cell? ⟨w.heap.size, 0, none⟩ = some (.slice sa sn scap) := by simp [World.cell?, q2]
        have hsa := hS (by omega)
        subst hsa
        have c3 := q3.cell
        have c4 := q4.cell
        have c5 := q5.cell
        have f4 := q4.frozen
        have f5 := q5.frozen
        have cS : W.cell? ⟨sb, soff + mj, none⟩ = some (.string (secs mj)) := (hBw.cell (p := ⟨sb, soff + mj, none⟩) (hSb (by omega))).trans (hSc mj (by omega))
        gi_wp2
        have hK' := ((KeepsOthers.setCell W ⟨w.heap.size + 1 + 1, 0, none⟩ (.string (secs mj))).trans (KeepsOthers.setCell _ ⟨w.heap.size + 1 + 1 + 1, 0, none⟩ (.int .i64 0))).same D _ hK rfl
        have z4 : Boxed ((W.setCell ⟨w.heap.size + 1 + 1, 0, none⟩ (.string (secs mj))).setCell ⟨w.heap.size + 1 + 1 + 1, 0, none⟩ (.int .i64 0)) (w.heap.size + 1 + 1) 9 (.string (secs mj)) := (q4.set _).other (by omega) _
        have z5 : Boxed ((W.setCell ⟨w.heap.size + 1 + 1, 0, none⟩ (.string (secs mj))).setCell ⟨w.heap.size + 1 + 1 + 1, 0, none⟩ (.int .i64 0)) (w.heap.size + 1 + 1 + 1) 50 (.int .i64 0) := (q5.other (by omega) _).set _
        have hBe : Below w.heap.size w ((W.setCell ⟨w.heap.size + 1 + 1, 0, none⟩ (.string (secs mj))).setCell ⟨w.heap.size + 1 + 1 + 1, 0, none⟩ (.int .i64 0)) := (hBw.setCell (by simp; omega) _).setCell (by simp; omega) _
        generalize ((W.setCell ⟨w.heap.size + 1 + 1, 0, none⟩ (.string (secs mj))).setCell ⟨w.heap.size + 1 + 1 + 1, 0, none⟩ (.int .i64 0)) = W9 at hK' z4 z5 hBe
        refine ⟨by simp, .inl ⟨_, _, rfl, run_takeDeferred hK', ?_⟩⟩
        have kept : ∀ {k : Nat} {c : Array Value} {t : TypeId}, W9.heap[k]? = some (.cells c t) → (W9.putObj D (.deferred none)).heap[k]? = some (.cells c t) := fun h => Tryz.keptC h (grownBy_putObj' _ D (.deferred none)) (fun r e => by cases e; exact ⟨_, hK', rfl⟩)
        have z4' : Boxed (W9.putObj D (.deferred none)) (w.heap.size + 1 + 1) 9 (.string (secs mj)) := kept z4
        have z5' : Boxed (W9.putObj D (.deferred none)) (w.heap.size + 1 + 1 + 1) 50 (.int .i64 0) := kept z5
        refine ⟨_, fin _ _ _ _ rfl rfl z4'.cell z5'.cell, hBe.trans (belowK_b (w := w) (Nat.le_refl _) W9 D _ _ (by have := hB2.size; omega) hK' rfl rfl), .inr ⟨rfl, hm0, hm1, .inr ⟨fun j hj => ?_, by simp⟩⟩⟩
        have := hne (Tryz.from_ ws len (len - 1 - j)) (by simp only [Tryz.upto, List.mem_map, List.mem_range]; exact ⟨len - 1 - j, by omega, rfl⟩)
        simpa [Tryz.from_, show len - 1 - (len - 1 - j) = j by omega] using this
      case stop =>
        rintro D c pre W hD ⟨k, hk, rfl⟩ ⟨⟨rfl, ini, last, e1, e2, e3, q4, q5⟩, hB⟩ hK
        gi_wp2
        refine ⟨by simp, .inl ⟨_, _, rfl, run_takeDeferred hK, ?_⟩⟩
        have kept : ∀ {k : Nat} {c : Array Value} {t : TypeId}, W.heap[k]? = some (.cells c t) → (W.putObj D (.deferred none)).heap[k]? = some (.cells c t) := fun h => Tryz.keptC h (grownBy_putObj' _ D (.deferred none)) (fun r e => by cases e; exact ⟨_, hK, rfl⟩)
        have z4 : Boxed (W.putObj D (.deferred none)) (w.heap.size + 1 + 1) 9 (.string last.2.2) := kept q4
        have z5 : Boxed (W.putObj D (.deferred none)) (w.heap.size + 1 + 1 + 1) 50 (.int .i64 0) := kept q5
        refine ⟨_, fin _ _ _ _ rfl rfl z4.cell z5.cell, hB.trans (belowK_b (w := w) (Nat.le_refl _) W D _ _ (by have := hB2.size; omega) hK rfl rfl), .inr ⟨rfl, hm0, hm1, .inl ?_⟩⟩
        obtain ⟨k', rfl⟩ : ∃ k', k = k' + 1 := by
          cases k with
          | zero => simp [Tryz.upto] at e1
          | succ k' => exact ⟨k', rfl⟩
        rw [Tryz.upto_succ] at e1
        obtain ⟨rfl, e5⟩ := List.append_inj' e1 rfl
        obtain rfl : Tryz.from_ ws len k' = last := by simpa using e5
        refine ⟨len - 1 - k', by omega, e3, fun j hj hj2 => ?_, rfl⟩
        have := e2 (Tryz.from_ ws len (len - 1 - j)) (by simp only [Tryz.upto, List.mem_map, List.mem_range]; exact ⟨len - 1 - j, by omega, rfl⟩)
        simpa [Tryz.from_, show len - 1 - (len - 1 - j) = j by omega] using this
    · by_cases hm0 : m < 0
      · gi_wp2
        all_goals try omega
        all_goals exact early (by simp; omega) _ rfl rfl
      · have hm1 : (sn : Int) ≤ m := by omega
        gi_wp2
        all_goals try omega
        all_goals exact early (by simp; omega) _ rfl rfl
end Go.Proofs

namespace Go.Lk
open Go Go.Proofs Go.RowKit

/-! ### disk.Read -/
/-- what a row of a value holds -/
theorem row_out {M : Mem} {w : World} {l : List (List D)} {u : Value} (sz : Nat) (hA : Agree M w) (h : DenD M (.lst l) u) (hok : okRows sz l = true) :
    ∃ (a : Option Addr) (cap b off : Nat) (val : Nat → Nat → Value), u = .slice a l.length cap ∧ (0 < l.length → a = some ⟨b, off, none⟩) ∧
      (∀ (i j : Nat) (e : List D) (d : D), l[i]? = some e → e[j]? = some d → w.cell? ⟨b, off + i * sz + j, none⟩ = some (val i j) ∧ DenD M d (val i j)) := by
  cases h with
  | emp a cap => exact ⟨a, cap, 0, 0, fun _ _ => undef, rfl, fun h => absurd h (by simp), fun i j e d h => by simp at h⟩
  | lst _ b off cap sz' val hl hs hm hd =>
    refine ⟨_, cap, b, off, val, rfl, fun _ => rfl, fun i j e d h1 h2 => ⟨?_, hd i j e d h1 h2⟩⟩
    have e1 : sz' = sz := (hs i e h1).symm.trans (okRows_get hok i e h1).1
    rw [← e1]
    exact hA b _ _ (hm i j e d h1 h2)
def dreadD (d : DS) (n : Int) : Prop := DR d ∧ 0 ≤ n ∧ n < d.sec.length
open Classical in
noncomputable def dreadM (d : DS) (n : Int) : ByteArray × Int := if dreadD d n then (rdS d n, 0) else (ByteArray.empty, 1)
theorem den_int' {M : Mem} {k : IntKind} {n : Int} {u : Value} (h : DenD M (.int k n) u) : u = .int k n := by cases h; rfl
theorem den_str' {M : Mem} {s : ByteArray} {u : Value} (h : DenD M (.str s) u) : u = .string s := by cases h; rfl
theorem two_out {M : Mem} {x y : D} {vs : Array Value} (h : vs.size = 2) (hd : ∀ (i : Nat) (d : D) (v : Value), [x, y][i]? = some d → vs[i]? = some v → DenD M d v) : ∃ u v, vs = #[u, v] ∧ DenD M x u ∧ DenD M y v := by
  obtain ⟨l⟩ := vs
  match l, h, hd with
  | [u, v], _, hd => exact ⟨u, v, rfl, hd 0 _ _ rfl rfl, hd 1 _ _ rfl rfl⟩
theorem dread_ok (d : DS) (n : Int) : ACall Tryz.prog 92 [encDS d, .int .i64 n] (.tup [.str (dreadM d n).1, .int .i64 (dreadM d n).2]) := by
  refine ⟨⟨Tryz.f92, Tryz.func92, rfl, by kernel_rfl⟩, fun w M vs hA hd => ?_⟩
  obtain ⟨u, v, rfl, hu, hv⟩ := two_out hd.1 hd.2
  have hu0 := hu
  have hv' := den_int' hv
  subst hv'
  obtain ⟨us, rfl, hus⟩ : ∃ us : Array Value, u = .agg us ∧ (us.size = 2 ∧ ∀ (i : Nat) (x : D) (v : Value), [D.lst (d.sec.map encB), .lst (d.ca.map encW)][i]? = some x → us[i]? = some v → DenD M x v) := by
    cases hu with
    | agg c us hl hdd => exact ⟨us, rfl, hl, hdd⟩
  obtain ⟨s1, s2, rfl, h1, h2⟩ := two_out hus.1 hus.2
  have hm1 : (d.sec.map encB).length = d.sec.length := List.length_map ..
  have hm2 : (d.ca.map encW).length = d.ca.length := List.length_map ..
  obtain ⟨sa, scap, sb, soff, sval, rfl, hsa, hsc⟩ := row_out 1 hA h1 (encB_ok _)
  obtain ⟨a, cap, b, off, val, rfl, ha, hc⟩ := row_out 2 hA h2 (encW_ok _)
  rw [hm1] at hsa hu0 ⊢
  rw [hm2] at ha hu0 ⊢
  have cs : ∀ j, j < d.sec.length → w.cell? ⟨sb, soff + j, none⟩ = some (.string (d.sec[j]?.getD ByteArray.empty)) := fun j hj => by
    obtain ⟨q1, q2⟩ := hsc j 0 (encB d.sec[j]) (.str d.sec[j]) (by simp [hj]) rfl
    rw [den_str' q2, Nat.mul_one, Nat.add_zero] at q1
    rw [List.getElem?_eq_getElem hj]; exact q1
  have cw : ∀ j, j < d.ca.length → w.cell? ⟨b, off + j * 2, none⟩ = some (.int .i64 (d.ca[j]?.getD (0, ByteArray.empty)).1) ∧ w.cell? ⟨b, off + j * 2 + 1, none⟩ = some (.string (d.ca[j]?.getD (0, ByteArray.empty)).2) := fun j hj => by
    obtain ⟨q1, q2⟩ := hc j 0 (encW d.ca[j]) (.int .i64 d.ca[j].1) (by simp [hj]) rfl
    obtain ⟨q3, q4⟩ := hc j 1 (encW d.ca[j]) (.str d.ca[j].2) (by simp [hj]) rfl
    rw [den_int' q2, Nat.add_zero] at q1
    rw [den_str' q4] at q3
    rw [List.getElem?_eq_getElem hj]; exact ⟨q1, q3⟩
  have agr : ∀ W : World, Below w.heap.size w W → Agree M W := fun W hb b o v h => (hb.cell (p := ⟨b, o, none⟩) (blk_lt (hA b o v h))).trans (hA b o v h)
  refine (Tryz.dread_in sa d.sec.length scap a d.ca.length cap sb soff b off (fun j => d.sec[j]?.getD ByteArray.empty) (fun j => d.ca[j]?.getD (0, ByteArray.empty)) n (drB d) w ?_ ?_ hsa (fun h => blk_lt (cs 0 h)) cs ⟨ha, fun h => blk_lt (cw 0 h).1, cw⟩).mono ?_
  · intro W hb
    refine ((dRight_ok d).2 W M #[.agg #[.slice sa d.sec.length scap, .slice a d.ca.length cap]] (agr W hb) ⟨rfl, fun i x v hx hv => ?_⟩).mono fun e W' he => ?_
    · cases i with
      | zero =>
        simp at hx hv
        subst hx hv
        exact hu0
      | succ i => simp at hx
    · obtain ⟨v, M', rfl, hb', _, _, _, hv⟩ := he
      cases hv
      exact ⟨rfl, hb'⟩
  · intro h
    have hR := drB_t.1 h
    exact ⟨hR.c1, hR.s2⟩
  · rintro e W' ⟨hb, h⟩
    have told : ∀ (s : ByteArray) (k : Int), dreadM d n = (s, k) → e = .returned (.tuple #[.string s, .int .i64 k]) → ∃ (v : Value) (M' : Mem), e = .returned v ∧ Below w.heap.size w W' ∧ Sub M M' ∧ Agree M' W' ∧ Fresh w M M' ∧ DenD M' (.tup [.str (dreadM d n).1, .int .i64 (dreadM d n).2]) v := by
      intro s k hs he
      refine ⟨_, M, he, hb, Sub.refl M, agr W' hb, fun b o v h => .inl h, ?_⟩
      rw [hs]
      refine .tup _ _ rfl fun i x v hx hv => ?_
      match i with
      | 0 => simp at hx hv; subst hx hv; exact .str _
      | 1 => simp at hx hv; subst hx hv; exact .int _ _
      | i + 2 => simp at hx
    rcases h with ⟨hn, he⟩ | ⟨hr, h0, h1, h⟩
    · exact told _ _ (if_neg fun q => hn ⟨drB_t.2 q.1, q.2.1, q.2.2⟩) he
    · have hR := drB_t.1 hr
      have hdr : dreadM d n = (rdS d n, 0) := if_pos ⟨hR, h0, h1⟩
      rcases h with ⟨k, hk, e1, e2, he⟩ | ⟨hne, he⟩
      · refine told _ _ ?_ he
        rw [hdr]
        congr 1
        simp only [List.getElem?_eq_getElem hk, Option.getD_some] at e1 ⊢
        exact pick_at hk e1 (fun j hj hj2 => by have := e2 j hj hj2; simpa only [List.getElem?_eq_getElem hj2, Option.getD_some] using this) _
      · refine told _ _ ?_ he
        rw [hdr]
        congr 1
        refine pick_none ?_
        intro w' hw
        obtain ⟨i, hi, rfl⟩ := List.mem_iff_getElem.1 hw
        have := hne i hi
        simpa only [List.getElem?_eq_getElem hi, Option.getD_some] using this
end Go.Lk

namespace Go.Lk
open Go Go.Proofs Go.RowKit

/-! ### the journal -/
abbrev Jo := Bool × Int × ByteArray
def encJ (o : Jo) : List D := [.bool o.1, .int .i64 o.2.1, .str o.2.2]
theorem encJ_ok : ∀ (l : List Jo), okRows 3 (l.map encJ) = true
  | [] => rfl
  | _ :: r => encJ_ok r
structure Us (d : DS) : Prop where
  dr : DR d
  n : 35 ≤ d.sec.length
open Classical in
noncomputable def usB (d : DS) : Bool := decide (Us d)
theorem usB_t {d : DS} : usB d = true ↔ Us d := by simp [usB]
theorem usB_f {d : DS} : usB d = false ↔ ¬ Us d := by simp [usB]
def vaB (p : Int) : Bool := decide (1 ≤ p) && decide (p ≤ 16)
theorem vaB_t {p : Int} : vaB p = true ↔ 1 ≤ p ∧ p ≤ 16 := by simp [vaB]
theorem usable_ok (d : DS) : ACall Tryz.prog 90 [encDS d] (.bool (usB d)) := by
  refine acall_of Tryz.func90 1 rfl (by kernel_rfl) ?_
  conv => whnf
  have hm : (d.sec.map encB).length = d.sec.length := List.length_map ..
  repeat ((first | refine bF ?_ | refine bT ?_ | refine dK ?_ | refine cR ?_ | refine cK ?_ | refine wK ?_); conv => whnf)
  refine callX_pure (dRight_ok d) ?_
  conv => whnf
  repeat ((first | refine bF ?_ | refine bT ?_ | refine dK ?_ | refine cR ?_ | refine cK ?_ | refine wK ?_); conv => whnf)
  refine bcase_intro (fun h1 => ?_) (fun h1 => ?_) <;> conv => whnf
  · have hR := drB_t.1 h1
    repeat ((first | refine bF ?_ | refine bT ?_ | refine dK ?_ | refine cR ?_ | refine cK ?_ | refine wK ?_); conv => whnf)
    refine ret_of rfl (congrArg D.bool ?_)
    by_cases h : (35 : Int) ≤ ((d.sec.map encB).length : Int)
    · rw [decide_eq_true h]; exact (usB_t.2 ⟨hR, by omega⟩).symm
    · rw [decide_eq_false h]; exact (usB_f.2 fun q => by have := q.n; omega).symm
  · repeat ((first | refine bF ?_ | refine bT ?_ | refine dK ?_ | refine cR ?_ | refine cK ?_ | refine wK ?_); conv => whnf)
    exact ret_of rfl (congrArg D.bool (usB_f.2 fun q => drB_f.1 h1 q.dr).symm)
theorem valid_ok (p : Int) : ACall Tryz.prog 91 [.int .i64 p] (.bool (vaB p)) := by
  refine acall_of Tryz.func91 1 rfl (by kernel_rfl) ?_
  conv => whnf
  refine bcase_p (fun h1 => ?_) (fun h1 => ?_) <;> conv => whnf
  · repeat ((first | refine bF ?_ | refine bT ?_ | refine dK ?_ | refine cR ?_ | refine cK ?_ | refine wK ?_); conv => whnf)
    exact ret_of rfl (congrArg D.bool (by simp [vaB, h1]))
  · repeat ((first | refine bF ?_ | refine bT ?_ | refine dK ?_ | refine cR ?_ | refine cK ?_ | refine wK ?_); conv => whnf)
    exact ret_of rfl (congrArg D.bool (by simp [vaB, h1]))
theorem home_ok (p : Int) (h : vaB p = true) : ACall Tryz.prog 93 [.int .i64 p] (.int .i64 (2 * p + 1)) := by
  have hv := vaB_t.1 h
  refine acall_of Tryz.func93 1 rfl (by kernel_rfl) ?_
  conv => whnf
  repeat ((first | refine bF ?_ | refine bT ?_ | refine dK ?_ | refine cR ?_ | refine cK ?_ | refine wK ?_); conv => whnf)
  exact ret_of rfl rfl
def lit16 : ByteArray := { data := #[0, 0, 0, 0, 0, 0, 0, 0, 0, 0, 0, 0, 0, 0, 0, 0] }
theorem lit16_eq : lit16 = nul16 := bl_ext (by rw [show bl nul16 = _ from nulB_list 16]; rfl)
def headJ (p : Nat) : ByteArray := bstr [74, (p : Int)] ++ nulB 14
theorem nul_cut : nul16.extract 2 16 = nulB 14 := bl_ext (by rw [bl_extract, show bl nul16 = _ from nulB_list 16, show bl (nulB 14) = _ from nulB_list 14]; rfl)
theorem headJ_size (p : Nat) : (headJ p).size = 16 := by rw [headJ, ByteArray.size_append, bstr_size, nulB_size]; rfl
theorem head_ok (p : Nat) (h : p ≤ 16) : ACall Tryz.prog 138 [.int .i64 p] (.str (headJ p)) := by
  refine acall_of Tryz.func138 1 rfl (by kernel_rfl) ?_
  conv => whnf
  refine wrapK_in (u8in (by omega) (by omega)) ?_
  conv => whnf
  repeat ((first | refine bF ?_ | refine bT ?_ | refine dK ?_ | refine cR ?_ | refine cK ?_ | refine wK ?_); conv => whnf)
  refine sliceK_lo (l := 2) (by decide) ?_
  conv => whnf
  repeat ((first | refine bF ?_ | refine bT ?_ | refine dK ?_ | refine cR ?_ | refine cK ?_ | refine wK ?_); conv => whnf)
  rw [show ByteArray.extract { data := #[0, 0, 0, 0, 0, 0, 0, 0, 0, 0, 0, 0, 0, 0, 0, 0] } 2 (ByteArray.size { data := #[0, 0, 0, 0, 0, 0, 0, 0, 0, 0, 0, 0, 0, 0, 0, 0] }) = nulB 14 from by rw [← nul_cut, ← lit16_eq]; rfl]
  refine condK_of (by rw [bstr_size, nulB_size]; show 2 + 14 ≤ _; decide) ?_
  conv => whnf
  repeat ((first | refine bF ?_ | refine bT ?_ | refine dK ?_ | refine cR ?_ | refine cK ?_ | refine wK ?_); conv => whnf)
  exact ret_of rfl rfl
def wJ (n : Int) (s : ByteArray) : Jo := (false, n, s)
def syJ : Jo := (true, 0, ByteArray.empty)
theorem halves_ok (n : Int) (a b : ByteArray) (h0 : 0 ≤ n) (h1 : n ≤ 1000) : OCall Tryz.prog 110 [.int .i64 n, .str a, .str b] ([wJ n a, wJ (n + 1) b, syJ].map encJ) 3 := by
  refine ocall_of Tryz.func110 3 rfl (by kernel_rfl) ?_
  conv => whnf
  repeat ((first | refine bF ?_ | refine bT ?_ | refine dK ?_ | refine cR ?_ | refine cK ?_ | refine wK ?_); conv => whnf)
  exact ⟨6, rfl, .inl ⟨17, rfl, rfl⟩⟩
theorem top_ok (s : ByteArray) : OCall Tryz.prog 111 [.str s] ([wJ 0 s, syJ].map encJ) 3 := by
  refine ocall_of Tryz.func111 1 rfl (by kernel_rfl) ?_
  conv => whnf
  repeat ((first | refine bF ?_ | refine bT ?_ | refine dK ?_ | refine cR ?_ | refine cK ?_ | refine wK ?_); conv => whnf)
  exact ⟨2, rfl, .inl ⟨7, rfl, rfl⟩⟩
def planJ (p : Nat) (s : ByteArray) : List Jo := [wJ 1 (s.extract 0 16), wJ 2 (s.extract 16 32), syJ] ++ [wJ 0 (headJ p), syJ] ++ [wJ (2 * (p : Int) + 1) (s.extract 0 16), wJ (2 * (p : Int) + 1 + 1) (s.extract 16 32), syJ] ++ [wJ 0 nul16, syJ]
open Classical in
noncomputable def planM (d : DS) (p : Int) (s : ByteArray) : List Jo × Int := if Us d ∧ (1 ≤ p ∧ p ≤ 16) ∧ s.size = 32 then (planJ p.toNat s, 0) else ([], 1)
theorem plan_ok (d : DS) (p : Int) (s : ByteArray) (hs : s.size ≤ 1000000) : ACall Tryz.prog 130 [encDS d, .int .i64 p, .str s] (.tup [.lst ((planM d p s).1.map encJ), .int .i64 (planM d p s).2]) := by
  refine acall_of Tryz.func130 3 rfl (by kernel_rfl) ?_
  conv => whnf
  repeat ((first | refine bF ?_ | refine bT ?_ | refine dK ?_ | refine cR ?_ | refine cK ?_ | refine wK ?_); conv => whnf)
  refine callX_pure (usable_ok d) ?_
  conv => whnf
  repeat ((first | refine bF ?_ | refine bT ?_ | refine dK ?_ | refine cR ?_ | refine cK ?_ | refine wK ?_); conv => whnf)
  refine bcase_intro (fun h1 => ?_) (fun h1 => ?_) <;> conv => whnf
  · repeat ((first | refine bF ?_ | refine bT ?_ | refine dK ?_ | refine cR ?_ | refine cK ?_ | refine wK ?_); conv => whnf)
    rw [planM, if_neg (fun q => by rw [usB_t.2 q.1] at h1; exact absurd h1 (by decide))]
    exact ret_of rfl rfl
  have hU : Us d := usB_t.1 (by simpa using h1)
  repeat ((first | refine bF ?_ | refine bT ?_ | refine dK ?_ | refine cR ?_ | refine cK ?_ | refine wK ?_); conv => whnf)
  refine callX_pure (valid_ok p) ?_
  conv => whnf
  repeat ((first | refine bF ?_ | refine bT ?_ | refine dK ?_ | refine cR ?_ | refine cK ?_ | refine wK ?_); conv => whnf)
  refine bcase_intro (fun h2 => ?_) (fun h2 => ?_) <;> conv => whnf
  · repeat ((first | refine bF ?_ | refine bT ?_ | refine dK ?_ | refine cR ?_ | refine cK ?_ | refine wK ?_); conv => whnf)
    rw [planM, if_neg (fun q => by rw [vaB_t.2 q.2.1] at h2; exact absurd h2 (by decide))]
    exact ret_of rfl rfl
  have hV := vaB_t.1 (show vaB p = true by simpa using h2)
  repeat ((first | refine bF ?_ | refine bT ?_ | refine dK ?_ | refine cR ?_ | refine cK ?_ | refine wK ?_); conv => whnf)
  refine bcase_n (fun h3 => ?_) (fun h3 => ?_) <;> conv => whnf
  · repeat ((first | refine bF ?_ | refine bT ?_ | refine dK ?_ | refine cR ?_ | refine cK ?_ | refine wK ?_); conv => whnf)
    rw [planM, if_neg (fun q => h3 (by rw [q.2.2]; rfl))]
    exact ret_of rfl rfl
  have h3 : s.size = 32 := by omega
  obtain ⟨k, rfl⟩ : ∃ k : Nat, p = (k : Int) := ⟨p.toNat, by omega⟩
  rw [planM, if_pos ⟨hU, hV, h3⟩, Int.toNat_natCast, planJ]
  repeat ((first | refine bF ?_ | refine bT ?_ | refine dK ?_ | refine cR ?_ | refine cK ?_ | refine wK ?_); conv => whnf)
  refine sliceK_hi (h := 16) (by omega) ?_
  conv => whnf
  repeat ((first | refine bF ?_ | refine bT ?_ | refine dK ?_ | refine cR ?_ | refine cK ?_ | refine wK ?_); conv => whnf)
  refine sliceK_lo (l := 16) (by omega) ?_
  conv => whnf
  repeat ((first | refine bF ?_ | refine bT ?_ | refine dK ?_ | refine cR ?_ | refine cK ?_ | refine wK ?_); conv => whnf)
  obtain ⟨x, hx⟩ : ∃ x, s.extract 0 16 = x := ⟨_, rfl⟩
  obtain ⟨y, hy⟩ : ∃ y, s.extract 16 32 = y := ⟨_, rfl⟩
  rw [hx, hy]
  rw [h3, hy]
  refine callX_own (halves_ok 1 x y (by omega) (by omega)) ?_
  conv => whnf
  repeat ((first | refine bF ?_ | refine bT ?_ | refine dK ?_ | refine cR ?_ | refine cK ?_ | refine wK ?_); conv => whnf)
  refine callX_pure (head_ok k (by omega)) ?_
  conv => whnf
  repeat ((first | refine bF ?_ | refine bT ?_ | refine dK ?_ | refine cR ?_ | refine cK ?_ | refine wK ?_); conv => whnf)
  refine callX_own (top_ok (headJ k)) ?_
  conv => whnf
  repeat ((first | refine bF ?_ | refine bT ?_ | refine dK ?_ | refine cR ?_ | refine cK ?_ | refine wK ?_); conv => whnf)
  refine roomK_le 1000 1000 (by simp) (by decide) (by decide) (by decide) ?_
  conv => whnf
  repeat ((first | refine bF ?_ | refine bT ?_ | refine dK ?_ | refine cR ?_ | refine cK ?_ | refine wK ?_); conv => whnf)
  refine callX_pure (home_ok k (vaB_t.2 hV)) ?_
  conv => whnf
  repeat ((first | refine bF ?_ | refine bT ?_ | refine dK ?_ | refine cR ?_ | refine cK ?_ | refine wK ?_); conv => whnf)
  refine callX_own (halves_ok (2 * (k : Int) + 1) x y (by omega) (by omega)) ?_
  conv => whnf
  repeat ((first | refine bF ?_ | refine bT ?_ | refine dK ?_ | refine cR ?_ | refine cK ?_ | refine wK ?_); conv => whnf)
  refine roomK_le 1000 1000 (by simp) (by decide) (by decide) (by decide) ?_
  conv => whnf
  repeat ((first | refine bF ?_ | refine bT ?_ | refine dK ?_ | refine cR ?_ | refine cK ?_ | refine wK ?_); conv => whnf)
  rw [show ({ data := #[0, 0, 0, 0, 0, 0, 0, 0, 0, 0, 0, 0, 0, 0, 0, 0] } : ByteArray) = nul16 from lit16_eq]
  refine callX_own (top_ok nul16) ?_
  conv => whnf
  repeat ((first | refine bF ?_ | refine bT ?_ | refine dK ?_ | refine cR ?_ | refine cK ?_ | refine wK ?_); conv => whnf)
  refine roomK_le 1000 1000 (by simp) (by decide) (by decide) (by decide) ?_
  conv => whnf
  repeat ((first | refine bF ?_ | refine bT ?_ | refine dK ?_ | refine cR ?_ | refine cK ?_ | refine wK ?_); conv => whnf)
  exact ret_of rfl rfl
noncomputable def stepJ (d : DS) (o : Jo) : DS := if o.1 = true then syncM d else (putM d o.2).1
noncomputable def runM (d : DS) (l : List Jo) (most : Int) : DS := (l.take most.toNat).foldl stepJ d
theorem run_ok (d : DS) (l : List Jo) (most : Int) (hl : l.length ≤ 1000000) : ACall Tryz.prog 29 [encDS d, .lst (l.map encJ), .int .i64 most] (encDS (runM d l most)) := by
  refine acall_of Tryz.func29 3 rfl (by kernel_rfl) ?_
  conv => whnf
  have hm : (l.map encJ).length = l.length := List.length_map ..
  repeat ((first | refine bF ?_ | refine bT ?_ | refine dK ?_ | refine cR ?_ | refine cK ?_ | refine wK ?_); conv => whnf)
  refine aloop (ι := Nat × DS) (fun k => [(2, .d (.int .i64 most)), (3, .ptr 3 0 0), (6, .ptr 6 0 0), (11, .d (.lst (l.map encJ))), (12, .d (.int .i64 (l.map encJ).length)), (13, .d (.int .i64 k.1))]) (fun k => [(3, .box [.d (.lst (k.2.sec.map encB)), .d (.lst (k.2.ca.map encW))] false), (6, .box [.nil, .nil] false)])
    (fun k => k.1 ≤ l.length ∧ ((k.1 : Int) ≤ most ∨ k.1 = 0) ∧ k.2 = (l.take k.1).foldl stepJ d) (fun k => l.length - k.1) (0, d) ⟨by omega, .inr rfl, rfl⟩ (le0 (le_of_cov ⟨rfl, rfl, rfl, rfl, rfl, rfl, trivial⟩ ⟨rfl, rfl, trivial⟩ ⟨rfl, rfl, rfl, rfl⟩)) ?_
  rintro ⟨k, e⟩ ⟨hk, hc, he⟩
  simp only at hk hc he ⊢
  have tk : ∀ j, most.toNat = j → (l.take j).foldl stepJ d = runM d l most := fun j h => by rw [runM, h]
  conv => whnf
  refine bcase_p (fun h5 => ?_) (fun h5 => ?_) <;> conv => whnf
  · have hk2 : k < l.length := by omega
    have en : ∀ x, stepJ e l[k] = x → (l.take (k + 1)).foldl stepJ d = x := fun x hx => by rw [take_snoc hk2, List.foldl_append, ← he]; exact hx
    refine idxK_nat (by omega) ?_
    conv => whnf
    refine getRow_of (x := encJ l[k]) (by simp [hk2]) ?_
    conv => whnf
    repeat ((first | refine bF ?_ | refine bT ?_ | refine dK ?_ | refine cR ?_ | refine cK ?_ | refine wK ?_); conv => whnf)
    refine bcase_p (fun h6 => ?_) (fun h6 => ?_) <;> conv => whnf
    · repeat ((first | refine bF ?_ | refine bT ?_ | refine dK ?_ | refine cR ?_ | refine cK ?_ | refine wK ?_); conv => whnf)
      have : e = runM d l most := by
        rcases hc with h | h
        · rw [he]; exact tk k (by omega)
        · subst h; rw [he]; exact tk 0 (by omega)
      rw [this]
      exact ret_of rfl rfl
    repeat ((first | refine bF ?_ | refine bT ?_ | refine dK ?_ | refine cR ?_ | refine cK ?_ | refine wK ?_); conv => whnf)
    refine bcase_intro (fun h7 => ?_) (fun h7 => ?_) <;> conv => whnf
    · repeat ((first | refine bF ?_ | refine bT ?_ | refine dK ?_ | refine cR ?_ | refine cK ?_ | refine wK ?_); conv => whnf)
      refine callX_pure (sync_ok e) ?_
      conv => whnf
      repeat ((first | refine bF ?_ | refine bT ?_ | refine dK ?_ | refine cR ?_ | refine cK ?_ | refine wK ?_); conv => whnf)
      exact ⟨(k + 1, syncM e), ⟨by simp only []; omega, .inl (by simp only []; omega), (en _ (if_pos h7)).symm⟩, by simp only []; omega, (le0 (le_of_cov ⟨rfl, rfl, rfl, rfl, rfl, rfl, trivial⟩ ⟨rfl, rfl, trivial⟩ ⟨rfl, rfl, rfl, rfl⟩))⟩
    · repeat ((first | refine bF ?_ | refine bT ?_ | refine dK ?_ | refine cR ?_ | refine cK ?_ | refine wK ?_); conv => whnf)
      refine callX_pure (dput_ok e l[k].2) ?_
      conv => whnf
      repeat ((first | refine bF ?_ | refine bT ?_ | refine dK ?_ | refine cR ?_ | refine cK ?_ | refine wK ?_); conv => whnf)
      have hs : stepJ e l[k] = (putM e l[k].2).1 := if_neg (by rw [h7]; decide)
      refine bcase_p (fun h8 => ?_) (fun h8 => ?_) <;> conv => whnf
      · repeat ((first | refine bF ?_ | refine bT ?_ | refine dK ?_ | refine cR ?_ | refine cK ?_ | refine wK ?_); conv => whnf)
        exact ⟨(k + 1, (putM e l[k].2).1), ⟨by simp only []; omega, .inl (by simp only []; omega), (en _ hs).symm⟩, by simp only []; omega, (le0 (le_of_cov ⟨rfl, rfl, rfl, rfl, rfl, rfl, trivial⟩ ⟨rfl, rfl, trivial⟩ ⟨rfl, rfl, rfl, rfl⟩))⟩
      · repeat ((first | refine bF ?_ | refine bT ?_ | refine dK ?_ | refine cR ?_ | refine cK ?_ | refine wK ?_); conv => whnf)
        have : (putM e l[k].2).1 = e := by
          rw [putM] at h8 ⊢
          split
          · rename_i q
            rw [if_pos q] at h8
            split
            · rfl
            · rename_i q2
              rw [if_neg q2] at h8
              exact absurd rfl h8
          · rfl
        exact ⟨(k + 1, e), ⟨by simp only []; omega, .inl (by simp only []; omega), (en _ (hs.trans this)).symm⟩, by simp only []; omega, (le0 (le_of_cov ⟨rfl, rfl, rfl, rfl, rfl, rfl, trivial⟩ ⟨rfl, rfl, trivial⟩ ⟨rfl, rfl, rfl, rfl⟩))⟩
  · repeat ((first | refine bF ?_ | refine bT ?_ | refine dK ?_ | refine cR ?_ | refine cK ?_ | refine wK ?_); conv => whnf)
    have : e = runM d l most := by
      rw [he, runM]
      rcases hc with h | h
      · rw [List.take_of_length_le (by omega), List.take_of_length_le (by omega)]
      · have : l = [] := List.length_eq_zero_iff.1 (by omega)
        subst this
        simp
    rw [this]
    exact ret_of rfl rfl
end Go.Lk

namespace Go.Lk
open Go Go.Proofs Go.RowKit

def headG (s : ByteArray) : Nat → Nat → Int × Bool
  | 0, _ => (0, false)
  | n + 1, k => if s = headJ k then ((k : Int), true) else headG s n (k + 1)
def headM (s : ByteArray) : Int × Bool := headG s 16 1
theorem headed_ok (s : ByteArray) : ACall Tryz.prog 109 [.str s] (.tup [.int .i64 (headM s).1, .bool (headM s).2]) := by
  refine acall_of Tryz.func109 1 rfl (by kernel_rfl) ?_
  conv => whnf
  refine aloop (ι := Nat) (fun k => [(0, .d (.str s)), (4, .d (.int .i64 k))]) (fun _ => [])
    (fun k => 1 ≤ k ∧ k ≤ 17 ∧ headM s = headG s (17 - k) k) (fun k => 17 - k) 1 ⟨by omega, by omega, rfl⟩ (le0 (le_of_cov ⟨rfl, rfl, trivial⟩ trivial ⟨rfl, rfl, rfl, rfl⟩)) ?_
  rintro k ⟨h1, h2, hR⟩
  rw [hR]
  conv => whnf
  refine bcase_p (fun h5 => ?_) (fun h5 => ?_) <;> conv => whnf
  · have e : 17 - k = (16 - k) + 1 := by omega
    rw [e, headG]
    repeat ((first | refine bF ?_ | refine bT ?_ | refine dK ?_ | refine cR ?_ | refine cK ?_ | refine wK ?_); conv => whnf)
    refine callX_pure (head_ok k (by omega)) ?_
    conv => whnf
    repeat ((first | refine bF ?_ | refine bT ?_ | refine dK ?_ | refine cR ?_ | refine cK ?_ | refine wK ?_); conv => whnf)
    refine bcase_p (fun h6 => ?_) (fun h6 => ?_) <;> conv => whnf
    · repeat ((first | refine bF ?_ | refine bT ?_ | refine dK ?_ | refine cR ?_ | refine cK ?_ | refine wK ?_); conv => whnf)
      rw [if_pos h6]
      exact ret_of rfl rfl
    · repeat ((first | refine bF ?_ | refine bT ?_ | refine dK ?_ | refine cR ?_ | refine cK ?_ | refine wK ?_); conv => whnf)
      rw [if_neg h6]
      exact ⟨k + 1, ⟨by omega, by omega, by rw [show 17 - (k + 1) = 16 - k by omega]⟩, by omega, (le0 (le_of_cov ⟨rfl, rfl, trivial⟩ trivial ⟨rfl, rfl, rfl, rfl⟩))⟩
  · repeat ((first | refine bF ?_ | refine bT ?_ | refine dK ?_ | refine cR ?_ | refine cK ?_ | refine wK ?_); conv => whnf)
    have ek : k = 17 := by omega
    subst ek
    exact ret_of rfl rfl
theorem pick_size {n : Int} : ∀ {l : List Wt} {b : ByteArray}, b.size = 16 → (∀ w ∈ l, w.2.size = 16) → (pick n l b).size = 16
  | [], b, hb, _ => hb
  | w :: r, b, hb, h => by
    show (pick n r (if w.1 = n then w.2 else b)).size = 16
    refine pick_size ?_ fun x hx => h x (List.mem_cons_of_mem _ hx)
    split
    · exact h w (List.mem_cons_self ..)
    · exact hb
theorem rdS_size {d : DS} (hR : DR d) {n : Int} (h0 : 0 ≤ n) (h1 : n < d.sec.length) : (rdS d n).size = 16 := by
  refine pick_size ?_ fun w hw => ?_
  · rw [List.getElem?_eq_getElem (by omega), Option.getD_some]
    exact hR.s _ _
  · obtain ⟨i, hi, rfl⟩ := List.mem_iff_getElem.1 hw
    exact (okW_out.1 (hR.c i hi)).2.2
theorem dread_yes {d : DS} (hR : DR d) {n : Int} (h0 : 0 ≤ n) (h1 : n < d.sec.length) : dreadM d n = (rdS d n, 0) := if_pos ⟨hR, h0, h1⟩
noncomputable def fixJ (d : DS) : List Jo := if (headM (rdS d 0)).2 = true then [wJ (2 * (headM (rdS d 0)).1 + 1) (rdS d 1), wJ (2 * (headM (rdS d 0)).1 + 1 + 1) (rdS d 2), syJ] else []
open Classical in
noncomputable def repairM (d : DS) : List Jo := if Us d then (if rdS d 0 = nul16 then [] else fixJ d ++ [wJ 0 nul16, syJ]) else []
theorem headG_at {s : ByteArray} : ∀ {n k : Nat}, (headG s n k).2 = true → (k : Int) ≤ (headG s n k).1 ∧ (headG s n k).1 < ((k + n : Nat) : Int) ∧ s = headJ (headG s n k).1.toNat
  | 0, k, h => by simp [headG] at h
  | n + 1, k, h => by
    rw [headG] at h ⊢
    split
    · rename_i e; exact ⟨by omega, by omega, by simpa using e⟩
    · rename_i e
      rw [if_neg e] at h
      have := headG_at h
      exact ⟨by omega, by omega, this.2.2⟩
theorem repair_ok (d : DS) : OCall Tryz.prog 71 [encDS d] ((repairM d).map encJ) 3 := by
  refine ocall_of Tryz.func71 1 rfl (by kernel_rfl) ?_
  conv => whnf
  repeat ((first | refine bF ?_ | refine bT ?_ | refine dK ?_ | refine cR ?_ | refine cK ?_ | refine wK ?_); conv => whnf)
  refine callX_pure (usable_ok d) ?_
  conv => whnf
  repeat ((first | refine bF ?_ | refine bT ?_ | refine dK ?_ | refine cR ?_ | refine cK ?_ | refine wK ?_); conv => whnf)
  refine bcase_intro (fun h1 => ?_) (fun h1 => ?_) <;> conv => whnf
  · repeat ((first | refine bF ?_ | refine bT ?_ | refine dK ?_ | refine cR ?_ | refine cK ?_ | refine wK ?_); conv => whnf)
    rw [repairM, if_neg (fun q => by rw [usB_t.2 q] at h1; exact absurd h1 (by decide))]
    exact ⟨2, rfl, .inr ⟨rfl, rfl⟩⟩
  have hU : Us d := usB_t.1 (by simpa using h1)
  have hR := hU.dr
  have hn := hU.n
  rw [repairM, if_pos hU]
  repeat ((first | refine bF ?_ | refine bT ?_ | refine dK ?_ | refine cR ?_ | refine cK ?_ | refine wK ?_); conv => whnf)
  refine callX_pure (dread_ok d 0) ?_
  conv => whnf
  repeat ((first | refine bF ?_ | refine bT ?_ | refine dK ?_ | refine cR ?_ | refine cK ?_ | refine wK ?_); conv => whnf)
  rw [dread_yes hR (by decide) (by omega)]
  rw [show ({ data := #[0, 0, 0, 0, 0, 0, 0, 0, 0, 0, 0, 0, 0, 0, 0, 0] } : ByteArray) = nul16 from lit16_eq]
  refine bcase_p (fun h2 => ?_) (fun h2 => ?_) <;> conv => whnf
  · repeat ((first | refine bF ?_ | refine bT ?_ | refine dK ?_ | refine cR ?_ | refine cK ?_ | refine wK ?_); conv => whnf)
    rw [if_pos h2]
    exact ⟨2, rfl, .inr ⟨rfl, rfl⟩⟩
  rw [if_neg h2]
  repeat ((first | refine bF ?_ | refine bT ?_ | refine dK ?_ | refine cR ?_ | refine cK ?_ | refine wK ?_); conv => whnf)
  refine callX_pure (headed_ok (rdS d 0)) ?_
  conv => whnf
  repeat ((first | refine bF ?_ | refine bT ?_ | refine dK ?_ | refine cR ?_ | refine cK ?_ | refine wK ?_); conv => whnf)
  refine bcase_intro (fun h3 => ?_) (fun h3 => ?_) <;> conv => whnf
  · obtain ⟨q1, q2, _⟩ := headG_at (show (headG (rdS d 0) 16 1).2 = true from h3)
    have q1 : 1 ≤ (headM (rdS d 0)).1 := q1
    have q2 : (headM (rdS d 0)).1 < 17 := q2
    repeat ((first | refine bF ?_ | refine bT ?_ | refine dK ?_ | refine cR ?_ | refine cK ?_ | refine wK ?_); conv => whnf)
    refine callX_pure (dread_ok d 1) ?_
    conv => whnf
    repeat ((first | refine bF ?_ | refine bT ?_ | refine dK ?_ | refine cR ?_ | refine cK ?_ | refine wK ?_); conv => whnf)
    rw [dread_yes hR (by decide) (by omega)]
    repeat ((first | refine bF ?_ | refine bT ?_ | refine dK ?_ | refine cR ?_ | refine cK ?_ | refine wK ?_); conv => whnf)
    refine callX_pure (dread_ok d 2) ?_
    conv => whnf
    repeat ((first | refine bF ?_ | refine bT ?_ | refine dK ?_ | refine cR ?_ | refine cK ?_ | refine wK ?_); conv => whnf)
    rw [dread_yes hR (by decide) (by omega)]
    obtain ⟨p, hp⟩ : ∃ p, (headM (rdS d 0)).1 = p := ⟨_, rfl⟩
    rw [fixJ, if_pos h3, hp]
    rw [hp] at q1 q2
    repeat ((first | refine bF ?_ | refine bT ?_ | refine dK ?_ | refine cR ?_ | refine cK ?_ | refine wK ?_); conv => whnf)
    refine callX_pure (home_ok p (vaB_t.2 ⟨by omega, by omega⟩)) ?_
    conv => whnf
    repeat ((first | refine bF ?_ | refine bT ?_ | refine dK ?_ | refine cR ?_ | refine cK ?_ | refine wK ?_); conv => whnf)
    refine callX_own (halves_ok (2 * p + 1) (rdS d 1) (rdS d 2) (by omega) (by omega)) ?_
    conv => whnf
    repeat ((first | refine bF ?_ | refine bT ?_ | refine dK ?_ | refine cR ?_ | refine cK ?_ | refine wK ?_); conv => whnf)
    refine callX_own (top_ok nul16) ?_
    conv => whnf
    repeat ((first | refine bF ?_ | refine bT ?_ | refine dK ?_ | refine cR ?_ | refine cK ?_ | refine wK ?_); conv => whnf)
    refine roomK_le 1000 1000 (by simp) (by decide) (by decide) (by decide) ?_
    conv => whnf
    exact ⟨2, rfl, .inl ⟨42, rfl, rfl⟩⟩
  · rw [fixJ, if_neg (by rw [h3]; decide)]
    repeat ((first | refine bF ?_ | refine bT ?_ | refine dK ?_ | refine cR ?_ | refine cK ?_ | refine wK ?_); conv => whnf)
    refine callX_own (top_ok nul16) ?_
    conv => whnf
    repeat ((first | refine bF ?_ | refine bT ?_ | refine dK ?_ | refine cR ?_ | refine cK ?_ | refine wK ?_); conv => whnf)
    refine roomK_le 1000 1000 (by simp) (by decide) (by decide) (by decide) ?_
    conv => whnf
    exact ⟨2, rfl, .inl ⟨45, rfl, rfl⟩⟩
noncomputable def commitM (d : DS) (p : Int) (s : ByteArray) : DS × Int := if (planM d p s).2 = 0 then (runM d (planM d p s).1 ((planM d p s).1.length : Nat), 0) else (d, (planM d p s).2)
theorem planM_len (d : DS) (p : Int) (s : ByteArray) : (planM d p s).1.length ≤ 10 := by
  rw [planM]; split
  · simp [planJ]
  · simp
theorem commit_ok (d : DS) (p : Int) (s : ByteArray) (hs : s.size ≤ 1000000) : ACall Tryz.prog 152 [encDS d, .int .i64 p, .str s] (.tup [encDS (commitM d p s).1, .int .i64 (commitM d p s).2]) := by
  refine acall_of Tryz.func152 3 rfl (by kernel_rfl) ?_
  conv => whnf
  repeat ((first | refine bF ?_ | refine bT ?_ | refine dK ?_ | refine cR ?_ | refine cK ?_ | refine wK ?_); conv => whnf)
  refine callX_pure (plan_ok d p s hs) ?_
  conv => whnf
  repeat ((first | refine bF ?_ | refine bT ?_ | refine dK ?_ | refine cR ?_ | refine cK ?_ | refine wK ?_); conv => whnf)
  have hl := planM_len d p s
  have hml : ((planM d p s).1.map encJ).length = (planM d p s).1.length := List.length_map ..
  refine bcase_n (fun h1 => ?_) (fun h1 => ?_) <;> conv => whnf
  · repeat ((first | refine bF ?_ | refine bT ?_ | refine dK ?_ | refine cR ?_ | refine cK ?_ | refine wK ?_); conv => whnf)
    rw [commitM, if_neg h1]
    exact ret_of rfl rfl
  · rw [commitM, if_pos h1]
    repeat ((first | refine bF ?_ | refine bT ?_ | refine dK ?_ | refine cR ?_ | refine cK ?_ | refine wK ?_); conv => whnf)
    rw [hml]
    refine callX_pure (run_ok d (planM d p s).1 ((planM d p s).1.length : Nat) (by omega)) ?_
    conv => whnf
    repeat ((first | refine bF ?_ | refine bT ?_ | refine dK ?_ | refine cR ?_ | refine cK ?_ | refine wK ?_); conv => whnf)
    exact ret_of rfl rfl
theorem repairM_len (d : DS) : (repairM d).length ≤ 5 := by
  rw [repairM]; split
  · split
    · simp
    · rw [fixJ]; split <;> simp
  · simp
noncomputable def recM (d : DS) : DS := runM d (repairM d) ((repairM d).length : Nat)
theorem recover_ok (d : DS) : ACall Tryz.prog 50 [encDS d] (encDS (recM d)) := by
  refine acall_of Tryz.func50 1 rfl (by kernel_rfl) ?_
  conv => whnf
  repeat ((first | refine bF ?_ | refine bT ?_ | refine dK ?_ | refine cR ?_ | refine cK ?_ | refine wK ?_); conv => whnf)
  refine callX_own (repair_ok d) ?_
  conv => whnf
  have hl := repairM_len d
  have hml : ((repairM d).map encJ).length = (repairM d).length := List.length_map ..
  repeat ((first | refine bF ?_ | refine bT ?_ | refine dK ?_ | refine cR ?_ | refine cK ?_ | refine wK ?_); conv => whnf)
  rw [hml]
  refine callX_pure (run_ok d (repairM d) ((repairM d).length : Nat) (by omega)) ?_
  conv => whnf
  repeat ((first | refine bF ?_ | refine bT ?_ | refine dK ?_ | refine cR ?_ | refine cK ?_ | refine wK ?_); conv => whnf)
  exact ret_of rfl rfl
open Classical in
noncomputable def getJ (d : DS) (p : Int) : ByteArray × Int := if Us d ∧ 1 ≤ p ∧ p ≤ 16 then (rdS d (2 * p + 1) ++ rdS d (2 * p + 1 + 1), 0) else (ByteArray.empty, 1)
theorem getJ_ok (d : DS) (p : Int) : ACall Tryz.prog 48 [encDS d, .int .i64 p] (.tup [.str (getJ d p).1, .int .i64 (getJ d p).2]) := by
  refine acall_of Tryz.func48 2 rfl (by kernel_rfl) ?_
  conv => whnf
  repeat ((first | refine bF ?_ | refine bT ?_ | refine dK ?_ | refine cR ?_ | refine cK ?_ | refine wK ?_); conv => whnf)
  refine callX_pure (usable_ok d) ?_
  conv => whnf
  repeat ((first | refine bF ?_ | refine bT ?_ | refine dK ?_ | refine cR ?_ | refine cK ?_ | refine wK ?_); conv => whnf)
  refine bcase_intro (fun h1 => ?_) (fun h1 => ?_) <;> conv => whnf
  · repeat ((first | refine bF ?_ | refine bT ?_ | refine dK ?_ | refine cR ?_ | refine cK ?_ | refine wK ?_); conv => whnf)
    rw [getJ, if_neg (fun q => by rw [usB_t.2 q.1] at h1; exact absurd h1 (by decide))]
    exact ret_of rfl rfl
  have hU : Us d := usB_t.1 (by simpa using h1)
  have hR := hU.dr
  have hn := hU.n
  repeat ((first | refine bF ?_ | refine bT ?_ | refine dK ?_ | refine cR ?_ | refine cK ?_ | refine wK ?_); conv => whnf)
  refine callX_pure (valid_ok p) ?_
  conv => whnf
  repeat ((first | refine bF ?_ | refine bT ?_ | refine dK ?_ | refine cR ?_ | refine cK ?_ | refine wK ?_); conv => whnf)
  refine bcase_intro (fun h2 => ?_) (fun h2 => ?_) <;> conv => whnf
  · repeat ((first | refine bF ?_ | refine bT ?_ | refine dK ?_ | refine cR ?_ | refine cK ?_ | refine wK ?_); conv => whnf)
    rw [getJ, if_neg (fun q => by rw [vaB_t.2 q.2] at h2; exact absurd h2 (by decide))]
    exact ret_of rfl rfl
  have hV := vaB_t.1 (show vaB p = true by simpa using h2)
  rw [getJ, if_pos ⟨hU, hV⟩]
  repeat ((first | refine bF ?_ | refine bT ?_ | refine dK ?_ | refine cR ?_ | refine cK ?_ | refine wK ?_); conv => whnf)
  refine callX_pure (home_ok p (vaB_t.2 hV)) ?_
  conv => whnf
  repeat ((first | refine bF ?_ | refine bT ?_ | refine dK ?_ | refine cR ?_ | refine cK ?_ | refine wK ?_); conv => whnf)
  refine callX_pure (dread_ok d (2 * p + 1)) ?_
  conv => whnf
  repeat ((first | refine bF ?_ | refine bT ?_ | refine dK ?_ | refine cR ?_ | refine cK ?_ | refine wK ?_); conv => whnf)
  rw [dread_yes hR (by omega) (by omega)]
  repeat ((first | refine bF ?_ | refine bT ?_ | refine dK ?_ | refine cR ?_ | refine cK ?_ | refine wK ?_); conv => whnf)
  refine callX_pure (home_ok p (vaB_t.2 hV)) ?_
  conv => whnf
  repeat ((first | refine bF ?_ | refine bT ?_ | refine dK ?_ | refine cR ?_ | refine cK ?_ | refine wK ?_); conv => whnf)
  refine callX_pure (dread_ok d (2 * p + 1 + 1)) ?_
  conv => whnf
  repeat ((first | refine bF ?_ | refine bT ?_ | refine dK ?_ | refine cR ?_ | refine cK ?_ | refine wK ?_); conv => whnf)
  rw [dread_yes hR (by omega) (by omega)]
  have z1 := rdS_size hR (show 0 ≤ 2 * p + 1 by omega) (by omega)
  have z2 := rdS_size hR (show 0 ≤ 2 * p + 1 + 1 by omega) (by omega)
  refine condK_of (by show (rdS d (2 * p + 1)).size + (rdS d (2 * p + 1 + 1)).size ≤ _; rw [z1, z2]; decide) ?_
  conv => whnf
  repeat ((first | refine bF ?_ | refine bT ?_ | refine dK ?_ | refine cR ?_ | refine cK ?_ | refine wK ?_); conv => whnf)
  exact ret_of rfl rfl
end Go.Lk

namespace Go.Lk
open Go Go.Proofs Go.RowKit

/-! ### the store -/
theorem snoughts_ok : ACall Tryz.prog 128 [] (.str (nulB 32)) := by
  refine acall_of Tryz.func128 0 rfl (by kernel_rfl) ?_
  conv => whnf
  refine callX_pure (repeat_ok zero1 32 (by decide) (by decide)) ?_
  conv => whnf
  repeat ((first | refine bF ?_ | refine bT ?_ | refine dK ?_ | refine cR ?_ | refine cK ?_ | refine wK ?_); conv => whnf)
  exact ret_of rfl rfl
noncomputable def getS (d : DS) (id : Int) : Pg × Int :=
  if (getJ d id).2 ≠ 0 then (zP, (getJ d id).2) else if (takeM (getJ d id).1).2 ≠ 0 then (zP, (takeM (getJ d id).1).2) else if (takeM (getJ d id).1).1.1 ≠ id then (zP, 9) else ((takeM (getJ d id).1).1, 0)
theorem getS_ok (d : DS) (id : Int) : ACall Tryz.prog 79 [encDS d, .int .i64 id] (.tup [.agg (encP (getS d id).1), .int .i64 (getS d id).2]) := by
  refine acall_of Tryz.func79 2 rfl (by kernel_rfl) ?_
  conv => whnf
  repeat ((first | refine bF ?_ | refine bT ?_ | refine dK ?_ | refine cR ?_ | refine cK ?_ | refine wK ?_); conv => whnf)
  refine callX_pure (getJ_ok d id) ?_
  conv => whnf
  repeat ((first | refine bF ?_ | refine bT ?_ | refine dK ?_ | refine cR ?_ | refine cK ?_ | refine wK ?_); conv => whnf)
  rw [getS]
  refine bcase_n (fun h1 => ?_) (fun h1 => ?_) <;> conv => whnf
  · repeat ((first | refine bF ?_ | refine bT ?_ | refine dK ?_ | refine cR ?_ | refine cK ?_ | refine wK ?_); conv => whnf)
    rw [if_pos h1]
    exact ret_of rfl rfl
  rw [if_neg (fun q => q h1)]
  repeat ((first | refine bF ?_ | refine bT ?_ | refine dK ?_ | refine cR ?_ | refine cK ?_ | refine wK ?_); conv => whnf)
  refine callX_pure (take_ok (getJ d id).1) ?_
  conv => whnf
  repeat ((first | refine bF ?_ | refine bT ?_ | refine dK ?_ | refine cR ?_ | refine cK ?_ | refine wK ?_); conv => whnf)
  refine bcase_n (fun h2 => ?_) (fun h2 => ?_) <;> conv => whnf
  · repeat ((first | refine bF ?_ | refine bT ?_ | refine dK ?_ | refine cR ?_ | refine cK ?_ | refine wK ?_); conv => whnf)
    rw [if_pos h2]
    exact ret_of rfl rfl
  rw [if_neg (fun q => q h2)]
  repeat ((first | refine bF ?_ | refine bT ?_ | refine dK ?_ | refine cR ?_ | refine cK ?_ | refine wK ?_); conv => whnf)
  refine bcase_n (fun h3 => ?_) (fun h3 => ?_) <;> conv => whnf
  · repeat ((first | refine bF ?_ | refine bT ?_ | refine dK ?_ | refine cR ?_ | refine cK ?_ | refine wK ?_); conv => whnf)
    rw [if_pos h3]
    exact ret_of rfl rfl
  rw [if_neg (fun q => q h3)]
  repeat ((first | refine bF ?_ | refine bT ?_ | refine dK ?_ | refine cR ?_ | refine cK ?_ | refine wK ?_); conv => whnf)
  exact ret_of rfl rfl
theorem scommit_ok (d : DS) (p : Int) (s : ByteArray) (hs : s.size ≤ 1000000) : ACall Tryz.prog 127 [encDS d, .int .i64 p, .str s] (.tup [encDS (commitM d p s).1, .int .i64 (commitM d p s).2]) := by
  refine acall_of Tryz.func127 3 rfl (by kernel_rfl) ?_
  conv => whnf
  repeat ((first | refine bF ?_ | refine bT ?_ | refine dK ?_ | refine cR ?_ | refine cK ?_ | refine wK ?_); conv => whnf)
  refine callX_pure (commit_ok d p s hs) ?_
  conv => whnf
  repeat ((first | refine bF ?_ | refine bT ?_ | refine dK ?_ | refine cR ?_ | refine cK ?_ | refine wK ?_); conv => whnf)
  have hc : (commitM d p s).2 ≠ 0 → (commitM d p s).1 = d := fun h => by
    rw [commitM] at h ⊢
    split
    · rename_i q; rw [if_pos q] at h; exact absurd rfl h
    · rfl
  refine bcase_n (fun h1 => ?_) (fun h1 => ?_) <;> conv => whnf
  · repeat ((first | refine bF ?_ | refine bT ?_ | refine dK ?_ | refine cR ?_ | refine cK ?_ | refine wK ?_); conv => whnf)
    rw [hc h1]
    exact ret_of rfl rfl
  · repeat ((first | refine bF ?_ | refine bT ?_ | refine dK ?_ | refine cR ?_ | refine cK ?_ | refine wK ?_); conv => whnf)
    rw [h1]
    exact ret_of rfl rfl
open Classical in
noncomputable def setS (d : DS) (x : Pg) : DS × Int := if pgR x = true then commitM d x.1 (putB x) else (d, 1)
theorem setS_ok (d : DS) (x : Pg) : ACall Tryz.prog 132 [encDS d, .agg (encP x)] (.tup [encDS (setS d x).1, .int .i64 (setS d x).2]) := by
  refine acall_of Tryz.func132 2 rfl (by kernel_rfl) ?_
  conv => whnf
  repeat ((first | refine bF ?_ | refine bT ?_ | refine dK ?_ | refine cR ?_ | refine cK ?_ | refine wK ?_); conv => whnf)
  have hput := put_ok x
  by_cases hR : pgR x = true
  · rw [if_pos hR] at hput
    rw [setS, if_pos hR]
    have hz := putB_size (pgR_out.1 hR).2.2.2.2
    refine callX_pure hput ?_
    conv => whnf
    repeat ((first | refine bF ?_ | refine bT ?_ | refine dK ?_ | refine cR ?_ | refine cK ?_ | refine wK ?_); conv => whnf)
    refine callX_pure (scommit_ok d x.1 (putB x) (by omega)) ?_
    conv => whnf
    repeat ((first | refine bF ?_ | refine bT ?_ | refine dK ?_ | refine cR ?_ | refine cK ?_ | refine wK ?_); conv => whnf)
    exact ret_of rfl rfl
  · rw [if_neg hR] at hput
    rw [setS, if_neg hR]
    refine callX_pure hput ?_
    conv => whnf
    repeat ((first | refine bF ?_ | refine bT ?_ | refine dK ?_ | refine cR ?_ | refine cK ?_ | refine wK ?_); conv => whnf)
    exact ret_of rfl rfl
noncomputable def delD (d : DS) (id : Int) : DS × Int := commitM d id (nulB 32)
theorem delD_ok (d : DS) (id : Int) : ACall Tryz.prog 82 [encDS d, .int .i64 id] (.tup [encDS (delD d id).1, .int .i64 (delD d id).2]) := by
  refine acall_of Tryz.func82 2 rfl (by kernel_rfl) ?_
  conv => whnf
  repeat ((first | refine bF ?_ | refine bT ?_ | refine dK ?_ | refine cR ?_ | refine cK ?_ | refine wK ?_); conv => whnf)
  refine callX_pure snoughts_ok ?_
  conv => whnf
  repeat ((first | refine bF ?_ | refine bT ?_ | refine dK ?_ | refine cR ?_ | refine cK ?_ | refine wK ?_); conv => whnf)
  refine callX_pure (scommit_ok d id (nulB 32) (by rw [nulB_size]; decide)) ?_
  conv => whnf
  repeat ((first | refine bF ?_ | refine bT ?_ | refine dK ?_ | refine cR ?_ | refine cK ?_ | refine wK ?_); conv => whnf)
  exact ret_of rfl rfl
open Classical in
noncomputable def stepsS (d : DS) (x : Pg) : List Jo := if x.2.1 ≠ 0 ∨ x.2.2 ≠ ByteArray.empty then (if pgR x = true then (planM d x.1 (putB x)).1 else []) else (planM d x.1 (nulB 32)).1
theorem plan_err {d : DS} {p : Int} {s : ByteArray} (h : (planM d p s).2 ≠ 0) : (planM d p s).1 = [] := by
  rw [planM] at h ⊢
  split
  · rename_i q; rw [if_pos q] at h; exact absurd rfl h
  · rfl
theorem stepsS_ok (d : DS) (x : Pg) : ACall Tryz.prog 83 [encDS d, .agg (encP x)] (.lst ((stepsS d x).map encJ)) := by
  refine acall_of Tryz.func83 2 rfl (by kernel_rfl) ?_
  conv => whnf
  repeat ((first | refine bF ?_ | refine bT ?_ | refine dK ?_ | refine cR ?_ | refine cK ?_ | refine wK ?_); conv => whnf)
  refine callX_pure snoughts_ok ?_
  conv => whnf
  repeat ((first | refine bF ?_ | refine bT ?_ | refine dK ?_ | refine cR ?_ | refine cK ?_ | refine wK ?_); conv => whnf)
  rw [stepsS]
  refine bcase_n (fun h1 => ?_) (fun h1 => ?_) <;> conv => whnf
  · rw [if_pos (.inl h1)]
    repeat ((first | refine bF ?_ | refine bT ?_ | refine dK ?_ | refine cR ?_ | refine cK ?_ | refine wK ?_); conv => whnf)
    have hput := put_ok x
    by_cases hR : pgR x = true
    · rw [if_pos hR] at hput
      rw [if_pos hR]
      have hz := putB_size (pgR_out.1 hR).2.2.2.2
      refine callX_pure hput ?_
      conv => whnf
      repeat ((first | refine bF ?_ | refine bT ?_ | refine dK ?_ | refine cR ?_ | refine cK ?_ | refine wK ?_); conv => whnf)
      refine callX_pure (plan_ok d x.1 (putB x) (by omega)) ?_
      conv => whnf
      repeat ((first | refine bF ?_ | refine bT ?_ | refine dK ?_ | refine cR ?_ | refine cK ?_ | refine wK ?_); conv => whnf)
      refine bcase_n (fun h9 => ?_) (fun h9 => ?_) <;> conv => whnf
      · repeat ((first | refine bF ?_ | refine bT ?_ | refine dK ?_ | refine cR ?_ | refine cK ?_ | refine wK ?_); conv => whnf)
        rw [plan_err h9]
        exact ret_of rfl rfl
      · repeat ((first | refine bF ?_ | refine bT ?_ | refine dK ?_ | refine cR ?_ | refine cK ?_ | refine wK ?_); conv => whnf)
        exact ret_of rfl rfl
    · rw [if_neg hR] at hput
      rw [if_neg hR]
      refine callX_pure hput ?_
      conv => whnf
      repeat ((first | refine bF ?_ | refine bT ?_ | refine dK ?_ | refine cR ?_ | refine cK ?_ | refine wK ?_); conv => whnf)
      exact ret_of rfl rfl
  · repeat ((first | refine bF ?_ | refine bT ?_ | refine dK ?_ | refine cR ?_ | refine cK ?_ | refine wK ?_); conv => whnf)
    refine bcase_n (fun h2 => ?_) (fun h2 => ?_) <;> conv => whnf
    · rw [if_pos (.inr h2)]
      repeat ((first | refine bF ?_ | refine bT ?_ | refine dK ?_ | refine cR ?_ | refine cK ?_ | refine wK ?_); conv => whnf)
      have hput := put_ok x
      by_cases hR : pgR x = true
      · rw [if_pos hR] at hput
        rw [if_pos hR]
        have hz := putB_size (pgR_out.1 hR).2.2.2.2
        refine callX_pure hput ?_
        conv => whnf
        repeat ((first | refine bF ?_ | refine bT ?_ | refine dK ?_ | refine cR ?_ | refine cK ?_ | refine wK ?_); conv => whnf)
        refine callX_pure (plan_ok d x.1 (putB x) (by omega)) ?_
        conv => whnf
        repeat ((first | refine bF ?_ | refine bT ?_ | refine dK ?_ | refine cR ?_ | refine cK ?_ | refine wK ?_); conv => whnf)
        refine bcase_n (fun h9 => ?_) (fun h9 => ?_) <;> conv => whnf
        · repeat ((first | refine bF ?_ | refine bT ?_ | refine dK ?_ | refine cR ?_ | refine cK ?_ | refine wK ?_); conv => whnf)
          rw [plan_err h9]
          exact ret_of rfl rfl
        · repeat ((first | refine bF ?_ | refine bT ?_ | refine dK ?_ | refine cR ?_ | refine cK ?_ | refine wK ?_); conv => whnf)
          exact ret_of rfl rfl
      · rw [if_neg hR] at hput
        rw [if_neg hR]
        refine callX_pure hput ?_
        conv => whnf
        repeat ((first | refine bF ?_ | refine bT ?_ | refine dK ?_ | refine cR ?_ | refine cK ?_ | refine wK ?_); conv => whnf)
        exact ret_of rfl rfl
    · rw [if_neg (fun q => q.elim (fun q => q h1) (fun q => q h2))]
      repeat ((first | refine bF ?_ | refine bT ?_ | refine dK ?_ | refine cR ?_ | refine cK ?_ | refine wK ?_); conv => whnf)
      refine callX_pure (plan_ok d x.1 (nulB 32) (by rw [nulB_size]; decide)) ?_
      conv => whnf
      repeat ((first | refine bF ?_ | refine bT ?_ | refine dK ?_ | refine cR ?_ | refine cK ?_ | refine wK ?_); conv => whnf)
      refine bcase_n (fun h9 => ?_) (fun h9 => ?_) <;> conv => whnf
      · repeat ((first | refine bF ?_ | refine bT ?_ | refine dK ?_ | refine cR ?_ | refine cK ?_ | refine wK ?_); conv => whnf)
        rw [plan_err h9]
        exact ret_of rfl rfl
      · repeat ((first | refine bF ?_ | refine bT ?_ | refine dK ?_ | refine cR ?_ | refine cK ?_ | refine wK ?_); conv => whnf)
        exact ret_of rfl rfl
end Go.Lk

namespace Go.Lk
open Go Go.Proofs Go.RowKit

/-! ### the document's store -/
theorem may_ok (d : DS) : ACall Tryz.prog 22 [encDS d] (.bool (usB d)) := by
  refine acall_of Tryz.func22 1 rfl (by kernel_rfl) ?_
  conv => whnf
  have hm : (d.sec.map encB).length = d.sec.length := List.length_map ..
  repeat ((first | refine bF ?_ | refine bT ?_ | refine dK ?_ | refine cR ?_ | refine cK ?_ | refine wK ?_); conv => whnf)
  refine callX_pure (rdRight_ok d) ?_
  conv => whnf
  repeat ((first | refine bF ?_ | refine bT ?_ | refine dK ?_ | refine cR ?_ | refine cK ?_ | refine wK ?_); conv => whnf)
  refine bcase_intro (fun h1 => ?_) (fun h1 => ?_) <;> conv => whnf
  · have hR := drB_t.1 h1
    repeat ((first | refine bF ?_ | refine bT ?_ | refine dK ?_ | refine cR ?_ | refine cK ?_ | refine wK ?_); conv => whnf)
    refine ret_of rfl (congrArg D.bool ?_)
    by_cases h : (34 : Int) < ((d.sec.map encB).length : Int)
    · rw [decide_eq_true h]; exact (usB_t.2 ⟨hR, by omega⟩).symm
    · rw [decide_eq_false h]; exact (usB_f.2 fun q => by have := q.n; omega).symm
  · repeat ((first | refine bF ?_ | refine bT ?_ | refine dK ?_ | refine cR ?_ | refine cK ?_ | refine wK ?_); conv => whnf)
    exact ret_of rfl (congrArg D.bool (usB_f.2 fun q => drB_f.1 h1 q.dr).symm)
theorem rget12_ok (d : DS) (p : Int) (hU : Us d) (h1 : 1 ≤ p) (h2 : p ≤ 16) : ACall Tryz.prog 57 [encDS d, .int .i64 p] (.str (rdS d (2 * p + 1) ++ rdS d (2 * p + 1 + 1))) := by
  have hR := hU.dr
  have hn := hU.n
  have hc := hR.c1
  have z1 := rdS_size hR (show 0 ≤ 2 * p + 1 by omega) (by omega)
  have z2 := rdS_size hR (show 0 ≤ 2 * p + 1 + 1 by omega) (by omega)
  refine acall_of Tryz.func57 2 rfl (by kernel_rfl) ?_
  conv => whnf
  repeat ((first | refine bF ?_ | refine bT ?_ | refine dK ?_ | refine cR ?_ | refine cK ?_ | refine wK ?_); conv => whnf)
  refine callX_pure (rread_ok d (2 * p + 1) (by omega) (by omega) (by omega)) ?_
  conv => whnf
  repeat ((first | refine bF ?_ | refine bT ?_ | refine dK ?_ | refine cR ?_ | refine cK ?_ | refine wK ?_); conv => whnf)
  rw [show 2 * p + 2 = 2 * p + 1 + 1 by omega]
  refine callX_pure (rread_ok d (2 * p + 1 + 1) (by omega) (by omega) (by omega)) ?_
  conv => whnf
  repeat ((first | refine bF ?_ | refine bT ?_ | refine dK ?_ | refine cR ?_ | refine cK ?_ | refine wK ?_); conv => whnf)
  exact ret_of rfl rfl
theorem getS_no {d : DS} {id : Int} (h : ¬ (Us d ∧ 1 ≤ id ∧ id ≤ 16)) : getS d id = (zP, 1) := by
  have : getJ d id = (ByteArray.empty, 1) := if_neg h
  rw [getS, this, if_pos (by decide)]
theorem getS_yes {d : DS} {id : Int} (h : Us d ∧ 1 ≤ id ∧ id ≤ 16) : getS d id = if (takeM (rdS d (2 * id + 1) ++ rdS d (2 * id + 1 + 1))).2 ≠ 0 then (zP, (takeM (rdS d (2 * id + 1) ++ rdS d (2 * id + 1 + 1))).2) else if (takeM (rdS d (2 * id + 1) ++ rdS d (2 * id + 1 + 1))).1.1 ≠ id then (zP, 9) else ((takeM (rdS d (2 * id + 1) ++ rdS d (2 * id + 1 + 1))).1, 0) := by
  have : getJ d id = (rdS d (2 * id + 1) ++ rdS d (2 * id + 1 + 1), 0) := if_pos h
  rw [getS, this, if_neg (fun q => q rfl)]
theorem rgetS_ok (d : DS) (id : Int) : ACall Tryz.prog 26 [encDS d, .int .i64 id] (.tup [.agg (encP (getS d id).1), .int .i64 (getS d id).2]) := by
  refine acall_of Tryz.func26 2 rfl (by kernel_rfl) ?_
  conv => whnf
  repeat ((first | refine bF ?_ | refine bT ?_ | refine dK ?_ | refine cR ?_ | refine cK ?_ | refine wK ?_); conv => whnf)
  refine callX_pure (may_ok d) ?_
  conv => whnf
  repeat ((first | refine bF ?_ | refine bT ?_ | refine dK ?_ | refine cR ?_ | refine cK ?_ | refine wK ?_); conv => whnf)
  refine bcase_intro (fun h1 => ?_) (fun h1 => ?_) <;> conv => whnf
  · repeat ((first | refine bF ?_ | refine bT ?_ | refine dK ?_ | refine cR ?_ | refine cK ?_ | refine wK ?_); conv => whnf)
    rw [getS_no (fun q => by rw [usB_t.2 q.1] at h1; exact absurd h1 (by decide))]
    exact ret_of rfl rfl
  have hU : Us d := usB_t.1 (by simpa using h1)
  repeat ((first | refine bF ?_ | refine bT ?_ | refine dK ?_ | refine cR ?_ | refine cK ?_ | refine wK ?_); conv => whnf)
  refine bcase_p (fun h2 => ?_) (fun h2 => ?_) <;> conv => whnf
  · repeat ((first | refine bF ?_ | refine bT ?_ | refine dK ?_ | refine cR ?_ | refine cK ?_ | refine wK ?_); conv => whnf)
    rw [getS_no (by omega)]
    exact ret_of rfl rfl
  repeat ((first | refine bF ?_ | refine bT ?_ | refine dK ?_ | refine cR ?_ | refine cK ?_ | refine wK ?_); conv => whnf)
  refine bcase_p (fun h3 => ?_) (fun h3 => ?_) <;> conv => whnf
  · repeat ((first | refine bF ?_ | refine bT ?_ | refine dK ?_ | refine cR ?_ | refine cK ?_ | refine wK ?_); conv => whnf)
    rw [getS_no (by omega)]
    exact ret_of rfl rfl
  repeat ((first | refine bF ?_ | refine bT ?_ | refine dK ?_ | refine cR ?_ | refine cK ?_ | refine wK ?_); conv => whnf)
  rw [getS_yes ⟨hU, by omega, by omega⟩]
  refine callX_pure (rget12_ok d id hU (by omega) (by omega)) ?_
  conv => whnf
  repeat ((first | refine bF ?_ | refine bT ?_ | refine dK ?_ | refine cR ?_ | refine cK ?_ | refine wK ?_); conv => whnf)
  obtain ⟨t, ht⟩ : ∃ t, takeM (rdS d (2 * id + 1) ++ rdS d (2 * id + 1 + 1)) = t := ⟨_, rfl⟩
  have hk := rtake_ok (rdS d (2 * id + 1) ++ rdS d (2 * id + 1 + 1))
  rw [ht] at hk ⊢
  refine callX_pure hk ?_
  conv => whnf
  repeat ((first | refine bF ?_ | refine bT ?_ | refine dK ?_ | refine cR ?_ | refine cK ?_ | refine wK ?_); conv => whnf)
  refine bcase_n (fun h4 => ?_) (fun h4 => ?_) <;> conv => whnf
  · repeat ((first | refine bF ?_ | refine bT ?_ | refine dK ?_ | refine cR ?_ | refine cK ?_ | refine wK ?_); conv => whnf)
    rw [if_pos h4]
    exact ret_of rfl rfl
  rw [if_neg (fun q => q h4)]
  repeat ((first | refine bF ?_ | refine bT ?_ | refine dK ?_ | refine cR ?_ | refine cK ?_ | refine wK ?_); conv => whnf)
  refine bcase_n (fun h5 => ?_) (fun h5 => ?_) <;> conv => whnf
  · repeat ((first | refine bF ?_ | refine bT ?_ | refine dK ?_ | refine cR ?_ | refine cK ?_ | refine wK ?_); conv => whnf)
    rw [if_pos h5]
    exact ret_of rfl rfl
  rw [if_neg (fun q => q h5)]
  repeat ((first | refine bF ?_ | refine bT ?_ | refine dK ?_ | refine cR ?_ | refine cK ?_ | refine wK ?_); conv => whnf)
  exact ret_of rfl rfl
end Go.Lk

namespace Go.Lk
open Go Go.Proofs Go.RowKit

/-! ### a page on a disk at rest -/
/-- sectors of a disk at rest that the journal may use -/
structure Rest (s : List ByteArray) : Prop where
  n : 35 ≤ s.length
  m : s.length ≤ 64
  z : ∀ i, (h : i < s.length) → s[i].size = 16
theorem Rest.dr {s : List ByteArray} (h : Rest s) {l : List Wt} (hl : l.length ≤ 200) (hw : ∀ w ∈ l, okW s.length w = true) : DR ⟨s, l⟩ :=
  ⟨by have := h.n; simp only []; omega, h.m, hl, h.z, fun i hi => hw _ (List.getElem_mem hi)⟩
theorem Rest.us {s : List ByteArray} (h : Rest s) : Us ⟨s, []⟩ := ⟨h.dr (by simp) (by simp), h.n⟩
theorem us_rest {d : DS} (h : Us d) (hc : d.ca = []) : Rest d.sec ∧ d = ⟨d.sec, []⟩ := ⟨⟨h.n, h.dr.s2, h.dr.s⟩, by cases d; simp only at hc; subst hc; rfl⟩
theorem Rest.set {s : List ByteArray} (h : Rest s) (i : Nat) {b : ByteArray} (hb : b.size = 16) : Rest (s.set i b) := by
  refine ⟨by rw [List.length_set]; exact h.n, by rw [List.length_set]; exact h.m, fun j hj => ?_⟩
  rw [List.getElem_set]
  split
  · exact hb
  · exact h.z _ _
theorem step_put {s : List ByteArray} (h : Rest s) {l : List Wt} {n : Int} {b : ByteArray} (hl : l.length < 200) (hw : ∀ w ∈ l, okW s.length w = true) (h0 : 0 ≤ n) (h1 : n < s.length) (hb : b.size = 16) :
    stepJ ⟨s, l⟩ (wJ n b) = ⟨s, l ++ [(n, b)]⟩ ∧ ∀ w ∈ l ++ [(n, b)], okW s.length w = true := by
  have hk : okW s.length (n, b) = true := okW_out.2 ⟨h0, h1, hb⟩
  constructor
  · show (putM ⟨s, l⟩ (n, b)).1 = _
    rw [putM, if_pos ⟨h.dr (by omega) hw, hk⟩, if_neg (by simp only []; omega)]
  · intro w hm
    rcases List.mem_append.1 hm with q | q
    · exact hw w q
    · rw [List.mem_singleton] at q; subst q; exact hk
theorem step_sync {s : List ByteArray} (h : Rest s) {l : List Wt} (hl : l.length ≤ 200) (hw : ∀ w ∈ l, okW s.length w = true) : stepJ ⟨s, l⟩ syJ = ⟨wrS s l, []⟩ := by
  show syncM ⟨s, l⟩ = _
  rw [syncM, if_pos (h.dr hl hw)]
theorem step1 {s : List ByteArray} (h : Rest s) {n : Int} {b : ByteArray} (h0 : 0 ≤ n) (h1 : n < s.length) (hb : b.size = 16) : [wJ n b, syJ].foldl stepJ ⟨s, []⟩ = ⟨s.set n.toNat b, []⟩ := by
  obtain ⟨e1, w1⟩ := step_put h (l := []) (by simp) (by simp) h0 h1 hb
  simp only [List.foldl_cons, List.foldl_nil, e1]
  rw [step_sync h (by simp) w1]
  rfl
theorem step2 {s : List ByteArray} (h : Rest s) {n m : Int} {b c : ByteArray} (h0 : 0 ≤ n) (h1 : n < s.length) (hb : b.size = 16) (h2 : 0 ≤ m) (h3 : m < s.length) (hc : c.size = 16) : [wJ n b, wJ m c, syJ].foldl stepJ ⟨s, []⟩ = ⟨(s.set n.toNat b).set m.toNat c, []⟩ := by
  obtain ⟨e1, w1⟩ := step_put h (l := []) (by simp) (by simp) h0 h1 hb
  obtain ⟨e2, w2⟩ := step_put h (l := [] ++ [(n, b)]) (by simp) w1 h2 h3 hc
  simp only [List.foldl_cons, List.foldl_nil, e1, e2]
  rw [step_sync h (by simp) w2]
  rfl
/-- what a plan leaves -/
def setD (s : List ByteArray) (p : Nat) (a b : ByteArray) : List ByteArray := (((((s.set 1 a).set 2 b).set 0 (headJ p)).set (2 * p + 1) a).set (2 * p + 2) b).set 0 nul16
theorem nul16_size : nul16.size = 16 := nulB_size 16
theorem ext_size {s : ByteArray} (h : s.size = 32) : (s.extract 0 16).size = 16 ∧ (s.extract 16 32).size = 16 := by
  have hb : (bl s).length = 32 := by rw [bl_len]; exact h
  constructor
  · rw [← bl_len, bl_extract, List.length_take, List.length_drop]; omega
  · rw [← bl_len, bl_extract, List.length_take, List.length_drop]; omega
theorem ext_app {s : ByteArray} (h : s.size = 32) : s.extract 0 16 ++ s.extract 16 32 = s := by
  have hb : (bl s).length = 32 := by rw [bl_len]; exact h
  apply bl_ext
  rw [bl_app, bl_extract, bl_extract, List.drop_zero]
  rw [List.take_of_length_le (show ((bl s).drop 16).length ≤ 32 - 16 by rw [List.length_drop]; omega)]
  exact List.take_append_drop 16 (bl s)
theorem plan_runs {s : List ByteArray} (h : Rest s) {p : Nat} (h1 : 1 ≤ p) (h16 : p ≤ 16) {x : ByteArray} (hx : x.size = 32) : (planJ p x).foldl stepJ ⟨s, []⟩ = ⟨setD s p (x.extract 0 16) (x.extract 16 32), []⟩ := by
  obtain ⟨ha, hb⟩ := ext_size hx
  have hn := h.n
  rw [planJ, List.foldl_append, List.foldl_append, List.foldl_append]
  rw [step2 h (by decide) (by omega) ha (by decide) (by omega) hb]
  have r1 := (h.set 1 ha).set 2 hb
  have l1 : ((s.set 1 (x.extract 0 16)).set 2 (x.extract 16 32)).length = s.length := by simp
  rw [show ((1 : Int).toNat) = 1 from rfl, show ((2 : Int).toNat) = 2 from rfl]
  rw [step1 r1 (by decide) (by omega) (headJ_size p)]
  have r2 := r1.set 0 (headJ_size p)
  have l2 : (((s.set 1 (x.extract 0 16)).set 2 (x.extract 16 32)).set 0 (headJ p)).length = s.length := by simp
  rw [show ((0 : Int).toNat) = 0 from rfl]
  rw [step2 r2 (by omega) (by omega) ha (by omega) (by omega) hb]
  rw [show (2 * (p : Int) + 1).toNat = 2 * p + 1 by omega, show (2 * (p : Int) + 1 + 1).toNat = 2 * p + 2 by omega]
  have r3 := (r2.set (2 * p + 1) ha).set (2 * p + 2) hb
  rw [step1 r3 (by decide) (by simp; omega) nul16_size]
  rfl
theorem Rest.setD {s : List ByteArray} (h : Rest s) {p : Nat} {a b : ByteArray} (ha : a.size = 16) (hb : b.size = 16) : Rest (setD s p a b) :=
  (((((h.set 1 ha).set 2 hb).set 0 (headJ_size p)).set _ ha).set _ hb).set 0 nul16_size
theorem setD_len (s : List ByteArray) (p : Nat) (a b : ByteArray) : (setD s p a b).length = s.length := by simp [setD]
/-- a page's bytes, on a disk at rest -/
def raw (s : List ByteArray) (p : Nat) : ByteArray := s[2 * p + 1]?.getD ByteArray.empty ++ s[2 * p + 2]?.getD ByteArray.empty
theorem raw_same {s : List ByteArray} (h : Rest s) {p : Nat} (h1 : 1 ≤ p) (h16 : p ≤ 16) {a b : ByteArray} : raw (setD s p a b) p = a ++ b := by
  have hn := h.n
  simp only [raw, setD, List.getElem?_set, List.length_set]
  simp
  rw [if_pos (by omega), if_pos (by omega)]
  simp
theorem raw_other {s : List ByteArray} {p q : Nat} (h1 : 1 ≤ q) (hne : p ≠ q) {a b : ByteArray} : raw (setD s p a b) q = raw s q := by
  simp only [raw, setD, List.getElem?_set, List.length_set]
  rw [if_neg (by omega), if_neg (by omega), if_neg (by omega), if_neg (by omega), if_neg (by omega), if_neg (by omega), if_neg (by omega), if_neg (by omega), if_neg (by omega), if_neg (by omega), if_neg (by omega), if_neg (by omega)]
end Go.Lk

namespace Go.Lk
open Go Go.Proofs Go.RowKit Go.Lk

/-! ### the sweep -/
def clr (x : Fr) : Fr := (x.1, x.2.1, false)
def pass (l : List Fr) (a : Nat) (h : a < l.length) : List Fr := if l[a].2.1 = 0 then l.set a (clr l[a]) else l
inductive Swp : List Fr → Nat → List Fr → Nat → Prop
  | stop (l : List Fr) (a : Nat) (h : a < l.length) (h1 : l[a].2.1 = 0) (h2 : l[a].2.2 = false) : Swp l a l a
  | go (l : List Fr) (a : Nat) (h : a < l.length) (l2 : List Fr) (a2 : Nat) (hn : ¬ (l[a].2.1 = 0 ∧ l[a].2.2 = false)) (r : Swp (pass l a h) ((a + 1) % l.length) l2 a2) : Swp l a l2 a2
theorem pass_len {l : List Fr} {a : Nat} {h : a < l.length} : (pass l a h).length = l.length := by unfold pass; split <;> simp
theorem pass_get {l : List Fr} {a i : Nat} {h : a < l.length} (hi : i < l.length) : ((pass l a h)[i]'(by rw [pass_len]; exact hi)).1 = l[i].1 ∧ ((pass l a h)[i]'(by rw [pass_len]; exact hi)).2.1 = l[i].2.1 := by
  unfold pass
  split
  · rw [List.getElem_set]
    split
    · rename_i e; subst e; exact ⟨rfl, rfl⟩
    · exact ⟨rfl, rfl⟩
  · exact ⟨rfl, rfl⟩
def used0 (l : List Fr) : Nat := l.countP fun x => decide (x.2.1 = 0) && x.2.2
def wayL (n a b : Nat) : Nat := (b + n - a) % n
def mSw (j : Nat) (l : List Fr) (a : Nat) : Nat := used0 l * l.length + wayL l.length a j
theorem used_set {l : List Fr} {a : Nat} (h : a < l.length) (h1 : l[a].2.1 = 0) (h2 : l[a].2.2 = true) : used0 (l.set a (clr l[a])) + 1 = used0 l := by
  have hp : 0 < used0 l := List.countP_pos_iff.2 ⟨l[a], List.getElem_mem h, by simp [h1, h2]⟩
  unfold used0 at *
  rw [List.countP_set h]
  simp only [h1, h2, clr, decide_true, Bool.and_self, if_true, Bool.and_false, Bool.false_eq_true, if_false]
  omega
theorem way_next {n a b : Nat} (ha : a < n) (hb : b < n) (hne : a ≠ b) : wayL n ((a + 1) % n) b < wayL n a b := by
  unfold wayL
  by_cases h : a < b
  · rw [Nat.mod_eq_of_lt (show a + 1 < n by omega), show b + n - a = (b - a) + n by omega, show b + n - (a + 1) = (b - a - 1) + n by omega, Nat.add_mod_right, Nat.add_mod_right, Nat.mod_eq_of_lt (by omega), Nat.mod_eq_of_lt (by omega)]
    omega
  · by_cases e : a + 1 = n
    · rw [e, Nat.mod_self, Nat.sub_zero, Nat.add_mod_right, Nat.mod_eq_of_lt hb, Nat.mod_eq_of_lt (by omega)]
      omega
    · rw [Nat.mod_eq_of_lt (show a + 1 < n by omega), Nat.mod_eq_of_lt (by omega), Nat.mod_eq_of_lt (by omega)]
      omega
theorem way_lt {n a b : Nat} (hn : 0 < n) : wayL n a b < n := Nat.mod_lt _ hn
theorem mSw_dec {j : Nat} {l : List Fr} {a : Nat} (ha : a < l.length) (hj : j < l.length) (lj : l[j].2.1 = 0) (hn : ¬ (l[a].2.1 = 0 ∧ l[a].2.2 = false)) : mSw j (pass l a ha) ((a + 1) % l.length) < mSw j l a := by
  unfold mSw
  rw [pass_len]
  by_cases h1 : l[a].2.1 = 0
  · have h2 : l[a].2.2 = true := by cases e : l[a].2.2 with | true => rfl | false => exact absurd ⟨h1, e⟩ hn
    have hu := used_set ha h1 h2
    rw [show pass l a ha = l.set a (clr l[a]) from if_pos h1]
    have hw := way_lt (n := l.length) (a := (a + 1) % l.length) (b := j) (by omega)
    rw [← hu, Nat.succ_mul]
    omega
  · rw [show pass l a ha = l from if_neg h1]
    have hne : a ≠ j := fun e => by subst e; exact h1 lj
    have := way_next ha hj hne
    omega
theorem swp_ex {j : Nat} : ∀ (n : Nat) {l : List Fr} {a : Nat} (ha : a < l.length) (hj : j < l.length), l[j].2.1 = 0 → mSw j l a < n → ∃ l2 a2, Swp l a l2 a2
  | 0, _, _, _, _, _, h => absurd h (Nat.not_lt_zero _)
  | n + 1, l, a, ha, hj, lj, h => by
    by_cases hs : l[a].2.1 = 0 ∧ l[a].2.2 = false
    · exact ⟨l, a, .stop l a ha hs.1 hs.2⟩
    · have hd := mSw_dec ha hj lj hs
      obtain ⟨l2, a2, r⟩ := swp_ex n (l := pass l a ha) (a := (a + 1) % l.length) (by rw [pass_len]; exact Nat.mod_lt _ (by omega)) (by rw [pass_len]; exact hj) (by rw [(pass_get hj).2]; exact lj) (by omega)
      exact ⟨l2, a2, .go l a ha l2 a2 hs r⟩
/-- what a sweep leaves alone -/
theorem Swp.out {l l2 : List Fr} {a a2 : Nat} (h : Swp l a l2 a2) : l2.length = l.length ∧ a2 < l.length ∧ (∀ i (hi : i < l.length) (hi2 : i < l2.length), l2[i].1 = l[i].1 ∧ l2[i].2.1 = l[i].2.1) ∧ ∃ h2 : a2 < l2.length, l2[a2].2.1 = 0 := by
  induction h with
  | stop l a h h1 h2 => exact ⟨rfl, h, fun i _ _ => ⟨rfl, rfl⟩, h, h1⟩
  | go l a h l2 a2 hn r ih =>
    obtain ⟨e1, e2, e3, e4⟩ := ih
    rw [pass_len] at e1 e2
    refine ⟨e1, e2, fun i hi hi2 => ?_, e4⟩
    have h1 := e3 i (by rw [pass_len]; exact hi) hi2
    have h2 := pass_get (h := h) hi
    exact ⟨h1.1.trans h2.1, h1.2.trans h2.2⟩

theorem looseAt_lt {l : List Fr} : ∀ {k : Nat}, looseAt l k < 0 ∨ ∃ i : Nat, looseAt l k = ((k + i : Nat) : Int) ∧ ∃ h : i < l.length, l[i].2.1 = 0 := by
  induction l with
  | nil => intro k; exact .inl (show (-1 : Int) < 0 by decide)
  | cons p r ih =>
    intro k
    simp only [looseAt]
    by_cases h : p.2.1 = 0
    · exact .inr ⟨0, by simp [h], by simp, by simpa using h⟩
    · rw [if_neg h]
      rcases ih (k := k + 1) with h1 | ⟨i, h1, h2, h3⟩
      · exact .inl h1
      · exact .inr ⟨i + 1, by rw [h1]; simp; omega, by simpa using h2, by simpa using h3⟩
theorem looseAt_no {l : List Fr} : ∀ {k : Nat}, looseAt l k < 0 → ∀ i (h : i < l.length), l[i].2.1 ≠ 0 := by
  induction l with
  | nil => intro k _ i h; exact absurd h (Nat.not_lt_zero _)
  | cons p r ih =>
    intro k hl i h
    simp only [looseAt] at hl
    by_cases e : p.2.1 = 0
    · rw [if_pos e] at hl; omega
    · rw [if_neg e] at hl
      cases i with
      | zero => simpa using e
      | succ i => simpa using ih hl i (by simpa using h)

theorem sweep_no (l : List Fr) (h : Int) (hn : clockB l h = false ∨ looseAt l 0 < 0) (hl : l.length ≤ 1000000) : ACall Tryz.prog 170 [encC l h] (.tup [encC l h, .int .i64 0, .bool false]) := by
  refine acall_of Tryz.func170 1 rfl (by kernel_rfl) ?_
  conv => whnf
  repeat ((first | refine bF ?_ | refine bT ?_ | refine dK ?_ | refine cR ?_ | refine cK ?_ | refine wK ?_); conv => whnf)
  refine callX_pure (clockRight_ok l h) ?_
  conv => whnf
  refine bcase_intro (fun h1 => ?_) (fun h1 => ?_) <;> conv => whnf
  · repeat ((first | refine bF ?_ | refine bT ?_ | refine dK ?_ | refine cR ?_ | refine cK ?_ | refine wK ?_); conv => whnf)
    exact ret_of rfl rfl
  repeat ((first | refine bF ?_ | refine bT ?_ | refine dK ?_ | refine cR ?_ | refine cK ?_ | refine wK ?_); conv => whnf)
  refine callX_pure (containsFunc_ok l hl) ?_
  conv => whnf
  refine bcase_intro (fun h2 => ?_) (fun h2 => ?_) <;> conv => whnf
  · repeat ((first | refine bF ?_ | refine bT ?_ | refine dK ?_ | refine cR ?_ | refine cK ?_ | refine wK ?_); conv => whnf)
    exact ret_of rfl rfl
  · exfalso
    simp at h1 h2
    rcases hn with hn | hn
    · rw [h1] at hn; cases hn
    · omega
theorem sweep_yes (l : List Fr) (h : Nat) (hR : CRight l h) {l2 : List Fr} {a2 : Nat} (hS : Swp l h l2 a2) : ACall Tryz.prog 170 [encC l h] (.tup [encC l2 (((a2 + 1) % l.length : Nat) : Int), .int .i64 a2, .bool true]) := by
  refine acall_of Tryz.func170 1 rfl (by kernel_rfl) ?_
  conv => whnf
  have hl1 := hR.one
  have hl8 := hR.most
  have hh := hR.h1
  repeat ((first | refine bF ?_ | refine bT ?_ | refine dK ?_ | refine cR ?_ | refine cK ?_ | refine wK ?_); conv => whnf)
  refine callX_pure (clockRight_ok l h) ?_
  conv => whnf
  refine bcase_f (by simp [clockB_t.2 hR]) ?_
  conv => whnf
  repeat ((first | refine bF ?_ | refine bT ?_ | refine dK ?_ | refine cR ?_ | refine cK ?_ | refine wK ?_); conv => whnf)
  have hj : ∃ j, ∃ hj : j < l.length, l[j].2.1 = 0 := by
    obtain ⟨e1, e2, e3, h2, e4⟩ := hS.out
    have := e3 a2 e2 h2
    exact ⟨a2, e2, by rw [← this.2]; exact e4⟩
  obtain ⟨j, hj, lj⟩ := hj
  refine callX_pure (containsFunc_ok l (by omega)) ?_
  conv => whnf
  have hlo : ¬ looseAt l 0 < 0 := fun e => looseAt_no e j hj lj
  refine bcase_f (by simp; omega) ?_
  conv => whnf
  repeat ((first | refine bF ?_ | refine bT ?_ | refine dK ?_ | refine cR ?_ | refine cK ?_ | refine wK ?_); conv => whnf)
  refine callX_own (cloneF_ok l (by omega)) ?_
  conv => whnf
  repeat ((first | refine bF ?_ | refine bT ?_ | refine dK ?_ | refine cR ?_ | refine cK ?_ | refine wK ?_); conv => whnf)
  refine aloop (ι := List Fr × Nat) (fun s => [(1, .ptr 1 0 0), (2, .ptr 2 0 0), (5, .d (.fn 179 [])), (6, .d (.int .i64 s.2))]) (fun s => [(1, .box [.own 19, .d (.int .i64 h)] false), (2, .box [.nil, .d (.int .i64 0)] false), (19, .row (s.1.map encF) 3 false)])
    (fun s => s.1.length = l.length ∧ s.2 < l.length ∧ Swp s.1 s.2 l2 a2 ∧ ∃ hj : j < s.1.length, s.1[j].2.1 = 0) (fun s => mSw j s.1 s.2) (l, h) ⟨rfl, by simp only []; omega, hS, hj, lj⟩ (le0 (le_of_cov ⟨rfl, rfl, rfl, rfl, trivial⟩ ⟨rfl, rfl, rfl, trivial⟩ ⟨rfl, rfl, rfl, rfl⟩)) ?_
  rintro ⟨l', a⟩ ⟨el, ha, hS, hj', lj'⟩
  simp only at el ha hS hj' lj' ⊢
  have ha' : a < l'.length := by omega
  have hm : (l'.map encF).length = l'.length := List.length_map ..
  conv => whnf
  repeat ((first | refine bF ?_ | refine bT ?_ | refine dK ?_ | refine cR ?_ | refine cK ?_ | refine wK ?_); conv => whnf)
  refine idxK_nat (by omega) ?_
  conv => whnf
  refine getRow_of (x := encF l'[a]) (by simp [ha']) ?_
  conv => whnf
  repeat ((first | refine bF ?_ | refine bT ?_ | refine dK ?_ | refine cR ?_ | refine cK ?_ | refine wK ?_); conv => whnf)
  refine callX_pure (loose_ok l'[a]) ?_
  conv => whnf
  have hmod : (((a : Int) + 1) % (l'.map encF).length : Int) = (((a + 1) % l'.length : Nat) : Int) := by rw [hm]; norm_cast
  refine bcase_n (fun h1 => ?_) (fun h1 => ?_) <;> conv => whnf
  · have hns : ¬ (l'[a].2.1 = 0 ∧ l'[a].2.2 = false) := fun e => h1 e.1
    have hp : pass l' a ha' = l' := if_neg h1
    have hr : Swp l' ((a + 1) % l'.length) l2 a2 := by
      cases hS with
      | stop _ _ h e1 e2 => exact absurd e1 h1
      | go _ _ h _ _ hn r => rw [hp] at r; exact r
    have hd := mSw_dec ha' hj' lj' hns
    rw [hp] at hd
    repeat ((first | refine bF ?_ | refine bT ?_ | refine dK ?_ | refine cR ?_ | refine cK ?_ | refine wK ?_); conv => whnf)
    refine idxK_nat (by omega) ?_
    conv => whnf
    refine getRow_of (x := encF l'[a]) (by simp [ha']) ?_
    conv => whnf
    repeat ((first | refine bF ?_ | refine bT ?_ | refine dK ?_ | refine cR ?_ | refine cK ?_ | refine wK ?_); conv => whnf)
    refine callX_pure (loose_ok l'[a]) ?_
    conv => whnf
    refine bcase_f (by simp [h1]) ?_
    conv => whnf
    repeat ((first | refine bF ?_ | refine bT ?_ | refine dK ?_ | refine cR ?_ | refine cK ?_ | refine wK ?_); conv => whnf)
    refine divK_rem (by omega) (by omega) ?_
    conv => whnf
    rw [hmod]
    repeat ((first | refine bF ?_ | refine bT ?_ | refine dK ?_ | refine cR ?_ | refine cK ?_ | refine wK ?_); conv => whnf)
    exact ⟨(l', (a + 1) % l'.length), ⟨el, by simp only []; rw [← el]; exact Nat.mod_lt _ (by omega), hr, hj', lj'⟩, hd, le0 (le_of_cov ⟨rfl, rfl, rfl, rfl, trivial⟩ ⟨rfl, rfl, rfl, trivial⟩ ⟨rfl, rfl, rfl, rfl⟩)⟩
  · repeat ((first | refine bF ?_ | refine bT ?_ | refine dK ?_ | refine cR ?_ | refine cK ?_ | refine wK ?_); conv => whnf)
    refine idxK_nat (by omega) ?_
    conv => whnf
    refine getRow_of (x := encF l'[a]) (by simp [ha']) ?_
    conv => whnf
    repeat ((first | refine bF ?_ | refine bT ?_ | refine dK ?_ | refine cR ?_ | refine cK ?_ | refine wK ?_); conv => whnf)
    refine bcase_intro (fun h2 => ?_) (fun h2 => ?_) <;> conv => whnf
    · have hns : ¬ (l'[a].2.1 = 0 ∧ l'[a].2.2 = false) := fun e => by rw [h2] at e; cases e.2
      have hp : pass l' a ha' = l'.set a (clr l'[a]) := if_pos h1
      have hr : Swp (l'.set a (clr l'[a])) ((a + 1) % l'.length) l2 a2 := by
        cases hS with
        | stop _ _ h e1 e2 => rw [h2] at e2; cases e2
        | go _ _ h _ _ hn r => rw [hp] at r; exact r
      have hd := mSw_dec ha' hj' lj' hns
      have hg := pass_get (h := ha') hj'
      have hm2 : ((l'.map encF).set a (encF (clr l'[a]))).length = l'.length := by rw [List.length_set, hm]
      repeat ((first | refine bF ?_ | refine bT ?_ | refine dK ?_ | refine cR ?_ | refine cK ?_ | refine wK ?_); conv => whnf)
      refine idxK_nat (by omega) ?_
      conv => whnf
      refine getRow_of (x := encF l'[a]) (by simp [ha']) ?_
      conv => whnf
      repeat ((first | refine bF ?_ | refine bT ?_ | refine dK ?_ | refine cR ?_ | refine cK ?_ | refine wK ?_); conv => whnf)
      refine callX_pure (loose_ok l'[a]) ?_
      conv => whnf
      refine bcase_t (by simp [h1]) ?_
      conv => whnf
      repeat ((first | refine bF ?_ | refine bT ?_ | refine dK ?_ | refine cR ?_ | refine cK ?_ | refine wK ?_); conv => whnf)
      refine idxK_nat (by omega) ?_
      conv => whnf
      refine getRow_of (x := encF l'[a]) (by simp [ha']) ?_
      conv => whnf
      repeat ((first | refine bF ?_ | refine bT ?_ | refine dK ?_ | refine cR ?_ | refine cK ?_ | refine wK ?_); conv => whnf)
      refine divK_rem (by show ((List.set _ _ _).length : Int) ≠ 0; rw [List.length_set]; omega) (by omega) ?_
      conv => whnf
      repeat ((first | refine bF ?_ | refine bT ?_ | refine dK ?_ | refine cR ?_ | refine cK ?_ | refine wK ?_); conv => whnf)
      refine ⟨(l'.set a (clr l'[a]), (a + 1) % l'.length), ⟨by simp only []; rw [List.length_set]; exact el, by simp only []; rw [← el]; exact Nat.mod_lt _ (by omega), hr, by rw [List.length_set]; exact hj', ?_⟩, by simp only []; rw [hp] at hd; exact hd, le0 (le_of_cov ⟨rfl, rfl, rfl, by
        show AV.d (.int .i64 (((a : Int) + 1) % ((List.set (l'.map encF) a _).length : Int))) = AV.d (.int .i64 (((a + 1) % l'.length : Nat) : Int)); rw [List.length_set, hmod], trivial⟩ ⟨rfl, rfl, by
        show some (Blk.row ((l'.map encF).set a (encF (clr l'[a]))) 3 false) = _; rw [List.map_set], trivial⟩ ⟨rfl, rfl, rfl, rfl⟩)⟩
      have hg2 := hg.2
      simp only [hp] at hg2
      rw [hg2]; exact lj'
    · have hst : l' = l2 ∧ a = a2 := by
        cases hS with
        | stop _ _ h e1 e2 => exact ⟨rfl, rfl⟩
        | go _ _ h _ _ hn r => exact absurd ⟨h1, h2⟩ hn
      obtain ⟨rfl, rfl⟩ := hst
      repeat ((first | refine bF ?_ | refine bT ?_ | refine dK ?_ | refine cR ?_ | refine cK ?_ | refine wK ?_); conv => whnf)
      refine divK_rem (by omega) (by omega) ?_
      conv => whnf
      rw [hmod, el]
      repeat ((first | refine bF ?_ | refine bT ?_ | refine dK ?_ | refine cR ?_ | refine cK ?_ | refine wK ?_); conv => whnf)
      exact ret_of rfl rfl
end Go.Lk

namespace Go.Lk.Dt
open Go Go.Proofs Go.RowKit Go.Lk
def pageB (n : Int) : Bool := decide (1 ≤ n) && decide (n ≤ 16)
def timeB (n : Int) : Bool := decide (0 ≤ n) && decide (n ≤ 2147483647)
theorem isPage_ok (n : Int) : ACall Tryz.prog 100 [.int .i64 n] (.bool (pageB n)) := by
  refine acall_of Tryz.func100 1 rfl (by kernel_rfl) ?_
  conv => whnf
  refine bcase_p (fun h => ?_) (fun h => ?_) <;> conv => whnf
  · exact ret_of rfl (by simp [pageB, h])
  · exact ret_of rfl (by simp [pageB, h])
theorem isTime_ok (n : Int) : ACall Tryz.prog 101 [.int .i64 n] (.bool (timeB n)) := by
  refine acall_of Tryz.func101 1 rfl (by kernel_rfl) ?_
  conv => whnf
  refine bcase_p (fun h => ?_) (fun h => ?_) <;> conv => whnf
  · exact ret_of rfl (by simp [timeB, h])
  · exact ret_of rfl (by simp [timeB, h])

def placeG (l : List (Int × Int)) (n : Int) (k : Nat) : Int :=
  match l with
  | [] => -1
  | p :: r => if p.1 = n then (k : Int) else placeG r n (k + 1)

theorem place_ok (l : List (Int × Int)) (n : Int) (hl : l.length ≤ 1000000) : ACall Tryz.prog 102 [encIs l, .int .i64 n] (.int .i64 (placeG l n 0)) := by
  refine acall_of Tryz.func102 2 rfl (by kernel_rfl) ?_
  conv => whnf
  refine aloop (ι := Nat) (fun k => [(1, .d (.int .i64 n)), (7, .d (encIs l)), (8, .d (.int .i64 (l.map encI).length)), (9, .d (.int .i64 k))]) (fun _ => [])
    (fun k => k ≤ l.length ∧ placeG (l.drop k) n k = placeG l n 0) (fun k => l.length - k) 0 ⟨Nat.zero_le _, rfl⟩ (le0 (le_of_cov ⟨rfl, rfl, rfl, rfl, trivial⟩ trivial ⟨rfl, rfl, rfl, rfl⟩)) ?_
  rintro k ⟨hk, hR⟩
  conv => whnf
  refine bcase_p (fun h => ?_) (fun h => ?_) <;> conv => whnf
  · have hk2 : k < l.length := by simpa using h
    refine idxK_nat (by simpa using hk2) ?_
    conv => whnf
    refine getRow_of (x := encI l[k]) (by simp [hk2]) ?_
    conv => whnf
    refine condK_of rfl ?_
    conv => whnf
    refine condK_of rfl ?_
    conv => whnf
    rw [drop_cons hk2, placeG] at hR
    refine bcase_p (fun h2 => ?_) (fun h2 => ?_) <;> conv => whnf
    · rw [if_pos h2] at hR
      exact ret_of rfl (by rw [← hR]; rfl)
    · rw [if_neg h2] at hR
      refine wrapK_in (w64 (by omega) (by omega)) ?_
      conv => whnf
      exact ⟨k + 1, ⟨by omega, hR⟩, by omega, le0 (le_of_cov ⟨rfl, rfl, rfl, rfl, trivial⟩ trivial ⟨rfl, rfl, rfl, rfl⟩)⟩
  · have : k = l.length := by simp at h; omega
    subst this
    simp [placeG] at hR
    exact ret_of rfl (by rw [← hR]; rfl)

def okAt (l : List (Int × Int)) (i : Nat) : Bool :=
  match l[i]? with
  | none => true
  | some p => pageB p.1 && timeB p.2 && !(decide (0 ≤ placeG (l.take i) p.1 0)) && !(decide (0 < i) && decide (p.2 < (l[i-1]?.getD (0,0)).2))
def rightB (l : List (Int × Int)) : Bool := decide (l.length ≤ 16) && (List.range l.length).all (okAt l)
theorem rightB_no {l : List (Int × Int)} {k : Nat} (hk : k < l.length) (h : okAt l k = false) : rightB l = false := by
  unfold rightB
  have : (List.range l.length).all (okAt l) = false := by
    rw [List.all_eq_false]
    exact ⟨k, by simpa using hk, by simp [h]⟩
  rw [this]; simp

theorem right_ok (l : List (Int × Int)) (hl : l.length ≤ 1000000) : ACall Tryz.prog 60 [encIs l] (.bool (rightB l)) := by
  refine acall_of Tryz.func60 1 rfl (by kernel_rfl) ?_
  conv => whnf
  refine bcase_p (fun h0 => ?_) (fun h0 => ?_) <;> conv => whnf
  · simp at h0
    exact ret_of rfl (by simp [rightB]; omega)
  have hlen : l.length ≤ 16 := by simp at h0; omega
  refine aloop (ι := Nat) (fun k => [(0, .d (encIs l)), (8, .d (encIs l)), (9, .d (.int .i64 (l.map encI).length)), (10, .d (.int .i64 k))]) (fun _ => [])
    (fun k => k ≤ l.length ∧ ∀ j, j < k → okAt l j = true) (fun k => l.length - k) 0 ⟨Nat.zero_le _, fun j h => absurd h (Nat.not_lt_zero _)⟩ (le0 (le_of_cov ⟨rfl, rfl, rfl, rfl, trivial⟩ trivial ⟨rfl, rfl, rfl, rfl⟩)) ?_
  rintro k ⟨hk, hR⟩
  conv => whnf
  refine bcase_p (fun h => ?_) (fun h => ?_) <;> conv => whnf
  · have hk2 : k < l.length := by simpa using h
    have hat : okAt l k = (pageB l[k].1 && timeB l[k].2 && !(decide (0 ≤ placeG (l.take k) l[k].1 0)) && !(decide (0 < k) && decide (l[k].2 < (l[k-1]?.getD (0,0)).2))) := by simp [okAt, hk2]
    refine idxK_nat (by simpa using hk2) ?_
    conv => whnf
    refine getRow_of (x := encI l[k]) (by simp [hk2]) ?_
    conv => whnf
    refine condK_of rfl ?_
    conv => whnf
    refine condK_of rfl ?_
    conv => whnf
    refine callX_pure (isPage_ok _) ?_
    conv => whnf
    refine bcase_intro (fun h1 => ?_) (fun h1 => ?_) <;> conv => whnf
    · simp at h1
      exact ret_of rfl (congrArg D.bool (rightB_no hk2 (by rw [hat, h1]; rfl)).symm)
    refine condK_of rfl ?_
    conv => whnf
    refine callX_pure (isTime_ok _) ?_
    conv => whnf
    refine bcase_intro (fun h2 => ?_) (fun h2 => ?_) <;> conv => whnf
    · simp at h2
      exact ret_of rfl (congrArg D.bool (rightB_no hk2 (by rw [hat, h2]; simp)).symm)
    simp at h1 h2
    refine condK_of (fun e he => encI_len he) ?_
    conv => whnf
    refine sliceK_hi (by simpa using Nat.le_of_lt hk2) ?_
    conv => whnf
    refine condK_of rfl ?_
    conv => whnf
    refine callX_pure (d := .int .i64 (placeG (l.take k) l[k].1 0)) (by simpa [encIs, List.map_take] using place_ok (l.take k) l[k].1 (by simp; omega)) ?_
    conv => whnf
    refine condK_of rfl ?_
    conv => whnf
    refine bcase_p (fun h3 => ?_) (fun h3 => ?_) <;> conv => whnf
    · exact ret_of rfl (congrArg D.bool (rightB_no hk2 (by rw [hat]; simp [h3])).symm)
    refine bcase_p (fun h4 => ?_) (fun h4 => ?_) <;> conv => whnf
    · repeat ((first | refine bF ?_ | refine bT ?_ | refine dK ?_ | refine cR ?_ | refine cK ?_ | refine wK ?_); conv => whnf)
      refine idxK_int (by omega) (by simp; omega) ?_
      conv => whnf
      refine getRow_of (x := encI l[k-1]) (by rw [show ((k:Int) - 1).toNat = k - 1 by omega]; simp [show k - 1 < l.length by omega]) ?_
      conv => whnf
      repeat ((first | refine bF ?_ | refine bT ?_ | refine dK ?_ | refine cR ?_ | refine cK ?_ | refine wK ?_); conv => whnf)
      refine bcase_p (fun h5 => ?_) (fun h5 => ?_) <;> conv => whnf
      · refine ret_of rfl ?_
        rw [rightB_no hk2 (by rw [hat]; simp [show k - 1 < l.length by omega, h5]; intros; omega)]
        rfl
      repeat ((first | refine bF ?_ | refine bT ?_ | refine dK ?_ | refine cR ?_ | refine cK ?_ | refine wK ?_); conv => whnf)
      have hok : okAt l k = true := by
        have : k - 1 < l.length := by omega
        simp at h3
        rw [hat]; simp [h1, h2, h3, this]; right; omega
      exact ⟨k + 1, ⟨by omega, fun j hj => (Nat.lt_succ_iff_lt_or_eq.1 hj).elim (hR j) (fun e => e ▸ hok)⟩, by omega, le0 (le_of_cov ⟨rfl, rfl, rfl, rfl, trivial⟩ trivial ⟨rfl, rfl, rfl, rfl⟩)⟩
    · repeat ((first | refine bF ?_ | refine bT ?_ | refine dK ?_ | refine cR ?_ | refine cK ?_ | refine wK ?_); conv => whnf)
      have hok : okAt l k = true := by
        have hk0 : decide (0 < k) = false := by simp; omega
        simp at h3
        rw [hat, h1, h2, hk0]; simp [h3]
      exact ⟨k + 1, ⟨by omega, fun j hj => (Nat.lt_succ_iff_lt_or_eq.1 hj).elim (hR j) (fun e => e ▸ hok)⟩, by omega, le0 (le_of_cov ⟨rfl, rfl, rfl, rfl, trivial⟩ trivial ⟨rfl, rfl, rfl, rfl⟩)⟩
  · have : k = l.length := by simp at h; omega
    subst this
    refine ret_of rfl ?_
    have : (List.range l.length).all (okAt l) = true := by
      rw [List.all_eq_true]
      exact fun x hx => hR x (by simpa using hx)
    simp [rightB, hlen]
    simpa using this
end Go.Lk.Dt

namespace Go.Lk.Dt
open Go Go.Proofs Go.RowKit Go.Lk

theorem rightB_out {l : List (Int × Int)} (h : rightB l = true) : l.length ≤ 16 ∧ ∀ k (hk : k < l.length), okAt l k = true ∧ 1 ≤ l[k].1 ∧ l[k].1 ≤ 16 ∧ 0 ≤ l[k].2 ∧ l[k].2 ≤ 2147483647 := by
  simp only [rightB, Bool.and_eq_true, decide_eq_true_eq, List.all_eq_true, List.mem_range] at h
  refine ⟨h.1, fun k hk => ⟨h.2 k hk, ?_⟩⟩
  have := h.2 k hk
  simp [okAt, hk, pageB, timeB] at this
  omega

def dueF (now age : Int) (it : Int × Int) : Option Int := if age ≤ now - it.2 then some it.1 else none
def dueG (l : List (Int × Int)) (now age : Int) : List Int := if age < 0 ∨ now < 0 ∨ rightB l = false then [] else l.filterMap (dueF now age)

/-! since -/
theorem placeG_lt {l : List (Int × Int)} {n : Int} : ∀ {k : Nat}, placeG l n k < 0 ∨ ∃ i : Nat, placeG l n k = ((k + i : Nat) : Int) ∧ ∃ h : i < l.length, l[i].1 = n := by
  induction l with
  | nil => intro k; exact .inl (show (-1 : Int) < 0 by decide)
  | cons p r ih =>
    intro k
    simp only [placeG]
    by_cases h : p.1 = n
    · exact .inr ⟨0, by simp [h], by simp, by simpa using h⟩
    · rw [if_neg h]
      rcases ih (k := k + 1) with h1 | ⟨i, h1, h2, h3⟩
      · exact .inl h1
      · exact .inr ⟨i + 1, by rw [h1]; simp; omega, by simpa using h2, by simpa using h3⟩

def sinceG (l : List (Int × Int)) (n : Int) : Int × Bool :=
  if rightB l = false ∨ placeG l n 0 < 0 then (0, false) else ((l[(placeG l n 0).toNat]?.getD (0, 0)).2, true)
theorem since_ok (l : List (Int × Int)) (n : Int) (hl : l.length ≤ 1000000) : ACall Tryz.prog 84 [encIs l, .int .i64 n] (.tup [.int .i64 (sinceG l n).1, .bool (sinceG l n).2]) := by
  refine acall_of Tryz.func84 2 rfl (by kernel_rfl) ?_
  conv => whnf
  refine callX_pure (right_ok l hl) ?_
  conv => whnf
  refine bcase_intro (fun h => ?_) (fun h => ?_) <;> conv => whnf
  · simp at h
    exact ret_of rfl (by simp [sinceG, h]; rfl)
  refine callX_pure (place_ok l n hl) ?_
  conv => whnf
  refine bcase_p (fun h1 => ?_) (fun h1 => ?_) <;> conv => whnf
  · exact ret_of rfl (by simp [sinceG, h1]; rfl)
  simp at h
  obtain h2 | ⟨i, h2, h3, h4⟩ := placeG_lt (l := l) (n := n) (k := 0)
  · exact absurd h2 h1
  rw [Nat.zero_add] at h2
  refine idxK_int (by omega) (by rw [h2]; simp; omega) ?_
  conv => whnf
  refine getRow_of (x := encI l[i]) (by rw [h2]; simp [h3]) ?_
  conv => whnf
  repeat ((first | refine bF ?_ | refine bT ?_ | refine dK ?_ | refine cR ?_ | refine cK ?_ | refine wK ?_); conv => whnf)
  exact ret_of rfl (by simp [sinceG, h, h2, h3, show ¬ ((i : Int) < 0) by omega]; rfl)

end Go.Lk.Dt

namespace Go.Lk.Dt
open Go Go.Proofs Go.RowKit Go.Lk

def lateB (l : List (Int × Int)) (t : Int) : Bool := decide (0 < l.length) && decide (t < (l[l.length - 1]?.getD (0, 0)).2)
def markG (l : List (Int × Int)) (p t : Int) : List (Int × Int) × Int :=
  if rightB l = false ∨ pageB p = false ∨ timeB t = false then (l, 1)
  else if lateB l t = true then (l, 1)
  else if 0 ≤ placeG l p 0 then (l, 0) else (l ++ [(p, t)], 0)

theorem mark_ok (l : List (Int × Int)) (p t : Int) (hl : l.length ≤ 1000000) : ACall Tryz.prog 133 [encIs l, .int .i64 p, .int .i64 t] (.tup [encIs (markG l p t).1, .int .i64 (markG l p t).2]) := by
  refine acall_of Tryz.func133 3 rfl (by kernel_rfl) ?_
  conv => whnf
  refine callX_pure (right_ok l hl) ?_
  conv => whnf
  refine bcase_intro (fun h1 => ?_) (fun h1 => ?_) <;> conv => whnf
  · simp at h1
    exact ret_of rfl (by simp [markG, h1]; rfl)
  simp at h1
  refine callX_pure (isPage_ok p) ?_
  conv => whnf
  refine bcase_intro (fun h2 => ?_) (fun h2 => ?_) <;> conv => whnf
  · simp at h2
    exact ret_of rfl (by simp [markG, h2]; rfl)
  simp at h2
  refine callX_pure (isTime_ok t) ?_
  conv => whnf
  refine bcase_intro (fun h3 => ?_) (fun h3 => ?_) <;> conv => whnf
  · simp at h3
    exact ret_of rfl (by simp [markG, h3]; rfl)
  simp at h3
  obtain ⟨hlen, hR⟩ := rightB_out h1
  have hm : (l.map encI).length = l.length := List.length_map ..
  refine bcase_p (fun h4 => ?_) (fun h4 => ?_) <;> conv => whnf
  · simp at h4
    repeat ((first | refine bF ?_ | refine bT ?_ | refine dK ?_ | refine cR ?_ | refine cK ?_ | refine wK ?_); conv => whnf)
    refine idxK_int (by omega) (by omega) ?_
    conv => whnf
    refine getRow_of (x := encI l[l.length - 1]) (by rw [show (((l.map encI).length : Int) - 1).toNat = l.length - 1 by omega]; simp [show l.length - 1 < l.length by omega]) ?_
    conv => whnf
    repeat ((first | refine bF ?_ | refine bT ?_ | refine dK ?_ | refine cR ?_ | refine cK ?_ | refine wK ?_); conv => whnf)
    refine bcase_p (fun h5 => ?_) (fun h5 => ?_) <;> conv => whnf
    · have : lateB l t = true := by simp [lateB, show l.length - 1 < l.length by omega, h4, h5]
      exact ret_of rfl (by simp [markG, this, h1, h2, h3]; rfl)
    have h6 : lateB l t = false := by simp [lateB, show l.length - 1 < l.length by omega]; omega
    refine callX_pure (place_ok l p hl) ?_
    conv => whnf
    refine bcase_p (fun h7 => ?_) (fun h7 => ?_) <;> conv => whnf
    · exact ret_of rfl (by simp [markG, h6, h1, h2, h3, h7]; rfl)
    repeat ((first | refine bF ?_ | refine bT ?_ | refine dK ?_ | refine cR ?_ | refine cK ?_ | refine wK ?_); conv => whnf)
    refine roomK_le 1000100 100 (by omega) (by decide) (by decide) (by decide) ?_
    conv => whnf
    refine condK_of (encI_ok l) ?_
    conv => whnf
    refine roomK_le 1000100 100 (by show 0 + List.length _ ≤ 1000100; omega) (by decide) (by decide) (by decide) ?_
    conv => whnf
    repeat ((first | refine bF ?_ | refine bT ?_ | refine dK ?_ | refine cR ?_ | refine cK ?_ | refine wK ?_); conv => whnf)
    refine roomK_le 1000100 100 (by show List.length _ + 1 ≤ 1000100; simp; omega) (by decide) (by decide) (by decide) ?_
    conv => whnf
    exact ret_of rfl (by simp [markG, h6, h1, h2, h3, h7, encIs]; rfl)
  · simp at h4
    have h6 : lateB l t = false := by simp [lateB, h4]
    refine callX_pure (place_ok l p hl) ?_
    conv => whnf
    refine bcase_p (fun h7 => ?_) (fun h7 => ?_) <;> conv => whnf
    · exact ret_of rfl (by simp [markG, h6, h1, h2, h3, h7]; rfl)
    repeat ((first | refine bF ?_ | refine bT ?_ | refine dK ?_ | refine cR ?_ | refine cK ?_ | refine wK ?_); conv => whnf)
    refine roomK_le 1000100 100 (by omega) (by decide) (by decide) (by decide) ?_
    conv => whnf
    refine condK_of (encI_ok l) ?_
    conv => whnf
    refine roomK_le 1000100 100 (by show 0 + List.length _ ≤ 1000100; omega) (by decide) (by decide) (by decide) ?_
    conv => whnf
    repeat ((first | refine bF ?_ | refine bT ?_ | refine dK ?_ | refine cR ?_ | refine cK ?_ | refine wK ?_); conv => whnf)
    refine roomK_le 1000100 100 (by show List.length _ + 1 ≤ 1000100; simp; omega) (by decide) (by decide) (by decide) ?_
    conv => whnf
    exact ret_of rfl (by simp [markG, h6, h1, h2, h3, h7, encIs]; rfl)
end Go.Lk.Dt

namespace Go.Lk.Dt
open Go Go.Proofs Go.RowKit Go.Lk

theorem erase_snoc {α : Type} {l : List α} {i : Nat} {x : α} : (l ++ [x]).eraseIdx i = if i = l.length then l else l.eraseIdx i ++ [x] := by
  by_cases h : i = l.length
  · subst h; simp [List.eraseIdx_append_of_length_le]
  · rw [if_neg h]
    by_cases h2 : i < l.length
    · rw [List.eraseIdx_append_of_lt_length h2]
    · rw [List.eraseIdx_of_length_le (by simp; omega), List.eraseIdx_of_length_le (by omega)]

def cleanG (l : List (Int × Int)) (p : Int) : List (Int × Int) × Int :=
  if rightB l = false then (l, 1) else if placeG l p 0 < 0 then (l, 3) else (l.eraseIdx (placeG l p 0).toNat, 0)

theorem clean_ok (l : List (Int × Int)) (p : Int) (hl : l.length ≤ 1000000) : ACall Tryz.prog 151 [encIs l, .int .i64 p] (.tup [encIs (cleanG l p).1, .int .i64 (cleanG l p).2]) := by
  refine acall_of Tryz.func151 2 rfl (by kernel_rfl) ?_
  conv => whnf
  refine callX_pure (right_ok l hl) ?_
  conv => whnf
  refine bcase_intro (fun h1 => ?_) (fun h1 => ?_) <;> conv => whnf
  · simp at h1
    exact ret_of rfl (by simp [cleanG, h1]; rfl)
  simp at h1
  refine callX_pure (place_ok l p hl) ?_
  conv => whnf
  refine bcase_p (fun h2 => ?_) (fun h2 => ?_) <;> conv => whnf
  · exact ret_of rfl (by simp [cleanG, h1, h2]; rfl)
  obtain h3 | ⟨i, h3, h4, h5⟩ := placeG_lt (l := l) (n := p) (k := 0)
  · exact absurd h3 h2
  rw [Nat.zero_add] at h3
  have hm : (l.map encI).length = l.length := List.length_map ..
  obtain ⟨hlen, hR⟩ := rightB_out h1
  have hc : cleanG l p = (l.eraseIdx i, 0) := by simp [cleanG, h1, h3]
  rw [hc]
  refine aloop (ι := Nat) (fun k => [(6, .d (.int .i64 i)), (7, .own 33), (20, .d (encIs l)), (21, .d (.int .i64 (l.map encI).length)), (22, .d (.int .i64 k))]) (fun k => [(33, .row (((l.take k).eraseIdx i).map encI) 2 false)])
    (fun k => k ≤ l.length) (fun k => l.length - k) 0 (Nat.zero_le _) (le1 (.row 7 33 2) ⟨rfl, rfl⟩ (le_of_cov ⟨by rw [← h3]; rfl, rfl, rfl, rfl, rfl, trivial⟩ ⟨rfl, trivial⟩ ⟨rfl, rfl, rfl, rfl⟩)) ?_
  intro k hk
  conv => whnf
  refine bcase_p (fun h => ?_) (fun h => ?_) <;> conv => whnf
  · have hk2 : k < l.length := by simpa using h
    refine idxK_nat (by simpa using hk2) ?_
    conv => whnf
    refine getRow_of (x := encI l[k]) (by simp [hk2]) ?_
    conv => whnf
    repeat ((first | refine bF ?_ | refine bT ?_ | refine dK ?_ | refine cR ?_ | refine cK ?_ | refine wK ?_); conv => whnf)
    have hmin : min k l.length = k := by omega
    refine bcase_n (fun h6 => ?_) (fun h6 => ?_) <;> conv => whnf
    · repeat ((first | refine bF ?_ | refine bT ?_ | refine dK ?_ | refine cR ?_ | refine cK ?_ | refine wK ?_); conv => whnf)
      refine roomK_le 1000100 100 (by show List.length _ + 1 ≤ 1000100; have := List.length_eraseIdx_le (l.take k) i; simp at this ⊢; omega) (by decide) (by decide) (by decide) ?_
      conv => whnf
      repeat ((first | refine bF ?_ | refine bT ?_ | refine dK ?_ | refine cR ?_ | refine cK ?_ | refine wK ?_); conv => whnf)
      exact ⟨k + 1, by omega, by omega, le0 (le_of_cov ⟨rfl, rfl, rfl, rfl, rfl, trivial⟩ ⟨by
        rw [take_snoc hk2, erase_snoc, if_neg (by simp [hmin]; omega), List.map_append]; rfl, trivial⟩ ⟨rfl, rfl, rfl, rfl⟩)⟩
    · repeat ((first | refine bF ?_ | refine bT ?_ | refine dK ?_ | refine cR ?_ | refine cK ?_ | refine wK ?_); conv => whnf)
      exact ⟨k + 1, by omega, by omega, le0 (le_of_cov ⟨rfl, rfl, rfl, rfl, rfl, trivial⟩ ⟨by
        rw [take_snoc hk2, erase_snoc, if_pos (by simp [hmin]; omega), List.eraseIdx_of_length_le (by simp [hmin]; omega)]; rfl, trivial⟩ ⟨rfl, rfl, rfl, rfl⟩)⟩
  · have : k = l.length := by simp at h; omega
    subst this
    exact ret_of rfl (by rw [List.take_length]; rfl)

def thereB (l : List (Int × Int)) (p : Nat) : Bool := l.any fun x => x.1 == (p : Int)
def cellB (b : Bool) : AV := if b then .tt else .d (.bool false)
def thereA (l : List (Int × Int)) : List AV := (List.range 17).map fun p => cellB (thereB l p)
def lastG (l : List (Int × Int)) (k : Nat) : Int := if k = 0 then 0 else (l[k-1]?.getD (0, 0)).2
theorem killC_cellB (b : Nat) : ∀ (f : Nat → Bool) (r : List Nat), killB.cells b (r.map fun p => cellB (f p)) = r.map fun p => cellB (f p)
  | _, [] => rfl
  | f, x :: r => by
    simp only [List.map_cons, killB.cells, killC_cellB b f r]
    congr 1
    unfold cellB; cases f x <;> rfl
theorem killC_there (b : Nat) (l : List (Int × Int)) : killB.cells b (thereA l) = thereA l := killC_cellB b _ _
theorem thereB_place {l : List (Int × Int)} {p : Nat} : ∀ {k : Nat}, thereB l p = true ↔ 0 ≤ placeG l p k := by
  induction l with
  | nil => intro k; exact ⟨fun h => (by cases h), fun h => absurd h (show ¬ (0 ≤ (-1 : Int)) by decide)⟩
  | cons q r ih =>
    intro k
    have h := ih (k := k + 1)
    simp only [thereB, List.any_cons, placeG] at h ⊢
    by_cases e : q.1 = p
    · simp [e]
    · rw [if_neg e, ← h]; simp [e]
theorem there_set {l : List (Int × Int)} {x : Int × Int} {n : Nat} (hx : x.1 = n) : (thereA l).set n .tt = thereA (l ++ [x]) := by
  apply List.ext_getElem (by simp [thereA])
  intro i h1 h2
  simp only [thereA, List.getElem_set, List.getElem_map, List.getElem_range, thereB, List.any_append, List.any_cons, List.any_nil, Bool.or_false]
  by_cases e : n = i
  · subst e; simp [hx, cellB]
  · rw [if_neg e]
    have : (x.1 == (i : Int)) = false := by rw [hx]; simp; omega
    rw [this, Bool.or_false]

end Go.Lk.Dt

namespace Go.Lk.Dt
open Go Go.Proofs Go.RowKit Go.Lk

theorem pig : ∀ (n : Nat) (l : List Nat), l.Nodup → (∀ x ∈ l, x < n) → l.length ≤ n
  | 0, [], _, _ => Nat.le_refl _
  | 0, x :: r, _, h => absurd (h x (List.mem_cons_self ..)) (Nat.not_lt_zero _)
  | n + 1, l, hn, h => by
    by_cases hm : n ∈ l
    · have := pig n (l.erase n) (hn.erase n) fun x hx => by
        have := (hn.mem_erase_iff).1 hx
        have := h x this.2
        omega
      rw [List.length_erase_of_mem hm] at this
      omega
    · have := pig n l hn fun x hx => by
        have := h x hx
        have : x ≠ n := fun e => hm (e ▸ hx)
        omega
      omega

theorem okAt_app {l : List (Int × Int)} {x : Int × Int} {i : Nat} (h : i < l.length) : okAt (l ++ [x]) i = okAt l i := by
  unfold okAt
  rw [List.getElem?_append_left h, List.take_append_of_le_length (Nat.le_of_lt h)]
  cases i with
  | zero => simp
  | succ i => rw [List.getElem?_append_left (by omega)]
theorem okAt_last {l : List (Int × Int)} {x : Int × Int} : okAt (l ++ [x]) l.length = (pageB x.1 && timeB x.2 && !(decide (0 ≤ placeG l x.1 0)) && !(lateB l x.2)) := by
  unfold okAt lateB
  rw [List.getElem?_append_right (Nat.le_refl _)]
  simp only [Nat.sub_self, List.getElem?_cons_zero, List.take_left']
  congr 2
  by_cases h : 0 < l.length
  · rw [List.getElem?_append_left (by omega)]
  · simp [h]
theorem rightB_snoc {l : List (Int × Int)} {x : Int × Int} : rightB (l ++ [x]) = true ↔ rightB l = true ∧ l.length < 16 ∧ pageB x.1 = true ∧ timeB x.2 = true ∧ placeG l x.1 0 < 0 ∧ lateB l x.2 = false := by
  simp only [rightB, Bool.and_eq_true, decide_eq_true_eq, List.all_eq_true, List.mem_range, List.length_append, List.length_cons, List.length_nil]
  constructor
  · rintro ⟨h1, h2⟩
    have h3 := h2 l.length (by omega)
    rw [okAt_last] at h3
    simp at h3
    refine ⟨⟨by omega, fun i hi => ?_⟩, by omega, h3.1.1.1, h3.1.1.2, h3.1.2, h3.2⟩
    rw [← okAt_app hi]
    exact h2 i (by omega)
  · rintro ⟨⟨h1, h2⟩, h3, h4, h5, h6, h7⟩
    refine ⟨by omega, fun i hi => ?_⟩
    by_cases e : i < l.length
    · rw [okAt_app e]; exact h2 i e
    · obtain rfl : i = l.length := by omega
      rw [okAt_last]; simp [h4, h5, h6, h7]
theorem rightB_nil : rightB [] = true := rfl

theorem placeG_mem {l : List (Int × Int)} {n : Int} : ∀ {k : Nat}, 0 ≤ placeG l n k ↔ ∃ x ∈ l, x.1 = n := by
  induction l with
  | nil => intro k; exact ⟨fun h => absurd h (show ¬ (0 ≤ (-1 : Int)) by decide), fun ⟨x, h, _⟩ => by cases h⟩
  | cons p r ih =>
    intro k
    simp only [placeG]
    by_cases h : p.1 = n
    · rw [if_pos h]; exact ⟨fun _ => ⟨p, List.mem_cons_self .., h⟩, fun _ => by omega⟩
    · rw [if_neg h, ih]
      constructor
      · rintro ⟨x, h1, h2⟩; exact ⟨x, List.mem_cons_of_mem _ h1, h2⟩
      · rintro ⟨x, h1, h2⟩
        rcases List.mem_cons.1 h1 with rfl | h1
        · exact absurd h2 h
        · exact ⟨x, h1, h2⟩

/-- induction from the right -/
theorem snocRec {α : Type} {motive : List α → Prop} (h0 : motive []) (h1 : ∀ l x, motive l → motive (l ++ [x])) (l : List α) : motive l := by
  have : ∀ n (l : List α), l.length = n → motive l := by
    intro n
    induction n with
    | zero => intro l h; rw [List.length_eq_zero_iff.1 h]; exact h0
    | succ n ih =>
      intro l h
      have hne : l ≠ [] := fun e => by subst e; cases h
      rw [← List.dropLast_concat_getLast hne]
      exact h1 _ _ (ih _ (by simp [h]))
  exact this _ l rfl

theorem rightB_nodup {l : List (Int × Int)} : rightB l = true → (l.map fun x => x.1.toNat).Nodup ∧ ∀ x ∈ l, 1 ≤ x.1 ∧ x.1 ≤ 16 := by
  refine snocRec (motive := fun l => rightB l = true → (l.map fun x => x.1.toNat).Nodup ∧ ∀ x ∈ l, 1 ≤ x.1 ∧ x.1 ≤ 16) (fun _ => ⟨List.nodup_nil, fun x h => by cases h⟩) (fun l x ih h => ?_) l
  obtain ⟨h1, h2, h3, h4, h5, h6⟩ := rightB_snoc.1 h
  obtain ⟨g1, g2⟩ := ih h1
  have hx : 1 ≤ x.1 ∧ x.1 ≤ 16 := by simpa [pageB] using h3
  refine ⟨?_, fun y hy => ?_⟩
  · rw [List.map_append, List.nodup_append]
    refine ⟨g1, by simp, fun a ha b hb e => ?_⟩
    simp only [List.map_cons, List.map_nil, List.mem_singleton] at hb
    subst hb e
    obtain ⟨y, hy, e⟩ := List.mem_map.1 ha
    have := g2 y hy
    have : 0 ≤ placeG l x.1 0 := placeG_mem.2 ⟨y, hy, by omega⟩
    omega
  · rcases List.mem_append.1 hy with hy | hy
    · exact g2 y hy
    · rw [List.mem_singleton.1 hy]; exact hx

/-- with a page that isn't there, there is room -/
theorem right_room {l : List (Int × Int)} {p : Int} (h : rightB l = true) (hp : pageB p = true) (hn : placeG l p 0 < 0) : l.length < 16 := by
  obtain ⟨h1, h2⟩ := rightB_nodup h
  have hp' : 1 ≤ p ∧ p ≤ 16 := by simpa [pageB] using hp
  have := pig 16 ((p.toNat - 1) :: l.map fun x => x.1.toNat - 1) (by
    rw [List.nodup_cons]
    refine ⟨fun hm => ?_, ?_⟩
    · obtain ⟨y, hy, e⟩ := List.mem_map.1 hm
      have := h2 y hy
      have : 0 ≤ placeG l p 0 := placeG_mem.2 ⟨y, hy, by omega⟩
      omega
    · rw [show (l.map fun x => x.1.toNat - 1) = (l.map fun x => x.1.toNat).map (· - 1) by simp]
      refine List.pairwise_map.2 (h1.imp_of_mem fun {a b} ha hb e => ?_)
      obtain ⟨y, hy, rfl⟩ := List.mem_map.1 ha
      obtain ⟨z, hz, rfl⟩ := List.mem_map.1 hb
      have := h2 y hy
      have := h2 z hz
      omega) (by
    intro x hx
    rcases List.mem_cons.1 hx with rfl | hx
    · omega
    · obtain ⟨y, hy, rfl⟩ := List.mem_map.1 hx
      have := h2 y hy
      omega)
  simp at this
  omega

/-- what a mark does -/
theorem mark_right {l : List (Int × Int)} {p t : Int} (h : (markG l p t).2 = 0) : rightB l = true ∧ pageB p = true ∧ timeB t = true ∧ lateB l t = false ∧
    ((0 ≤ placeG l p 0 ∧ (markG l p t).1 = l) ∨ (placeG l p 0 < 0 ∧ (markG l p t).1 = l ++ [(p, t)])) := by
  unfold markG at h ⊢
  by_cases h1 : rightB l = false ∨ pageB p = false ∨ timeB t = false
  · rw [if_pos h1] at h; cases h
  · rw [if_neg h1] at h ⊢
    by_cases h2 : lateB l t = true
    · rw [if_pos h2] at h; cases h
    · rw [if_neg h2] at h ⊢
      simp at h1 h2
      refine ⟨h1.1, h1.2.1, h1.2.2, h2, ?_⟩
      by_cases h3 : 0 ≤ placeG l p 0
      · rw [if_pos h3]; exact .inl ⟨h3, rfl⟩
      · rw [if_neg h3]; exact .inr ⟨by omega, rfl⟩
theorem mark_keeps {l : List (Int × Int)} {p t : Int} (h : (markG l p t).2 = 0) : rightB (markG l p t).1 = true := by
  obtain ⟨h1, h2, h3, h4, h5 | h5⟩ := mark_right h
  · rw [h5.2]; exact h1
  · rw [h5.2]; exact rightB_snoc.2 ⟨h1, right_room h1 h2 h5.1, h2, h3, h5.1, h4⟩
theorem mark_ok2 {l : List (Int × Int)} {p t : Int} (h1 : rightB l = true) (h2 : pageB p = true) (h3 : timeB t = true) (h4 : lateB l t = false) : (markG l p t).2 = 0 := by
  unfold markG
  rw [if_neg (by simp [h1, h2, h3]), if_neg (by simp [h4])]
  split <;> rfl
theorem placeG_app {l : List (Int × Int)} {x : Int × Int} {n : Int} : ∀ {k : Nat}, placeG l n k < 0 → placeG (l ++ [x]) n k = if x.1 = n then ((k + l.length : Nat) : Int) else -1 := by
  induction l with
  | nil => intro k _; simp only [List.nil_append, placeG, List.length_nil, Nat.add_zero]
  | cons p r ih =>
    intro k h
    simp only [placeG, List.cons_append] at h ⊢
    by_cases e : p.1 = n
    · rw [if_pos e] at h; omega
    · rw [if_neg e] at h ⊢
      rw [ih h]
      simp only [List.length_cons]
      split
      · omega
      · rfl
end Go.Lk.Dt

namespace Go.Lk.Dt
open Go Go.Proofs Go.RowKit Go.Lk

theorem mark_same {l : List (Int × Int)} {p t : Int} (h : (markG l p t).2 ≠ 0 ∨ 0 ≤ placeG l p 0) : (markG l p t).1 = l := by
  unfold markG at h ⊢
  by_cases h1 : rightB l = false ∨ pageB p = false ∨ timeB t = false
  · rw [if_pos h1]
  · rw [if_neg h1] at h ⊢
    by_cases h2 : lateB l t = true
    · rw [if_pos h2]
    · rw [if_neg h2] at h ⊢
      by_cases h3 : 0 ≤ placeG l p 0
      · rw [if_pos h3]
      · rw [if_neg h3] at h
        rcases h with h | h
        · exact absurd rfl h
        · exact absurd h h3
theorem mark_len {l : List (Int × Int)} {p t : Int} : (markG l p t).1.length ≤ l.length + 1 := by
  unfold markG
  split
  · simp
  · split
    · simp
    · split <;> simp
theorem clean_snoc {l : List (Int × Int)} {p t : Int} (h : rightB (l ++ [(p, t)]) = true) (hn : placeG l p 0 < 0) : cleanG (l ++ [(p, t)]) p = (l, 0) := by
  unfold cleanG
  rw [if_neg (by simp [h]), placeG_app hn, if_pos rfl, if_neg (by omega), Nat.zero_add]
  rw [erase_snoc, if_pos (by simp)]

end Go.Lk.Dt

namespace Go.Lk.Dt
open Go Go.Proofs Go.RowKit Go.Lk

def RightP (l : List (Int × Int)) : Prop := l.length ≤ 16 ∧ (∀ x ∈ l, pageB x.1 = true ∧ timeB x.2 = true) ∧ l.Pairwise (fun a b => a.1 ≠ b.1) ∧ l.Pairwise (fun a b => a.2 ≤ b.2)
theorem late_le {l : List (Int × Int)} {t : Int} (hs : l.Pairwise (fun a b => a.2 ≤ b.2)) : lateB l t = false ↔ ∀ a ∈ l, a.2 ≤ t := by
  constructor
  · intro h a ha
    obtain ⟨i, hi, rfl⟩ := List.mem_iff_getElem.1 ha
    have hp : 0 < l.length := by omega
    simp [lateB, show l.length - 1 < l.length by omega] at h
    have h := h hp
    by_cases e : i = l.length - 1
    · subst e; exact h
    · have := List.pairwise_iff_getElem.1 hs i (l.length - 1) hi (by omega) (by omega)
      omega
  · intro h
    simp [lateB]
    intro hp
    rw [List.getElem?_eq_getElem (show l.length - 1 < l.length by omega)]
    exact h _ (List.getElem_mem _)
theorem rightB_iff {l : List (Int × Int)} : rightB l = true ↔ RightP l := by
  refine snocRec (motive := fun l => rightB l = true ↔ RightP l) ⟨fun _ => ⟨by simp, fun x h => (by cases h), .nil, .nil⟩, fun _ => rfl⟩ (fun l x ih => ?_) l
  rw [rightB_snoc, ih]
  unfold RightP
  simp only [List.length_append, List.length_cons, List.length_nil, List.mem_append, List.mem_singleton, List.pairwise_append]
  constructor
  · rintro ⟨⟨h1, h2, h3, h4⟩, h5, h6, h7, h8, h9⟩
    refine ⟨by omega, fun y hy => ?_, ⟨h3, by simp, fun a ha b hb e => ?_⟩, ⟨h4, by simp, fun a ha b hb => ?_⟩⟩
    · rcases hy with hy | rfl
      · exact h2 y hy
      · exact ⟨h6, h7⟩
    · subst hb
      have : 0 ≤ placeG l b.1 0 := placeG_mem.2 ⟨a, ha, e⟩
      omega
    · subst hb; exact (late_le h4).1 h9 a ha
  · rintro ⟨h1, h2, ⟨h3, _, h4⟩, ⟨h5, _, h6⟩⟩
    refine ⟨⟨by omega, fun y hy => h2 y (.inl hy), h3, h5⟩, by omega, (h2 x (.inr rfl)).1, (h2 x (.inr rfl)).2, ?_, (late_le h5).2 fun a ha => h6 a ha x rfl⟩
    by_cases h : 0 ≤ placeG l x.1 0
    · obtain ⟨y, hy, e⟩ := placeG_mem.1 h
      exact absurd e (h4 y hy x rfl)
    · omega

/-- what is due is a beginning -/
theorem pre_of_sorted {T : Int} : ∀ {l : List (Int × Int)}, l.Pairwise (fun a b => a.2 ≤ b.2) → ∃ m, m ≤ l.length ∧ (l.filterMap fun it => if it.2 ≤ T then some it.1 else none) = (l.take m).map (·.1) ∧ ∀ i (h : i < l.length), i < m ↔ l[i].2 ≤ T
  | [], _ => ⟨0, by simp, rfl, fun i h => absurd h (Nat.not_lt_zero _)⟩
  | p :: r, hs => by
    obtain ⟨h1, h2⟩ := List.pairwise_cons.1 hs
    by_cases e : p.2 ≤ T
    · obtain ⟨m, k1, k2, k3⟩ := pre_of_sorted (T := T) h2
      refine ⟨m + 1, by simp; omega, by simp [e, k2], fun i h => ?_⟩
      cases i with
      | zero => simp [e]
      | succ i => simpa using k3 i (by simpa using h)
    · refine ⟨0, by simp, ?_, fun i h => ?_⟩
      · rw [List.take_zero, List.map_nil, List.filterMap_eq_nil_iff]
        intro x hx
        rcases List.mem_cons.1 hx with rfl | hx
        · simp [e]
        · have := h1 x hx; simp; omega
      · cases i with
        | zero => simp; omega
        | succ i =>
          have := h1 _ (List.getElem_mem (show i < r.length by simpa using h))
          simp; omega
theorem due_pre {l : List (Int × Int)} {now age : Int} (hr : rightB l = true) (ha : 0 ≤ age) (hn : 0 ≤ now) :
    ∃ m, m ≤ l.length ∧ dueG l now age = (l.take m).map (·.1) ∧ ∀ i (h : i < l.length), i < m ↔ l[i].2 ≤ now - age := by
  obtain ⟨m, h1, h2, h3⟩ := pre_of_sorted (T := now - age) (rightB_iff.1 hr).2.2.2
  refine ⟨m, h1, ?_, h3⟩
  rw [dueG, if_neg (by simp [hr]; omega), ← h2]
  congr 1
  funext x
  simp only [dueF]
  by_cases e : age ≤ now - x.2
  · rw [if_pos e, if_pos (by omega)]
  · rw [if_neg e, if_neg (by omega)]

/-- since when, by what the list has -/
theorem since_yes {l : List (Int × Int)} {p t : Int} (hr : rightB l = true) (h : (p, t) ∈ l) : sinceG l p = (t, true) := by
  have hp : 0 ≤ placeG l p 0 := placeG_mem.2 ⟨_, h, rfl⟩
  obtain h4 | ⟨i, h4, h5, h6⟩ := placeG_lt (l := l) (n := p) (k := 0)
  · omega
  rw [Nat.zero_add] at h4
  have hi : l[i] = (p, t) := by
    obtain ⟨j, hj, e⟩ := List.mem_iff_getElem.1 h
    have hn := List.pairwise_iff_getElem.1 (rightB_iff.1 hr).2.2.1
    by_cases e1 : i = j
    · subst e1; exact e
    · rcases Nat.lt_or_gt_of_ne e1 with h7 | h7
      · exact absurd (by rw [h6, e]) (hn i j h5 hj h7)
      · exact absurd (by rw [h6, e]) (hn j i hj h5 h7)
  simp [sinceG, hr, h4, h5, hi]
theorem since_no {l : List (Int × Int)} {p : Int} (h : ∀ t, (p, t) ∉ l) : sinceG l p = (0, false) := by
  have : placeG l p 0 < 0 := by
    by_cases e : 0 ≤ placeG l p 0
    · obtain ⟨⟨a, b⟩, hy, rfl⟩ := placeG_mem.1 e
      exact absurd hy (h b)
    · omega
  simp [sinceG, this]
theorem place_no {l : List (Int × Int)} {p : Int} (h : ∀ t, (p, t) ∉ l) : placeG l p 0 < 0 := by
  by_cases e : 0 ≤ placeG l p 0
  · obtain ⟨⟨a, b⟩, hy, rfl⟩ := placeG_mem.1 e
    exact absurd hy (h b)
  · omega
theorem place_yes {l : List (Int × Int)} {p t : Int} (h : (p, t) ∈ l) : 0 ≤ placeG l p 0 := placeG_mem.2 ⟨_, h, rfl⟩

theorem erase_filter {p : Int} : ∀ {l : List (Int × Int)} {i : Nat} (h : i < l.length), l.Pairwise (fun a b => a.1 ≠ b.1) → l[i].1 = p → l.eraseIdx i = l.filter (fun x => x.1 != p)
  | a :: r, 0, _, hn, e => by
    obtain ⟨h1, h2⟩ := List.pairwise_cons.1 hn
    have e : a.1 = p := e
    rw [List.eraseIdx_cons_zero, List.filter_cons_of_neg (by simp [e])]
    exact (List.filter_eq_self.2 fun x hx => by have := h1 x hx; rw [e] at this; simp; exact fun e' => this e'.symm).symm
  | a :: r, i + 1, h, hn, e => by
    obtain ⟨h1, h2⟩ := List.pairwise_cons.1 hn
    have hi : i < r.length := by simpa using h
    have e : r[i].1 = p := by simpa using e
    have := h1 _ (List.getElem_mem hi)
    rw [e] at this
    rw [List.eraseIdx_cons_succ, erase_filter hi h2 e, List.filter_cons_of_pos (by simpa using this)]
theorem right_filter {l : List (Int × Int)} (hr : rightB l = true) (f : Int × Int → Bool) : rightB (l.filter f) = true := by
  obtain ⟨h1, h2, h3, h4⟩ := rightB_iff.1 hr
  refine rightB_iff.2 ⟨Nat.le_trans (List.length_filter_le _ _) h1, fun x hx => h2 x (List.mem_filter.1 hx).1, h3.filter f, h4.filter f⟩
/-- what a clean does, of right items -/
theorem clean_right {l : List (Int × Int)} {p : Int} (hr : rightB l = true) : cleanG l p = if 0 ≤ placeG l p 0 then (l.filter (fun x => x.1 != p), 0) else (l, 3) := by
  unfold cleanG
  rw [if_neg (by simp [hr])]
  by_cases h : 0 ≤ placeG l p 0
  · obtain h4 | ⟨i, h4, h5, h6⟩ := placeG_lt (l := l) (n := p) (k := 0)
    · omega
    rw [Nat.zero_add] at h4
    rw [if_neg (by omega), if_pos h, h4, Int.toNat_natCast, erase_filter h5 (rightB_iff.1 hr).2.2.1 h6]
  · rw [if_pos (by omega), if_neg h]
end Go.Lk.Dt

namespace Go.Lk.Tb
open Go Go.Proofs Go.RowKit Go.Lk
abbrev Slots := List (Int × Int)
def encS (x : Int × Int) : D := .agg (encI x)
def encT (l : Slots) : D := .agg [encIs l]
def freeB (x : Int × Int) : Bool := decide (x.1 = 0) && decide (x.2 = 0)
def fitsB (p f : Int) : Bool := decide (1 ≤ p) && (decide (p ≤ 2147483647) && (decide (0 ≤ f) && decide (f ≤ 2147483647)))

theorem free_ok (x : Int × Int) : ACall Tryz.prog 96 [encS x] (.bool (freeB x)) := by
  refine acall_of Tryz.func96 1 rfl (by kernel_rfl) ?_
  conv => whnf
  repeat ((first | refine bF ?_ | refine bT ?_ | refine dK ?_ | refine cR ?_ | refine cK ?_ | refine wK ?_); conv => whnf)
  refine bcase_p (fun h => ?_) (fun h => ?_) <;> conv => whnf
  · repeat ((first | refine bF ?_ | refine bT ?_ | refine dK ?_ | refine cR ?_ | refine cK ?_ | refine wK ?_); conv => whnf)
    exact ret_of rfl (by simp [freeB, h])
  · repeat ((first | refine bF ?_ | refine bT ?_ | refine dK ?_ | refine cR ?_ | refine cK ?_ | refine wK ?_); conv => whnf)
    exact ret_of rfl (by simp [freeB, h])
theorem fits_ok (p f : Int) : ACall Tryz.prog 97 [.int .i64 p, .int .i64 f] (.bool (fitsB p f)) := by
  refine acall_of Tryz.func97 2 rfl (by kernel_rfl) ?_
  conv => whnf
  refine bcase_p (fun h => ?_) (fun h => ?_) <;> conv => whnf
  · refine bcase_p (fun h2 => ?_) (fun h2 => ?_) <;> conv => whnf
    · refine bcase_p (fun h3 => ?_) (fun h3 => ?_) <;> conv => whnf
      · exact ret_of rfl (by simp [fitsB, h, h2, h3])
      · exact ret_of rfl (by simp [fitsB, h, h2, h3])
    · repeat ((first | refine bF ?_ | refine bT ?_ | refine dK ?_ | refine cR ?_ | refine cK ?_ | refine wK ?_); conv => whnf)
      exact ret_of rfl (by simp [fitsB, h, h2])
  · repeat ((first | refine bF ?_ | refine bT ?_ | refine dK ?_ | refine cR ?_ | refine cK ?_ | refine wK ?_); conv => whnf)
    exact ret_of rfl (by simp [fitsB, h])
theorem home_ok (n : Int) (h : 0 ≤ n) : ACall Tryz.prog 98 [.int .i64 n] (.int .i64 (n % 16)) := by
  refine acall_of Tryz.func98 1 rfl (by kernel_rfl) ?_
  conv => whnf
  refine divK_rem (by decide) h ?_
  conv => whnf
  exact ret_of rfl rfl
theorem behind_ok (n : Int) (h : 0 ≤ n) (h1 : n ≤ 100) : ACall Tryz.prog 99 [.int .i64 n] (.int .i64 ((n + 1) % 16)) := by
  refine acall_of Tryz.func99 1 rfl (by kernel_rfl) ?_
  conv => whnf
  repeat ((first | refine bF ?_ | refine bT ?_ | refine dK ?_ | refine cR ?_ | refine cK ?_ | refine wK ?_); conv => whnf)
  refine divK_rem (by decide) (by omega) ?_
  conv => whnf
  exact ret_of rfl rfl
theorem way_ok (a b : Int) (h : 0 ≤ a) (h1 : a ≤ 15) (h2 : 0 ≤ b) (h3 : b ≤ 15) : ACall Tryz.prog 172 [.int .i64 a, .int .i64 b] (.int .i64 ((b - a + 16) % 16)) := by
  refine acall_of Tryz.func172 2 rfl (by kernel_rfl) ?_
  conv => whnf
  repeat ((first | refine bF ?_ | refine bT ?_ | refine dK ?_ | refine cR ?_ | refine cK ?_ | refine wK ?_); conv => whnf)
  refine divK_rem (by decide) (by omega) ?_
  conv => whnf
  exact ret_of rfl rfl

theorem clone_ok (l : Slots) (hl : l.length ≤ 1000000) : OCall Tryz.prog 171 [encIs l] (l.map encI) 2 := by
  refine ocall_of Tryz.func171 1 rfl (by kernel_rfl) ?_
  conv => whnf
  refine nilK_of ?_
  conv => whnf
  intro r hr
  conv => whnf
  refine bcase_intro (fun h => ?_) (fun h => ?_) <;> conv => whnf
  · have := hr h
    exact ⟨2, rfl, .inr ⟨rfl, this⟩⟩
  · repeat ((first | refine bF ?_ | refine bT ?_ | refine dK ?_ | refine cR ?_ | refine cK ?_ | refine wK ?_); conv => whnf)
    refine condK_of (encI_ok l) ?_
    conv => whnf
    refine roomK_le 1000100 100 (by show 0 + List.length _ ≤ 1000100; simp; omega) (by decide) (by decide) (by decide) ?_
    conv => whnf
    exact ⟨2, rfl, .inl ⟨5, rfl, rfl⟩⟩

theorem new_ok : ACall Tryz.prog 94 [] (encT (List.replicate 16 (0, 0))) := by
  refine acall_of Tryz.func94 0 rfl (by kernel_rfl) ?_
  conv => whnf
  repeat ((first | refine bF ?_ | refine bT ?_ | refine dK ?_ | refine cR ?_ | refine cK ?_ | refine wK ?_); conv => whnf)
  refine roomK_le 100 100 (by decide) (by decide) (by decide) (by decide) ?_
  conv => whnf
  repeat ((first | refine bF ?_ | refine bT ?_ | refine dK ?_ | refine cR ?_ | refine cK ?_ | refine wK ?_); conv => whnf)
  exact ret_of rfl rfl

def placeG (l : Slots) (n : Int) (k : Nat) : Int :=
  match l with
  | [] => -1
  | p :: r => if p.1 = n then (k : Int) else placeG r n (k + 1)
def placeT (l : Slots) (p : Int) : Int × Bool := if p < 1 ∨ placeG l p 0 < 0 then (0, false) else (placeG l p 0, true)
theorem place_ok (l : Slots) (n : Int) (hl : l.length ≤ 1000000) : ACall Tryz.prog 103 [encT l, .int .i64 n] (.tup [.int .i64 (placeT l n).1, .bool (placeT l n).2]) := by
  refine acall_of Tryz.func103 2 rfl (by kernel_rfl) ?_
  conv => whnf
  refine bcase_p (fun h0 => ?_) (fun h0 => ?_) <;> conv => whnf
  · exact ret_of rfl (by simp [placeT, h0]; rfl)
  repeat ((first | refine bF ?_ | refine bT ?_ | refine dK ?_ | refine cR ?_ | refine cK ?_ | refine wK ?_); conv => whnf)
  refine aloop (ι := Nat) (fun k => [(1, .d (.int .i64 n)), (11, .d (encIs l)), (12, .d (.int .i64 (l.map encI).length)), (13, .d (.int .i64 k))]) (fun _ => [])
    (fun k => k ≤ l.length ∧ placeG (l.drop k) n k = placeG l n 0) (fun k => l.length - k) 0 ⟨Nat.zero_le _, rfl⟩ (le0 (le_of_cov ⟨rfl, rfl, rfl, rfl, trivial⟩ trivial ⟨rfl, rfl, rfl, rfl⟩)) ?_
  rintro k ⟨hk, hR⟩
  conv => whnf
  refine bcase_p (fun h => ?_) (fun h => ?_) <;> conv => whnf
  · have hk2 : k < l.length := by simpa using h
    refine idxK_nat (by simpa using hk2) ?_
    conv => whnf
    refine getRow_of (x := encI l[k]) (by simp [hk2]) ?_
    conv => whnf
    repeat ((first | refine bF ?_ | refine bT ?_ | refine dK ?_ | refine cR ?_ | refine cK ?_ | refine wK ?_); conv => whnf)
    rw [drop_cons hk2, placeG] at hR
    refine bcase_p (fun h2 => ?_) (fun h2 => ?_) <;> conv => whnf
    · rw [if_pos h2] at hR
      refine ret_of rfl ?_
      have : placeT l n = ((k : Int), true) := by rw [placeT, ← hR, if_neg (by omega)]
      rw [this]; rfl
    · rw [if_neg h2] at hR
      repeat ((first | refine bF ?_ | refine bT ?_ | refine dK ?_ | refine cR ?_ | refine cK ?_ | refine wK ?_); conv => whnf)
      exact ⟨k + 1, ⟨by omega, hR⟩, by omega, le0 (le_of_cov ⟨rfl, rfl, rfl, rfl, trivial⟩ trivial ⟨rfl, rfl, rfl, rfl⟩)⟩
  · have : k = l.length := by simp at h; omega
    subst this
    simp [placeG] at hR
    refine ret_of rfl ?_
    have : placeT l n = (0, false) := by rw [placeT, ← hR, if_pos (by omega)]
    rw [this]; rfl

/-! ### what is a table -/
def at' (l : Slots) (i : Nat) : Int × Int := l[i]?.getD (0, 0)
theorem at_eq {l : Slots} {i : Nat} (h : i < l.length) : at' l i = l[i] := by simp [at', h]
def homeN (p : Int) : Nat := (p % 16).toNat
def wayN (a b : Nat) : Nat := (b + 16 - a) % 16
def SlotP (x : Int × Int) : Prop := freeB x = true ∨ fitsB x.1 x.2 = true
def PlaceP (l : Slots) (i : Nat) : Prop := freeB (at' l i) = true ∨ ((∀ j, j < i → (at' l j).1 ≠ (at' l i).1) ∧ ∀ d, d < wayN (homeN (at' l i).1) i → freeB (at' l ((homeN (at' l i).1 + d) % 16)) = false)
structure RT (l : Slots) : Prop where
  len : l.length = 16
  slots : ∀ i, i < 16 → SlotP (at' l i)
  places : ∀ i, i < 16 → PlaceP l i
open Classical in
noncomputable def rightB (l : Slots) : Bool := decide (RT l)
theorem rightB_t {l : Slots} : rightB l = true ↔ RT l := by simp [rightB]
theorem rightB_f {l : Slots} : rightB l = false ↔ ¬ RT l := by simp [rightB]
theorem fits_out {p f : Int} : fitsB p f = true ↔ 1 ≤ p ∧ p ≤ 2147483647 ∧ 0 ≤ f ∧ f ≤ 2147483647 := by simp [fitsB]
theorem free_out {x : Int × Int} : freeB x = true ↔ x.1 = 0 ∧ x.2 = 0 := by simp [freeB]

theorem right_ok (l : Slots) (hl : l.length ≤ 1000000) : ACall Tryz.prog 59 [encT l] (.bool (rightB l)) := by
  refine acall_of Tryz.func59 1 rfl (by kernel_rfl) ?_
  conv => whnf
  have hm : (l.map encI).length = l.length := List.length_map ..
  repeat ((first | refine bF ?_ | refine bT ?_ | refine dK ?_ | refine cR ?_ | refine cK ?_ | refine wK ?_); conv => whnf)
  refine bcase_n (fun h0 => ?_) (fun h0 => ?_) <;> conv => whnf
  · exact ret_of rfl (congrArg D.bool (rightB_f.2 fun h => h0 (by rw [hm, h.len]; rfl)).symm)
  have hlen : l.length = 16 := by omega
  repeat ((first | refine bF ?_ | refine bT ?_ | refine dK ?_ | refine cR ?_ | refine cK ?_ | refine wK ?_); conv => whnf)
  refine aloop (ι := Nat) (fun k => [(1, .ptr 1 0 0), (15, .d (encIs l)), (16, .d (.int .i64 (l.map encI).length)), (17, .d (.int .i64 k))]) (fun _ => [(1, .box [.d (encIs l)] false)])
    (fun k => k ≤ 16 ∧ ∀ j, j < k → SlotP (at' l j)) (fun k => 16 - k) 0 ⟨Nat.zero_le _, fun j h => absurd h (Nat.not_lt_zero _)⟩ (le0 (le_of_cov ⟨rfl, rfl, rfl, rfl, trivial⟩ ⟨rfl, trivial⟩ ⟨rfl, rfl, rfl, rfl⟩)) ?_
  rintro k ⟨hk, hR⟩
  conv => whnf
  refine bcase_p (fun h => ?_) (fun h => ?_) <;> conv => whnf
  · have hk2 : k < l.length := by omega
    have hat := at_eq hk2
    have hlast (hs : SlotP l[k]) : ∀ j, j < k + 1 → SlotP (at' l j) := fun j hj => (Nat.lt_succ_iff_lt_or_eq.1 hj).elim (hR j) (fun e => by subst e; rw [hat]; exact hs)
    refine idxK_nat (by omega) ?_
    conv => whnf
    refine getRow_of (x := encI l[k]) (by simp [hk2]) ?_
    conv => whnf
    repeat ((first | refine bF ?_ | refine bT ?_ | refine dK ?_ | refine cR ?_ | refine cK ?_ | refine wK ?_); conv => whnf)
    refine callX_pure (free_ok l[k]) ?_
    conv => whnf
    refine bcase_intro (fun h1 => ?_) (fun h1 => ?_) <;> conv => whnf
    · repeat ((first | refine bF ?_ | refine bT ?_ | refine dK ?_ | refine cR ?_ | refine cK ?_ | refine wK ?_); conv => whnf)
      refine callX_pure (fits_ok _ _) ?_
      conv => whnf
      refine bcase_intro (fun h2 => ?_) (fun h2 => ?_) <;> conv => whnf
      · refine ret_of rfl (congrArg D.bool (rightB_f.2 fun h => ?_).symm)
        have := h.slots k (by omega)
        rw [hat] at this
        simp [SlotP] at this h1 h2
        rw [h1, h2] at this
        simp at this
      · repeat ((first | refine bF ?_ | refine bT ?_ | refine dK ?_ | refine cR ?_ | refine cK ?_ | refine wK ?_); conv => whnf)
        simp at h2
        exact ⟨k + 1, ⟨by omega, hlast (.inr h2)⟩, by omega, le0 (le_of_cov ⟨rfl, rfl, rfl, rfl, trivial⟩ ⟨rfl, trivial⟩ ⟨rfl, rfl, rfl, rfl⟩)⟩
    · repeat ((first | refine bF ?_ | refine bT ?_ | refine dK ?_ | refine cR ?_ | refine cK ?_ | refine wK ?_); conv => whnf)
      simp at h1
      exact ⟨k + 1, ⟨by omega, hlast (.inl h1)⟩, by omega, le0 (le_of_cov ⟨rfl, rfl, rfl, rfl, trivial⟩ ⟨rfl, trivial⟩ ⟨rfl, rfl, rfl, rfl⟩)⟩
  have hS : ∀ j, j < 16 → SlotP (at' l j) := fun j hj => hR j (by omega)
  clear hR hk h
  repeat ((first | refine bF ?_ | refine bT ?_ | refine dK ?_ | refine cR ?_ | refine cK ?_ | refine wK ?_); conv => whnf)
  refine aloop (ι := Nat) (fun k => [(1, .ptr 1 0 0), (34, .d (encIs l)), (35, .d (.int .i64 (l.map encI).length)), (36, .d (.int .i64 k))]) (fun _ => [(1, .box [.d (encIs l)] false)])
    (fun k => k ≤ 16 ∧ ∀ j, j < k → PlaceP l j) (fun k => 16 - k) 0 ⟨Nat.zero_le _, fun j h => absurd h (Nat.not_lt_zero _)⟩ (le0 (le_of_cov ⟨rfl, rfl, rfl, rfl, trivial⟩ ⟨rfl, trivial⟩ ⟨rfl, rfl, rfl, rfl⟩)) ?_
  rintro k ⟨hk, hR⟩
  conv => whnf
  refine bcase_p (fun h => ?_) (fun h => ?_) <;> conv => whnf
  · have hk2 : k < l.length := by omega
    have hat := at_eq hk2
    have hlast (hs : PlaceP l k) : ∀ j, j < k + 1 → PlaceP l j := fun j hj => (Nat.lt_succ_iff_lt_or_eq.1 hj).elim (hR j) (fun e => by subst e; exact hs)
    have hsl := hS k (by omega)
    refine idxK_nat (by omega) ?_
    conv => whnf
    refine getRow_of (x := encI l[k]) (by simp [hk2]) ?_
    conv => whnf
    repeat ((first | refine bF ?_ | refine bT ?_ | refine dK ?_ | refine cR ?_ | refine cK ?_ | refine wK ?_); conv => whnf)
    refine callX_pure (free_ok l[k]) ?_
    conv => whnf
    refine bcase_intro (fun h1 => ?_) (fun h1 => ?_) <;> conv => whnf
    · repeat ((first | refine bF ?_ | refine bT ?_ | refine dK ?_ | refine cR ?_ | refine cK ?_ | refine wK ?_); conv => whnf)
      exact ⟨k + 1, ⟨by omega, hlast (.inl (by rw [hat]; exact h1))⟩, by omega, le0 (le_of_cov ⟨rfl, rfl, rfl, rfl, trivial⟩ ⟨rfl, trivial⟩ ⟨rfl, rfl, rfl, rfl⟩)⟩
    have hfit : 1 ≤ l[k].1 := by
      rcases hsl with h2 | h2
      · rw [hat, h1] at h2; cases h2
      · rw [hat] at h2; exact (fits_out.1 h2).1
    repeat ((first | refine bF ?_ | refine bT ?_ | refine dK ?_ | refine cR ?_ | refine cK ?_ | refine wK ?_); conv => whnf)
    refine condK_of (fun e he => encI_len he) ?_
    conv => whnf
    refine sliceK_hi (by omega) ?_
    conv => whnf
    repeat ((first | refine bF ?_ | refine bT ?_ | refine dK ?_ | refine cR ?_ | refine cK ?_ | refine wK ?_); conv => whnf)
    have hlt : (List.drop 0 (List.take k (l.map encI))).length = k := by simp; omega
    refine aloop (ι := Nat) (fun q => [(1, .ptr 1 0 0), (5, .d (.int .i64 k)), (6, .ptr 6 0 0), (34, .d (encIs l)), (35, .d (.int .i64 (l.map encI).length)), (36, .d (.int .i64 k)), (46, .d (.lst (List.drop 0 (List.take k (l.map encI))))), (47, .d (.int .i64 (List.drop 0 (List.take k (l.map encI))).length)), (48, .d (.int .i64 q))]) (fun _ => [(1, .box [.d (encIs l)] false), (6, .box [.d (.int .i64 l[k].1), .d (.int .i64 l[k].2)] false)])
      (fun q => q ≤ k ∧ ∀ j, j < q → (at' l j).1 ≠ (at' l k).1) (fun q => k - q) 0 ⟨Nat.zero_le _, fun j h => absurd h (Nat.not_lt_zero _)⟩ (le0 (le_of_cov ⟨rfl, rfl, rfl, rfl, rfl, rfl, rfl, rfl, rfl, trivial⟩ ⟨rfl, rfl, trivial⟩ ⟨rfl, rfl, rfl, rfl⟩)) ?_
    rintro q ⟨hq, hQ⟩
    conv => whnf
    refine bcase_p (fun h2 => ?_) (fun h2 => ?_) <;> conv => whnf
    · have hq2 : q < k := by omega
      have hq3 : q < l.length := by omega
      refine idxK_nat (by omega) ?_
      conv => whnf
      refine getRow_of (x := encI l[q]) (by rw [List.drop_zero, List.getElem?_take_of_lt hq2, List.getElem?_map, List.getElem?_eq_getElem hq3]; rfl) ?_
      conv => whnf
      repeat ((first | refine bF ?_ | refine bT ?_ | refine dK ?_ | refine cR ?_ | refine cK ?_ | refine wK ?_); conv => whnf)
      refine bcase_p (fun h3 => ?_) (fun h3 => ?_) <;> conv => whnf
      · refine ret_of rfl (congrArg D.bool (rightB_f.2 fun h => ?_).symm)
        rcases h.places k (by omega) with h4 | ⟨h4, _⟩
        · rw [hat, h1] at h4; cases h4
        · exact h4 q hq2 (by rw [at_eq hq3, hat, h3])
      · repeat ((first | refine bF ?_ | refine bT ?_ | refine dK ?_ | refine cR ?_ | refine cK ?_ | refine wK ?_); conv => whnf)
        exact ⟨q + 1, ⟨by omega, fun j hj => (Nat.lt_succ_iff_lt_or_eq.1 hj).elim (hQ j) (fun e => by subst e; rw [at_eq hq3, hat]; exact h3)⟩, by omega, le0 (le_of_cov ⟨rfl, rfl, rfl, rfl, rfl, rfl, rfl, rfl, rfl, trivial⟩ ⟨rfl, rfl, trivial⟩ ⟨rfl, rfl, rfl, rfl⟩)⟩
    have hQk : ∀ j, j < k → (at' l j).1 ≠ (at' l k).1 := fun j hj => hQ j (by omega)
    clear hQ hq h2
    repeat ((first | refine bF ?_ | refine bT ?_ | refine dK ?_ | refine cR ?_ | refine cK ?_ | refine wK ?_); conv => whnf)
    refine callX_pure (home_ok l[k].1 (by omega)) ?_
    conv => whnf
    have hhm : ((homeN l[k].1 : Nat) : Int) = l[k].1 % 16 := by simp [homeN]; omega
    have hh16 : homeN l[k].1 < 16 := by simp [homeN]; omega
    refine aloop (ι := Nat) (fun d => [(1, .ptr 1 0 0), (5, .d (.int .i64 k)), (9, .d (.int .i64 (((homeN l[k].1 + d) % 16 : Nat) : Int))), (34, .d (encIs l)), (35, .d (.int .i64 (l.map encI).length)), (36, .d (.int .i64 k))]) (fun _ => [(1, .box [.d (encIs l)] false)])
      (fun d => d ≤ wayN (homeN l[k].1) k ∧ ∀ d', d' < d → freeB (at' l ((homeN l[k].1 + d') % 16)) = false) (fun d => 16 - d) 0 ⟨Nat.zero_le _, fun j h => absurd h (Nat.not_lt_zero _)⟩ (le0 (le_of_cov ⟨rfl, rfl, by
        show _ = AV.d (.int .i64 (((homeN l[k].1 + 0) % 16 : Nat) : Int)); rw [show (((homeN l[k].1 + 0) % 16 : Nat) : Int) = l[k].1 % 16 by omega]; rfl, rfl, rfl, rfl, trivial⟩ ⟨rfl, trivial⟩ ⟨rfl, rfl, rfl, rfl⟩)) ?_
    rintro d ⟨hd, hD⟩
    conv => whnf
    have hw16 : wayN (homeN l[k].1) k < 16 := by simp [wayN]; omega
    refine bcase_n (fun h2 => ?_) (fun h2 => ?_) <;> conv => whnf
    · have hd2 : d < wayN (homeN l[k].1) k := by
        by_cases e : d = wayN (homeN l[k].1) k
        · exfalso; apply h2; rw [e]; simp only [wayN]; omega
        · omega
      have hj : (homeN l[k].1 + d) % 16 < l.length := by omega
      repeat ((first | refine bF ?_ | refine bT ?_ | refine dK ?_ | refine cR ?_ | refine cK ?_ | refine wK ?_); conv => whnf)
      refine idxK_nat (by omega) ?_
      conv => whnf
      refine getRow_of (x := encI l[(homeN l[k].1 + d) % 16]) (by simp [hj]) ?_
      conv => whnf
      repeat ((first | refine bF ?_ | refine bT ?_ | refine dK ?_ | refine cR ?_ | refine cK ?_ | refine wK ?_); conv => whnf)
      refine callX_pure (free_ok l[(homeN l[k].1 + d) % 16]) ?_
      conv => whnf
      refine bcase_intro (fun h3 => ?_) (fun h3 => ?_) <;> conv => whnf
      · refine ret_of rfl (congrArg D.bool (rightB_f.2 fun h => ?_).symm)
        rcases h.places k (by omega) with h4 | ⟨_, h4⟩
        · rw [hat, h1] at h4; cases h4
        · rw [hat] at h4
          have := h4 d hd2
          rw [at_eq hj, h3] at this
          cases this
      · refine callX_pure (behind_ok (((homeN l[k].1 + d) % 16 : Nat) : Int) (by omega) (by omega)) ?_
        conv => whnf
        exact ⟨d + 1, ⟨by omega, fun j hj' => (Nat.lt_succ_iff_lt_or_eq.1 hj').elim (hD j) (fun e => by subst e; rw [at_eq hj]; exact h3)⟩, by omega, le0 (le_of_cov ⟨rfl, rfl, by
          show _ = AV.d (.int .i64 (((homeN l[k].1 + (d + 1)) % 16 : Nat) : Int))
          rw [show (((homeN l[k].1 + (d + 1)) % 16 : Nat) : Int) = ((((homeN l[k].1 + d) % 16 : Nat) : Int) + 1) % 16 by omega]; rfl, rfl, rfl, rfl, trivial⟩ ⟨rfl, trivial⟩ ⟨rfl, rfl, rfl, rfl⟩)⟩
    · have hd3 : d = wayN (homeN l[k].1) k := by simp only [wayN] at hd hw16 ⊢; omega
      repeat ((first | refine bF ?_ | refine bT ?_ | refine dK ?_ | refine cR ?_ | refine cK ?_ | refine wK ?_); conv => whnf)
      refine ⟨k + 1, ⟨by omega, hlast (.inr ⟨hQk, ?_⟩)⟩, by omega, le0 (le_of_cov ⟨rfl, rfl, rfl, rfl, trivial⟩ ⟨rfl, trivial⟩ ⟨rfl, rfl, rfl, rfl⟩)⟩
      rw [hat, ← hd3]; exact hD
  exact ret_of rfl (congrArg D.bool (rightB_t.2 ⟨hlen, hS, fun j hj => hR j (by omega)⟩).symm)
end Go.Lk.Tb


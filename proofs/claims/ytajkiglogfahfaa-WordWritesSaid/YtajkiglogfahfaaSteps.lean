/- Rows of steps that the law itself keeps. -/
import Derived.Test.YtajkiglogfahfaaBeyond
set_option linter.unusedVariables false
set_option linter.unusedSimpArgs false
namespace Go.Proofs.Ytajkiglogfahfaa
open Go.RowKit

theorem Scr.cells_at {w : World} {B : Nat} {b off n : Nat} {ops : List (OpA × List Nat)} (h : Scr w B (some ⟨b, off, none⟩) n ops) {k : Nat} {o : OpA} {ps : List Nat} (hk : ops[k]? = some (o, ps)) :
    w.cell? ⟨b, off + k * 6, none⟩ = some (.int .i64 o.kind) ∧ w.cell? ⟨b, off + k * 6 + 1, none⟩ = some (.int .i64 o.at_) ∧ w.cell? ⟨b, off + k * 6 + 2, none⟩ = some (.int .u64 (o.n : Nat)) ∧ w.cell? ⟨b, off + k * 6 + 3, none⟩ = some (.int .i64 o.num) ∧
    w.cell? ⟨b, off + k * 6 + 4, none⟩ = some (.slice o.pa o.pn o.pc) ∧ w.cell? ⟨b, off + k * 6 + 5, none⟩ = some (.string o.s) := by
  have hkl := (List.getElem?_eq_some_iff.1 hk).1
  obtain ⟨b', off', hA, hlt, hc⟩ := h.cells (by have := h.len; omega)
  injection hA with hA
  injection hA with h1 h2
  subst h1 h2
  have h1 := hc k _ hk
  exact ⟨h1 0 _ rfl, h1 1 _ rfl, h1 2 _ rfl, h1 3 _ rfl, h1 4 _ rfl, h1 5 _ rfl⟩
def cellsOf (L : List (OpA × List Nat)) : List Value := L.flatMap fun x => x.1.cells
theorem cells_len (o : OpA) : o.cells.length = 6 := rfl
theorem cellsOf_snoc (L : List (OpA × List Nat)) (x : OpA × List Nat) : cellsOf (L ++ [x]) = cellsOf L ++ x.1.cells := by simp [cellsOf]
theorem cellsOf_len (L : List (OpA × List Nat)) : (cellsOf L).length = L.length * 6 := by
  induction L with
  | nil => rfl
  | cons x r ih => simp only [cellsOf, List.flatMap_cons, List.length_append, List.length_cons, cells_len] at ih ⊢; omega
theorem cellsOf_at (L : List (OpA × List Nat)) (k : Nat) (x : OpA × List Nat) (h : L[k]? = some x) (j : Nat) (hj : j < 6) : (cellsOf L)[k * 6 + j]? = x.1.cells[j]? := by
  induction L generalizing k with
  | nil => simp at h
  | cons y r ih =>
    simp only [cellsOf, List.flatMap_cons] at ih ⊢
    cases k with
    | zero =>
      simp at h
      subst h
      rw [List.getElem?_append_left (by rw [cells_len]; omega)]
      simp
    | succ k =>
      rw [List.getElem?_append_right (by rw [cells_len]; omega), cells_len]
      have := ih k (by simpa using h)
      rw [← this]
      congr 1
      omega
theorem opsOf_snoc (L : List (OpA × List Nat)) (x : OpA × List Nat) : opsOf (L ++ [x]) = opsOf L ++ [x.1.is x.2] := by simp [opsOf]
theorem one_cells (o : OpA) : ∀ u ∈ o.cells, u.oneCell' = true := by
  intro u hu
  simp [OpA.cells] at hu
  rcases hu with rfl | rfl | rfl | rfl | rfl | rfl <;> rfl
/-- one step of such a row, read -/
theorem own_steps {w : World} {base n : Nat} {v : Value} {L : List (OpA × List Nat)} (h : w.ownsRow base 54 6 v n (cellsOf L)) {k : Nat} {o : OpA} {ps : List Nat} (hk : L[k]? = some (o, ps)) : ∃ g c, v = .slice (some ⟨g, 0, none⟩) n c ∧ g < w.heap.size ∧
    w.cell? ⟨g, k * 6, none⟩ = some (.int .i64 o.kind) ∧ w.cell? ⟨g, k * 6 + 1, none⟩ = some (.int .i64 o.at_) ∧ w.cell? ⟨g, k * 6 + 2, none⟩ = some (.int .u64 (o.n : Nat)) ∧ w.cell? ⟨g, k * 6 + 3, none⟩ = some (.int .i64 o.num) ∧
    w.cell? ⟨g, k * 6 + 4, none⟩ = some (.slice o.pa o.pn o.pc) ∧ w.cell? ⟨g, k * 6 + 5, none⟩ = some (.string o.s) := by
  have hl := cellsOf_len L
  have hkl := (List.getElem?_eq_some_iff.1 hk).1
  have hn := h.1
  rcases h.2 with ⟨_, h0⟩ | ⟨g, cap, cur, hv, hg, hh, hnc, hcm, hsz, htk⟩
  · omega
  · have hc : ∀ j, j < 6 → w.cell? ⟨g, k * 6 + j, none⟩ = o.cells[j]? := by
      intro j hj
      have h1 := cellsOf_at L k _ hk j hj
      rw [Blk.cell (cs := cur) hh, ← h1, ← htk, List.getElem?_take, if_pos (by omega), Array.getElem?_toList]
    exact ⟨g, cap, hv, Blk.lt (cs := cur) hh, hc 0 (by omega), hc 1 (by omega), hc 2 (by omega), hc 3 (by omega), hc 4 (by omega), hc 5 (by omega)⟩
theorem own_cells {w : World} {base n g c : Nat} {L : List (OpA × List Nat)} (h : w.ownsRow base 54 6 (.slice (some ⟨g, 0, none⟩) n c) n (cellsOf L)) {k : Nat} {o : OpA} {ps : List Nat} (hk : L[k]? = some (o, ps)) :
    w.cell? ⟨g, k * 6, none⟩ = some (.int .i64 o.kind) ∧ w.cell? ⟨g, k * 6 + 1, none⟩ = some (.int .i64 o.at_) ∧ w.cell? ⟨g, k * 6 + 2, none⟩ = some (.int .u64 (o.n : Nat)) ∧ w.cell? ⟨g, k * 6 + 3, none⟩ = some (.int .i64 o.num) ∧
    w.cell? ⟨g, k * 6 + 4, none⟩ = some (.slice o.pa o.pn o.pc) ∧ w.cell? ⟨g, k * 6 + 5, none⟩ = some (.string o.s) := by
  obtain ⟨g', c', hv, _, r⟩ := own_steps h hk
  injection hv with h1 _ _
  injection h1 with h1
  injection h1 with h1
  subst h1
  exact r
theorem own_ne {w : World} {base n size : Nat} {e : TypeId} {v : Value} {xs : List Value} (h : w.ownsRow base e size v n xs) : ∀ k, v.ownBlock = some k → ∃ cur, Blk w k e cur := by
  intro k hk
  rcases h.2 with ⟨rfl, _⟩ | ⟨g, cap, cur, rfl, _, hh, _⟩
  · cases hk
  · simp [Value.ownBlock] at hk
    subst hk
    exact ⟨cur, hh⟩
theorem steps_wr {w w' : World} {base n gw : Nat} {rw : Option Nat} {v : Value} {xs : List Value} {s : Wd.W} (h : w.ownsRow base 54 6 v n xs) (hw : Wr w gw rw s) (hc : Chg (gw :: rw.toList) w w') : w'.ownsRow base 54 6 v n xs := by
  refine owns_chg h hc fun k hk hm => ?_
  obtain ⟨cur, hb⟩ := own_ne h k hk
  obtain ⟨A, c, hrow, hown, hob, _⟩ := hw
  rcases List.mem_cons.1 hm with rfl | hm
  · exact Blk.ne_ (cs' := #[.slice A s.b.length c, .int .i64 (s.e : Nat)]) hb hrow (by decide) rfl
  · have : rw = some k := by simpa using hm
    obtain ⟨cur2, hb2⟩ := own_ne hown k (hob.trans this)
    exact Blk.ne_ hb hb2 (by decide) rfl
theorem steps_rd {w w' : World} {base n gr : Nat} {rr : Option Nat} {v : Value} {xs : List Value} {s : Wd.R} (h : w.ownsRow base 54 6 v n xs) (hw : Rd w gr rr s) (hc : Chg [gr] w w') : w'.ownsRow base 54 6 v n xs := by
  refine owns_chg h hc fun k hk hm => ?_
  obtain ⟨cur, hb⟩ := own_ne h k hk
  obtain ⟨A, c, hrow, _⟩ := hw
  have : k = gr := by simpa using hm
  subst this
  exact Blk.ne_ (cs' := #[.slice A s.b.length c, .int .i64 (s.at_ : Nat), .int .i64 (s.e : Nat)]) hb hrow (by decide) rfl
theorem wr_steps {w w' : World} {base n gw : Nat} {e : TypeId} {size : Nat} {rw : Option Nat} {v : Value} {xs : List Value} {s : Wd.W} (h : w.ownsRow base e size v n xs) (he : e ≠ 5 ∧ e ≠ 108) (hw : Wr w gw rw s) (hg : w.grownBy w' v.ownBlock) : Wr w' gw rw s := by
  have hc : Chg v.ownBlock.toList w w' := ⟨hg.os, hg.tape, hg.output, hg.size, fun k hk hn => hg.block k hk (fun h => hn (by rw [← h]; simp))⟩
  have hw0 := hw
  obtain ⟨A, c, hrow, hown, hob, _⟩ := hw
  refine hw0.chg hc ?_ (fun k hk hm => ?_)
  · intro hm
    obtain ⟨cur, hb⟩ := own_ne h gw (by simpa using hm)
    exact Blk.ne_ (cs' := #[.slice A s.b.length c, .int .i64 (s.e : Nat)]) hb hrow he.2 rfl
  · obtain ⟨cur, hb⟩ := own_ne h k (by simpa using hm)
    obtain ⟨cur2, hb2⟩ := own_ne hown k (hob.trans hk)
    exact Blk.ne_ hb hb2 he.1 rfl
theorem info54 : (Try.prog.info? 54).map (fun i => (i.zero, i.size, i.bytes)) = some (some (.agg #[.int .i64 0, .int .i64 0, .int .u64 0, .int .i64 0, .slice none 0 0, .string ⟨#[]⟩]), 6, 72) := by kernel_rfl
/-- the one element that an append lays first -/
theorem reads_new {w : World} {t : TypeId} {cs : List Value} {B : Nat} (hB : w.heap.size < B) (hl : cs.length = 6) : Reads (w.alloc (.cells cs.toArray t)) B 6 (some ⟨w.heap.size, 0, none⟩) 1 cs := by
  refine ⟨by omega, fun _ => ⟨_, rfl, hB, fun j u hu => ?_⟩⟩
  have e : (⟨w.heap.size, 0, none⟩ : Addr).add j = ⟨w.heap.size, j, none⟩ := by unfold Addr.add; split <;> simp_all
  rw [e, (Row.new w t cs).cell, hu]
end Go.Proofs.Ytajkiglogfahfaa

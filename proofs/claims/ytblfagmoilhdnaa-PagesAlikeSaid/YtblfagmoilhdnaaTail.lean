/- A slice at the tail of a row of one's own: append to it, and what is behind its head; append of so many zeros. -/
import Derived.Test.YtblfagmoilhdnaaChg
set_option linter.unusedVariables false
set_option linter.unusedSimpArgs false
namespace Go.Proofs.Ytblfagmoilhdnaa
open Go.RowKit

/-- n elements of one cell each, at the tail of a row of one's own (its block: S), or nil -/
def Tl (w : World) (e : TypeId) (v : Value) (n : Nat) (xs : List Value) (S : List Nat) : Prop :=
  xs.length = n ∧ ((v = .slice none 0 0 ∧ n = 0 ∧ S = []) ∨
    ∃ g off cap cur, v = .slice (some ⟨g, off, none⟩) n cap ∧ S = [g] ∧ w.heap[g]? = some (.cells cur e (0, 0)) ∧ n ≤ cap ∧ cap ≤ maxLen ∧ off + cap = cur.size ∧ (cur.toList.drop off).take n = xs)
section
variable {w w' : World} {e : TypeId} {v : Value} {n : Nat} {xs : List Value} {S : List Nat}
theorem Tl.nil_ (w : World) (e : TypeId) : Tl w e (.slice none 0 0) 0 [] [] := ⟨rfl, .inl ⟨rfl, rfl, rfl⟩⟩
theorem Tl.keep (h : Tl w e v n xs S) (hk : ∀ k ∈ S, w'.heap[k]? = w.heap[k]?) : Tl w' e v n xs S := by
  refine ⟨h.1, ?_⟩
  rcases h.2 with h2 | ⟨g, off, cap, cur, hv, rfl, hg, r⟩
  · exact .inl h2
  · exact .inr ⟨g, off, cap, cur, hv, rfl, (hk g (by simp)).trans hg, r⟩
theorem Tl.lt (h : Tl w e v n xs S) : ∀ k ∈ S, k < w.heap.size := by
  rcases h.2 with ⟨_, _, rfl⟩ | ⟨g, off, cap, cur, hv, rfl, hg, r⟩
  · simp
  · intro k hk
    obtain rfl : k = g := by simpa using hk
    exact Blk.lt (cs := cur) hg
theorem Tl.chg {T : List Nat} (h : Tl w e v n xs S) (hc : Chg T w w') (hd : ∀ k ∈ S, k ∉ T) : Tl w' e v n xs S := h.keep fun k hk => hc.block k (h.lt k hk) (hd k hk)
theorem Tl.form (h : Tl w e v n xs S) : ∃ A c, v = .slice A n c ∧ n ≤ c ∧ (A = none → n = 0 ∧ c = 0) ∧ ∃ g off, Hid (0 < n → A = some ⟨g, off, none⟩ ∧ S = [g] ∧ ∀ k, k < n → w.cell? ⟨g, off + k, none⟩ = xs[k]?) ∧ (0 < n → g < w.heap.size) := by
  rcases h.2 with ⟨rfl, rfl, rfl⟩ | ⟨g, off, cap, cur, rfl, rfl, hg, hnc, hcm, hsz, htk⟩
  · exact ⟨none, 0, rfl, by omega, fun _ => ⟨rfl, rfl⟩, 0, 0, fun h => absurd h (by omega), fun h => absurd h (by omega)⟩
  · refine ⟨_, cap, rfl, hnc, (fun h => by cases h), g, off, fun _ => ⟨rfl, rfl, fun k hk => ?_⟩, fun _ => Blk.lt (cs := cur) hg⟩
    rw [Blk.cell (cs := cur) hg, ← htk, List.getElem?_take, if_pos hk, List.getElem?_drop, Array.getElem?_toList]
theorem Tl.behind {g off cap : Nat} (h : Tl w e (.slice (some ⟨g, off, none⟩) n cap) n xs S) (hn : 1 < n) : Tl w e (.slice (some ⟨g, off + 1, none⟩) (n - 1) (cap - 1)) (n - 1) xs.tail S := by
  refine ⟨by simp [h.1], .inr ?_⟩
  rcases h.2 with ⟨h, _⟩ | ⟨g', off', cap', cur, hv, rfl, hg, hnc, hcm, hsz, htk⟩
  · cases h
  · injection hv with h1 _ h3
    injection h1 with h1
    injection h1 with h1 h2 _
    subst h1 h2 h3
    refine ⟨_, _, _, cur, rfl, rfl, hg, by omega, by omega, by omega, ?_⟩
    rw [← htk, ← List.drop_one, List.drop_take, List.drop_drop]
end
section
variable {P : Program} (w : World)
theorem run_append_room_at (t ty e : TypeId) (i : TypeInfo) (ht : P.underlying t = some (.slice e)) (hi : P.info? e = some i) (hs1 : i.size = 1)
    (g off sLen sCap : Nat) (cur : Array Value) (hg : w.heap[g]? = some (.cells cur e (0, 0)))
    (a : Addr) (m c : Nat) (news : List Value) (hl : news.length = m) (hnews : ∀ j u, news[j]? = some u → w.cell? (a.add j) = some u) (h1 : ∀ u ∈ news, u.oneCell' = true)
    (hroom : sLen + m ≤ sCap) (hfit : off + sLen + news.length ≤ cur.size) :
    (Builtin.append_ #[t, t] ty #[.slice (some ⟨g, off, none⟩) sLen sCap, .slice (some a) m c]).run P w =
      .ok (.slice (some ⟨g, off, none⟩) (sLen + m) sCap) (w.setRow g (cur.toList.take (off + sLen) ++ news ++ cur.toList.drop (off + sLen + news.length)).toArray) := by
  have hf := run_firstCells_some (P := P) w 1 m a m c news (by omega) hnews
  have hst := run_storeCells_at P g (off + sLen) e news 0 cur w hg (by simpa using hfit) h1
  simp only [Nat.add_zero] at hst
  simp [Builtin.append_, run_underlying ht, sizeOf, typeInfo, hi, hs1, Builtin.lenOf, hroom, hf, Addr.add_lit, hst]
theorem run_append_tl (t ty e : TypeId) (i : TypeInfo) (z : Value) (bytes : Nat) (ht : P.underlying t = some (.slice e)) (hi : P.info? e = some i) (hz : i.zero = some z)
    (hsize : i.size = 1) (hby : i.bytes = bytes) (hzs : z.cells.size = 1) {v : Value} {n : Nat} {xs : List Value} {S : List Nat} (h : Tl w e v n xs S)
    (a : Addr) (c : Nat) (u : Value) (hu : w.cell? a = some u) (h1 : u.oneCell' = true) (h63 : n + 1 ≤ maxLen) (hbytes : (n + 1) * bytes ≤ 140737488355328) :
    ∃ A' c' S' w', (Builtin.append_ #[t, t] ty #[v, .slice (some a) 1 c]).run P w = .ok (.slice A' (n + 1) c') w' ∧ Tl w' e (.slice A' (n + 1) c') (n + 1) (xs ++ [u]) S' ∧ Chg S w w' ∧ (S' = S ∨ S' = [w.heap.size]) := by
  subst hby
  have hsmall : n + 1 ≤ 9223372036854775807 := by simp only [maxLen] at h63; omega
  have hnews : ∀ j x, [u][j]? = some x → w.cell? (a.add j) = some x := by
    intro j x hj
    match j, hj with
    | 0, hj => simp at hj; subst hj; simpa [Addr.add] using hu
  have grown : ∀ (old : Nat), old < n + 1 →
      Tl (w.drew.alloc (.cells (xs.toArray ++ [u].toArray ++ Builtin.zeroCells z.cells (grownCap w (n + 1) old e - (n + 1))) e)) e (.slice (some ⟨w.heap.size, 0, none⟩) (n + 1) (grownCap w (n + 1) old e)) (n + 1) (xs ++ [u]) [w.heap.size] ∧
      ∀ T, Chg T w (w.drew.alloc (.cells (xs.toArray ++ [u].toArray ++ Builtin.zeroCells z.cells (grownCap w (n + 1) old e - (n + 1))) e)) := by
    intro old ho
    have hge := grownCap_ge w (n + 1) old e
    have hcm : grownCap w (n + 1) old e ≤ maxLen := grownCap_le_maxLen w (n + 1) old e h63
    refine ⟨⟨by simp [h.1], .inr ⟨w.heap.size, 0, _, _, rfl, rfl, heap_alloc_new w.drew _, hge, hcm, ?_, ?_⟩⟩, fun T => (Chg.refl T w).drew.alloc _⟩
    · have := h.1
      simp only [Array.size_append, List.size_toArray, size_zeroCells, hzs, List.length_singleton]
      omega
    · have := h.1
      simp only [Array.toList_append, List.drop_zero]
      rw [show n + 1 = (xs ++ [u]).length by simp; omega]
      exact List.take_left
  rcases h.2 with ⟨rfl, rfl, rfl⟩ | ⟨g, off, cap, cur, rfl, rfl, hg, hnc, hcm, hcs, htake⟩
  · obtain rfl : xs = [] := List.eq_nil_of_length_eq_zero h.1
    have hr := run_append_nil (P := P) w t ty e i z ht hi hz a 1 c [u] (by simp [hsize]) hnews (by omega) (by omega) (by simp only [Nat.zero_add] at hbytes; omega)
    have hgr := grown 0 (by omega)
    simp only [Nat.zero_add, List.nil_append, Array.empty_append] at hgr ⊢
    exact ⟨_, _, _, _, hr, hgr.1, hgr.2 _, .inr rfl⟩
  · by_cases hroom : n + 1 ≤ cap
    · have hr := run_append_room_at (P := P) w t ty e i ht hi hsize g off n cap cur hg a 1 c [u] rfl hnews (by simpa using h1) hroom (by simp; omega)
      refine ⟨_, _, _, _, hr, ⟨by simp [h.1], .inr ⟨g, off, cap, _, rfl, rfl, setRow_heap w g cur _ e _ hg, hroom, hcm, ?_, ?_⟩⟩, ⟨rfl, rfl, rfl, by simp, fun k _ hk => setRow_other w g k _ (by simpa using hk)⟩, .inl rfl⟩
      · have : cur.toList.length = cur.size := by simp
        simp only [List.size_toArray, List.length_append, List.length_take, List.length_drop, List.length_singleton]
        omega
      · have hlen : cur.toList.length = cur.size := by simp
        rw [List.toList_toArray, List.append_assoc, List.drop_append_of_le_length (by rw [List.length_take]; omega), List.drop_take, show off + n - off = n by omega, htake, ← List.append_assoc]
        rw [show n + 1 = (xs ++ [u]).length by simp [h.1]]
        exact List.take_left
    · have holds : ∀ j u, xs[j]? = some u → w.cell? ((⟨g, off, none⟩ : Addr).add j) = some u := by
        intro j x hj
        have hadd : (⟨g, off, none⟩ : Addr).add j = ⟨g, off + j, none⟩ := by unfold Addr.add; split <;> simp_all
        rw [hadd, Blk.cell (cs := cur) hg]
        rw [← htake, List.getElem?_take] at hj
        split at hj
        · rw [List.getElem?_drop, Array.getElem?_toList] at hj; exact hj
        · cases hj
      have hr := run_append_grow (P := P) w t ty e i z ht hi hz ⟨g, off, none⟩ n cap xs (by simp [hsize, h.1]) holds a 1 c [u] (by simp [hsize]) hnews (by omega) (by omega) (growslice_fits (by omega) hbytes)
      have hgr := grown cap (by omega)
      exact ⟨_, _, _, _, hr, hgr.1, hgr.2 _, .inr rfl⟩
theorem wp_append_tl {o : Oper} {a : Act} {K : Act → World → Prop} {Q : Exit → Act → World → Prop} (s x : Operand) (t : TypeId) (ho : o.op = .call { callee := .builtin .append, args := #[s, x], argTypes := #[t, t] })
    (e : TypeId) (i : TypeInfo) (z : Value) (bytes : Nat) (ht : P.underlying t = some (.slice e)) (hi : P.info? e = some i) (hz : i.zero = some z)
    (hsize : i.size = 1) (hby : i.bytes = bytes) (hzs : z.cells.size = 1) (v : Value) (n : Nat) (xs : List Value) (S : List Nat) (hs : a.eval s = v) (h : Tl w e v n xs S)
    (ad : Addr) (c : Nat) (u : Value) (hx : a.eval x = .slice (some ad) 1 c) (hu : w.cell? ad = some u) (h1 : u.oneCell' = true) (h63 : n + 1 ≤ maxLen) (hbytes : (n + 1) * bytes ≤ 140737488355328)
    (hK : ∀ A' c' S' w', Hid (Tl w' e (.slice A' (n + 1) c') (n + 1) (xs ++ [u]) S') → Hid (Chg S w w') → Hid (S' = S ∨ S' = [w.heap.size]) → K (a.put o.dst (.slice A' (n + 1) c')) w') : o.wp P a w K Q := by
  obtain ⟨A', c', S', w', hrun, h2, h3, h4⟩ := run_append_tl (P := P) w t o.type e i z bytes ht hi hz hsize hby hzs h ad c u hu h1 h63 hbytes
  unfold Oper.wp execOp
  simp only [ho, resolve, invoke, builtin, Sem.run_bind, Sem.run_pure, Result.andThen_ok, List.map_toArray, List.map_cons, List.map_nil, hs, hx, hrun]
  exact hK A' c' S' w' h2 h3 h4
theorem wpList_append_tl {ops : Array Oper} {rest : List Oper} {o : Oper} {a : Act} {Q : Exit → Act → World → Prop} (hgd : Region.wanted o (yielded ops a.tmps) = true) (s x : Operand) (t : TypeId) (ho : o.op = .call { callee := .builtin .append, args := #[s, x], argTypes := #[t, t] })
    (e : TypeId) (i : TypeInfo) (z : Value) (bytes : Nat) (ht : P.underlying t = some (.slice e)) (hi : P.info? e = some i) (hz : i.zero = some z)
    (hsize : i.size = 1) (hby : i.bytes = bytes) (hzs : z.cells.size = 1) (v : Value) (n : Nat) (xs : List Value) (S : List Nat) (hs : a.eval s = v) (h : Tl w e v n xs S)
    (ad : Addr) (c : Nat) (u : Value) (hx : a.eval x = .slice (some ad) 1 c) (hu : w.cell? ad = some u) (h1 : u.oneCell' = true) (h63 : n + 1 ≤ maxLen) (hbytes : (n + 1) * bytes ≤ 140737488355328)
    (hK : ∀ A' c' S' w', Hid (Tl w' e (.slice A' (n + 1) c') (n + 1) (xs ++ [u]) S') → Hid (Chg S w w') → Hid (S' = S ∨ S' = [w.heap.size]) → wpList P ops Q rest (a.put o.dst (.slice A' (n + 1) c')) w') : wpList P ops Q (o :: rest) a w :=
  wpList_wanted hgd fun _ hK' => wp_append_tl w s x t ho e i z bytes ht hi hz hsize hby hzs v n xs S hs h ad c u hx hu h1 h63 hbytes fun A' c' S' w' h2 h3 h4 => hK' _ _ (hK A' c' S' w' h2 h3 h4)
theorem step_append_tl {ops : Array Oper} {o : Oper} {a : Act} {K : Act → World → Prop} {Q : Exit → Act → World → Prop} {E : Prop} (hgd : o.guard = none) (s x : Operand) (t : TypeId) (ho : o.op = .call { callee := .builtin .append, args := #[s, x], argTypes := #[t, t] })
    (e : TypeId) (i : TypeInfo) (z : Value) (bytes : Nat) (ht : P.underlying t = some (.slice e)) (hi : P.info? e = some i) (hz : i.zero = some z)
    (hsize : i.size = 1) (hby : i.bytes = bytes) (hzs : z.cells.size = 1) (v : Value) (n : Nat) (xs : List Value) (S : List Nat) (hs : a.eval s = v) (h : Tl w e v n xs S)
    (ad : Addr) (c : Nat) (u : Value) (hx : a.eval x = .slice (some ad) 1 c) (hu : w.cell? ad = some u) (h1 : u.oneCell' = true) (h63 : n + 1 ≤ maxLen) (hbytes : (n + 1) * bytes ≤ 140737488355328)
    (hK : ∀ A' c' S' w', Hid (Tl w' e (.slice A' (n + 1) c') (n + 1) (xs ++ [u]) S') → Hid (Chg S w w') → Hid (S' = S ∨ S' = [w.heap.size]) → K (a.put o.dst (.slice A' (n + 1) c')) w') :
    if Region.wanted o (yielded ops a.tmps) = true then Oper.wp P o a w K Q else E := by
  have hw : Region.wanted o (yielded ops a.tmps) = true := by simp [Region.wanted, hgd]
  rw [if_pos hw]
  exact wp_append_tl w s x t ho e i z bytes ht hi hz hsize hby hzs v n xs S hs h ad c u hx hu h1 h63 hbytes hK
end
end Go.Proofs.Ytblfagmoilhdnaa

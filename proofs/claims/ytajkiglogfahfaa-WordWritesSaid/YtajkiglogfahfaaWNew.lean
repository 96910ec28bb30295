/- A further writer in the row. -/
import Derived.Test.YtajkiglogfahfaaTells
set_option linter.unusedVariables false
set_option linter.unusedSimpArgs false
namespace Go.Proofs.Ytajkiglogfahfaa
open Go.RowKit

theorem wnew1 {w w1 w2 : World} {B gx gw : Nat} {es : List En} {cs : List Value} {L M L2 : Value} {SL SM S S1 : List Nat} (h0 : Wrow w B gx es cs L M SL SM S) (h : Wrow w1 B gx es cs L M SL SM S) (o1 : Obj)
    (hl1 : Tl w2 58 L2 (es.length + 1) (es.map En.pw ++ [.pointer (some ⟨gw, 0, none⟩)]) S1) (hc1 : Chg SL (w1.alloc o1) w2) :
    Row w2 gx 51 cs ∧ Chg SL w1 w2 := by
  obtain ⟨t1, t2, t3⟩ := h.types
  have hgl : gx ∉ SL := fun hk => by
    obtain ⟨cur, hb⟩ := t1 gx hk
    exact Blk.ne_ (cs := cs.toArray) (cs' := cur) t3 hb (by decide) rfl
  have c1 : Chg SL w1 w2 := ((Chg.refl SL w1).alloc o1).trans hc1 (fun x hx => .inl hx)
  exact ⟨c1.row h.bk.row hgl, c1⟩
theorem wnew_is {w1 w2 : World} {B gx : Nat} {es : List En} {cs : List Value} {L M L2 : Value} {SL SM S : List Nat} (h : Wrow w1 B gx es cs L M SL SM S) (c1 : Chg SL w1 w2) (oA oB : Obj) :
    Tl (((w2.setCell ⟨gx, 0, none⟩ L2).alloc oA).alloc oB) 102 M es.length (es.map En.pr) SM := by
  obtain ⟨t1, t2, t3⟩ := h.types
  refine h.is.chg (T := gx :: SL) ((((c1.wide (T := gx :: SL) (fun k hk => by simp [hk])).set_ (p := ⟨gx, 0, none⟩) (.inl (by simp)) L2).alloc oA).alloc oB) fun k hk hm => ?_
  obtain ⟨cur, hb⟩ := t2 k hk
  rcases List.mem_cons.1 hm with e | hm
  · exact Blk.ne_ (cs := cur) (cs' := cs.toArray) hb t3 (by decide) e
  · obtain ⟨cur', hb'⟩ := t1 k hm
    exact Blk.ne_ (cs := cur') (cs' := cur) hb' hb (by decide) rfl
theorem wnew2 {w w1 w2 w6 : World} {B gx gw : Nat} {es : List En} {cs : List Value} {L M L2 M2 : Value} {SL SM S S1 S2 : List Nat} (h0 : Wrow w B gx es cs L M SL SM S) (hb0 : Below w.heap.size w w1) (hB : B ≤ w.heap.size) (hgw : w.heap.size ≤ gw) (hwr : Wr w1 gw none ⟨[], 0⟩) (o1 o2 : Obj)
    (hl1 : Tl w2 58 L2 (es.length + 1) (es.map En.pw ++ [.pointer (some ⟨gw, 0, none⟩)]) S1) (hc1 : Chg SL (w1.alloc o1) w2) (hs1 : S1 = SL ∨ S1 = [(w1.alloc o1).heap.size])
    (hl2 : Tl w6 102 M2 (es.length + 1) (es.map En.pr ++ [.pointer (some ⟨w2.heap.size, 0, none⟩)]) S2) (hc2 : Chg SM (((w2.setCell ⟨gx, 0, none⟩ L2).alloc (.cells #[.slice none 0 0, .int .i64 0] 104)).alloc o2) w6) (hs2 : S2 = SM ∨ S2 = [(((w2.setCell ⟨gx, 0, none⟩ L2).alloc (.cells #[.slice none 0 0, .int .i64 0] 104)).alloc o2).heap.size]) :
    Row w6 gx 51 (cs.set 0 L2) ∧ Wrow (w6.setCell ⟨gx, 1, none⟩ M2) B gx (es ++ [⟨gw, none, w2.heap.size, none, ⟨[], 0⟩⟩]) ((cs.set 0 L2).set 1 M2) L2 M2 S1 S2 S ∧ Below B w (w6.setCell ⟨gx, 1, none⟩ M2) := by
  have h := h0.below hb0
  obtain ⟨hr2, c1⟩ := wnew1 h0 h o1 hl1 hc1
  obtain ⟨t1, t2, t3⟩ := h.types
  have hgl : gx ∉ SL := fun hk => by
    obtain ⟨cur, hb⟩ := t1 gx hk
    exact Blk.ne_ (cs := cs.toArray) (cs' := cur) t3 hb (by decide) rfl
  have hgm : gx ∉ SM := fun hk => by
    obtain ⟨cur, hb⟩ := t2 gx hk
    exact Blk.ne_ (cs := cs.toArray) (cs' := cur) t3 hb (by decide) rfl
  have hlm : ∀ k ∈ SL, k ∉ SM := fun k hk hm => by
    obtain ⟨cur, hb⟩ := t1 k hk
    obtain ⟨cur', hb'⟩ := t2 k hm
    exact Blk.ne_ (cs := cur) (cs' := cur') hb hb' (by decide) rfl
  have hgxw : gx < w.heap.size := h0.bk.row.lt
  have hw1 : w.heap.size ≤ w1.heap.size := hb0.size
  have hw2 : w1.heap.size ≤ w2.heap.size := c1.size
  have c2 : Chg [gx] w2 ((w2.setCell ⟨gx, 0, none⟩ L2).alloc (.cells #[.slice none 0 0, .int .i64 0] 104)) := ((Chg.refl [gx] w2).set_ (p := ⟨gx, 0, none⟩) (.inl (by simp)) L2).alloc _
  have hrow4 : Row ((w2.setCell ⟨gx, 0, none⟩ L2).alloc (.cells #[.slice none 0 0, .int .i64 0] 104)) w2.heap.size 104 [.slice none 0 0, .int .i64 0] := by
    have := Row.new (w2.setCell ⟨gx, 0, none⟩ L2) 104 [.slice none 0 0, .int .i64 0]
    simpa [World.setCell] using this
  have c5 : Chg SM ((w2.setCell ⟨gx, 0, none⟩ L2).alloc (.cells #[.slice none 0 0, .int .i64 0] 104)) w6 := ((Chg.refl SM _).alloc o2).trans hc2 (fun x hx => .inl hx)
  have hr3 : Row (w2.setCell ⟨gx, 0, none⟩ L2) gx 51 (cs.set 0 L2) := hr2.set_ 0 L2
  have hr6 : Row w6 gx 51 (cs.set 0 L2) := c5.row (hr3.alloc _) hgm
  have hr7 := hr6.set_ 1 M2
  have c7 : Chg [gx] w6 (w6.setCell ⟨gx, 1, none⟩ M2) := (Chg.refl [gx] w6).set_ (p := ⟨gx, 1, none⟩) (.inl (by simp)) M2
  have c26 : Chg (gx :: SM) w2 (w6.setCell ⟨gx, 1, none⟩ M2) := ((c2.wide (T := gx :: SM) (by simp)).trans (c5.wide (T := gx :: SM) (fun k hk => by simp [hk])) (fun x hx => .inl hx)).trans (c7.wide (T := gx :: SM) (by simp)) (fun x hx => .inl hx)
  have c17 : Chg (gx :: SL ++ SM) w1 (w6.setCell ⟨gx, 1, none⟩ M2) := (c1.wide (T := gx :: SL ++ SM) (fun k hk => by simp [hk])).trans (c26.wide (T := gx :: SL ++ SM) (fun k hk => by simp at hk ⊢; rcases hk with hk | hk <;> simp [hk])) (fun x hx => .inl hx)
  have hTx : ∀ x ∈ es, ∀ k ∈ x.blocks, k ∉ gx :: SL ++ SM := by
    intro x hx k hk hm
    obtain ⟨e, cur, he, hb⟩ := (h.ok x hx).types k hk
    simp only [List.cons_append, List.mem_cons, List.mem_append] at hm
    rcases hm with rfl | hm | hm
    · refine Blk.ne_ (cs := cs.toArray) (cs' := cur) t3 hb ?_ rfl
      rcases he with rfl | rfl | rfl <;> decide
    · obtain ⟨cur1, hb1⟩ := t1 k hm
      refine Blk.ne_ (cs := cur1) (cs' := cur) hb1 hb ?_ rfl
      rcases he with rfl | rfl | rfl <;> decide
    · obtain ⟨cur1, hb1⟩ := t2 k hm
      refine Blk.ne_ (cs := cur1) (cs' := cur) hb1 hb ?_ rfl
      rcases he with rfl | rfl | rfl <;> decide
  have hSLw : ∀ k ∈ SL, k < w.heap.size := h0.ws.lt
  have hSMw : ∀ k ∈ SM, k < w.heap.size := h0.is.lt
  have hgwT : gw ∉ gx :: SL ++ SM := by
    intro hm
    simp only [List.cons_append, List.mem_cons, List.mem_append] at hm
    rcases hm with e | hm | hm
    · omega
    · have := hSLw gw hm; omega
    · have := hSMw gw hm; omega
  have hS1 : ∀ k ∈ S1, k ∉ gx :: SM := by
    intro k hk hm
    obtain ⟨cur, hb⟩ := hl1.blk k hk
    rcases List.mem_cons.1 hm with e | hm
    · exact Blk.ne_ (cs := cur) (cs' := cs.toArray) hb hr2 (by decide) e
    · rcases hs1 with e | e
      · rw [e] at hk; exact hlm k hk hm
      · rw [e] at hk
        obtain rfl : k = (w1.alloc o1).heap.size := by simpa using hk
        have := hSMw _ hm
        simp at this
        omega
  have hS2 : ∀ k ∈ S2, k ∉ [gx] := by
    intro k hk hm
    obtain ⟨cur, hb⟩ := hl2.blk k hk
    obtain rfl : k = gx := by simpa using hm
    exact Blk.ne_ (cs := cur) (cs' := (cs.set 0 L2).toArray) hb hr6 (by decide) rfl
  have hlen : 3 + 2 < cs.length := by
    obtain ⟨xs, L', M', held, SL', SM', _, _, _, q3, _⟩ := h.bk.rest
    exact (List.getElem?_eq_some_iff.1 q3).1
  have hbk7 : Bk (w6.setCell ⟨gx, 1, none⟩ M2) gx 2 51 ((cs.set 0 L2).set 1 M2) S := by
    obtain ⟨xs, L', M', held, SL', SM', q0, q1, q2, q3, q4, q5⟩ := h.bk.rest
    refine ⟨hr7, h.bk.ht, h.bk.notin, xs, L', M', held, SL', SM', ?_, ?_, ?_, ?_, q4, q5.chg c17 fun k hk hm => ?_⟩
    · rw [List.getElem?_set_ne (by omega), List.getElem?_set_ne (by omega)]; exact q0
    · rw [List.getElem?_set_ne (by omega), List.getElem?_set_ne (by omega)]; exact q1
    · rw [List.getElem?_set_ne (by omega), List.getElem?_set_ne (by omega)]; exact q2
    · rw [List.getElem?_set_ne (by omega), List.getElem?_set_ne (by omega)]; exact q3
    · simp only [List.cons_append, List.mem_cons, List.mem_append] at hm
      rcases hm with e | hm | hm
      · exact h.bk.notin (by rw [← e]; exact hk)
      · exact h.sl k hm hk
      · exact h.sm k hm hk
  have hSw : ∀ k ∈ S, k < w.heap.size := h0.bk.lt
  have hnewB : (En.mk gw none w2.heap.size none ⟨[], 0⟩).blocks = [gw, w2.heap.size] := rfl
  have hxw : ∀ x ∈ es, ∀ k ∈ x.blocks, k < w.heap.size := fun x hx => (h0.ok x hx).lt
  refine ⟨hr6, ⟨hbk7, ?_, ?_, ?_, ?_, fun x hx => ?_, ?_, fun x hx k hk hm => ?_, fun k hk hm => ?_, fun k hk hm => ?_, h.bs.1, h.bs.2.1, fun x hx k hk => ?_, fun k hk => ?_, fun k hk => ?_⟩, ?_⟩
  · rw [List.getElem?_set_ne (by omega), List.getElem?_set_self (by omega)]
  · rw [List.getElem?_set_self (by rw [List.length_set]; omega)]
  · rw [List.map_append, List.length_append]
    exact hl1.chg c26 hS1
  · rw [List.map_append, List.length_append]
    exact hl2.chg c7 hS2
  · rcases List.mem_append.1 hx with hx | hx
    · exact (h.ok x hx).chg c17 (hTx x hx)
    · obtain rfl : x = ⟨gw, none, w2.heap.size, none, ⟨[], 0⟩⟩ := by simpa using hx
      refine ⟨hwr.chg c17 hgwT (fun k hk => by cases hk), ⟨none, 0, ?_, World.ownsRow_nil _ _ _ _, rfl, by simp⟩, fun k hk => by cases hk⟩
      have : Row w6 w2.heap.size 104 [.slice none 0 0, .int .i64 0] := c5.row hrow4 (fun hm => by have := hSMw _ hm; omega)
      exact c7.row this (by simp; omega)
  · rw [List.pairwise_append]
    refine ⟨h.ap, by simp, fun x hx y hy k hk hm => ?_⟩
    obtain rfl : y = ⟨gw, none, w2.heap.size, none, ⟨[], 0⟩⟩ := by simpa using hy
    rw [hnewB] at hm
    have := hxw x hx k hk
    simp at hm
    rcases hm with e | e <;> omega
  · rcases List.mem_append.1 hx with hx | hx
    · exact h.sb x hx k hk hm
    · obtain rfl : x = ⟨gw, none, w2.heap.size, none, ⟨[], 0⟩⟩ := by simpa using hx
      rw [hnewB] at hk
      have := hSw k hm
      simp at hk
      rcases hk with e | e <;> omega
  · rcases hs1 with e | e
    · rw [e] at hk; exact h.sl k hk hm
    · rw [e] at hk
      obtain rfl : k = (w1.alloc o1).heap.size := by simpa using hk
      have := hSw _ hm
      simp at this
      omega
  · rcases hs2 with e | e
    · rw [e] at hk; exact h.sm k hk hm
    · rw [e] at hk
      have hk : k = (((w2.setCell ⟨gx, 0, none⟩ L2).alloc (.cells #[.slice none 0 0, .int .i64 0] 104)).alloc o2).heap.size := by simpa using hk
      have := hSw _ hm
      simp [World.setCell] at hk
      omega
  · rcases List.mem_append.1 hx with hx | hx
    · exact h.bs.2.2.1 x hx k hk
    · obtain rfl : x = ⟨gw, none, w2.heap.size, none, ⟨[], 0⟩⟩ := by simpa using hx
      rw [hnewB] at hk
      simp at hk
      rcases hk with e | e <;> omega
  · rcases hs1 with e | e
    · rw [e] at hk; exact h.bs.2.2.2.1 k hk
    · rw [e] at hk
      have hk : k = (w1.alloc o1).heap.size := by simpa using hk
      simp at hk
      omega
  · rcases hs2 with e | e
    · rw [e] at hk; exact h.bs.2.2.2.2 k hk
    · rw [e] at hk
      have hk : k = (((w2.setCell ⟨gx, 0, none⟩ L2).alloc (.cells #[.slice none 0 0, .int .i64 0] 104)).alloc o2).heap.size := by simpa using hk
      simp [World.setCell] at hk
      omega
  · refine below_chg (hb0.mono hB) hB c17 fun k hk => ?_
    simp only [List.cons_append, List.mem_cons, List.mem_append] at hk
    rcases hk with rfl | hk | hk
    · exact h.bs.1
    · exact h.bs.2.2.2.1 k hk
    · exact h.bs.2.2.2.2 k hk
end Go.Proofs.Ytajkiglogfahfaa

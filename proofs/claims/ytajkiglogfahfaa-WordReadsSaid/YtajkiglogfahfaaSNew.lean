/- A further reader on the shelf. -/
import Derived.Test.YtajkiglogfahfaaShf
set_option linter.unusedVariables false
set_option linter.unusedSimpArgs false
namespace Go.Proofs.Ytajkiglogfahfaa
open Go.RowKit

theorem snew1 {w1 w2 : World} {B gx gr n c : Nat} {A : Option Addr} {bs : List Nat} {es : List Sn} {cs : List Value} {L M L2 : Value} {SL SM S S1 : List Nat} (h : Shf w1 B gx A n c bs es cs L M SL SM S) (o1 : Obj)
    (hl1 : Tl w2 65 L2 (es.length + 1) (es.map Sn.pr ++ [.pointer (some ⟨gr, 0, none⟩)]) S1) (hc1 : Chg SL (w1.alloc o1) w2) :
    Row w2 gx 75 cs ∧ Chg SL w1 w2 := by
  have c1 : Chg SL w1 w2 := ((Chg.refl SL w1).alloc o1).trans hc1 (fun x hx => .inl hx)
  exact ⟨c1.row h.bk.row h.apart.1, c1⟩
theorem snew_is {w1 w2 : World} {B gx n c : Nat} {A : Option Addr} {bs : List Nat} {es : List Sn} {cs : List Value} {L M L2 : Value} {SL SM S : List Nat} (h : Shf w1 B gx A n c bs es cs L M SL SM S) (c1 : Chg SL w1 w2) (oA oB : Obj) :
    Tl (((w2.setCell ⟨gx, 1, none⟩ L2).drew.alloc oA).alloc oB) 78 M es.length (es.map Sn.pv) SM := by
  refine h.is.chg (T := gx :: SL) (((((c1.wide (T := gx :: SL) (fun k hk => by simp [hk])).set_ (p := ⟨gx, 1, none⟩) (.inl (by simp)) L2).drew).alloc oA).alloc oB) fun k hk hm => ?_
  rcases List.mem_cons.1 hm with e | hm
  · exact h.apart.2.1 (by rw [← e]; exact hk)
  · exact h.apart.2.2 k hm hk
theorem snew2 {w w1 w2 w6 : World} {B gx gr n c : Nat} {rr : Option Nat} {A : Option Addr} {bs : List Nat} {es : List Sn} {cs : List Value} {L M L2 M2 : Value} {SL SM S S1 S2 : List Nat} (h0 : Shf w B gx A n c bs es cs L M SL SM S) (hb0 : Below w.heap.size w w1) (hB : B ≤ w.heap.size) (hgr : w.heap.size ≤ gr) (hrr : ∀ k, rr = some k → w.heap.size ≤ k) (hrd : Rd w1 gr rr ⟨bs, 0, 0⟩) (o1 o2 : Obj)
    (hl1 : Tl w2 65 L2 (es.length + 1) (es.map Sn.pr ++ [.pointer (some ⟨gr, 0, none⟩)]) S1) (hc1 : Chg SL (w1.alloc o1) w2) (hs1 : S1 = SL ∨ S1 = [(w1.alloc o1).heap.size])
    (hl2 : Tl w6 78 M2 (es.length + 1) (es.map Sn.pv ++ [.pointer (some ⟨w2.heap.size, 0, none⟩)]) S2) (hc2 : Chg SM (((w2.setCell ⟨gx, 1, none⟩ L2).drew.alloc (.cells #[.slice A n c, .int .i64 0, .int .i64 0] 117)).alloc o2) w6) (hs2 : S2 = SM ∨ S2 = [(((w2.setCell ⟨gx, 1, none⟩ L2).drew.alloc (.cells #[.slice A n c, .int .i64 0, .int .i64 0] 117)).alloc o2).heap.size]) :
    Row w6 gx 75 (cs.set 1 L2) ∧ Shf (w6.setCell ⟨gx, 2, none⟩ M2) B gx A n c bs (es ++ [⟨gr, rr, w2.heap.size, ⟨bs, 0, 0⟩⟩]) ((cs.set 1 L2).set 2 M2) L2 M2 S1 S2 S ∧ Below B w (w6.setCell ⟨gx, 2, none⟩ M2) := by
  have h := h0.below hb0 hB
  obtain ⟨hr2, c1⟩ := snew1 h o1 hl1 hc1
  obtain ⟨t1, t2, t3⟩ := h.types
  obtain ⟨hgl, hgm, hlm⟩ := h.apart
  have hgxw : gx < w.heap.size := h0.bk.row.lt
  have hw1 : w.heap.size ≤ w1.heap.size := hb0.size
  have hw2 : w1.heap.size ≤ w2.heap.size := c1.size
  have c2 : Chg [gx] w2 ((w2.setCell ⟨gx, 1, none⟩ L2).drew.alloc (.cells #[.slice A n c, .int .i64 0, .int .i64 0] 117)) := (((Chg.refl [gx] w2).set_ (p := ⟨gx, 1, none⟩) (.inl (by simp)) L2).drew).alloc _
  have hrow4 : Row ((w2.setCell ⟨gx, 1, none⟩ L2).drew.alloc (.cells #[.slice A n c, .int .i64 0, .int .i64 0] 117)) w2.heap.size 117 [.slice A n c, .int .i64 0, .int .i64 0] := by
    have := Row.new (w2.setCell ⟨gx, 1, none⟩ L2).drew 117 [.slice A n c, .int .i64 0, .int .i64 0]
    have e : (w2.setCell ⟨gx, 1, none⟩ L2).drew.heap.size = w2.heap.size := by simp [World.setCell]
    rwa [e] at this
  have c5 : Chg SM ((w2.setCell ⟨gx, 1, none⟩ L2).drew.alloc (.cells #[.slice A n c, .int .i64 0, .int .i64 0] 117)) w6 := ((Chg.refl SM _).alloc o2).trans hc2 (fun x hx => .inl hx)
  have hr3 : Row (w2.setCell ⟨gx, 1, none⟩ L2).drew gx 75 (cs.set 1 L2) := (hr2.set_ 1 L2).drew
  have hr6 : Row w6 gx 75 (cs.set 1 L2) := c5.row (hr3.alloc _) hgm
  have hr7 := hr6.set_ 2 M2
  have c7 : Chg [gx] w6 (w6.setCell ⟨gx, 2, none⟩ M2) := (Chg.refl [gx] w6).set_ (p := ⟨gx, 2, none⟩) (.inl (by simp)) M2
  have c26 : Chg (gx :: SM) w2 (w6.setCell ⟨gx, 2, none⟩ M2) := ((c2.wide (T := gx :: SM) (by simp)).trans (c5.wide (T := gx :: SM) (fun k hk => by simp [hk])) (fun x hx => .inl hx)).trans (c7.wide (T := gx :: SM) (by simp)) (fun x hx => .inl hx)
  have c17 : Chg (gx :: SL ++ SM) w1 (w6.setCell ⟨gx, 2, none⟩ M2) := (c1.wide (T := gx :: SL ++ SM) (fun k hk => by simp [hk])).trans (c26.wide (T := gx :: SL ++ SM) (fun k hk => by simp at hk ⊢; rcases hk with hk | hk <;> simp [hk])) (fun x hx => .inl hx)
  have hTB : ∀ k ∈ gx :: SL ++ SM, B ≤ k := by
    intro k hk
    simp only [List.cons_append, List.mem_cons, List.mem_append] at hk
    rcases hk with rfl | hk | hk
    · exact h.bs_.1
    · exact h.bs_.2.2.2.1 k hk
    · exact h.bs_.2.2.2.2 k hk
  have hTx : ∀ x ∈ es, ∀ k ∈ x.blocks, k ∉ gx :: SL ++ SM := by
    intro x hx k hk hm
    obtain ⟨a1, a2, a3⟩ := h.away hx
    simp only [List.cons_append, List.mem_cons, List.mem_append] at hm
    rcases hm with rfl | hm | hm
    · exact a1 hk
    · exact a2 k hm hk
    · exact a3 k hm hk
  have hSLw : ∀ k ∈ SL, k < w.heap.size := h0.rs.lt
  have hSMw : ∀ k ∈ SM, k < w.heap.size := h0.is.lt
  have hnT : ∀ k, w.heap.size ≤ k → k ∉ gx :: SL ++ SM := by
    intro k hk hm
    simp only [List.cons_append, List.mem_cons, List.mem_append] at hm
    rcases hm with e | hm | hm
    · omega
    · have := hSLw k hm; omega
    · have := hSMw k hm; omega
  have hS1 : ∀ k ∈ S1, k ∉ gx :: SM := by
    intro k hk hm
    obtain ⟨cur, hb⟩ := hl1.blk k hk
    rcases List.mem_cons.1 hm with e | hm
    · exact Blk.ne_ (cs := cur) (cs' := cs.toArray) hb hr2 (by decide) e
    · rcases hs1 with e | e
      · rw [e] at hk; exact hlm k hk hm
      · rw [e] at hk
        obtain rfl : k = (w1.alloc o1).heap.size := by simpa using hk
        have := hSMw _ hm
        simp at this
        omega
  have hS2 : ∀ k ∈ S2, k ∉ [gx] := by
    intro k hk hm
    obtain ⟨cur, hb⟩ := hl2.blk k hk
    obtain rfl : k = gx := by simpa using hm
    exact Blk.ne_ (cs := cur) (cs' := (cs.set 1 L2).toArray) hb hr6 (by decide) rfl
  have hlen : 4 + 2 < cs.length := by
    obtain ⟨xs, L', M', held, SL', SM', _, _, _, q3, _⟩ := h.bk.rest
    exact (List.getElem?_eq_some_iff.1 q3).1
  have hbk7 : Bk (w6.setCell ⟨gx, 2, none⟩ M2) gx 3 75 ((cs.set 1 L2).set 2 M2) S := by
    obtain ⟨xs, L', M', held, SL', SM', q0, q1, q2, q3, q4, q5⟩ := h.bk.rest
    refine ⟨hr7, h.bk.ht, h.bk.notin, xs, L', M', held, SL', SM', ?_, ?_, ?_, ?_, q4, q5.chg c17 fun k hk hm => ?_⟩
    · rw [List.getElem?_set_ne (by omega), List.getElem?_set_ne (by omega)]; exact q0
    · rw [List.getElem?_set_ne (by omega), List.getElem?_set_ne (by omega)]; exact q1
    · rw [List.getElem?_set_ne (by omega), List.getElem?_set_ne (by omega)]; exact q2
    · rw [List.getElem?_set_ne (by omega), List.getElem?_set_ne (by omega)]; exact q3
    · simp only [List.cons_append, List.mem_cons, List.mem_append] at hm
      rcases hm with e | hm | hm
      · exact h.bk.notin (by rw [← e]; exact hk)
      · exact h.sl k hm hk
      · exact h.sm k hm hk
  have hSw : ∀ k ∈ S, k < w.heap.size := h0.bk.lt'
  have hnew : ∀ k ∈ (Sn.mk gr rr w2.heap.size ⟨bs, 0, 0⟩).blocks, w.heap.size ≤ k := by
    intro k hk
    simp only [Sn.blocks, List.mem_cons, Option.mem_toList] at hk
    rcases hk with rfl | rfl | hk
    · exact hgr
    · omega
    · exact hrr k hk
  have hxw : ∀ x ∈ es, ∀ k ∈ x.blocks, k < w.heap.size := fun x hx => (h0.ok x hx).lt
  have hnl : bs.length = n := h.ib.1.len
  have hBw1 : B ≤ w1.heap.size := by omega
  refine ⟨hr6, ⟨hbk7, ?_, ?_, ?_, ⟨h.ib.1.below (c17.below hBw1 hTB), h.ib.2⟩, ?_, ?_, fun x hx => ?_, ?_, fun x hx k hk hm => ?_, fun k hk hm => ?_, fun k hk hm => ?_, h.bs_.1, h.bs_.2.1, fun x hx k hk => ?_, fun k hk => ?_, fun k hk => ?_⟩, ?_⟩
  · rw [List.getElem?_set_ne (by omega), List.getElem?_set_ne (by omega)]; exact h.c0
  · rw [List.getElem?_set_ne (by omega), List.getElem?_set_self (by omega)]
  · rw [List.getElem?_set_self (by rw [List.length_set]; omega)]
  · rw [List.map_append, List.length_append]
    exact hl1.chg c26 hS1
  · rw [List.map_append, List.length_append]
    exact hl2.chg c7 hS2
  · rcases List.mem_append.1 hx with hx | hx
    · exact (h.ok x hx).chg c17 (hTx x hx) hTB hBw1
    · obtain rfl : x = ⟨gr, rr, w2.heap.size, ⟨bs, 0, 0⟩⟩ := by simpa using hx
      have hv : Row w6 w2.heap.size 117 [.slice A n c, .int .i64 0, .int .i64 0] := c5.row hrow4 (fun hm => by have := hSMw _ hm; omega)
      have hv7 := c7.row hv (by simp; omega)
      have hib7 : IsB (w6.setCell ⟨gx, 2, none⟩ M2) B A n bs := h.ib.1.below (c17.below hBw1 hTB)
      refine ⟨⟨hrd.chg c17 (hnT gr hgr) (fun k hk => hnT k (hrr k hk)), ⟨?_, ?_, ?_, Nat.zero_le _, ?_, h.ib.2.2⟩, ?_, ?_⟩, rfl⟩
      · simp only [hnl]; exact hv7
      · simp only [hnl]; exact hib7
      · simp only [hnl]; exact h.ib.2.1
      · simp only; omega
      · simp only; omega
      · intro k hk; have := hrr k hk; omega
  · rw [List.pairwise_append]
    refine ⟨h.ap, by simp, fun x hx y hy k hk hm => ?_⟩
    obtain rfl : y = ⟨gr, rr, w2.heap.size, ⟨bs, 0, 0⟩⟩ := by simpa using hy
    have := hxw x hx k hk
    have := hnew k hm
    omega
  · rcases List.mem_append.1 hx with hx | hx
    · exact h.sb x hx k hk hm
    · obtain rfl : x = ⟨gr, rr, w2.heap.size, ⟨bs, 0, 0⟩⟩ := by simpa using hx
      have := hSw k hm
      have := hnew k hk
      omega
  · rcases hs1 with e | e
    · rw [e] at hk; exact h.sl k hk hm
    · rw [e] at hk
      obtain rfl : k = (w1.alloc o1).heap.size := by simpa using hk
      have := hSw _ hm
      simp at this
      omega
  · rcases hs2 with e | e
    · rw [e] at hk; exact h.sm k hk hm
    · rw [e] at hk
      have hk : k = (((w2.setCell ⟨gx, 1, none⟩ L2).drew.alloc (.cells #[.slice A n c, .int .i64 0, .int .i64 0] 117)).alloc o2).heap.size := by simpa using hk
      have := hSw _ hm
      simp [World.setCell] at hk
      omega
  · rcases List.mem_append.1 hx with hx | hx
    · exact h.bs_.2.2.1 x hx k hk
    · obtain rfl : x = ⟨gr, rr, w2.heap.size, ⟨bs, 0, 0⟩⟩ := by simpa using hx
      have := hnew k hk
      omega
  · rcases hs1 with e | e
    · rw [e] at hk; exact h.bs_.2.2.2.1 k hk
    · rw [e] at hk
      have hk : k = (w1.alloc o1).heap.size := by simpa using hk
      simp at hk
      omega
  · rcases hs2 with e | e
    · rw [e] at hk; exact h.bs_.2.2.2.2 k hk
    · rw [e] at hk
      have hk : k = (((w2.setCell ⟨gx, 1, none⟩ L2).drew.alloc (.cells #[.slice A n c, .int .i64 0, .int .i64 0] 117)).alloc o2).heap.size := by simpa using hk
      simp [World.setCell] at hk
      omega
  · exact below_chg (hb0.mono hB) hB c17 hTB
end Go.Proofs.Ytajkiglogfahfaa

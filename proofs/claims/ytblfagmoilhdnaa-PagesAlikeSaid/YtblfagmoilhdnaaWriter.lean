/- Words for a writer in memory, and the walks of the writer's methods. -/
import Derived.Test.YtblfagmoilhdnaaClone
import Derived.Test.YtblfagmoilhdnaaMore
import Derived.Test.YtblfagmoilhdnaaChg
import Derived.Deep.RegionHeld3
import Derived.Deep.RegionLaw
import Derived.Deep.RegionLawGrows
set_option linter.unusedVariables false
set_option linter.unusedSimpArgs false
namespace Go.Proofs.Ytblfagmoilhdnaa
open Go.RowKit

/-- a writer -/
def Wr (w : World) (g : Nat) (r : Option Nat) (s : Wd.W) : Prop :=
  ∃ A c, Row w g 127 [.slice A s.b.length c, .int .i64 (s.e : Nat)] ∧ w.ownsRow 0 5 1 (.slice A s.b.length c) s.b.length (s.b.map u8) ∧ (Value.slice A s.b.length c).ownBlock = r ∧ (∀ b ∈ s.b, b < 256)
theorem owns_below {w w' : World} {base : Nat} {e : TypeId} {size n : Nat} {v : Value} {xs : List Value} (h : w.ownsRow base e size v n xs) (hb : Below w.heap.size w w') : w'.ownsRow base e size v n xs := by
  refine ⟨h.1, ?_⟩
  rcases h.2 with h2 | ⟨g, cap, cur, hv, hg, hh, r⟩
  · exact .inl h2
  · refine .inr ⟨g, cap, cur, hv, hg, ?_, r⟩
    rw [hb.block g (Blk.lt (cs := cur) hh)]; exact hh
theorem row_two {w : World} {g : Nat} {t : TypeId} {u : Value} {cs : List Value} (h : Row w g t (u :: cs)) : w.cell? ⟨g, 0, none⟩ = some u ∧ w.frozen? ⟨g, 0, none⟩ = false := ⟨h.cell 0, h.frozen 0⟩
theorem row_grown {w w' : World} {g : Nat} {t : TypeId} {cs : List Value} {row : Option Nat} (h : Row w g t cs) (hg : w.grownBy w' row) (hne : some g ≠ row) : Row w' g t cs := (hg.block g h.lt hne).trans h
theorem isB_nil (w : World) (B : Nat) : IsB w B none 0 [] := ⟨⟨rfl, fun h => absurd h (by omega)⟩, by simp, by omega⟩
theorem step_append_sl {P : Program} (w : World) {ops : Array Oper} {o : Oper} {a : Act} {K : Act → World → Prop} {Q : Exit → Act → World → Prop} {E : Prop} (hgd : o.guard = none) (s x : Operand) (t : TypeId)
    (ho : o.op = .call { callee := .builtin .append, args := #[s, x], argTypes := #[t, t] })
    (base : Nat) (e : TypeId) (i : TypeInfo) (z : Value) (size bytes : Nat) (ht : P.underlying t = some (.slice e)) (hi : P.info? e = some i) (hz : i.zero = some z)
    (hsize : i.size = size) (hby : i.bytes = bytes) (hzs : z.cells.size = size) (hsz : 0 < size)
    (v : Value) (n : Nat) (xs : List Value) (hs : a.eval s = v) (hown : w.ownsRow base e size v n xs)
    (B : Nat) (A : Option Addr) (m c : Nat) (news : List Value) (hx : a.eval x = .slice A m c) (hr : Reads w B size A m news) (h1 : ∀ u ∈ news, u.oneCell' = true)
    (h63 : n + m ≤ maxLen) (hbytes : (n + m) * bytes ≤ 140737488355328) (hbase : base ≤ w.heap.size)
    (h : ∀ A' c' w', w'.ownsRow base e size (.slice A' (n + m) c') (n + m) (xs ++ news) → w.grownBy w' v.ownBlock →
      ((Value.slice A' (n + m) c').ownBlock = v.ownBlock ∨ (Value.slice A' (n + m) c').ownBlock = some w.heap.size) → K (a.put o.dst (.slice A' (n + m) c')) w') :
    if Region.wanted o (yielded ops a.tmps) = true then Oper.wp P o a w K Q else E := by
  refine step_append_any w hgd s x t ho base e i z size bytes ht hi hz hsize hby hzs hsz v n xs hs hown B A m c news hx hr h1 h63 hbytes hbase fun v' w' h2 h3 h4 => ?_
  obtain ⟨A', c', rfl, _⟩ := own_slice h2
  exact h A' c' w' h2 h3 h4

/-- a store into a block of another element type leaves what is owned -/
theorem own_set {w : World} {base size n g t : Nat} {e : TypeId} {v : Value} {xs cs : List Value} (h : w.ownsRow base e size v n xs) (hr : Row w g t cs) (hne : e ≠ t) (i : Nat) (u : Value) : (w.setCell ⟨g, i, none⟩ u).ownsRow base e size v n xs := by
  refine ⟨h.1, ?_⟩
  rcases h.2 with h2 | ⟨g', cap, cur, hv, hg, hh, r⟩
  · exact .inl h2
  · refine .inr ⟨g', cap, cur, hv, hg, ?_, r⟩
    have hgg : g' ≠ g := Blk.ne_ (t := e) (cs := cur) (cs' := cs.toArray) hh hr hne
    rw [Below.heap_setCell _ _ _ _ hgg]; exact hh
/-- what an append to the writer's bytes, and its store, come to -/
theorem lay_done {w w1 w2 : World} {g n k c c2 : Nat} {r : Option Nat} {A A2 : Option Addr} {bs x : List Nat} (hrow : Row w g 127 [.slice A n c, .int .i64 ((0 : Nat) : Int)]) (hob : (Value.slice A n c).ownBlock = r) (hgr : r ≠ some g) (hb1 : Below w.heap.size w w1)
    (hown2 : w2.ownsRow 0 5 1 (.slice A2 (n + k) c2) (n + k) (bs.map u8 ++ x.map u8)) (hg2 : w1.grownBy w2 (Value.slice A n c).ownBlock) (hat2 : (Value.slice A2 (n + k) c2).ownBlock = (Value.slice A n c).ownBlock ∨ (Value.slice A2 (n + k) c2).ownBlock = some w1.heap.size)
    (hbs : ∀ b ∈ bs, b < 256) (hx : ∀ b ∈ x, b < 256) (hn : bs.length = n) (hk : x.length = k) :
    ∃ r', Wr (w2.setCell ⟨g, 0, none⟩ (.slice A2 (n + k) c2)) g r' ⟨bs ++ x, 0⟩ ∧ Chg (g :: r.toList) w (w2.setCell ⟨g, 0, none⟩ (.slice A2 (n + k) c2)) ∧ Moved w r r' := by
  have hr1 := hrow.below hb1 hrow.lt
  have hr2 : Row w2 g 127 [.slice A n c, .int .i64 ((0 : Nat) : Int)] := row_grown hr1 hg2 (fun h => hgr (hob.symm.trans h.symm))
  have hr3 := hr2.set_ 0 (.slice A2 (n + k) c2)
  refine ⟨(Value.slice A2 (n + k) c2).ownBlock, ⟨A2, c2, ?_, ?_, ?_, ?_⟩, ?_, ?_⟩
  · rw [List.length_append, hn, hk]; exact hr3
  · rw [List.length_append, hn, hk, List.map_append]; exact own_set hown2 hr2 (by decide) 0 _
  · rw [List.length_append, hn, hk]
  · intro b hb
    rcases List.mem_append.1 hb with h | h
    · exact hbs b h
    · exact hx b h
  · refine Chg.set_ (S := g :: r.toList) ?_ (.inl (by simp)) _
    exact ⟨hg2.os.trans hb1.os, hg2.tape.trans hb1.tape, hg2.output.trans hb1.output, Nat.le_trans hb1.size hg2.size, fun i hi hn => (hg2.block i (Nat.lt_of_lt_of_le hi hb1.size) (fun h => hn (by rw [hob] at h; rw [← h]; simp))).trans (hb1.block i hi)⟩
  · rcases hat2 with h | h
    · exact .inl (h.trans hob)
    · exact .inr ⟨_, h, hb1.size⟩

set_option maxRecDepth 100000 in
set_option maxHeartbeats 1000000 in
theorem lay_uint64 (g : Nat) (r : Option Nat) (s : Wd.W) (n : Nat) (w : World) (hw : Wr w g r s) (hn : n < 18446744073709551616) (hl : s.b.length ≤ 70368744177664) :
    Calls Try.prog 63 #[.pointer (some ⟨g, 0, none⟩), .int .u64 (n : Nat)] w fun e w' => e = .returned (.tuple #[]) ∧ ∃ r', Wr w' g r' (s.lay (Wd.le 8 n)) ∧ Chg (g :: r.toList) w w' ∧ Moved w r r' := by
  obtain ⟨A, c, hrow, hown, hob, hbs⟩ := hw
  obtain ⟨i0, hi0, hz1, hz2, hz3⟩ := info_parts info5w
  by_cases he : s.e = 0
  · have e0 : s.lay (Wd.le 8 n) = ⟨s.b ++ Wd.le 8 n, 0⟩ := by unfold Wd.W.lay; rw [if_pos he]
    obtain ⟨bs, e⟩ := s
    simp only at he hl hrow hown hob hbs e0
    subst he
    have c0 := hrow.cell 0
    have c1 := hrow.cell 1
    have f0 := hrow.frozen 0
    have hlt := hrow.lt
    simp only [List.getElem?_cons_zero, List.getElem?_cons_succ] at c0 c1
    have hgr : r ≠ some g := by
      rw [← hob]
      exact own_blk_ne (cs := #[.slice A bs.length c, .int .i64 0]) hown hrow (by decide)
    have HROW := Lib.hid hrow
    have HOWN := Lib.hid hown
    have HOB := Lib.hid hob
    have HE := Lib.hid e0
    have HI := Lib.hid hi0; have HZ1 := Lib.hid hz1; have HZ2 := Lib.hid hz2; have HZ3 := Lib.hid hz3
    have HGR := Lib.hid hgr
    clear hrow hown hob e0 hi0 hz1 hz2 hz3 hgr
    go_enter Try.func63, Try.ntmps63
    go_wp2_with fail
    go_region_law (first
      | (refine step_append_sl _ (by rfl) (.tmp 13) (.tmp 15) 25 (by rfl) 0 5 i0 _ 1 1 Try.underlying25 HI.out HZ1.out HZ2.out HZ3.out rfl (by omega) (.slice A bs.length c) bs.length (bs.map u8) (by simp [Act.eval, Act.put]) (owns_below (w := w.drew) HOWN.out hb1) w1.heap.size (some ⟨g1, 0, none⟩) 8 c1 ((Wd.le 8 n).map u8) (by simp [Act.eval, Act.put]) hown1.isB.1 (one_u8w _) (by unfold maxLen; omega) (by omega) (Nat.zero_le _) ?_; intro A2 c2 w2 hown2 hg2 hat2; obtain ⟨d0, d1⟩ := row_two (row_grown (HROW.out.below (w := w.drew) hb1 (by simpa using hlt)) hg2 (fun h => HGR.out (HOB.out.symm.trans h.symm))))
      | (go_simp; go_at_call 84; refine (put_uint64 none 0 0 [] n _ (isB_nil _ _) (by omega) hn).mono ?_; rintro e w1 ⟨⟨g1, c1, rfl, hown1⟩, hb1⟩; obtain ⟨d0, d1⟩ := row_two (HROW.out.below (w := w.drew) hb1 (by simpa using hlt))))
    all_goals
      go_end0
      refine ⟨rfl, ?_⟩
      rw [HE.out]
      exact lay_done (w := w) HROW.out HOB.out HGR.out (⟨hb1.os, hb1.tape, hb1.output, hb1.size, hb1.block⟩ : Below w.heap.size w w1) hown2 hg2 hat2 hbs (Wd.le_lt 8 n) rfl (Wd.le_len 8 n)
  · have he' : ((s.e : Int) == 0) = false := beq_eq_false_iff_ne.2 (by omega)
    have e0 : s.lay (Wd.le 8 n) = s := by unfold Wd.W.lay; rw [if_neg he]
    have HE := Lib.hid e0
    have c1 := hrow.cell 1
    simp only [List.getElem?_cons_zero, List.getElem?_cons_succ] at c1
    have HW : Hid (Wr w g r s) := Lib.hid ⟨A, c, hrow, hown, hob, hbs⟩
    clear hrow hown hob hbs hi0 hz1 hz2 hz3 he e0
    go_enter Try.func63, Try.ntmps63
    go_wp2_with fail
    go_end0
    exact ⟨rfl, r, by rw [HE.out]; exact HW.out, Chg.refl _ _, Moved.refl _ _⟩
set_option maxHeartbeats 400000 in
theorem wuint64_any (g : Nat) (r : Option Nat) (s : Wd.W) (n : Nat) (w : World) (hw : Wr w g r s) (hn : n < 18446744073709551616) (hl : s.b.length ≤ 70368744177664) :
    Calls Try.prog 37 #[.pointer (some ⟨g, 0, none⟩), .int .u64 (n : Nat)] w fun e w' => e = .returned (.tuple #[]) ∧ ∃ r', Wr w' g r' (s.lay (Wd.le 8 n)) ∧ Chg (g :: r.toList) w w' ∧ Moved w r r' := by
  have H := Lib.hid (lay_uint64 g r s n w hw hn hl)
  clear hw
  go_enter Try.func37, Try.ntmps37
  go_wp2_with fail
  refine H.out.mono ?_
  rintro e w' ⟨rfl, h⟩
  have HH := Lib.hid h
  clear h
  go_wp2_with fail
  go_end0
  exact ⟨rfl, HH.out⟩
end Go.Proofs.Ytblfagmoilhdnaa

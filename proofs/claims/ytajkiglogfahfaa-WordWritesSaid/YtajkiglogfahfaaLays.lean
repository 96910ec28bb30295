/- The walk of the law's lays: one step on a writer and on the document's writer. -/
import Derived.Test.YtajkiglogfahfaaLaid
import Derived.Test.YtajkiglogfahfaaRefW2
import Derived.Test.YtajkiglogfahfaaBk
import Derived.Test.YtajkiglogfahfaaRefW3
set_option linter.unusedVariables false
set_option linter.unusedSimpArgs false
namespace Go.Proofs.Ytajkiglogfahfaa
open Go.RowKit

theorem le_mod1 (n : Nat) : Wd.le 1 n = Wd.le 1 (n % 256) := by simp [Wd.le]
theorem le_mod2 (n : Nat) : Wd.le 2 n = Wd.le 2 (n % 65536) := by
  simp only [Wd.le]
  congr 1
  · omega
  · congr 1; omega
theorem le_mod4 (n : Nat) : Wd.le 4 n = Wd.le 4 (n % 4294967296) := by
  simp only [Wd.le]
  congr 1
  · omega
  · congr 1
    · omega
    · congr 1
      · omega
      · congr 1; omega
/-- a writer beside the document's -/
structure Pr (w : World) (gw : Nat) (rw : Option Nat) (gr : Nat) (rr : Option Nat) (s : Wd.W) : Prop where
  wr : Wr w gw rw s
  rf : Rw w gr rr s
  ne : ∀ k, rw = some k → rr ≠ some k
theorem Rw.chg {S : List Nat} {w w' : World} {g : Nat} {r : Option Nat} {s : Wd.W} (h : Rw w g r s) (hc : Chg S w w') (hg : g ∉ S) (hr : ∀ k, r = some k → k ∉ S) : Rw w' g r s := by
  obtain ⟨A, c, hrow, hown, hob, hbs⟩ := h
  exact ⟨A, c, hc.row hrow hg, owns_chg hown hc (fun k hk => hr k (hob.symm.trans hk)), hob, hbs⟩
theorem Wr.blk {w : World} {g : Nat} {r : Option Nat} {s : Wd.W} (h : Wr w g r s) : (∃ cs, Row w g 108 cs) ∧ ∀ k, r = some k → ∃ cur, Blk w k 5 cur := by
  obtain ⟨A, c, hrow, hown, hob, hbs⟩ := h
  refine ⟨⟨_, hrow⟩, fun k hk => ?_⟩
  rcases hown.2 with ⟨hv, _⟩ | ⟨g', cap, cur, hv, _, hh, _⟩
  · rw [hv] at hob
    rw [← hob] at hk
    cases hk
  · rw [hv] at hob
    have : r = some g' := by rw [← hob]; rfl
    rw [this] at hk
    injection hk with hk
    subst hk
    exact ⟨cur, hh⟩
theorem Rw.blk {w : World} {g : Nat} {r : Option Nat} {s : Wd.W} (h : Rw w g r s) : (∃ cs, Row w g 104 cs) ∧ ∀ k, r = some k → ∃ cur, Blk w k 5 cur := by
  obtain ⟨A, c, hrow, hown, hob, hbs⟩ := h
  refine ⟨⟨_, hrow⟩, fun k hk => ?_⟩
  rcases hown.2 with ⟨hv, _⟩ | ⟨g', cap, cur, hv, _, hh, _⟩
  · rw [hv] at hob
    rw [← hob] at hk
    cases hk
  · rw [hv] at hob
    have : r = some g' := by rw [← hob]; rfl
    rw [this] at hk
    injection hk with hk
    subst hk
    exact ⟨cur, hh⟩
theorem Pr.lt {w : World} {gw gr : Nat} {rw rr : Option Nat} {s : Wd.W} (h : Pr w gw rw gr rr s) : gw < w.heap.size ∧ gr < w.heap.size ∧ (∀ k, rw = some k → k < w.heap.size) ∧ (∀ k, rr = some k → k < w.heap.size) := by
  obtain ⟨⟨c1, h1⟩, h2⟩ := h.wr.blk
  obtain ⟨⟨c3, h3⟩, h4⟩ := h.rf.blk
  exact ⟨h1.lt, h3.lt, fun k hk => by obtain ⟨cur, hb⟩ := h2 k hk; exact Blk.lt (cs := cur) hb, fun k hk => by obtain ⟨cur, hb⟩ := h4 k hk; exact Blk.lt (cs := cur) hb⟩
/-- the blocks of the one are not the other's -/
theorem Pr.far {w : World} {gw gr : Nat} {rw rr : Option Nat} {s : Wd.W} (h : Pr w gw rw gr rr s) : (gr ∉ gw :: rw.toList ∧ ∀ k, rr = some k → k ∉ gw :: rw.toList) ∧ (gw ∉ gr :: rr.toList ∧ ∀ k, rw = some k → k ∉ gr :: rr.toList) := by
  obtain ⟨⟨c1, h1⟩, h2⟩ := h.wr.blk
  obtain ⟨⟨c3, h3⟩, h4⟩ := h.rf.blk
  have a1 : gw ≠ gr := Blk.ne_ (cs := c1.toArray) (cs' := c3.toArray) h1 h3 (by decide)
  have a2 : ∀ k, rw = some k → k ≠ gr ∧ k ≠ gw := fun k hk => by
    obtain ⟨cur, hb⟩ := h2 k hk
    exact ⟨Blk.ne_ (cs := cur) (cs' := c3.toArray) hb h3 (by decide), Blk.ne_ (cs := cur) (cs' := c1.toArray) hb h1 (by decide)⟩
  have a3 : ∀ k, rr = some k → k ≠ gr ∧ k ≠ gw := fun k hk => by
    obtain ⟨cur, hb⟩ := h4 k hk
    exact ⟨Blk.ne_ (cs := cur) (cs' := c3.toArray) hb h3 (by decide), Blk.ne_ (cs := cur) (cs' := c1.toArray) hb h1 (by decide)⟩
  refine ⟨⟨?_, fun k hk => ?_⟩, ?_, fun k hk => ?_⟩
  · simp; exact ⟨Ne.symm a1, fun e => (a2 gr e).1 rfl⟩
  · simp; exact ⟨(a3 k hk).2, fun e => h.ne k e hk⟩
  · simp; exact ⟨a1, fun e => (a3 gw e).2 rfl⟩
  · simp; exact ⟨(a2 k hk).1, fun e => h.ne k hk e⟩
/-- after the writer's call -/
theorem Pr.mid {w w1 : World} {gw gr : Nat} {rw rr : Option Nat} {s : Wd.W} (h : Pr w gw rw gr rr s) (q2 : Chg (gw :: rw.toList) w w1) : Rw w1 gr rr s := h.rf.chg q2 h.far.1.1 h.far.1.2
/-- after both -/
theorem Pr.done {w w1 w2 : World} {gw gr : Nat} {rw rr rw1 rr1 : Option Nat} {s s' : Wd.W} (h : Pr w gw rw gr rr s) (q1 : Wr w1 gw rw1 s') (q2 : Chg (gw :: rw.toList) w w1) (q3 : Moved w rw rw1) (p1 : Rw w2 gr rr1 s') (p2 : Chg (gr :: rr.toList) w1 w2) (p3 : Moved w1 rr rr1) :
    Pr w2 gw rw1 gr rr1 s' ∧ Chg (gw :: rw.toList ++ gr :: rr.toList) w w2 ∧ Moved w rw rw1 ∧ Moved w rr rr1 := by
  have hl := h.lt
  have hfar := h.far
  refine ⟨⟨q1.chg p2 hfar.2.1 fun k hk hm => ?_, p1, fun k hk hk' => ?_⟩, (q2.wide (fun k hk => by simp at hk ⊢; rcases hk with hk | hk <;> simp [hk])).trans (p2.wide (T := gw :: rw.toList ++ gr :: rr.toList) (fun k hk => by simp at hk ⊢; rcases hk with hk | hk <;> simp [hk])) (fun x hx => .inl hx), q3, p3.below q2.size⟩
  · rcases q3 with rfl | ⟨k', rfl, hk'⟩
    · exact hfar.2.2 k hk hm
    · injection hk with hk
      subst hk
      rcases List.mem_cons.1 hm with e | e
      · have := hl.2.1; omega
      · have := hl.2.2.2 k' (by simpa using e); omega
  · have hk1 : k < w1.heap.size := by
      obtain ⟨cur, hb⟩ := q1.blk.2 k hk
      exact Blk.lt (cs := cur) hb
    rcases p3 with rfl | ⟨k2, rfl, hk2⟩
    · rcases q3 with rfl | ⟨k3, rfl, hk3⟩
      · exact h.ne k hk hk'
      · injection hk with hk
        have := hl.2.2.2 k hk'
        omega
    · injection hk' with hk'
      omega
theorem Pr.below {w w' : World} {gw gr : Nat} {rw rr : Option Nat} {s : Wd.W} (h : Pr w gw rw gr rr s) (hb : Below w.heap.size w w') : Pr w' gw rw gr rr s := ⟨h.wr.below hb, h.rf.below hb, h.ne⟩
theorem Pr.chg {T : List Nat} {w w' : World} {gw gr : Nat} {rw rr : Option Nat} {s : Wd.W} (h : Pr w gw rw gr rr s) (hc : Chg T w w') (hd : ∀ k ∈ gw :: rw.toList ++ gr :: rr.toList, k ∉ T) : Pr w' gw rw gr rr s :=
  ⟨h.wr.chg hc (hd gw (by simp)) (fun k hk => hd k (by simp [hk])), h.rf.chg hc (hd gr (by simp)) (fun k hk => hd k (by simp [hk])), h.ne⟩
/-- what lays comes to -/
def LaysPost (w : World) (gw : Nat) (rw : Option Nat) (gr : Nat) (rr : Option Nat) (s' : Wd.W) (e : Ending) (w' : World) : Prop :=
  e = .returned (.bool true) ∧ ∃ rw1 rr1, Pr w' gw rw1 gr rr1 s' ∧ Chg (gw :: rw.toList ++ gr :: rr.toList) w w' ∧ Moved w rw rw1 ∧ Moved w rr rr1
theorem lays_done {w w0 w1 w2 : World} {gw gr : Nat} {rw rr rw1 rr1 : Option Nat} {s s' : Wd.W} (hb : Below w.heap.size w w0) (h : Pr w0 gw rw gr rr s) (q1 : Wr w1 gw rw1 s') (q2 : Chg (gw :: rw.toList) w0 w1) (q3 : Moved w0 rw rw1) (p1 : Rw w2 gr rr1 s') (p2 : Chg (gr :: rr.toList) w1 w2) (p3 : Moved w1 rr rr1) :
    LaysPost w gw rw gr rr s' (.returned (.bool true)) w2 := by
  obtain ⟨h1, h2, h3, h4⟩ := h.done q1 q2 q3 p1 p2 p3
  exact ⟨rfl, rw1, rr1, h1, (Chg.of_below hb).trans h2 (fun x hx => .inl hx), h3.below hb.size, h4.below hb.size⟩

set_option maxRecDepth 100000 in
set_option maxHeartbeats 1000000 in
theorem lays_1 (gw gr : Nat) (rw rr : Option Nat) (s : Wd.W) (at_ : Int) (n : Nat) (num : Int) (pa : Option Addr) (pn pc : Nat) (ps : List Nat) (t : ByteArray) (w : World) (hw : Pr w gw rw gr rr s) (hp : IsB w w.heap.size pa pn ps) (hn : n < 18446744073709551616) (hsz : s.b.length + pn + t.size ≤ 70368744177664) :
    Calls Try.prog 81 #[.pointer (some ⟨gw, 0, none⟩), .pointer (some ⟨gr, 0, none⟩), .agg #[.int .i64 1, .int .i64 at_, .int .u64 (n : Nat), .int .i64 num, .slice pa pn pc, .string t]] w (LaysPost w gw rw gr rr (Wd.W.op s ⟨1, n, num, ps, sb t⟩)) := by
  have hl : s.b.length ≤ 70368744177664 := by omega
  have HE : Hid (Wd.W.op s ⟨1, n, num, ps, sb t⟩ = s.lay (Wd.le 1 (n % 256))) := Lib.hid (by unfold Wd.W.op; simp only [Wd.kd, if_true, if_false])
  have HQ : Hid (s.lay (Wd.le 1 n) = s.lay (Wd.le 1 (n % 256))) := Lib.hid (by rw [le_mod1])
  obtain ⟨m, hm⟩ : ∃ m, m = n % 256 := ⟨_, rfl⟩
  have hml : m < 256 := by omega
  have hmi : IntKind.u8.wrap (n : Int) = (m : Int) := by rw [IntKind.wrap_u8']; omega
  rw [← hm] at HE HQ
  clear hm
  have hbx : Below w.heap.size w (w.alloc (.cells #[.int .i64 1, .int .i64 at_, .int .u64 (n : Nat), .int .i64 num, .slice pa pn pc, .string t] 54)) := (Below.refl _ _).alloc (Nat.le_refl _) _
  have hrow := Row.new w 54 [.int .i64 1, .int .i64 at_, .int .u64 (n : Nat), .int .i64 num, .slice pa pn pc, .string t]
  have HROW := Lib.hid hrow
  have HP := Lib.hid (hw.below hbx)
  have HB := Lib.hid hbx
  have HC := Lib.hid (wuint8_any gw rw s m _ HP.out.wr hml hl)
  have hlt := hw.lt
  have hgo : w.heap.size ∉ gw :: rw.toList := by
    intro h
    rcases List.mem_cons.1 h with h | h
    · omega
    · have := hlt.2.2.1 w.heap.size (by simpa using h); omega
  have HGO := Lib.hid hgo
  clear hw hp hbx hrow hlt hgo
  go_enter Try.func81, Try.ntmps81
  go_wp2_with fail
  refine HC.out.mono ?_
  rintro e w1 ⟨rfl, r1, q1, q2, q3⟩
  have HR := Lib.hid (HP.out.mid q2)
  have hrow1 := q2.row HROW.out HGO.out
  have c0 := hrow1.cell 0; have c2 := hrow1.cell 2; have c3 := hrow1.cell 3; have c5 := hrow1.cell 5
  simp only [List.getElem?_cons_zero, List.getElem?_cons_succ] at c0 c2 c3 c5
  have HQ1 := Lib.hid q1; have HQ2 := Lib.hid q2; have HQ3 := Lib.hid q3
  have HC2 := Lib.hid (dnumber_any gr rr s n 1 w1 HR.out hn (by omega) hl)
  clear q1 q2 q3 hrow1
  go_wp2_with fail
  refine HC2.out.mono ?_
  rintro e w2 ⟨rfl, r2, p1, p2, p3⟩
  have HP1 := Lib.hid p1; have HP2 := Lib.hid p2; have HP3 := Lib.hid p3
  clear p1 p2 p3
  go_wp2_with fail
  go_ret
  rw [HE.out]
  exact lays_done HB.out HP.out HQ1.out HQ2.out HQ3.out (by have := HP1.out; rwa [HQ.out] at this) HP2.out HP3.out
set_option maxRecDepth 100000 in
set_option maxHeartbeats 1000000 in
theorem lays_2 (gw gr : Nat) (rw rr : Option Nat) (s : Wd.W) (at_ : Int) (n : Nat) (num : Int) (pa : Option Addr) (pn pc : Nat) (ps : List Nat) (t : ByteArray) (w : World) (hw : Pr w gw rw gr rr s) (hp : IsB w w.heap.size pa pn ps) (hn : n < 18446744073709551616) (hsz : s.b.length + pn + t.size ≤ 70368744177664) :
    Calls Try.prog 81 #[.pointer (some ⟨gw, 0, none⟩), .pointer (some ⟨gr, 0, none⟩), .agg #[.int .i64 2, .int .i64 at_, .int .u64 (n : Nat), .int .i64 num, .slice pa pn pc, .string t]] w (LaysPost w gw rw gr rr (Wd.W.op s ⟨2, n, num, ps, sb t⟩)) := by
  have hl : s.b.length ≤ 70368744177664 := by omega
  have HE : Hid (Wd.W.op s ⟨2, n, num, ps, sb t⟩ = s.lay (Wd.le 2 (n % 65536))) := Lib.hid (by unfold Wd.W.op; simp only [Wd.kd, if_true, if_false])
  have HQ : Hid (s.lay (Wd.le 2 n) = s.lay (Wd.le 2 (n % 65536))) := Lib.hid (by rw [le_mod2])
  obtain ⟨m, hm⟩ : ∃ m, m = n % 65536 := ⟨_, rfl⟩
  have hml : m < 65536 := by omega
  have hmi : IntKind.u16.wrap (n : Int) = (m : Int) := by rw [IntKind.wrap_u16]; omega
  rw [← hm] at HE HQ
  clear hm
  have hbx : Below w.heap.size w (w.alloc (.cells #[.int .i64 2, .int .i64 at_, .int .u64 (n : Nat), .int .i64 num, .slice pa pn pc, .string t] 54)) := (Below.refl _ _).alloc (Nat.le_refl _) _
  have hrow := Row.new w 54 [.int .i64 2, .int .i64 at_, .int .u64 (n : Nat), .int .i64 num, .slice pa pn pc, .string t]
  have HROW := Lib.hid hrow
  have HP := Lib.hid (hw.below hbx)
  have HB := Lib.hid hbx
  have HC := Lib.hid (wuint16_any gw rw s m _ HP.out.wr hml hl)
  have hlt := hw.lt
  have hgo : w.heap.size ∉ gw :: rw.toList := by
    intro h
    rcases List.mem_cons.1 h with h | h
    · omega
    · have := hlt.2.2.1 w.heap.size (by simpa using h); omega
  have HGO := Lib.hid hgo
  clear hw hp hbx hrow hlt hgo
  go_enter Try.func81, Try.ntmps81
  go_wp2_with fail
  refine HC.out.mono ?_
  rintro e w1 ⟨rfl, r1, q1, q2, q3⟩
  have HR := Lib.hid (HP.out.mid q2)
  have hrow1 := q2.row HROW.out HGO.out
  have c0 := hrow1.cell 0; have c2 := hrow1.cell 2; have c3 := hrow1.cell 3; have c5 := hrow1.cell 5
  simp only [List.getElem?_cons_zero, List.getElem?_cons_succ] at c0 c2 c3 c5
  have HQ1 := Lib.hid q1; have HQ2 := Lib.hid q2; have HQ3 := Lib.hid q3
  have HC2 := Lib.hid (dnumber_any gr rr s n 2 w1 HR.out hn (by omega) hl)
  clear q1 q2 q3 hrow1
  go_wp2_with fail
  refine HC2.out.mono ?_
  rintro e w2 ⟨rfl, r2, p1, p2, p3⟩
  have HP1 := Lib.hid p1; have HP2 := Lib.hid p2; have HP3 := Lib.hid p3
  clear p1 p2 p3
  go_wp2_with fail
  go_ret
  rw [HE.out]
  exact lays_done HB.out HP.out HQ1.out HQ2.out HQ3.out (by have := HP1.out; rwa [HQ.out] at this) HP2.out HP3.out
set_option maxRecDepth 100000 in
set_option maxHeartbeats 1000000 in
theorem lays_3 (gw gr : Nat) (rw rr : Option Nat) (s : Wd.W) (at_ : Int) (n : Nat) (num : Int) (pa : Option Addr) (pn pc : Nat) (ps : List Nat) (t : ByteArray) (w : World) (hw : Pr w gw rw gr rr s) (hp : IsB w w.heap.size pa pn ps) (hn : n < 18446744073709551616) (hsz : s.b.length + pn + t.size ≤ 70368744177664) :
    Calls Try.prog 81 #[.pointer (some ⟨gw, 0, none⟩), .pointer (some ⟨gr, 0, none⟩), .agg #[.int .i64 3, .int .i64 at_, .int .u64 (n : Nat), .int .i64 num, .slice pa pn pc, .string t]] w (LaysPost w gw rw gr rr (Wd.W.op s ⟨3, n, num, ps, sb t⟩)) := by
  have hl : s.b.length ≤ 70368744177664 := by omega
  have HE : Hid (Wd.W.op s ⟨3, n, num, ps, sb t⟩ = s.lay (Wd.le 4 (n % 4294967296))) := Lib.hid (by unfold Wd.W.op; simp only [Wd.kd, if_true, if_false])
  have HQ : Hid (s.lay (Wd.le 4 n) = s.lay (Wd.le 4 (n % 4294967296))) := Lib.hid (by rw [le_mod4])
  obtain ⟨m, hm⟩ : ∃ m, m = n % 4294967296 := ⟨_, rfl⟩
  have hml : m < 4294967296 := by omega
  have hmi : IntKind.u32.wrap (n : Int) = (m : Int) := by rw [IntKind.wrap_u32']; omega
  rw [← hm] at HE HQ
  clear hm
  have hbx : Below w.heap.size w (w.alloc (.cells #[.int .i64 3, .int .i64 at_, .int .u64 (n : Nat), .int .i64 num, .slice pa pn pc, .string t] 54)) := (Below.refl _ _).alloc (Nat.le_refl _) _
  have hrow := Row.new w 54 [.int .i64 3, .int .i64 at_, .int .u64 (n : Nat), .int .i64 num, .slice pa pn pc, .string t]
  have HROW := Lib.hid hrow
  have HP := Lib.hid (hw.below hbx)
  have HB := Lib.hid hbx
  have HC := Lib.hid (wuint32_any gw rw s m _ HP.out.wr hml hl)
  have hlt := hw.lt
  have hgo : w.heap.size ∉ gw :: rw.toList := by
    intro h
    rcases List.mem_cons.1 h with h | h
    · omega
    · have := hlt.2.2.1 w.heap.size (by simpa using h); omega
  have HGO := Lib.hid hgo
  clear hw hp hbx hrow hlt hgo
  go_enter Try.func81, Try.ntmps81
  go_wp2_with fail
  refine HC.out.mono ?_
  rintro e w1 ⟨rfl, r1, q1, q2, q3⟩
  have HR := Lib.hid (HP.out.mid q2)
  have hrow1 := q2.row HROW.out HGO.out
  have c0 := hrow1.cell 0; have c2 := hrow1.cell 2; have c3 := hrow1.cell 3; have c5 := hrow1.cell 5
  simp only [List.getElem?_cons_zero, List.getElem?_cons_succ] at c0 c2 c3 c5
  have HQ1 := Lib.hid q1; have HQ2 := Lib.hid q2; have HQ3 := Lib.hid q3
  have HC2 := Lib.hid (dnumber_any gr rr s n 4 w1 HR.out hn (by omega) hl)
  clear q1 q2 q3 hrow1
  go_wp2_with fail
  refine HC2.out.mono ?_
  rintro e w2 ⟨rfl, r2, p1, p2, p3⟩
  have HP1 := Lib.hid p1; have HP2 := Lib.hid p2; have HP3 := Lib.hid p3
  clear p1 p2 p3
  go_wp2_with fail
  go_ret
  rw [HE.out]
  exact lays_done HB.out HP.out HQ1.out HQ2.out HQ3.out (by have := HP1.out; rwa [HQ.out] at this) HP2.out HP3.out
set_option maxRecDepth 100000 in
set_option maxHeartbeats 1000000 in
theorem lays_4 (gw gr : Nat) (rw rr : Option Nat) (s : Wd.W) (at_ : Int) (n : Nat) (num : Int) (pa : Option Addr) (pn pc : Nat) (ps : List Nat) (t : ByteArray) (w : World) (hw : Pr w gw rw gr rr s) (hp : IsB w w.heap.size pa pn ps) (hn : n < 18446744073709551616) (hsz : s.b.length + pn + t.size ≤ 70368744177664) :
    Calls Try.prog 81 #[.pointer (some ⟨gw, 0, none⟩), .pointer (some ⟨gr, 0, none⟩), .agg #[.int .i64 4, .int .i64 at_, .int .u64 (n : Nat), .int .i64 num, .slice pa pn pc, .string t]] w (LaysPost w gw rw gr rr (Wd.W.op s ⟨4, n, num, ps, sb t⟩)) := by
  have hl : s.b.length ≤ 70368744177664 := by omega
  have HE : Hid (Wd.W.op s ⟨4, n, num, ps, sb t⟩ = s.lay (Wd.le 8 n)) := Lib.hid (by unfold Wd.W.op; simp only [Wd.kd, if_true, if_false])
  have hbx : Below w.heap.size w (w.alloc (.cells #[.int .i64 4, .int .i64 at_, .int .u64 (n : Nat), .int .i64 num, .slice pa pn pc, .string t] 54)) := (Below.refl _ _).alloc (Nat.le_refl _) _
  have hrow := Row.new w 54 [.int .i64 4, .int .i64 at_, .int .u64 (n : Nat), .int .i64 num, .slice pa pn pc, .string t]
  have HROW := Lib.hid hrow
  have HP := Lib.hid (hw.below hbx)
  have HB := Lib.hid hbx
  have HC := Lib.hid (wuint64_any gw rw s n _ HP.out.wr hn hl)
  have hlt := hw.lt
  have hgo : w.heap.size ∉ gw :: rw.toList := by
    intro h
    rcases List.mem_cons.1 h with h | h
    · omega
    · have := hlt.2.2.1 w.heap.size (by simpa using h); omega
  have HGO := Lib.hid hgo
  clear hw hp hbx hrow hlt hgo
  go_enter Try.func81, Try.ntmps81
  go_wp2_with fail
  refine HC.out.mono ?_
  rintro e w1 ⟨rfl, r1, q1, q2, q3⟩
  have HR := Lib.hid (HP.out.mid q2)
  have hrow1 := q2.row HROW.out HGO.out
  have c0 := hrow1.cell 0; have c2 := hrow1.cell 2; have c3 := hrow1.cell 3; have c5 := hrow1.cell 5
  simp only [List.getElem?_cons_zero, List.getElem?_cons_succ] at c0 c2 c3 c5
  have HQ1 := Lib.hid q1; have HQ2 := Lib.hid q2; have HQ3 := Lib.hid q3
  have HC2 := Lib.hid (dnumber_any gr rr s n 8 w1 HR.out hn (by omega) hl)
  clear q1 q2 q3 hrow1
  go_wp2_with fail
  refine HC2.out.mono ?_
  rintro e w2 ⟨rfl, r2, p1, p2, p3⟩
  have HP1 := Lib.hid p1; have HP2 := Lib.hid p2; have HP3 := Lib.hid p3
  clear p1 p2 p3
  go_wp2_with fail
  go_ret
  rw [HE.out]
  exact lays_done HB.out HP.out HQ1.out HQ2.out HQ3.out HP1.out HP2.out HP3.out
set_option maxRecDepth 100000 in
set_option maxHeartbeats 1000000 in
theorem lays_6 (gw gr : Nat) (rw rr : Option Nat) (s : Wd.W) (at_ : Int) (n : Nat) (num : Int) (pa : Option Addr) (pn pc : Nat) (ps : List Nat) (t : ByteArray) (w : World) (hw : Pr w gw rw gr rr s) (hp : IsB w w.heap.size pa pn ps) (hn : n < 18446744073709551616) (hsz : s.b.length + pn + t.size ≤ 70368744177664) :
    Calls Try.prog 81 #[.pointer (some ⟨gw, 0, none⟩), .pointer (some ⟨gr, 0, none⟩), .agg #[.int .i64 6, .int .i64 at_, .int .u64 (n : Nat), .int .i64 num, .slice pa pn pc, .string t]] w (LaysPost w gw rw gr rr (Wd.W.op s ⟨6, n, num, ps, sb t⟩)) := by
  have hl : s.b.length ≤ 70368744177664 := by omega
  have HE : Hid (Wd.W.op s ⟨6, n, num, ps, sb t⟩ = s.text (sb t)) := Lib.hid (by unfold Wd.W.op; simp only [Wd.kd, if_true, if_false])
  have hbx : Below w.heap.size w (w.alloc (.cells #[.int .i64 6, .int .i64 at_, .int .u64 (n : Nat), .int .i64 num, .slice pa pn pc, .string t] 54)) := (Below.refl _ _).alloc (Nat.le_refl _) _
  have hrow := Row.new w 54 [.int .i64 6, .int .i64 at_, .int .u64 (n : Nat), .int .i64 num, .slice pa pn pc, .string t]
  have HROW := Lib.hid hrow
  have HP := Lib.hid (hw.below hbx)
  have HB := Lib.hid hbx
  have HC := Lib.hid (wtext_any gw rw s t _ HP.out.wr (by omega))
  have hlt := hw.lt
  have hgo : w.heap.size ∉ gw :: rw.toList := by
    intro h
    rcases List.mem_cons.1 h with h | h
    · omega
    · have := hlt.2.2.1 w.heap.size (by simpa using h); omega
  have HGO := Lib.hid hgo
  clear hw hp hbx hrow hlt hgo
  go_enter Try.func81, Try.ntmps81
  go_wp2_with fail
  refine HC.out.mono ?_
  rintro e w1 ⟨rfl, r1, q1, q2, q3⟩
  have HR := Lib.hid (HP.out.mid q2)
  have hrow1 := q2.row HROW.out HGO.out
  have c0 := hrow1.cell 0; have c2 := hrow1.cell 2; have c3 := hrow1.cell 3; have c5 := hrow1.cell 5
  simp only [List.getElem?_cons_zero, List.getElem?_cons_succ] at c0 c2 c3 c5
  have HQ1 := Lib.hid q1; have HQ2 := Lib.hid q2; have HQ3 := Lib.hid q3
  have HC2 := Lib.hid (dtext_any gr rr s t w1 HR.out (by omega))
  clear q1 q2 q3 hrow1
  go_wp2_with fail
  refine HC2.out.mono ?_
  rintro e w2 ⟨rfl, r2, p1, p2, p3⟩
  have HP1 := Lib.hid p1; have HP2 := Lib.hid p2; have HP3 := Lib.hid p3
  clear p1 p2 p3
  go_wp2_with fail
  go_ret
  rw [HE.out]
  exact lays_done HB.out HP.out HQ1.out HQ2.out HQ3.out HP1.out HP2.out HP3.out
set_option maxRecDepth 100000 in
set_option maxHeartbeats 1000000 in
theorem lays_7 (gw gr : Nat) (rw rr : Option Nat) (s : Wd.W) (at_ : Int) (n : Nat) (num : Int) (pa : Option Addr) (pn pc : Nat) (ps : List Nat) (t : ByteArray) (w : World) (hw : Pr w gw rw gr rr s) (hp : IsB w w.heap.size pa pn ps) (hn : n < 18446744073709551616) (hsz : s.b.length + pn + t.size ≤ 70368744177664) :
    Calls Try.prog 81 #[.pointer (some ⟨gw, 0, none⟩), .pointer (some ⟨gr, 0, none⟩), .agg #[.int .i64 7, .int .i64 at_, .int .u64 (n : Nat), .int .i64 num, .slice pa pn pc, .string t]] w (LaysPost w gw rw gr rr (Wd.W.op s ⟨7, n, num, ps, sb t⟩)) := by
  have hl : s.b.length ≤ 70368744177664 := by omega
  have HE : Hid (Wd.W.op s ⟨7, n, num, ps, sb t⟩ = s.pad num) := Lib.hid (by unfold Wd.W.op; simp only [Wd.kd, if_true, if_false])
  have hbx : Below w.heap.size w (w.alloc (.cells #[.int .i64 7, .int .i64 at_, .int .u64 (n : Nat), .int .i64 num, .slice pa pn pc, .string t] 54)) := (Below.refl _ _).alloc (Nat.le_refl _) _
  have hrow := Row.new w 54 [.int .i64 7, .int .i64 at_, .int .u64 (n : Nat), .int .i64 num, .slice pa pn pc, .string t]
  have HROW := Lib.hid hrow
  have HP := Lib.hid (hw.below hbx)
  have HB := Lib.hid hbx
  have HC := Lib.hid (wpad_any gw rw s num _ HP.out.wr hl)
  have hlt := hw.lt
  have hgo : w.heap.size ∉ gw :: rw.toList := by
    intro h
    rcases List.mem_cons.1 h with h | h
    · omega
    · have := hlt.2.2.1 w.heap.size (by simpa using h); omega
  have HGO := Lib.hid hgo
  clear hw hp hbx hrow hlt hgo
  go_enter Try.func81, Try.ntmps81
  go_wp2_with fail
  refine HC.out.mono ?_
  rintro e w1 ⟨rfl, r1, q1, q2, q3⟩
  have HR := Lib.hid (HP.out.mid q2)
  have hrow1 := q2.row HROW.out HGO.out
  have c0 := hrow1.cell 0; have c2 := hrow1.cell 2; have c3 := hrow1.cell 3; have c5 := hrow1.cell 5
  simp only [List.getElem?_cons_zero, List.getElem?_cons_succ] at c0 c2 c3 c5
  have HQ1 := Lib.hid q1; have HQ2 := Lib.hid q2; have HQ3 := Lib.hid q3
  have HC2 := Lib.hid (dpad_any gr rr s num w1 HR.out hl)
  clear q1 q2 q3 hrow1
  go_wp2_with fail
  refine HC2.out.mono ?_
  rintro e w2 ⟨rfl, r2, p1, p2, p3⟩
  have HP1 := Lib.hid p1; have HP2 := Lib.hid p2; have HP3 := Lib.hid p3
  clear p1 p2 p3
  go_wp2_with fail
  go_ret
  rw [HE.out]
  exact lays_done HB.out HP.out HQ1.out HQ2.out HQ3.out HP1.out HP2.out HP3.out
set_option maxRecDepth 100000 in
set_option maxHeartbeats 1000000 in
theorem lays_8 (gw gr : Nat) (rw rr : Option Nat) (s : Wd.W) (at_ : Int) (n : Nat) (num : Int) (pa : Option Addr) (pn pc : Nat) (ps : List Nat) (t : ByteArray) (w : World) (hw : Pr w gw rw gr rr s) (hp : IsB w w.heap.size pa pn ps) (hn : n < 18446744073709551616) (hsz : s.b.length + pn + t.size ≤ 70368744177664) :
    Calls Try.prog 81 #[.pointer (some ⟨gw, 0, none⟩), .pointer (some ⟨gr, 0, none⟩), .agg #[.int .i64 8, .int .i64 at_, .int .u64 (n : Nat), .int .i64 num, .slice pa pn pc, .string t]] w (LaysPost w gw rw gr rr (Wd.W.op s ⟨8, n, num, ps, sb t⟩)) := by
  have hl : s.b.length ≤ 70368744177664 := by omega
  have HE : Hid (Wd.W.op s ⟨8, n, num, ps, sb t⟩ = s.sealUp num) := Lib.hid (by unfold Wd.W.op; simp only [Wd.kd, if_true, if_false])
  have hbx : Below w.heap.size w (w.alloc (.cells #[.int .i64 8, .int .i64 at_, .int .u64 (n : Nat), .int .i64 num, .slice pa pn pc, .string t] 54)) := (Below.refl _ _).alloc (Nat.le_refl _) _
  have hrow := Row.new w 54 [.int .i64 8, .int .i64 at_, .int .u64 (n : Nat), .int .i64 num, .slice pa pn pc, .string t]
  have HROW := Lib.hid hrow
  have HP := Lib.hid (hw.below hbx)
  have HB := Lib.hid hbx
  have HC := Lib.hid (wseal_any gw rw s num _ HP.out.wr hl)
  have hlt := hw.lt
  have hgo : w.heap.size ∉ gw :: rw.toList := by
    intro h
    rcases List.mem_cons.1 h with h | h
    · omega
    · have := hlt.2.2.1 w.heap.size (by simpa using h); omega
  have HGO := Lib.hid hgo
  clear hw hp hbx hrow hlt hgo
  go_enter Try.func81, Try.ntmps81
  go_wp2_with fail
  refine HC.out.mono ?_
  rintro e w1 ⟨rfl, r1, q1, q2, q3⟩
  have HR := Lib.hid (HP.out.mid q2)
  have hrow1 := q2.row HROW.out HGO.out
  have c0 := hrow1.cell 0; have c2 := hrow1.cell 2; have c3 := hrow1.cell 3; have c5 := hrow1.cell 5
  simp only [List.getElem?_cons_zero, List.getElem?_cons_succ] at c0 c2 c3 c5
  have HQ1 := Lib.hid q1; have HQ2 := Lib.hid q2; have HQ3 := Lib.hid q3
  have HC2 := Lib.hid (dseal_any gr rr s num w1 HR.out hl)
  clear q1 q2 q3 hrow1
  go_wp2_with fail
  refine HC2.out.mono ?_
  rintro e w2 ⟨rfl, r2, p1, p2, p3⟩
  have HP1 := Lib.hid p1; have HP2 := Lib.hid p2; have HP3 := Lib.hid p3
  clear p1 p2 p3
  go_wp2_with fail
  go_ret
  rw [HE.out]
  exact lays_done HB.out HP.out HQ1.out HQ2.out HQ3.out HP1.out HP2.out HP3.out
end Go.Proofs.Ytajkiglogfahfaa

/- The walks of the law's laid and again: one step on a writer, on a reader, is the plain law's. -/
import Derived.Test.YtajkiglogfahfaaReaderD
import Derived.Test.YtajkiglogfahfaaOps
set_option linter.unusedVariables false
set_option linter.unusedSimpArgs false
namespace Go.Proofs.Ytajkiglogfahfaa
open Go.RowKit

/-- a step as it lies in memory -/
structure OpA where
  kind : Int
  at_ : Int
  n : Nat
  num : Int
  pa : Option Addr
  pn : Nat
  pc : Nat
  s : ByteArray
def OpA.cells (o : OpA) : List Value := [.int .i64 o.kind, .int .i64 o.at_, .int .u64 (o.n : Nat), .int .i64 o.num, .slice o.pa o.pn o.pc, .string o.s]
def OpA.val (o : OpA) : Value := .agg #[.int .i64 o.kind, .int .i64 o.at_, .int .u64 (o.n : Nat), .int .i64 o.num, .slice o.pa o.pn o.pc, .string o.s]
def OpA.is (o : OpA) (ps : List Nat) : Wd.Op := ⟨o.kind, o.n, o.num, ps, sb o.s⟩
/-- its numbers are numbers, its bytes lie there -/
def OpA.Ok (w : World) (o : OpA) (ps : List Nat) : Prop := IsB w w.heap.size o.pa o.pn ps ∧ o.n < 18446744073709551616 ∧ (-9223372036854775808 ≤ o.num ∧ o.num ≤ 9223372036854775807) ∧ (-9223372036854775808 ≤ o.at_ ∧ o.at_ ≤ 9223372036854775807) ∧ (-9223372036854775808 ≤ o.kind ∧ o.kind ≤ 9223372036854775807) ∧ o.s.size ≤ 9223372036854775807
theorem OpA.Ok.below {w w' : World} {o : OpA} {ps : List Nat} (h : o.Ok w ps) (hb : Below w.heap.size w w') : o.Ok w' ps := ⟨(h.1.below hb).more hb.size, h.2⟩
theorem OpA.Ok.op {w : World} {o : OpA} {ps : List Nat} (h : o.Ok w ps) : (o.is ps).ok := ⟨h.2.1, h.1.2.1, sb_lt _⟩
theorem beq_nat0 (e : Nat) : ((e : Int) == 0) = decide (e = 0) := by rw [Bool.eq_iff_iff]; simp
theorem str_beq (s t : ByteArray) : (s.toList == t.toList) = decide (sb s = sb t) := by
  rw [ByteArray.toList_eq, ByteArray.toList_eq, Bool.eq_iff_iff]
  simp only [beq_iff_eq, decide_eq_true_eq]
  constructor
  · intro h; unfold sb; rw [h]
  · intro h
    have := sb_inj h
    rw [this]

theorem laid_done {w w0 w1 : World} {g : Nat} {r r1 : Option Nat} {s : Wd.W} (hb : Below w.heap.size w w0) (q1 : Wr w1 g r1 s) (q2 : Chg (g :: r.toList) w0 w1) (q3 : Moved w0 r r1) : ∃ r', Wr w1 g r' s ∧ Chg (g :: r.toList) w w1 ∧ Moved w r r' :=
  ⟨r1, q1, (Chg.of_below hb).trans q2 (fun x hx => .inl hx), q3.below hb.size⟩

set_option maxRecDepth 100000 in
set_option maxHeartbeats 1000000 in
theorem laid_1 (g : Nat) (r : Option Nat) (s : Wd.W) (at_ : Int) (n : Nat) (num : Int) (pa : Option Addr) (pn pc : Nat) (ps : List Nat) (t : ByteArray) (w : World) (hw : Wr w g r s) (hp : IsB w w.heap.size pa pn ps) (hn : n < 18446744073709551616) (hsz : s.b.length + pn + t.size ≤ 70368744177664) :
    Calls Try.prog 55 #[.pointer (some ⟨g, 0, none⟩), .agg #[.int .i64 1, .int .i64 at_, .int .u64 (n : Nat), .int .i64 num, .slice pa pn pc, .string t]] w fun e w' => e = .returned (.bool (decide ((Wd.W.op s ⟨1, n, num, ps, sb t⟩).e = 0))) ∧ ∃ r', Wr w' g r' (Wd.W.op s ⟨1, n, num, ps, sb t⟩) ∧ Chg (g :: r.toList) w w' ∧ Moved w r r' := by
  have hl : s.b.length ≤ 70368744177664 := by omega
  have HE : Hid (Wd.W.op s ⟨1, n, num, ps, sb t⟩ = s.lay (Wd.le 1 (n % 256))) := Lib.hid (by unfold Wd.W.op; simp only [Wd.kd, if_true, if_false])
  obtain ⟨m, hm⟩ : ∃ m, m = n % 256 := ⟨_, rfl⟩
  have hml : m < 256 := by omega
  have hmi : IntKind.u8.wrap (n : Int) = (m : Int) := by rw [IntKind.wrap_u8']; omega
  rw [← hm] at HE
  clear hm
  have hbx : Below w.heap.size w (w.alloc (.cells #[.int .i64 1, .int .i64 at_, .int .u64 (n : Nat), .int .i64 num, .slice pa pn pc, .string t] 54)) := (Below.refl _ _).alloc (Nat.le_refl _) _
  have HB := Lib.hid hbx
  have HC := Lib.hid (wuint8_any g r s m _ (hw.below hbx) hml hl)
  clear hw hp hbx
  go_enter Try.func55, Try.ntmps55
  go_wp2_with fail
  refine HC.out.mono ?_
  rintro e w1 ⟨rfl, r1, q1, q2, q3⟩
  have HQ1 := Lib.hid q1; have HQ2 := Lib.hid q2; have HQ3 := Lib.hid q3
  clear q1 q2 q3
  go_wp2_with fail
  refine (werr_any g r1 _ w1 HQ1.out).mono ?_
  rintro e w2 ⟨rfl, rfl⟩
  go_wp2_with fail
  go_ret
  rw [HE.out]
  exact ⟨ret_bool (beq_nat0 _), laid_done HB.out HQ1.out HQ2.out HQ3.out⟩
set_option maxRecDepth 100000 in
set_option maxHeartbeats 1000000 in
theorem laid_2 (g : Nat) (r : Option Nat) (s : Wd.W) (at_ : Int) (n : Nat) (num : Int) (pa : Option Addr) (pn pc : Nat) (ps : List Nat) (t : ByteArray) (w : World) (hw : Wr w g r s) (hp : IsB w w.heap.size pa pn ps) (hn : n < 18446744073709551616) (hsz : s.b.length + pn + t.size ≤ 70368744177664) :
    Calls Try.prog 55 #[.pointer (some ⟨g, 0, none⟩), .agg #[.int .i64 2, .int .i64 at_, .int .u64 (n : Nat), .int .i64 num, .slice pa pn pc, .string t]] w fun e w' => e = .returned (.bool (decide ((Wd.W.op s ⟨2, n, num, ps, sb t⟩).e = 0))) ∧ ∃ r', Wr w' g r' (Wd.W.op s ⟨2, n, num, ps, sb t⟩) ∧ Chg (g :: r.toList) w w' ∧ Moved w r r' := by
  have hl : s.b.length ≤ 70368744177664 := by omega
  have HE : Hid (Wd.W.op s ⟨2, n, num, ps, sb t⟩ = s.lay (Wd.le 2 (n % 65536))) := Lib.hid (by unfold Wd.W.op; simp only [Wd.kd, if_true, if_false])
  obtain ⟨m, hm⟩ : ∃ m, m = n % 65536 := ⟨_, rfl⟩
  have hml : m < 65536 := by omega
  have hmi : IntKind.u16.wrap (n : Int) = (m : Int) := by rw [IntKind.wrap_u16]; omega
  rw [← hm] at HE
  clear hm
  have hbx : Below w.heap.size w (w.alloc (.cells #[.int .i64 2, .int .i64 at_, .int .u64 (n : Nat), .int .i64 num, .slice pa pn pc, .string t] 54)) := (Below.refl _ _).alloc (Nat.le_refl _) _
  have HB := Lib.hid hbx
  have HC := Lib.hid (wuint16_any g r s m _ (hw.below hbx) hml hl)
  clear hw hp hbx
  go_enter Try.func55, Try.ntmps55
  go_wp2_with fail
  refine HC.out.mono ?_
  rintro e w1 ⟨rfl, r1, q1, q2, q3⟩
  have HQ1 := Lib.hid q1; have HQ2 := Lib.hid q2; have HQ3 := Lib.hid q3
  clear q1 q2 q3
  go_wp2_with fail
  refine (werr_any g r1 _ w1 HQ1.out).mono ?_
  rintro e w2 ⟨rfl, rfl⟩
  go_wp2_with fail
  go_ret
  rw [HE.out]
  exact ⟨ret_bool (beq_nat0 _), laid_done HB.out HQ1.out HQ2.out HQ3.out⟩
set_option maxRecDepth 100000 in
set_option maxHeartbeats 1000000 in
theorem laid_3 (g : Nat) (r : Option Nat) (s : Wd.W) (at_ : Int) (n : Nat) (num : Int) (pa : Option Addr) (pn pc : Nat) (ps : List Nat) (t : ByteArray) (w : World) (hw : Wr w g r s) (hp : IsB w w.heap.size pa pn ps) (hn : n < 18446744073709551616) (hsz : s.b.length + pn + t.size ≤ 70368744177664) :
    Calls Try.prog 55 #[.pointer (some ⟨g, 0, none⟩), .agg #[.int .i64 3, .int .i64 at_, .int .u64 (n : Nat), .int .i64 num, .slice pa pn pc, .string t]] w fun e w' => e = .returned (.bool (decide ((Wd.W.op s ⟨3, n, num, ps, sb t⟩).e = 0))) ∧ ∃ r', Wr w' g r' (Wd.W.op s ⟨3, n, num, ps, sb t⟩) ∧ Chg (g :: r.toList) w w' ∧ Moved w r r' := by
  have hl : s.b.length ≤ 70368744177664 := by omega
  have HE : Hid (Wd.W.op s ⟨3, n, num, ps, sb t⟩ = s.lay (Wd.le 4 (n % 4294967296))) := Lib.hid (by unfold Wd.W.op; simp only [Wd.kd, if_true, if_false])
  obtain ⟨m, hm⟩ : ∃ m, m = n % 4294967296 := ⟨_, rfl⟩
  have hml : m < 4294967296 := by omega
  have hmi : IntKind.u32.wrap (n : Int) = (m : Int) := by rw [IntKind.wrap_u32']; omega
  rw [← hm] at HE
  clear hm
  have hbx : Below w.heap.size w (w.alloc (.cells #[.int .i64 3, .int .i64 at_, .int .u64 (n : Nat), .int .i64 num, .slice pa pn pc, .string t] 54)) := (Below.refl _ _).alloc (Nat.le_refl _) _
  have HB := Lib.hid hbx
  have HC := Lib.hid (wuint32_any g r s m _ (hw.below hbx) hml hl)
  clear hw hp hbx
  go_enter Try.func55, Try.ntmps55
  go_wp2_with fail
  refine HC.out.mono ?_
  rintro e w1 ⟨rfl, r1, q1, q2, q3⟩
  have HQ1 := Lib.hid q1; have HQ2 := Lib.hid q2; have HQ3 := Lib.hid q3
  clear q1 q2 q3
  go_wp2_with fail
  refine (werr_any g r1 _ w1 HQ1.out).mono ?_
  rintro e w2 ⟨rfl, rfl⟩
  go_wp2_with fail
  go_ret
  rw [HE.out]
  exact ⟨ret_bool (beq_nat0 _), laid_done HB.out HQ1.out HQ2.out HQ3.out⟩
set_option maxRecDepth 100000 in
set_option maxHeartbeats 1000000 in
theorem laid_4 (g : Nat) (r : Option Nat) (s : Wd.W) (at_ : Int) (n : Nat) (num : Int) (pa : Option Addr) (pn pc : Nat) (ps : List Nat) (t : ByteArray) (w : World) (hw : Wr w g r s) (hp : IsB w w.heap.size pa pn ps) (hn : n < 18446744073709551616) (hsz : s.b.length + pn + t.size ≤ 70368744177664) :
    Calls Try.prog 55 #[.pointer (some ⟨g, 0, none⟩), .agg #[.int .i64 4, .int .i64 at_, .int .u64 (n : Nat), .int .i64 num, .slice pa pn pc, .string t]] w fun e w' => e = .returned (.bool (decide ((Wd.W.op s ⟨4, n, num, ps, sb t⟩).e = 0))) ∧ ∃ r', Wr w' g r' (Wd.W.op s ⟨4, n, num, ps, sb t⟩) ∧ Chg (g :: r.toList) w w' ∧ Moved w r r' := by
  have hl : s.b.length ≤ 70368744177664 := by omega
  have HE : Hid (Wd.W.op s ⟨4, n, num, ps, sb t⟩ = s.lay (Wd.le 8 n)) := Lib.hid (by unfold Wd.W.op; simp only [Wd.kd, if_true, if_false])
  have hbx : Below w.heap.size w (w.alloc (.cells #[.int .i64 4, .int .i64 at_, .int .u64 (n : Nat), .int .i64 num, .slice pa pn pc, .string t] 54)) := (Below.refl _ _).alloc (Nat.le_refl _) _
  have HB := Lib.hid hbx
  have HC := Lib.hid (wuint64_any g r s n _ (hw.below hbx) hn hl)
  clear hw hp hbx
  go_enter Try.func55, Try.ntmps55
  go_wp2_with fail
  refine HC.out.mono ?_
  rintro e w1 ⟨rfl, r1, q1, q2, q3⟩
  have HQ1 := Lib.hid q1; have HQ2 := Lib.hid q2; have HQ3 := Lib.hid q3
  clear q1 q2 q3
  go_wp2_with fail
  refine (werr_any g r1 _ w1 HQ1.out).mono ?_
  rintro e w2 ⟨rfl, rfl⟩
  go_wp2_with fail
  go_ret
  rw [HE.out]
  exact ⟨ret_bool (beq_nat0 _), laid_done HB.out HQ1.out HQ2.out HQ3.out⟩
set_option maxRecDepth 100000 in
set_option maxHeartbeats 1000000 in
theorem laid_5 (g : Nat) (r : Option Nat) (s : Wd.W) (at_ : Int) (n : Nat) (num : Int) (pa : Option Addr) (pn pc : Nat) (ps : List Nat) (t : ByteArray) (w : World) (hw : Wr w g r s) (hp : IsB w w.heap.size pa pn ps) (hn : n < 18446744073709551616) (hsz : s.b.length + pn + t.size ≤ 70368744177664) :
    Calls Try.prog 55 #[.pointer (some ⟨g, 0, none⟩), .agg #[.int .i64 5, .int .i64 at_, .int .u64 (n : Nat), .int .i64 num, .slice pa pn pc, .string t]] w fun e w' => e = .returned (.bool (decide ((Wd.W.op s ⟨5, n, num, ps, sb t⟩).e = 0))) ∧ ∃ r', Wr w' g r' (Wd.W.op s ⟨5, n, num, ps, sb t⟩) ∧ Chg (g :: r.toList) w w' ∧ Moved w r r' := by
  have hl : s.b.length ≤ 70368744177664 := by omega
  have HE : Hid (Wd.W.op s ⟨5, n, num, ps, sb t⟩ = s.lay ps) := Lib.hid (by unfold Wd.W.op; simp only [Wd.kd, if_true, if_false])
  have hbx : Below w.heap.size w (w.alloc (.cells #[.int .i64 5, .int .i64 at_, .int .u64 (n : Nat), .int .i64 num, .slice pa pn pc, .string t] 54)) := (Below.refl _ _).alloc (Nat.le_refl _) _
  have HB := Lib.hid hbx
  have HC := Lib.hid (wbytes_any g r s pa pn pc ps _ (hw.below hbx) ((hp.below hbx).more hbx.size) (by omega))
  clear hw hp hbx
  go_enter Try.func55, Try.ntmps55
  go_wp2_with fail
  refine HC.out.mono ?_
  rintro e w1 ⟨rfl, r1, q1, q2, q3⟩
  have HQ1 := Lib.hid q1; have HQ2 := Lib.hid q2; have HQ3 := Lib.hid q3
  clear q1 q2 q3
  go_wp2_with fail
  refine (werr_any g r1 _ w1 HQ1.out).mono ?_
  rintro e w2 ⟨rfl, rfl⟩
  go_wp2_with fail
  go_ret
  rw [HE.out]
  exact ⟨ret_bool (beq_nat0 _), laid_done HB.out HQ1.out HQ2.out HQ3.out⟩
set_option maxRecDepth 100000 in
set_option maxHeartbeats 1000000 in
theorem laid_6 (g : Nat) (r : Option Nat) (s : Wd.W) (at_ : Int) (n : Nat) (num : Int) (pa : Option Addr) (pn pc : Nat) (ps : List Nat) (t : ByteArray) (w : World) (hw : Wr w g r s) (hp : IsB w w.heap.size pa pn ps) (hn : n < 18446744073709551616) (hsz : s.b.length + pn + t.size ≤ 70368744177664) :
    Calls Try.prog 55 #[.pointer (some ⟨g, 0, none⟩), .agg #[.int .i64 6, .int .i64 at_, .int .u64 (n : Nat), .int .i64 num, .slice pa pn pc, .string t]] w fun e w' => e = .returned (.bool (decide ((Wd.W.op s ⟨6, n, num, ps, sb t⟩).e = 0))) ∧ ∃ r', Wr w' g r' (Wd.W.op s ⟨6, n, num, ps, sb t⟩) ∧ Chg (g :: r.toList) w w' ∧ Moved w r r' := by
  have hl : s.b.length ≤ 70368744177664 := by omega
  have HE : Hid (Wd.W.op s ⟨6, n, num, ps, sb t⟩ = s.text (sb t)) := Lib.hid (by unfold Wd.W.op; simp only [Wd.kd, if_true, if_false])
  have hbx : Below w.heap.size w (w.alloc (.cells #[.int .i64 6, .int .i64 at_, .int .u64 (n : Nat), .int .i64 num, .slice pa pn pc, .string t] 54)) := (Below.refl _ _).alloc (Nat.le_refl _) _
  have HB := Lib.hid hbx
  have HC := Lib.hid (wtext_any g r s t _ (hw.below hbx) (by omega))
  clear hw hp hbx
  go_enter Try.func55, Try.ntmps55
  go_wp2_with fail
  refine HC.out.mono ?_
  rintro e w1 ⟨rfl, r1, q1, q2, q3⟩
  have HQ1 := Lib.hid q1; have HQ2 := Lib.hid q2; have HQ3 := Lib.hid q3
  clear q1 q2 q3
  go_wp2_with fail
  refine (werr_any g r1 _ w1 HQ1.out).mono ?_
  rintro e w2 ⟨rfl, rfl⟩
  go_wp2_with fail
  go_ret
  rw [HE.out]
  exact ⟨ret_bool (beq_nat0 _), laid_done HB.out HQ1.out HQ2.out HQ3.out⟩
set_option maxRecDepth 100000 in
set_option maxHeartbeats 1000000 in
theorem laid_7 (g : Nat) (r : Option Nat) (s : Wd.W) (at_ : Int) (n : Nat) (num : Int) (pa : Option Addr) (pn pc : Nat) (ps : List Nat) (t : ByteArray) (w : World) (hw : Wr w g r s) (hp : IsB w w.heap.size pa pn ps) (hn : n < 18446744073709551616) (hsz : s.b.length + pn + t.size ≤ 70368744177664) :
    Calls Try.prog 55 #[.pointer (some ⟨g, 0, none⟩), .agg #[.int .i64 7, .int .i64 at_, .int .u64 (n : Nat), .int .i64 num, .slice pa pn pc, .string t]] w fun e w' => e = .returned (.bool (decide ((Wd.W.op s ⟨7, n, num, ps, sb t⟩).e = 0))) ∧ ∃ r', Wr w' g r' (Wd.W.op s ⟨7, n, num, ps, sb t⟩) ∧ Chg (g :: r.toList) w w' ∧ Moved w r r' := by
  have hl : s.b.length ≤ 70368744177664 := by omega
  have HE : Hid (Wd.W.op s ⟨7, n, num, ps, sb t⟩ = s.pad num) := Lib.hid (by unfold Wd.W.op; simp only [Wd.kd, if_true, if_false])
  have hbx : Below w.heap.size w (w.alloc (.cells #[.int .i64 7, .int .i64 at_, .int .u64 (n : Nat), .int .i64 num, .slice pa pn pc, .string t] 54)) := (Below.refl _ _).alloc (Nat.le_refl _) _
  have HB := Lib.hid hbx
  have HC := Lib.hid (wpad_any g r s num _ (hw.below hbx) hl)
  clear hw hp hbx
  go_enter Try.func55, Try.ntmps55
  go_wp2_with fail
  refine HC.out.mono ?_
  rintro e w1 ⟨rfl, r1, q1, q2, q3⟩
  have HQ1 := Lib.hid q1; have HQ2 := Lib.hid q2; have HQ3 := Lib.hid q3
  clear q1 q2 q3
  go_wp2_with fail
  refine (werr_any g r1 _ w1 HQ1.out).mono ?_
  rintro e w2 ⟨rfl, rfl⟩
  go_wp2_with fail
  go_ret
  rw [HE.out]
  exact ⟨ret_bool (beq_nat0 _), laid_done HB.out HQ1.out HQ2.out HQ3.out⟩
set_option maxRecDepth 100000 in
set_option maxHeartbeats 1000000 in
theorem laid_8 (g : Nat) (r : Option Nat) (s : Wd.W) (at_ : Int) (n : Nat) (num : Int) (pa : Option Addr) (pn pc : Nat) (ps : List Nat) (t : ByteArray) (w : World) (hw : Wr w g r s) (hp : IsB w w.heap.size pa pn ps) (hn : n < 18446744073709551616) (hsz : s.b.length + pn + t.size ≤ 70368744177664) :
    Calls Try.prog 55 #[.pointer (some ⟨g, 0, none⟩), .agg #[.int .i64 8, .int .i64 at_, .int .u64 (n : Nat), .int .i64 num, .slice pa pn pc, .string t]] w fun e w' => e = .returned (.bool (decide ((Wd.W.op s ⟨8, n, num, ps, sb t⟩).e = 0))) ∧ ∃ r', Wr w' g r' (Wd.W.op s ⟨8, n, num, ps, sb t⟩) ∧ Chg (g :: r.toList) w w' ∧ Moved w r r' := by
  have hl : s.b.length ≤ 70368744177664 := by omega
  have HE : Hid (Wd.W.op s ⟨8, n, num, ps, sb t⟩ = s.sealUp num) := Lib.hid (by unfold Wd.W.op; simp only [Wd.kd, if_true, if_false])
  have hbx : Below w.heap.size w (w.alloc (.cells #[.int .i64 8, .int .i64 at_, .int .u64 (n : Nat), .int .i64 num, .slice pa pn pc, .string t] 54)) := (Below.refl _ _).alloc (Nat.le_refl _) _
  have HB := Lib.hid hbx
  have HC := Lib.hid (wseal_any g r s num _ (hw.below hbx) hl)
  clear hw hp hbx
  go_enter Try.func55, Try.ntmps55
  go_wp2_with fail
  refine HC.out.mono ?_
  rintro e w1 ⟨rfl, r1, q1, q2, q3⟩
  have HQ1 := Lib.hid q1; have HQ2 := Lib.hid q2; have HQ3 := Lib.hid q3
  clear q1 q2 q3
  go_wp2_with fail
  refine (werr_any g r1 _ w1 HQ1.out).mono ?_
  rintro e w2 ⟨rfl, rfl⟩
  go_wp2_with fail
  go_ret
  rw [HE.out]
  exact ⟨ret_bool (beq_nat0 _), laid_done HB.out HQ1.out HQ2.out HQ3.out⟩
set_option maxRecDepth 100000 in
set_option maxHeartbeats 1000000 in
theorem laid_0 (g : Nat) (r : Option Nat) (s : Wd.W) (kind at_ : Int) (n : Nat) (num : Int) (pa : Option Addr) (pn pc : Nat) (ps : List Nat) (t : ByteArray) (w : World) (hw : Wr w g r s) (hk : kind ≠ 1 ∧ kind ≠ 2 ∧ kind ≠ 3 ∧ kind ≠ 4 ∧ kind ≠ 5 ∧ kind ≠ 6 ∧ kind ≠ 7 ∧ kind ≠ 8) :
    Calls Try.prog 55 #[.pointer (some ⟨g, 0, none⟩), .agg #[.int .i64 kind, .int .i64 at_, .int .u64 (n : Nat), .int .i64 num, .slice pa pn pc, .string t]] w fun e w' => e = .returned (.bool (decide ((Wd.W.op s ⟨kind, n, num, ps, sb t⟩).e = 0))) ∧ ∃ r', Wr w' g r' (Wd.W.op s ⟨kind, n, num, ps, sb t⟩) ∧ Chg (g :: r.toList) w w' ∧ Moved w r r' := by
  obtain ⟨k1, k2, k3, k4, k5, k6, k7, k8⟩ := hk
  have HE : Hid (Wd.W.op s ⟨kind, n, num, ps, sb t⟩ = s) := Lib.hid (by unfold Wd.W.op; simp only [k1, k2, k3, k4, k5, k6, k7, k8, if_false])
  have h1 : (kind == 1) = false := beq_eq_false_iff_ne.2 k1
  have h2 : (kind == 2) = false := beq_eq_false_iff_ne.2 k2
  have h3 : (kind == 3) = false := beq_eq_false_iff_ne.2 k3
  have h4 : (kind == 4) = false := beq_eq_false_iff_ne.2 k4
  have h5 : (kind == 5) = false := beq_eq_false_iff_ne.2 k5
  have h6 : (kind == 6) = false := beq_eq_false_iff_ne.2 k6
  have h7 : (kind == 7) = false := beq_eq_false_iff_ne.2 k7
  have h8 : (kind == 8) = false := beq_eq_false_iff_ne.2 k8
  have hbx : Below w.heap.size w (w.alloc (.cells #[.int .i64 kind, .int .i64 at_, .int .u64 (n : Nat), .int .i64 num, .slice pa pn pc, .string t] 54)) := (Below.refl _ _).alloc (Nat.le_refl _) _
  have HB := Lib.hid hbx
  have HC := Lib.hid (werr_any g r s _ (hw.below hbx))
  have HW := Lib.hid (hw.below hbx)
  clear hw hbx k1 k2 k3 k4 k5 k6 k7 k8
  go_enter Try.func55, Try.ntmps55
  go_wp2_with fail
  refine HC.out.mono ?_
  rintro e w2 ⟨rfl, rfl⟩
  go_wp2_with fail
  go_ret
  rw [HE.out]
  exact ⟨ret_bool (beq_nat0 _), laid_done HB.out HW.out (Chg.refl _ _) (Moved.refl _ _)⟩
/-- one step on a writer -/
theorem laid_any (g : Nat) (r : Option Nat) (s : Wd.W) (o : OpA) (ps : List Nat) (w : World) (hw : Wr w g r s) (ho : o.Ok w ps) (hsz : s.b.length + o.pn + o.s.size ≤ 70368744177664) :
    Calls Try.prog 55 #[.pointer (some ⟨g, 0, none⟩), o.val] w fun e w' => e = .returned (.bool (decide ((s.op (o.is ps)).e = 0))) ∧ ∃ r', Wr w' g r' (s.op (o.is ps)) ∧ Chg (g :: r.toList) w w' ∧ Moved w r r' := by
  obtain ⟨kind, at_, n, num, pa, pn, pc, t⟩ := o
  unfold OpA.val OpA.is
  simp only at hsz ⊢
  have hp : IsB w w.heap.size pa pn ps := ho.1
  have hn : n < 18446744073709551616 := ho.2.1
  by_cases k1 : kind = 1
  · subst k1; exact laid_1 g r s at_ n num pa pn pc ps t w hw hp hn hsz
  by_cases k2 : kind = 2
  · subst k2; exact laid_2 g r s at_ n num pa pn pc ps t w hw hp hn hsz
  by_cases k3 : kind = 3
  · subst k3; exact laid_3 g r s at_ n num pa pn pc ps t w hw hp hn hsz
  by_cases k4 : kind = 4
  · subst k4; exact laid_4 g r s at_ n num pa pn pc ps t w hw hp hn hsz
  by_cases k5 : kind = 5
  · subst k5; exact laid_5 g r s at_ n num pa pn pc ps t w hw hp hn hsz
  by_cases k6 : kind = 6
  · subst k6; exact laid_6 g r s at_ n num pa pn pc ps t w hw hp hn hsz
  by_cases k7 : kind = 7
  · subst k7; exact laid_7 g r s at_ n num pa pn pc ps t w hw hp hn hsz
  by_cases k8 : kind = 8
  · subst k8; exact laid_8 g r s at_ n num pa pn pc ps t w hw hp hn hsz
  · exact laid_0 g r s kind at_ n num pa pn pc ps t w hw ⟨k1, k2, k3, k4, k5, k6, k7, k8⟩
end Go.Proofs.Ytajkiglogfahfaa

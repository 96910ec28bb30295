/- The walk of the law's takes: one step on a reader and on the document's reader. -/
import Derived.Test.YtajkiglogfahfaaRefR4
import Derived.Test.YtajkiglogfahfaaAgain
import Derived.Test.YtajkiglogfahfaaKeep
set_option linter.unusedVariables false
set_option linter.unusedSimpArgs false
namespace Go.Proofs.Ytajkiglogfahfaa
open Go.RowKit

/-- a reader beside the document's -/
structure Pd (w : World) (B gr : Nat) (rr : Option Nat) (gv : Nat) (A : Option Addr) (c : Nat) (s : Wd.R) : Prop where
  rd : Rd w gr rr s
  ry : Ry w B gv A c s
  base : B ≤ gr ∧ (∀ k, rr = some k → B ≤ k)
theorem Rd.blk {w : World} {g : Nat} {r : Option Nat} {s : Wd.R} (h : Rd w g r s) : (∃ cs, Row w g 112 cs) ∧ ∀ k, r = some k → ∃ cur, Blk w k 5 cur := by
  obtain ⟨A, c, hrow, hown, hob, hbs⟩ := h
  refine ⟨⟨_, hrow⟩, fun k hk => ?_⟩
  rcases hown.2 with ⟨hv, _⟩ | ⟨g', cap, cur, hv, _, hh, _⟩
  · rw [hv] at hob
    rw [← hob] at hk
    cases hk
  · rw [hv] at hob
    have : r = some g' := by rw [← hob]; rfl
    rw [this] at hk
    injection hk with hk
    subst hk
    exact ⟨cur, hh⟩
theorem Pd.far {w : World} {B gr gv c : Nat} {rr : Option Nat} {A : Option Addr} {s : Wd.R} (h : Pd w B gr rr gv A c s) : gv ∉ [gr] ∧ gr ∉ [gv] ∧ ∀ k, rr = some k → k ∉ [gv] := by
  obtain ⟨⟨c1, h1⟩, h2⟩ := h.rd.blk
  have h3 := h.ry.1
  refine ⟨?_, ?_, fun k hk => ?_⟩
  · simp; exact fun e => Blk.ne_ (cs := c1.toArray) h1 h3 (by decide) e.symm
  · simp; exact fun e => Blk.ne_ (cs := c1.toArray) h1 h3 (by decide) e
  · obtain ⟨cur, hb⟩ := h2 k hk
    simp; exact fun e => Blk.ne_ (cs := cur) hb h3 (by decide) e
theorem Pd.below {w w' : World} {B gr gv c : Nat} {rr : Option Nat} {A : Option Addr} {s : Wd.R} (h : Pd w B gr rr gv A c s) (hb : Below w.heap.size w w') (hB : B ≤ w.heap.size) : Pd w' B gr rr gv A c s := ⟨h.rd.below hb, h.ry.below hb hB, h.base⟩
theorem Pd.mid {w w1 : World} {B gr gv c : Nat} {rr : Option Nat} {A : Option Addr} {s : Wd.R} (h : Pd w B gr rr gv A c s) (hc : Chg [gr] w w1) (hB : B ≤ w.heap.size) : Ry w1 B gv A c s := h.ry.chg hc h.far.1 (by simpa using h.base.1) hB
theorem Pd.done {w w1 w2 : World} {B gr gv c : Nat} {rr : Option Nat} {A : Option Addr} {s s' : Wd.R} (h : Pd w B gr rr gv A c s) (r1 : Rd w1 gr rr s') (hc1 : Chg [gr] w w1) (r2 : Ry w2 B gv A c s') (hc2 : Chg [gv] w1 w2) : Pd w2 B gr rr gv A c s' ∧ Chg [gr, gv] w w2 :=
  ⟨⟨r1.chg hc2 h.far.2.1 h.far.2.2, r2, h.base⟩, (hc1.wide (T := [gr, gv]) (by simp)).trans (hc2.wide (T := [gr, gv]) (by simp)) (fun x hx => .inl hx)⟩
/-- what takes comes to -/
def TakesPost (w : World) (B gr : Nat) (rr : Option Nat) (gv : Nat) (A : Option Addr) (c : Nat) (bs : List Nat) (e : Ending) (w' : World) : Prop :=
  e = .returned (.bool true) ∧ ∃ s', Pd w' B gr rr gv A c s' ∧ Chg [gr, gv] w w' ∧ s'.b = bs
theorem takes_done {w w0 w1 w2 : World} {B gr gv c : Nat} {rr : Option Nat} {A : Option Addr} {s s' : Wd.R} (hb : Below w.heap.size w w0) (h : Pd w0 B gr rr gv A c s) (r1 : Rd w1 gr rr s') (hc1 : Chg [gr] w0 w1) (r2 : Ry w2 B gv A c s') (hc2 : Chg [gv] w1 w2) (hsb : s'.b = s.b) :
    TakesPost w B gr rr gv A c s.b (.returned (.bool true)) w2 := by
  obtain ⟨h1, h2⟩ := h.done r1 hc1 r2 hc2
  exact ⟨rfl, s', h1, (Chg.of_below hb).trans h2 (fun x hx => .inl hx), hsb⟩
theorem text_b (s : Wd.R) (m : Int) (hat : s.at_ ≤ s.b.length) : (s.text m).1.b = s.b := by
  by_cases he : s.e = 0
  · rw [Wd.text_eq s m he]
    split
    · rfl
    · unfold Wd.R.dback
      split
      · simp only [bytes_b]; exact (Wd.take_at s 2 hat).1
      · rw [bytes_b]; exact (Wd.take_at s 2 hat).1
  · rw [Wd.text_not' s m he]
theorem pad_b (s : Wd.R) (al : Int) : (s.pad al).b = s.b := by
  by_cases he : s.e = 0
  · by_cases ha : 1 ≤ al ∧ al ≤ 4096
    · obtain ⟨a, rfl⟩ : ∃ a : Nat, al = a := ⟨al.toNat, by omega⟩
      rw [Wd.padr_eq s a he (by omega) (by omega)]
      unfold Wd.R.dback
      split <;> split <;> first | rfl | exact Wd.dtake_b s _
    · rw [Wd.padr_bad s al he ha]
  · rw [Wd.padr_not s al he]
theorem sealr_b (s : Wd.R) (fr : Int) (hat : s.at_ ≤ s.b.length) : (s.sealUp fr).b = s.b := by
  by_cases he : s.e = 0
  · by_cases ha : 0 ≤ fr ∧ fr ≤ s.at_
    · obtain ⟨a, rfl⟩ : ∃ a : Nat, fr = a := ⟨fr.toNat, by omega⟩
      rw [Wd.sealr_eq s a he (by omega)]
      unfold Wd.R.dback
      split <;> split <;> first | rfl | exact (Wd.take_at s 4 hat).1
    · rw [Wd.sealr_bad s fr he ha]
  · rw [Wd.sealr_not s fr he]

set_option maxRecDepth 100000 in
set_option maxHeartbeats 1000000 in
theorem takes_1 (gx B gr gv c : Nat) (rr : Option Nat) (A : Option Addr) (s : Wd.R) (at_ : Int) (n : Nat) (num : Int) (pa : Option Addr) (pn pc : Nat) (t : ByteArray) (w : World) (hw : Pd w B gr rr gv A c s) (hB : B ≤ w.heap.size) (hnum : -9223372036854775808 ≤ num ∧ num ≤ 9223372036854775807) (hl : s.b.length ≤ 70368744177664) :
    Calls Try.prog 88 #[.pointer (some ⟨gx, 0, none⟩), .pointer (some ⟨gr, 0, none⟩), .pointer (some ⟨gv, 0, none⟩), .agg #[.int .i64 1, .int .i64 at_, .int .u64 (n : Nat), .int .i64 num, .slice pa pn pc, .string t]] w (TakesPost w B gr rr gv A c s.b) := by
  have hbx : Below w.heap.size w (w.alloc (.cells #[.int .i64 1, .int .i64 at_, .int .u64 (n : Nat), .int .i64 num, .slice pa pn pc, .string t] 54)) := (Below.refl _ _).alloc (Nat.le_refl _) _
  have hrow := Row.new w 54 [.int .i64 1, .int .i64 at_, .int .u64 (n : Nat), .int .i64 num, .slice pa pn pc, .string t]
  obtain ⟨w0, hw0⟩ : ∃ w0, w0 = w.alloc (.cells #[.int .i64 1, .int .i64 at_, .int .u64 (n : Nat), .int .i64 num, .slice pa pn pc, .string t] 54) := ⟨_, rfl⟩
  obtain ⟨g0, hg0⟩ : ∃ g0, g0 = w.heap.size := ⟨_, rfl⟩
  have hrow : Row w0 g0 54 [.int .i64 1, .int .i64 at_, .int .u64 (n : Nat), .int .i64 num, .slice pa pn pc, .string t] := by rw [hw0, hg0]; exact hrow
  have HBX : Hid (Below w.heap.size w w0) := Lib.hid (by rw [hw0]; exact hbx)
  have hp0 := hw.below HBX.out hB
  have hB0 : B ≤ w0.heap.size := by have := HBX.out.size; omega
  have HP := Lib.hid hp0
  have hgr : gr ≠ g0 := fun e => by have := hw.rd.blk.1; obtain ⟨cs, h⟩ := this; have := h.lt; omega
  have hgv : gv ≠ g0 := fun e => by have := hw.ry.1.lt; omega
  have HROW := Lib.hid hrow
  have hat := Lib.hid hw.ry.2.2.2.1
  have HR := Lib.hid (ruint8_any gr rr s w0 hp0.rd hl)
  have hvl := Wd.take_lt s 1 hw.ry.2.1.2.1
  have hsb := Lib.hid (Wd.take_at s 1 hw.ry.2.2.2.1).1
  obtain ⟨s1, v, ht⟩ : ∃ s1 v, s.take 1 = (s1, v) := ⟨_, _, rfl⟩
  have HT := Lib.hid ht
  rw [ht] at HR hvl hsb
  simp only at HR hvl hsb
  have hvl : v < 256 := by simpa using hvl
  have q1 : ((v : Int) == (v : Int)) = true := by simp
  clear hw hbx hrow hp0 ht
  go_enter Try.func88, Try.ntmps88
  go_wp2_with fail
  rw [← hw0]
  first | rw [← hg0] | skip
  clear hw0 hg0
  refine HR.out.mono ?_
  rintro e w1 ⟨rfl, r1, c1⟩
  have HD := Lib.hid (drnum_any B gv c 1 A s w1 (HP.out.mid c1 hB0) (by have := c1.size; omega) (by omega) (by omega))
  rw [HT.out] at HD
  have HR1 := Lib.hid r1; have HC1 := Lib.hid c1
  clear r1 c1
  go_wp2_with fail
  refine HD.out.mono ?_
  rintro e w2 ⟨rfl, r2, c2⟩
  have HR2 := Lib.hid r2; have HC2 := Lib.hid c2
  clear r2 c2
  go_wp2_with fail
  go_ret
  exact takes_done HBX.out HP.out HR1.out HC1.out HR2.out HC2.out hsb.out
set_option maxRecDepth 100000 in
set_option maxHeartbeats 1000000 in
theorem takes_2 (gx B gr gv c : Nat) (rr : Option Nat) (A : Option Addr) (s : Wd.R) (at_ : Int) (n : Nat) (num : Int) (pa : Option Addr) (pn pc : Nat) (t : ByteArray) (w : World) (hw : Pd w B gr rr gv A c s) (hB : B ≤ w.heap.size) (hnum : -9223372036854775808 ≤ num ∧ num ≤ 9223372036854775807) (hl : s.b.length ≤ 70368744177664) :
    Calls Try.prog 88 #[.pointer (some ⟨gx, 0, none⟩), .pointer (some ⟨gr, 0, none⟩), .pointer (some ⟨gv, 0, none⟩), .agg #[.int .i64 2, .int .i64 at_, .int .u64 (n : Nat), .int .i64 num, .slice pa pn pc, .string t]] w (TakesPost w B gr rr gv A c s.b) := by
  have hbx : Below w.heap.size w (w.alloc (.cells #[.int .i64 2, .int .i64 at_, .int .u64 (n : Nat), .int .i64 num, .slice pa pn pc, .string t] 54)) := (Below.refl _ _).alloc (Nat.le_refl _) _
  have hrow := Row.new w 54 [.int .i64 2, .int .i64 at_, .int .u64 (n : Nat), .int .i64 num, .slice pa pn pc, .string t]
  obtain ⟨w0, hw0⟩ : ∃ w0, w0 = w.alloc (.cells #[.int .i64 2, .int .i64 at_, .int .u64 (n : Nat), .int .i64 num, .slice pa pn pc, .string t] 54) := ⟨_, rfl⟩
  obtain ⟨g0, hg0⟩ : ∃ g0, g0 = w.heap.size := ⟨_, rfl⟩
  have hrow : Row w0 g0 54 [.int .i64 2, .int .i64 at_, .int .u64 (n : Nat), .int .i64 num, .slice pa pn pc, .string t] := by rw [hw0, hg0]; exact hrow
  have HBX : Hid (Below w.heap.size w w0) := Lib.hid (by rw [hw0]; exact hbx)
  have hp0 := hw.below HBX.out hB
  have hB0 : B ≤ w0.heap.size := by have := HBX.out.size; omega
  have HP := Lib.hid hp0
  have hgr : gr ≠ g0 := fun e => by have := hw.rd.blk.1; obtain ⟨cs, h⟩ := this; have := h.lt; omega
  have hgv : gv ≠ g0 := fun e => by have := hw.ry.1.lt; omega
  have HROW := Lib.hid hrow
  have hat := Lib.hid hw.ry.2.2.2.1
  have HR := Lib.hid (ruint16_any gr rr s w0 hp0.rd hl)
  have hvl := Wd.take_lt s 2 hw.ry.2.1.2.1
  have hsb := Lib.hid (Wd.take_at s 2 hw.ry.2.2.2.1).1
  obtain ⟨s1, v, ht⟩ : ∃ s1 v, s.take 2 = (s1, v) := ⟨_, _, rfl⟩
  have HT := Lib.hid ht
  rw [ht] at HR hvl hsb
  simp only at HR hvl hsb
  have hvl : v < 65536 := by simpa using hvl
  have q1 : ((v : Int) == (v : Int)) = true := by simp
  clear hw hbx hrow hp0 ht
  go_enter Try.func88, Try.ntmps88
  go_wp2_with fail
  rw [← hw0]
  first | rw [← hg0] | skip
  clear hw0 hg0
  refine HR.out.mono ?_
  rintro e w1 ⟨rfl, r1, c1⟩
  have HD := Lib.hid (drnum_any B gv c 2 A s w1 (HP.out.mid c1 hB0) (by have := c1.size; omega) (by omega) (by omega))
  rw [HT.out] at HD
  have HR1 := Lib.hid r1; have HC1 := Lib.hid c1
  clear r1 c1
  go_wp2_with fail
  refine HD.out.mono ?_
  rintro e w2 ⟨rfl, r2, c2⟩
  have HR2 := Lib.hid r2; have HC2 := Lib.hid c2
  clear r2 c2
  go_wp2_with fail
  go_ret
  exact takes_done HBX.out HP.out HR1.out HC1.out HR2.out HC2.out hsb.out
set_option maxRecDepth 100000 in
set_option maxHeartbeats 1000000 in
theorem takes_3 (gx B gr gv c : Nat) (rr : Option Nat) (A : Option Addr) (s : Wd.R) (at_ : Int) (n : Nat) (num : Int) (pa : Option Addr) (pn pc : Nat) (t : ByteArray) (w : World) (hw : Pd w B gr rr gv A c s) (hB : B ≤ w.heap.size) (hnum : -9223372036854775808 ≤ num ∧ num ≤ 9223372036854775807) (hl : s.b.length ≤ 70368744177664) :
    Calls Try.prog 88 #[.pointer (some ⟨gx, 0, none⟩), .pointer (some ⟨gr, 0, none⟩), .pointer (some ⟨gv, 0, none⟩), .agg #[.int .i64 3, .int .i64 at_, .int .u64 (n : Nat), .int .i64 num, .slice pa pn pc, .string t]] w (TakesPost w B gr rr gv A c s.b) := by
  have hbx : Below w.heap.size w (w.alloc (.cells #[.int .i64 3, .int .i64 at_, .int .u64 (n : Nat), .int .i64 num, .slice pa pn pc, .string t] 54)) := (Below.refl _ _).alloc (Nat.le_refl _) _
  have hrow := Row.new w 54 [.int .i64 3, .int .i64 at_, .int .u64 (n : Nat), .int .i64 num, .slice pa pn pc, .string t]
  obtain ⟨w0, hw0⟩ : ∃ w0, w0 = w.alloc (.cells #[.int .i64 3, .int .i64 at_, .int .u64 (n : Nat), .int .i64 num, .slice pa pn pc, .string t] 54) := ⟨_, rfl⟩
  obtain ⟨g0, hg0⟩ : ∃ g0, g0 = w.heap.size := ⟨_, rfl⟩
  have hrow : Row w0 g0 54 [.int .i64 3, .int .i64 at_, .int .u64 (n : Nat), .int .i64 num, .slice pa pn pc, .string t] := by rw [hw0, hg0]; exact hrow
  have HBX : Hid (Below w.heap.size w w0) := Lib.hid (by rw [hw0]; exact hbx)
  have hp0 := hw.below HBX.out hB
  have hB0 : B ≤ w0.heap.size := by have := HBX.out.size; omega
  have HP := Lib.hid hp0
  have hgr : gr ≠ g0 := fun e => by have := hw.rd.blk.1; obtain ⟨cs, h⟩ := this; have := h.lt; omega
  have hgv : gv ≠ g0 := fun e => by have := hw.ry.1.lt; omega
  have HROW := Lib.hid hrow
  have hat := Lib.hid hw.ry.2.2.2.1
  have HR := Lib.hid (ruint32_any gr rr s w0 hp0.rd hl)
  have hvl := Wd.take_lt s 4 hw.ry.2.1.2.1
  have hsb := Lib.hid (Wd.take_at s 4 hw.ry.2.2.2.1).1
  obtain ⟨s1, v, ht⟩ : ∃ s1 v, s.take 4 = (s1, v) := ⟨_, _, rfl⟩
  have HT := Lib.hid ht
  rw [ht] at HR hvl hsb
  simp only at HR hvl hsb
  have hvl : v < 4294967296 := by simpa using hvl
  have q1 : ((v : Int) == (v : Int)) = true := by simp
  clear hw hbx hrow hp0 ht
  go_enter Try.func88, Try.ntmps88
  go_wp2_with fail
  rw [← hw0]
  first | rw [← hg0] | skip
  clear hw0 hg0
  refine HR.out.mono ?_
  rintro e w1 ⟨rfl, r1, c1⟩
  have HD := Lib.hid (drnum_any B gv c 4 A s w1 (HP.out.mid c1 hB0) (by have := c1.size; omega) (by omega) (by omega))
  rw [HT.out] at HD
  have HR1 := Lib.hid r1; have HC1 := Lib.hid c1
  clear r1 c1
  go_wp2_with fail
  refine HD.out.mono ?_
  rintro e w2 ⟨rfl, r2, c2⟩
  have HR2 := Lib.hid r2; have HC2 := Lib.hid c2
  clear r2 c2
  go_wp2_with fail
  go_ret
  exact takes_done HBX.out HP.out HR1.out HC1.out HR2.out HC2.out hsb.out
set_option maxRecDepth 100000 in
set_option maxHeartbeats 1000000 in
theorem takes_4 (gx B gr gv c : Nat) (rr : Option Nat) (A : Option Addr) (s : Wd.R) (at_ : Int) (n : Nat) (num : Int) (pa : Option Addr) (pn pc : Nat) (t : ByteArray) (w : World) (hw : Pd w B gr rr gv A c s) (hB : B ≤ w.heap.size) (hnum : -9223372036854775808 ≤ num ∧ num ≤ 9223372036854775807) (hl : s.b.length ≤ 70368744177664) :
    Calls Try.prog 88 #[.pointer (some ⟨gx, 0, none⟩), .pointer (some ⟨gr, 0, none⟩), .pointer (some ⟨gv, 0, none⟩), .agg #[.int .i64 4, .int .i64 at_, .int .u64 (n : Nat), .int .i64 num, .slice pa pn pc, .string t]] w (TakesPost w B gr rr gv A c s.b) := by
  have hbx : Below w.heap.size w (w.alloc (.cells #[.int .i64 4, .int .i64 at_, .int .u64 (n : Nat), .int .i64 num, .slice pa pn pc, .string t] 54)) := (Below.refl _ _).alloc (Nat.le_refl _) _
  have hrow := Row.new w 54 [.int .i64 4, .int .i64 at_, .int .u64 (n : Nat), .int .i64 num, .slice pa pn pc, .string t]
  obtain ⟨w0, hw0⟩ : ∃ w0, w0 = w.alloc (.cells #[.int .i64 4, .int .i64 at_, .int .u64 (n : Nat), .int .i64 num, .slice pa pn pc, .string t] 54) := ⟨_, rfl⟩
  obtain ⟨g0, hg0⟩ : ∃ g0, g0 = w.heap.size := ⟨_, rfl⟩
  have hrow : Row w0 g0 54 [.int .i64 4, .int .i64 at_, .int .u64 (n : Nat), .int .i64 num, .slice pa pn pc, .string t] := by rw [hw0, hg0]; exact hrow
  have HBX : Hid (Below w.heap.size w w0) := Lib.hid (by rw [hw0]; exact hbx)
  have hp0 := hw.below HBX.out hB
  have hB0 : B ≤ w0.heap.size := by have := HBX.out.size; omega
  have HP := Lib.hid hp0
  have hgr : gr ≠ g0 := fun e => by have := hw.rd.blk.1; obtain ⟨cs, h⟩ := this; have := h.lt; omega
  have hgv : gv ≠ g0 := fun e => by have := hw.ry.1.lt; omega
  have HROW := Lib.hid hrow
  have hat := Lib.hid hw.ry.2.2.2.1
  have HR := Lib.hid (ruint64_any gr rr s w0 hp0.rd hl)
  have hvl := Wd.take_lt s 8 hw.ry.2.1.2.1
  have hsb := Lib.hid (Wd.take_at s 8 hw.ry.2.2.2.1).1
  obtain ⟨s1, v, ht⟩ : ∃ s1 v, s.take 8 = (s1, v) := ⟨_, _, rfl⟩
  have HT := Lib.hid ht
  rw [ht] at HR hvl hsb
  simp only at HR hvl hsb
  have hvl : v < 18446744073709551616 := by simpa using hvl
  have q1 : ((v : Int) == (v : Int)) = true := by simp
  clear hw hbx hrow hp0 ht
  go_enter Try.func88, Try.ntmps88
  go_wp2_with fail
  rw [← hw0]
  first | rw [← hg0] | skip
  clear hw0 hg0
  refine HR.out.mono ?_
  rintro e w1 ⟨rfl, r1, c1⟩
  have HD := Lib.hid (drnum_any B gv c 8 A s w1 (HP.out.mid c1 hB0) (by have := c1.size; omega) (by omega) (by omega))
  rw [HT.out] at HD
  have HR1 := Lib.hid r1; have HC1 := Lib.hid c1
  clear r1 c1
  go_wp2_with fail
  refine HD.out.mono ?_
  rintro e w2 ⟨rfl, r2, c2⟩
  have HR2 := Lib.hid r2; have HC2 := Lib.hid c2
  clear r2 c2
  go_wp2_with fail
  go_ret
  exact takes_done HBX.out HP.out HR1.out HC1.out HR2.out HC2.out hsb.out
set_option maxRecDepth 100000 in
set_option maxHeartbeats 1000000 in
theorem takes_7 (gx B gr gv c : Nat) (rr : Option Nat) (A : Option Addr) (s : Wd.R) (at_ : Int) (n : Nat) (num : Int) (pa : Option Addr) (pn pc : Nat) (t : ByteArray) (w : World) (hw : Pd w B gr rr gv A c s) (hB : B ≤ w.heap.size) (hnum : -9223372036854775808 ≤ num ∧ num ≤ 9223372036854775807) (hl : s.b.length ≤ 70368744177664) :
    Calls Try.prog 88 #[.pointer (some ⟨gx, 0, none⟩), .pointer (some ⟨gr, 0, none⟩), .pointer (some ⟨gv, 0, none⟩), .agg #[.int .i64 7, .int .i64 at_, .int .u64 (n : Nat), .int .i64 num, .slice pa pn pc, .string t]] w (TakesPost w B gr rr gv A c s.b) := by
  have hbx : Below w.heap.size w (w.alloc (.cells #[.int .i64 7, .int .i64 at_, .int .u64 (n : Nat), .int .i64 num, .slice pa pn pc, .string t] 54)) := (Below.refl _ _).alloc (Nat.le_refl _) _
  have hrow := Row.new w 54 [.int .i64 7, .int .i64 at_, .int .u64 (n : Nat), .int .i64 num, .slice pa pn pc, .string t]
  obtain ⟨w0, hw0⟩ : ∃ w0, w0 = w.alloc (.cells #[.int .i64 7, .int .i64 at_, .int .u64 (n : Nat), .int .i64 num, .slice pa pn pc, .string t] 54) := ⟨_, rfl⟩
  obtain ⟨g0, hg0⟩ : ∃ g0, g0 = w.heap.size := ⟨_, rfl⟩
  have hrow : Row w0 g0 54 [.int .i64 7, .int .i64 at_, .int .u64 (n : Nat), .int .i64 num, .slice pa pn pc, .string t] := by rw [hw0, hg0]; exact hrow
  have HBX : Hid (Below w.heap.size w w0) := Lib.hid (by rw [hw0]; exact hbx)
  have hp0 := hw.below HBX.out hB
  have hB0 : B ≤ w0.heap.size := by have := HBX.out.size; omega
  have HP := Lib.hid hp0
  have hgr : gr ≠ g0 := fun e => by have := hw.rd.blk.1; obtain ⟨cs, h⟩ := this; have := h.lt; omega
  have hgv : gv ≠ g0 := fun e => by have := hw.ry.1.lt; omega
  have HROW := Lib.hid hrow
  have hat := Lib.hid hw.ry.2.2.2.1
  have HR := Lib.hid (rpad_any gr rr s num w0 hp0.rd hl)
  have b3 := hrow.cell 3
  simp only [List.getElem?_cons_zero, List.getElem?_cons_succ] at b3
  clear hw hbx hrow hp0
  go_enter Try.func88, Try.ntmps88
  go_wp2_with fail
  rw [← hw0]
  first | rw [← hg0] | skip
  clear hw0 hg0
  refine HR.out.mono ?_
  rintro e w1 ⟨rfl, r1, c1⟩
  have HD := Lib.hid (drpad_any B gv c num A s w1 (HP.out.mid c1 hB0) (by have := c1.size; omega) hl)
  have b3' := (c1.row HROW.out (by simp; exact fun e => hgr e.symm)).cell 3
  simp only [List.getElem?_cons_zero, List.getElem?_cons_succ] at b3'
  have HR1 := Lib.hid r1; have HC1 := Lib.hid c1
  clear r1 c1
  go_wp2_with fail
  refine HD.out.mono ?_
  rintro e w2 ⟨rfl, r2, c2⟩
  have HR2 := Lib.hid r2; have HC2 := Lib.hid c2
  clear r2 c2
  go_wp2_with fail
  go_ret
  exact takes_done HBX.out HP.out HR1.out HC1.out HR2.out HC2.out (pad_b s num)
set_option maxRecDepth 100000 in
set_option maxHeartbeats 1000000 in
theorem takes_8 (gx B gr gv c : Nat) (rr : Option Nat) (A : Option Addr) (s : Wd.R) (at_ : Int) (n : Nat) (num : Int) (pa : Option Addr) (pn pc : Nat) (t : ByteArray) (w : World) (hw : Pd w B gr rr gv A c s) (hB : B ≤ w.heap.size) (hnum : -9223372036854775808 ≤ num ∧ num ≤ 9223372036854775807) (hl : s.b.length ≤ 70368744177664) :
    Calls Try.prog 88 #[.pointer (some ⟨gx, 0, none⟩), .pointer (some ⟨gr, 0, none⟩), .pointer (some ⟨gv, 0, none⟩), .agg #[.int .i64 8, .int .i64 at_, .int .u64 (n : Nat), .int .i64 num, .slice pa pn pc, .string t]] w (TakesPost w B gr rr gv A c s.b) := by
  have hbx : Below w.heap.size w (w.alloc (.cells #[.int .i64 8, .int .i64 at_, .int .u64 (n : Nat), .int .i64 num, .slice pa pn pc, .string t] 54)) := (Below.refl _ _).alloc (Nat.le_refl _) _
  have hrow := Row.new w 54 [.int .i64 8, .int .i64 at_, .int .u64 (n : Nat), .int .i64 num, .slice pa pn pc, .string t]
  obtain ⟨w0, hw0⟩ : ∃ w0, w0 = w.alloc (.cells #[.int .i64 8, .int .i64 at_, .int .u64 (n : Nat), .int .i64 num, .slice pa pn pc, .string t] 54) := ⟨_, rfl⟩
  obtain ⟨g0, hg0⟩ : ∃ g0, g0 = w.heap.size := ⟨_, rfl⟩
  have hrow : Row w0 g0 54 [.int .i64 8, .int .i64 at_, .int .u64 (n : Nat), .int .i64 num, .slice pa pn pc, .string t] := by rw [hw0, hg0]; exact hrow
  have HBX : Hid (Below w.heap.size w w0) := Lib.hid (by rw [hw0]; exact hbx)
  have hp0 := hw.below HBX.out hB
  have hB0 : B ≤ w0.heap.size := by have := HBX.out.size; omega
  have HP := Lib.hid hp0
  have hgr : gr ≠ g0 := fun e => by have := hw.rd.blk.1; obtain ⟨cs, h⟩ := this; have := h.lt; omega
  have hgv : gv ≠ g0 := fun e => by have := hw.ry.1.lt; omega
  have HROW := Lib.hid hrow
  have hat := Lib.hid hw.ry.2.2.2.1
  have HR := Lib.hid (rseal_any gr rr s num w0 hp0.rd hl)
  have b3 := hrow.cell 3
  simp only [List.getElem?_cons_zero, List.getElem?_cons_succ] at b3
  clear hw hbx hrow hp0
  go_enter Try.func88, Try.ntmps88
  go_wp2_with fail
  rw [← hw0]
  first | rw [← hg0] | skip
  clear hw0 hg0
  refine HR.out.mono ?_
  rintro e w1 ⟨rfl, r1, c1⟩
  have HD := Lib.hid (drseal_any B gv c num A s w1 (HP.out.mid c1 hB0) (by have := c1.size; omega) hl)
  have b3' := (c1.row HROW.out (by simp; exact fun e => hgr e.symm)).cell 3
  simp only [List.getElem?_cons_zero, List.getElem?_cons_succ] at b3'
  have HR1 := Lib.hid r1; have HC1 := Lib.hid c1
  clear r1 c1
  go_wp2_with fail
  refine HD.out.mono ?_
  rintro e w2 ⟨rfl, r2, c2⟩
  have HR2 := Lib.hid r2; have HC2 := Lib.hid c2
  clear r2 c2
  go_wp2_with fail
  go_ret
  exact takes_done HBX.out HP.out HR1.out HC1.out HR2.out HC2.out (sealr_b s num hat.out)
set_option maxRecDepth 100000 in
set_option maxHeartbeats 1000000 in
theorem takes_6 (gx B gr gv c : Nat) (rr : Option Nat) (A : Option Addr) (s : Wd.R) (at_ : Int) (n : Nat) (num : Int) (pa : Option Addr) (pn pc : Nat) (t : ByteArray) (w : World) (hw : Pd w B gr rr gv A c s) (hB : B ≤ w.heap.size) (hnum : -9223372036854775808 ≤ num ∧ num ≤ 9223372036854775807) (hl : s.b.length ≤ 70368744177664) :
    Calls Try.prog 88 #[.pointer (some ⟨gx, 0, none⟩), .pointer (some ⟨gr, 0, none⟩), .pointer (some ⟨gv, 0, none⟩), .agg #[.int .i64 6, .int .i64 at_, .int .u64 (n : Nat), .int .i64 num, .slice pa pn pc, .string t]] w (TakesPost w B gr rr gv A c s.b) := by
  have hbx : Below w.heap.size w (w.alloc (.cells #[.int .i64 6, .int .i64 at_, .int .u64 (n : Nat), .int .i64 num, .slice pa pn pc, .string t] 54)) := (Below.refl _ _).alloc (Nat.le_refl _) _
  have hrow := Row.new w 54 [.int .i64 6, .int .i64 at_, .int .u64 (n : Nat), .int .i64 num, .slice pa pn pc, .string t]
  obtain ⟨w0, hw0⟩ : ∃ w0, w0 = w.alloc (.cells #[.int .i64 6, .int .i64 at_, .int .u64 (n : Nat), .int .i64 num, .slice pa pn pc, .string t] 54) := ⟨_, rfl⟩
  obtain ⟨g0, hg0⟩ : ∃ g0, g0 = w.heap.size := ⟨_, rfl⟩
  have hrow : Row w0 g0 54 [.int .i64 6, .int .i64 at_, .int .u64 (n : Nat), .int .i64 num, .slice pa pn pc, .string t] := by rw [hw0, hg0]; exact hrow
  have HBX : Hid (Below w.heap.size w w0) := Lib.hid (by rw [hw0]; exact hbx)
  have hp0 := hw.below HBX.out hB
  have hB0 : B ≤ w0.heap.size := by have := HBX.out.size; omega
  have HP := Lib.hid hp0
  have hgr : gr ≠ g0 := fun e => by have := hw.rd.blk.1; obtain ⟨cs, h⟩ := this; have := h.lt; omega
  have hgv : gv ≠ g0 := fun e => by have := hw.ry.1.lt; omega
  have HROW := Lib.hid hrow
  have hat := Lib.hid hw.ry.2.2.2.1
  have HRX := Lib.hid (rtext_any gr rr s num w0.drew (hp0.rd.below (Below.refl _ _).drew) hnum.2 hl)
  obtain ⟨y, hy⟩ : ∃ y, y = bs2s (s.text num).2 := ⟨_, rfl⟩
  rw [← hy] at HRX
  have HY := Lib.hid hy
  have q1 : (y.toList == y.toList) = true := by simp
  have b3 := hrow.cell 3
  simp only [List.getElem?_cons_zero, List.getElem?_cons_succ] at b3
  have hlt0 := hrow.lt
  clear hw hbx hrow hp0 hy
  go_enter Try.func88, Try.ntmps88
  go_wp2_with fail
  rw [← hw0]
  first | rw [← hg0] | skip
  clear hw0 hg0
  go_region_held3 (fun w' => w'.cell? ⟨g0, 3, none⟩ = some (.int .i64 num))
    (first | exact b3 | exact b3' | exact b3'')
    (first
      | (go_at_call 103; refine HRX.out.mono ?_; rintro e w1 ⟨rfl, r1, c1⟩; have c1 : Chg [gr] w0 w1 := ⟨c1.os, c1.tape, c1.output, c1.size, c1.block⟩; have b3' := (c1.row HROW.out (by simp; exact fun e => hgr e.symm)).cell 3; have HROW1 := Lib.hid (c1.row HROW.out (by simp; exact fun e => hgr e.symm)); have HD := Lib.hid (drtext_any B gv c num A s w1 (HP.out.mid c1 hB0) (by have := c1.size; omega) hnum.2 hl); rw [← HY.out] at HD; have HR1 := Lib.hid r1; have HC1 := Lib.hid c1; clear r1 c1)
      | (go_at_call 117; refine HD.out.mono ?_; rintro e w2 ⟨rfl, r2, c2⟩; have b3'' := (c2.row HROW1.out (by simp; exact fun e => hgv e.symm)).cell 3; have HR2 := Lib.hid r2; have HC2 := Lib.hid c2; clear r2 c2))
  go_wp2_with fail
  go_ret
  exact takes_done HBX.out HP.out HR1.out HC1.out HR2.out HC2.out (text_b s num hat.out)
end Go.Proofs.Ytajkiglogfahfaa

/- Texts of this claim, one behind the other: WkE. -/
import Derived.Test.YtfpofaniicegaaaGreatJWalkForeign24
/- The walks of walk.Load, Fetch, Store over a machine. -/
set_option linter.unusedVariables false
set_option linter.unusedSimpArgs false
namespace Go.Proofs.YtfpofaniicegaaaGreat
open Go.RowKit
open S64
namespace Bu
def Ld1C (K : FuncId) (rv : Value) (S : MemS) : Prop := ∀ (Z R : Nat → Prop) (w : World) (M : PM) (a : Nat), S Z R w M → True → True → a ≤ TOP → onM M a = true →
  Calls Tryz.prog K #[rv, .int .u64 (a : Nat), .int .i64 1] w fun e w' => e = .returned (.tuple #[.int .u64 (M.mem a : Nat), .agg #[.int .i64 0, .int .u64 0]]) ∧ S Z R w' { M with loads := cInc M.loads } ∧ ChgP Z w w'
/-- a byte is stored -/
def st1 (M : PM) (a v : Nat) : PM := { M with mem := fun p => if p = a then v % 256 else M.mem p, stores := cInc M.stores, pgn := pgF M.pgn a 1 }
def St1C (K : FuncId) (rv : Value) (S : MemS) : Prop := ∀ (Z R : Nat → Prop) (w : World) (M : PM) (a v : Nat), S Z R w M → True → True → a ≤ TOP → v ≤ TOP → onM M a = true →
  Calls Tryz.prog K #[rv, .int .u64 (a : Nat), .int .i64 1, .int .u64 (v : Nat)] w fun e w' => e = .returned (.agg #[.int .i64 0, .int .u64 0]) ∧ ∃ Z', S Z' R w' (st1 M a v) ∧ ChgP Z w w' ∧ ∀ k, Z' k → Z k ∨ w.heap.size ≤ k
theorem numB_one (mem : Nat → Nat) (a : Nat) : numB mem a 1 = mem a := by
  unfold numB
  show Wd.unle [mem (a + 0)] = mem a
  rw [Nat.add_zero]; rfl
theorem offF_one {M : PM} {a : Nat} : offF M a 1 = if onM M a = true then none else some a := by
  unfold offF
  have e : (List.range 1).map (a + ·) = [a] := rfl
  rw [e]
  cases h : onM M a <;> simp [h]
theorem laid1_st1 (M : PM) (a v : Nat) : laidM M a 1 (byteOf v) 1 none = st1 M a v := by
  unfold laidM st1
  have h : layM M.mem a 1 (byteOf v) = fun p => if p = a then v % 256 else M.mem p := by
    funext p
    unfold layM
    by_cases hp : p = a
    · subst hp; rw [if_pos (by omega), if_pos rfl, Nat.sub_self]; show v / 2 ^ (8 * 0) % 256 = _; simp
    · rw [if_neg (by omega), if_neg hp]
  rw [h]; rfl
theorem pk1_mach (g : Nat) : Pk1C 123 (machV g) (SMach g) := by
  intro Z R w M a hm hs ha
  have hF := offF_is (MZ.limM hm) (n := 1) ha
  refine ⟨peekV M a 1 (offF M a 1), fno (offF M a 1), (offF M a 1).getD 0, fun h => ?_, fun h => ?_, ?_, (peek_m (n := 1) hm (by omega) ha hs hF).mono fun e w' hh => ⟨by rw [hh.1, faultV_eq], ?_⟩⟩
  · rw [offF_one, if_pos h]; exact ⟨rfl, numB_one _ _⟩
  · rw [offF_one, if_neg (by rw [h]; decide)]; rfl
  · rw [offF_one]
    split
    · show numB M.mem a 1 ≤ TOP
      rw [numB_one]; have := MZ.byteM hm a; unfold TOP; omega
    · show 0 ≤ TOP; exact Nat.zero_le _
  · obtain ⟨s, h1, h2, h3⟩ := stray_sM M (offF M a 1)
    obtain ⟨h4, h5⟩ := hh.2
    rw [h3] at h4
    exact ⟨s, h1, fun h => h2 (by rw [offF_one, if_pos h]), h4, h5⟩
theorem ld1_mach (g : Nat) : Ld1C 122 (machV g) (SMach g) := by
  intro Z R w M a hm hs hl ha ho
  have hF := offF_is (MZ.limM hm) (n := 1) ha
  have hn : offF M a 1 = none := by rw [offF_one, if_pos ho]
  rw [hn] at hF
  refine (load_m (n := 1) hm (by omega) ha hs hl hF).mono fun e w' hh => ⟨?_, hh.2.1, hh.2.2⟩
  rw [hh.1]
  show Ending.returned (.tuple #[.int .u64 (numB M.mem a 1 : Nat), _]) = _
  rw [numB_one]; rfl
theorem st1_mach (g : Nat) : St1C 29 (machV g) (SMach g) := by
  intro Z R w M a v hm hs hst ha hv ho
  have hF := offF_is (MZ.limM hm) (n := 1) ha
  have hn : offF M a 1 = none := by rw [offF_one, if_pos ho]
  rw [hn] at hF
  refine (store_m (n := 1) hm (by omega) hv hst ha hs hF).mono fun e w' hh => ⟨hh.1, ?_⟩
  obtain ⟨Z', h1, h2, h3⟩ := hh.2
  rw [laid1_st1] at h1
  exact ⟨Z', h1, h2, h3⟩
theorem mach_load (g n : Nat) (wx : World) : (method (n + 1) 50 (.pointer (some ⟨g, 0, none⟩)) "Load").run Tryz.prog wx = .ok (122, .pointer (some ⟨g, 0, none⟩)) wx := by kernel_rfl
theorem mach_store (g n : Nat) (wx : World) : (method (n + 1) 50 (.pointer (some ⟨g, 0, none⟩)) "Store").run Tryz.prog wx = .ok (29, .pointer (some ⟨g, 0, none⟩)) wx := by kernel_rfl
theorem mach_ahead (g n : Nat) (wx : World) : (nilAhead (n + 1) 50 (.pointer (some ⟨g, 0, none⟩)) "Store").run Tryz.prog wx = .ok (some false) wx := by kernel_rfl
theorem flt_agg (n a : Nat) : flt n a = .agg #[.int .i64 (n : Nat), .int .u64 ((if n = 0 then 0 else a : Nat) : Nat)] := by
  unfold flt
  split
  · rename_i h; subst h; rfl
  · rfl
theorem ReachS.open_ {S : MemS} {Z R : Nat → Prop} {w w' : World} {M : PM} {at_ : List Nat} {f : Nat × Nat} {e : Ending} (h : ReachS S Z R w M at_ f e w') :
    ∃ (A : Option Addr) (l : List Nat) (bb : Nat), e = .returned (.tuple #[.slice A l.length l.length, flt f.1 f.2]) ∧ l = (if f.1 = 0 then at_ else []) ∧ (0 < l.length → A = some ⟨bb, 0, none⟩ ∧ w.heap.size ≤ bb ∧ Row w' bb 31 (l.map u64v)) ∧ QuS S Z R w M (f.1 ≠ 42 ∧ f.1 ≠ 30) w' := by
  obtain ⟨h1, h2, h3⟩ := h
  by_cases h0 : f.1 = 0
  · obtain ⟨bb, he, hb, hr⟩ := h1 h0
    exact ⟨_, at_, bb, by rw [he, h0]; rfl, by rw [if_pos h0], fun _ => ⟨rfl, hb, hr⟩, h3⟩
  · exact ⟨none, [], 0, h2 h0, by rw [if_neg h0], fun h => absurd h (by decide), h3⟩
/-- bytes laid into the eight -/
def b8L (p : Nat → Nat) (i : Nat) : List Nat := (List.range 8).map fun j => if j < i then p j else 0
theorem b8L_len (p : Nat → Nat) (i : Nat) : (b8L p i).length = 8 := by simp [b8L]
theorem b8L_set (p : Nat → Nat) (i : Nat) (h : i < 8) : ((b8L p i).map u8).set i (u8 (p i)) = (b8L p (i + 1)).map u8 := by
  apply List.ext_getElem?
  intro j
  rw [List.getElem?_set, List.length_map, b8L_len]
  unfold b8L
  rw [List.getElem?_map, List.getElem?_map, List.getElem?_map, List.getElem?_map]
  by_cases hj : j < 8
  · rw [List.getElem?_range hj]
    simp only [Option.map_some]
    by_cases e : i = j
    · subst e; rw [if_pos rfl, if_pos h, if_pos (by omega)]
    · rw [if_neg e]
      by_cases h2 : j < i
      · rw [if_pos h2, if_pos (by omega)]
      · rw [if_neg h2, if_neg (by omega)]
  · rw [if_neg (by omega), List.getElem?_eq_none (by rw [List.length_range]; omega)]; rfl
theorem b8L_num (l : List Nat) (h : l.length ≤ 8) : Wd.unle ((b8L (fun j => l.getD j 0) l.length).take 8) = Wd.unle l := by
  rw [List.take_of_length_le (by rw [b8L_len]; omega)]
  have e : b8L (fun j => l.getD j 0) l.length = l ++ List.replicate (8 - l.length) 0 := by
    apply List.ext_getElem?
    intro j
    unfold b8L
    rw [List.getElem?_map]
    by_cases hj : j < 8
    · rw [List.getElem?_range hj]
      simp only [Option.map_some]
      by_cases h2 : j < l.length
      · rw [if_pos h2, List.getElem?_append_left h2, List.getD_eq_getElem?_getD, List.getElem?_eq_getElem h2]; rfl
      · rw [if_neg h2, List.getElem?_append_right (by omega), List.getElem?_replicate, if_pos (by omega)]
    · rw [List.getElem?_eq_none (by rw [List.length_range]; omega), List.getElem?_eq_none (by rw [List.length_append, List.length_replicate]; omega)]; rfl
  rw [e, unle_zeros]
theorem b8L_lt (l : List Nat) (h : ∀ b ∈ l, b < 256) (i : Nat) (hi : i ≤ l.length) : ∀ b ∈ b8L (fun j => l.getD j 0) i, b < 256 := by
  intro b hb
  obtain ⟨j, hj, rfl⟩ := List.mem_map.1 hb
  simp only
  split
  · exact h _ (getD_mem l j (by omega))
  · decide
/-- loads that were done are counted -/
def cAdd (c : Int) : Nat → Int
  | 0 => c
  | n + 1 => cInc (cAdd c n)
def ldM (M : PM) (s : Int) (n : Nat) : PM := { M with strays := s, loads := cAdd M.loads n }
/-- while bytes are loaded -/
structure TI (S : MemS) (Z R : Nat → Prop) (w : World) (M : PM) (s : Int) (c c3 b8 : Nat) (A : Option Addr) (bb : Nat) (l : List Nat) (F0 F1 i : Nat) (wr : World) : Prop where
  s : S Z R wr (ldM M s i)
  ch : ChgP Z w wr
  rb : Row wr b8 132 ((b8L (fun j => (l.map M.mem).getD j 0) i).map u8)
  ra : 0 < l.length → A = some ⟨bb, 0, none⟩ ∧ Row wr bb 31 (l.map u64v) ∧ w.heap.size ≤ bb
  rc : Row wr c 57 [.int .i64 0, .int .u64 0]
  r3 : Row wr c3 57 [.int .i64 (F0 : Nat), .int .u64 (F1 : Nat)]
  bw : w.heap.size ≤ b8
  cw : w.heap.size ≤ c
  c3w : w.heap.size ≤ c3
theorem TI.below {S : MemS} (hS : MemI S) {Z R : Nat → Prop} {w : World} {M : PM} {s : Int} {c c3 b8 : Nat} {A : Option Addr} {bb : Nat} {l : List Nat} {F0 F1 i : Nat} {wr wx : World} (h : TI S Z R w M s c c3 b8 A bb l F0 F1 i wr) (hb : Below wr.heap.size wr wx) : TI S Z R w M s c c3 b8 A bb l F0 F1 i wx :=
  ⟨hS.below h.s hb, h.ch.trans (ChgP.of_below (Z := Z) hb) (fun x hx => .inl hx), h.rb.below hb h.rb.lt, fun h0 => ⟨(h.ra h0).1, (h.ra h0).2.1.below hb (h.ra h0).2.1.lt, (h.ra h0).2.2⟩, h.rc.below hb h.rc.lt, h.r3.below hb h.r3.lt, h.bw, h.cw, h.c3w⟩
theorem TI.loaded {S : MemS} (hS : MemI S) {Z R : Nat → Prop} {w : World} {M : PM} {s : Int} {c c3 b8 : Nat} {A : Option Addr} {bb : Nat} {l : List Nat} {F0 F1 i : Nat} {wr wx : World} (h : TI S Z R w M s c c3 b8 A bb l F0 F1 i wr) (hz : ∀ k, Z k → k < w.heap.size) (h1 : S Z R wx { ldM M s i with loads := cInc (ldM M s i).loads }) (h2 : ChgP Z wr wx) :
    S Z R wx (ldM M s (i + 1)) ∧ ChgP Z w wx ∧ Row wx b8 132 ((b8L (fun j => (l.map M.mem).getD j 0) i).map u8) ∧ (0 < l.length → A = some ⟨bb, 0, none⟩ ∧ Row wx bb 31 (l.map u64v) ∧ w.heap.size ≤ bb) ∧ Row wx c 57 [.int .i64 0, .int .u64 0] ∧ Row wx c3 57 [.int .i64 (F0 : Nat), .int .u64 (F1 : Nat)] :=
  ⟨h1, h.ch.trans h2 (fun x hx => .inl hx), h2.row h.rb (fun hy => by have := hz _ hy; have := h.bw; omega), fun h0 => ⟨(h.ra h0).1, h2.row (h.ra h0).2.1 (fun hy => by have := hz _ hy; have := (h.ra h0).2.2; omega), (h.ra h0).2.2⟩, h2.row h.rc (fun hy => by have := hz _ hy; have := h.cw; omega), h2.row h.r3 (fun hy => by have := hz _ hy; have := h.c3w; omega)⟩
/-- what a load answers -/
def TakeS (S : MemS) (Z R : Nat → Prop) (w : World) (M : PM) (at_ : List Nat) (f : Nat × Nat) (e : Ending) (w' : World) : Prop :=
  e = .returned (.tuple #[.int .u64 ((if f.1 = 0 then Wd.unle (at_.map M.mem) else 0 : Nat) : Nat), flt f.1 f.2]) ∧ ∃ s : Int, True ∧ (f.1 ≠ 42 ∧ f.1 ≠ 30 → s = M.strays) ∧ S Z R w' (ldM M s (if f.1 = 0 then at_.length else 0)) ∧ ChgP Z w w'
set_option maxRecDepth 100000 in
set_option maxHeartbeats 1000000 in
theorem take_mach (g : Nat) {Z R : Nat → Prop} {w : World} {M : PM} (root virt : Nat) (z access : Int) (at_ : List Nat) (f : Nat × Nat)
    (hR : ∀ wx, SMach g Z R wx M → Calls Tryz.prog 44 #[.iface 50 (machV g), .int .u64 (root : Nat), .int .u64 (virt : Nat), .int .i64 z, .int .i64 access] wx (ReachS (SMach g) Z R wx M at_ f))
    (hL : Ld1C 122 (machV g) (SMach g)) (hm : SMach g Z R w M) (hs : True) (hl : True) (h8 : at_.length ≤ 8) (hon : f.1 = 0 → ∀ a ∈ at_, onM M a = true ∧ a ≤ TOP) :
    Calls Tryz.prog 35 #[.iface 50 (machV g), .int .u64 (root : Nat), .int .u64 (virt : Nat), .int .i64 z, .int .i64 access] w (TakeS (SMach g) Z R w M at_ f) := by
  have hS := smach_i g
  have hmp := mach_load g
  unfold machV at *
  have HM := Lib.hid hm; have HS := Lib.hid hs; have HL := Lib.hid hl; have HSI := Lib.hid hS; have HLC := Lib.hid hL; have HON := Lib.hid hon; have H8 := Lib.hid h8
  have HR := Lib.hid hR
  have HZL : Hid (∀ k, Z k → k < w.heap.size) := Lib.hid (hS.z hm)
  clear hm hs hl hS hL hon h8 hR
  go_enter Tryz.func35, Tryz.ntmps35
  go_upto_region 1 with fail
  have r0 := Row.new w 57 [.int .i64 0, .int .u64 0]
  have hb0 : Below w.heap.size w (w.alloc (.cells #[.int .i64 0, .int .u64 0] 57)) := (Below.refl _ _).alloc (Nat.le_refl _) _
  obtain ⟨c, hc⟩ : ∃ c, c = w.heap.size := ⟨_, rfl⟩
  generalize w.alloc (.cells #[.int .i64 0, .int .u64 0] 57) = w1 at *
  rw [← hc] at r0 ⊢
  have HC := Lib.hid hc; have HB := Lib.hid hb0; have HRC := Lib.hid r0
  have HR1 := Lib.hid (HR.out w1 (HSI.out.below HM.out hb0))
  clear r0 hb0 hc HR
  obtain ⟨F0, hF0⟩ : ∃ F0, F0 = f.1 := ⟨_, rfl⟩
  obtain ⟨F1, hF1⟩ : ∃ F1 : Nat, F1 = if f.1 = 0 then 0 else f.2 := ⟨_, rfl⟩
  have HFL : Hid (flt f.1 f.2 = .agg #[.int .i64 (F0 : Nat), .int .u64 (F1 : Nat)]) := Lib.hid (by rw [flt_agg, hF0, hF1])
  clear hF0 hF1
  go_upto_region 2 with (go_at_call 44; refine HR1.out.mono ?_; intro e w2 hrs; obtain ⟨A, l, bb, rfl, hl, ha, hq⟩ := hrs.open_; rw [HFL.out]; have HLE := Lib.hid hl; have HA := Lib.hid ha; have HQ := Lib.hid hq; clear hl ha hq hrs)
  obtain ⟨s, hs1, hs0, hs2, hs3⟩ := HQ.out
  have HS1 := Lib.hid hs1; have HS0 := Lib.hid hs0
  have HLL : Hid (l.length ≤ 8) := Lib.hid (by rw [HLE.out]; split; exact H8.out; exact Nat.zero_le _)
  have hm8 : l.length ≤ 8 := HLL.out
  have HRC2 := Lib.hid (hs3.row HRC.out (fun h => by have := HZL.out _ h; have := HC.out; omega))
  have HD2 : Hid (SMach g Z R w2 (ldM M s 0)) := Lib.hid hs2
  have HCH2 : Hid (ChgP Z w w2) := Lib.hid ((ChgP.of_below (Z := Z) HB.out).trans hs3 (fun x hx => .inl hx))
  have HA2 : Hid (0 < l.length → A = some ⟨bb, 0, none⟩ ∧ w.heap.size ≤ bb ∧ Row w2 bb 31 (l.map u64v)) := Lib.hid (fun h => ⟨(HA.out h).1, Nat.le_trans HB.out.size (HA.out h).2.1, (HA.out h).2.2⟩)
  clear hs1 hs0 hs2 hs3 HQ HR1 HB HRC HA
  have hr3 := Row.new w2 57 [.int .i64 (F0 : Nat), .int .u64 (F1 : Nat)]
  have hb3 : Below w2.heap.size w2 (w2.alloc (.cells #[.int .i64 (F0 : Nat), .int .u64 (F1 : Nat)] 57)) := (Below.refl _ _).alloc (Nat.le_refl _) _
  obtain ⟨c3, hc3⟩ : ∃ c3, c3 = w2.heap.size := ⟨_, rfl⟩
  generalize w2.alloc (.cells #[.int .i64 (F0 : Nat), .int .u64 (F1 : Nat)] 57) = w3 at *
  rw [← hc3] at hr3 ⊢
  have HR3 := Lib.hid hr3; have HB3 := Lib.hid hb3; have HC3 := Lib.hid hc3
  clear hr3 hb3 hc3
  go_upto_region 3 with fail
  have hr8 := Row.new w3 132 [.int .u8 0, .int .u8 0, .int .u8 0, .int .u8 0, .int .u8 0, .int .u8 0, .int .u8 0, .int .u8 0]
  have hb4 : Below w3.heap.size w3 (w3.alloc (.cells #[.int .u8 0, .int .u8 0, .int .u8 0, .int .u8 0, .int .u8 0, .int .u8 0, .int .u8 0, .int .u8 0] 132)) := (Below.refl _ _).alloc (Nat.le_refl _) _
  have HR34 := Lib.hid (HR3.out.alloc (.cells #[.int .u8 0, .int .u8 0, .int .u8 0, .int .u8 0, .int .u8 0, .int .u8 0, .int .u8 0, .int .u8 0] 132))
  obtain ⟨b8, hb8⟩ : ∃ b8, b8 = w3.heap.size := ⟨_, rfl⟩
  generalize w3.alloc (.cells #[.int .u8 0, .int .u8 0, .int .u8 0, .int .u8 0, .int .u8 0, .int .u8 0, .int .u8 0, .int .u8 0] 132) = w4 at *
  rw [← hb8] at hr8 ⊢
  have hb24 : Below w2.heap.size w2 w4 := HB3.out.trans (hb4.mono HB3.out.size)
  have HI0 : Hid (TI (SMach g) Z R w M s c c3 b8 A bb l F0 F1 0 w4) := Lib.hid ⟨HSI.out.below HD2.out hb24, HCH2.out.trans (ChgP.of_below (Z := Z) hb24) (fun x hx => .inl hx), hr8, fun h => ⟨(HA2.out h).1, (HA2.out h).2.2.below hb24 (HA2.out h).2.2.lt, (HA2.out h).2.1⟩, HRC2.out.below hb24 HRC2.out.lt, HR34.out, by rw [hb8]; exact Nat.le_trans HCH2.out.size HB3.out.size, by rw [HC.out]; exact Nat.le_refl _, by rw [HC3.out]; exact HCH2.out.size⟩
  clear hr8 hb4 hb8 hb24 HR34 HR3 HB3 HA2 HCH2 HD2 HRC2 HC3
  obtain ⟨m, hm⟩ : ∃ m, m = l.length := ⟨_, rfl⟩
  rw [← hm] at hm8 ⊢
  have HML := Lib.hid hm
  clear hm
  go_wp2_with fail
  go_loopw [32] (fun x wr => ∃ i : Nat, i ≤ m ∧ x = .int .i64 (i : Nat) ∧ Hid (TI (SMach g) Z R w M s c c3 b8 A bb l F0 F1 i wr)) (fun x _ => m - (intOf x).toNat)
  case atStart => exact ⟨0, by omega, rfl, HI0⟩
  case round =>
  clear HI0
  obtain ⟨i, hi, rfl, HI⟩ := hrel
  by_cases him : i < m
  · have HF0 : Hid (f.1 = 0 ∧ l = at_) := Lib.hid (by
      by_cases h : f.1 = 0
      · exact ⟨h, by rw [HLE.out, if_pos h]⟩
      · have h1 := HML.out; rw [HLE.out, if_neg h] at h1; simp at h1; omega)
    obtain ⟨a, ha⟩ : ∃ a, l[i]? = some a := ⟨_, List.getElem?_eq_getElem (by have := HML.out; omega)⟩
    have hon := HON.out HF0.out.1 a (by rw [← HF0.out.2]; exact List.mem_of_getElem? ha)
    have HLC1 := Lib.hid (HLC.out Z R wr (ldM M s i) a HI.out.s trivial trivial hon.2 hon.1)
    obtain ⟨hA, hra, hbw⟩ := HI.out.ra (by have := HML.out; omega)
    subst hA
    have b0 := hra.cell i
    rw [List.getElem?_map, ha, Option.map_some] at b0
    unfold u64v at b0
    have lb := hra.lt
    obtain ⟨x, hx⟩ : ∃ x, x = (ldM M s i).mem a := ⟨_, rfl⟩
    rw [← hx] at HLC1
    have hx8 : x < 256 := by rw [hx]; exact MZ.byteM (show MZ Z R wr g _ from HI.out.s) a
    have HXE : Hid ((l.map M.mem).getD i 0 = x) := Lib.hid (by rw [hx, List.getD_eq_getElem?_getD, List.getElem?_map, ha]; rfl)
    have HAL := Lib.hid ha
    have i8 : i < 8 := by omega
    have e8 : (x : Int) % 256 = (x : Int) := by omega
    clear hra ha hx hon
    go_upto_region 6 with fail
    go_upto_region 7 with (go_at_call 122; refine HLC1.out.mono ?_; rintro e w5 ⟨rfl, hs5, hc5⟩; have HT := Lib.hid (HI.out.loaded HSI.out HZL.out hs5 hc5); clear hs5 hc5)
    have hb6 : Below w5.heap.size w5 (w5.alloc (.cells #[.int .i64 0, .int .u64 0] 57)) := (Below.refl _ _).alloc (Nat.le_refl _) _
    generalize w5.alloc (.cells #[.int .i64 0, .int .u64 0] 57) = w6 at *
    obtain ⟨t1, t2, t3, t4, t5, t6⟩ := HT.out
    have HR8 := Lib.hid (t3.below hb6 t3.lt)
    have hc7 : ChgP (fun k => k = b8) w6 (w6.setCell ⟨b8, i, none⟩ (.int .u8 (x : Nat))) := (ChgP.refl (fun k => k = b8) w6).set_ (p := ⟨b8, i, none⟩) (.inl rfl) _
    have HI7 : Hid (TI (SMach g) Z R w M s c c3 b8 (some ⟨bb, 0, none⟩) bb l F0 F1 (i + 1) (w6.setCell ⟨b8, i, none⟩ (.int .u8 (x : Nat)))) := Lib.hid ⟨HSI.out.chg (HSI.out.below t1 hb6) hc7 (fun k hk hy => by
        have e : k = b8 := hy
        have := HI.out.bw
        rcases hk with hk | hk
        · have := HZL.out k hk; omega
        · have := HSI.out.r HM.out k hk; omega), (t2.trans (ChgP.of_below (Z := Z) hb6) (fun x hx => .inl hx)).trans hc7 (fun k hk => .inr (by rw [show k = b8 from hk]; exact HI.out.bw)), by
        have h1 := b8L_set (fun j => (l.map M.mem).getD j 0) i i8
        simp only [HXE.out] at h1
        rw [← h1]
        exact HR8.out.set_ i _, fun h => ⟨rfl, hc7.row ((t4 h).2.1.below hb6 (t4 h).2.1.lt) (Row.ne_t ((t4 h).2.1.below hb6 (t4 h).2.1.lt) HR8.out (by decide)), hbw⟩, hc7.row (t5.below hb6 t5.lt) (Row.ne_t (t5.below hb6 t5.lt) HR8.out (by decide)), hc7.row (t6.below hb6 t6.lt) (Row.ne_t (t6.below hb6 t6.lt) HR8.out (by decide)), HI.out.bw, HI.out.cw, HI.out.c3w⟩
    obtain ⟨y, y0⟩ : ∃ y, w6.cell? ⟨b8, i, none⟩ = some y := ⟨_, by rw [HR8.out.cell, List.getElem?_map, List.getElem?_eq_getElem (by rw [b8L_len]; exact i8)]; rfl⟩
    have yf := HR8.out.frozen i
    have ly := HR8.out.lt
    clear t1 t2 t3 t4 t5 t6 hb6 hc7 hbw b0 lb HT
    go_wp2_with fail
    go_roundw
    case rel => exact ⟨i + 1, by omega, by go_num, HI7⟩
    case measure => simp [intOf]; omega
  · have ei : i = m := by omega
    subst ei
    have HLM : Hid (l.map M.mem = if f.1 = 0 then at_.map M.mem else []) := Lib.hid (by rw [HLE.out]; split <;> rfl)
    have hlen : (l.map M.mem).length = i := by rw [List.length_map, HML.out]
    have HIB : Hid (IsB wr wr.heap.size (some ⟨b8, 0, none⟩) 8 (b8L (fun j => (l.map M.mem).getD j 0) i)) := Lib.hid (IsB.of_row HI.out.rb (by rw [List.drop_zero, List.take_of_length_le (by rw [List.length_map, b8L_len]; omega)]) (b8L_len _ _) (b8L_lt _ (fun b hb => by obtain ⟨a, _, rfl⟩ := List.mem_map.1 hb; exact MZ.byteM (show MZ Z R wr g _ from HI.out.s) a) i (by omega)) HI.out.rb.lt (by omega) (by rw [List.length_map, b8L_len]; omega))
    obtain ⟨V, hV⟩ : ∃ V, V = Wd.unle (l.map M.mem) := ⟨_, rfl⟩
    have HNUM : Hid (Wd.unle ((b8L (fun j => (l.map M.mem).getD j 0) i).take 8) = V) := Lib.hid (by rw [hV]; have := b8L_num (l.map M.mem) (by omega); rw [hlen] at this; exact this)
    have HVE : Hid (V = if f.1 = 0 then Wd.unle (at_.map M.mem) else 0) := Lib.hid (by rw [hV, HLM.out]; split <;> rfl)
    have HMN : Hid (i = if f.1 = 0 then at_.length else 0) := Lib.hid (by rw [HML.out, HLE.out]; split <;> rfl)
    have q0 := HI.out.rc.cell 0
    have q1 := HI.out.rc.cell 1
    have la := HI.out.rc.lt
    have a0 := HI.out.rc.frozen 0
    have a1 := HI.out.rc.frozen 1
    have t0 := HI.out.r3.cell 0
    have t1 := HI.out.r3.cell 1
    have lt := HI.out.r3.lt
    have l8 := HI.out.rb.lt
    simp only [List.getElem?_cons_zero, List.getElem?_cons_succ] at q0 q1 t0 t1
    have HY0 := Lib.hid ((HI.out.rc.set_ 0 (.int .i64 (F0 : Nat))).cell 0)
    have HY1 := Lib.hid (((HI.out.rc.set_ 0 (.int .i64 (F0 : Nat))).set_ 1 (.int .u64 (F1 : Nat))).cell 1)
    simp only [List.set_cons_zero, List.set_cons_succ, List.getElem?_cons_zero, List.getElem?_cons_succ] at HY0 HY1
    clear hlen hV
    go_upto_region 10 with (go_at_call 59; refine (get_uint64 (some ⟨b8, 0, none⟩) 8 8 (b8L (fun j => (l.map M.mem).getD j 0) i) wr HIB.out (by omega) (by omega)).mono ?_; rw [HNUM.out]; rintro e w6 ⟨rfl, rfl⟩)
    go_still_tail 3, (by kernel_rfl)
    change wpList _ _ _ _ _ wr.drew
    go_wp2_with fail
    refine bodyPost_ret (v := .tuple #[.int .u64 (V : Nat), .agg #[.int .i64 (F0 : Nat), .int .u64 (F1 : Nat)]]) (by simp [results, Tryz.results35, go_sem, HY0.out, HY1.out]) rfl ⟨by rw [HFL.out, HVE.out], s, HS1.out, HS0.out, ?_⟩
    have hcq : ChgP (fun k => k = c) wr ((wr.drew.setCell ⟨c, 0, none⟩ (.int .i64 (F0 : Nat))).setCell ⟨c, 1, none⟩ (.int .u64 (F1 : Nat))) := ((ChgP.refl (fun k => k = c) wr).drew.set_ (p := ⟨c, 0, none⟩) (.inl rfl) _).set_ (p := ⟨c, 1, none⟩) (.inl rfl) _
    rw [← HMN.out]
    exact ⟨HSI.out.chg HI.out.s hcq (fun k hk hy => by
      have e : k = c := hy
      have := HC.out
      rcases hk with hk | hk
      · have := HZL.out k hk; omega
      · have := HSI.out.r HM.out k hk; omega), HI.out.ch.trans hcq (fun k hk => .inr (by rw [show k = c from hk, HC.out]; exact Nat.le_refl _))⟩
end Bu
end Go.Proofs.YtfpofaniicegaaaGreat

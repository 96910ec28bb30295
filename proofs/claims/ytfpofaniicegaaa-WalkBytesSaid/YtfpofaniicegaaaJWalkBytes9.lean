/- Texts of this claim, one behind the other: BuB, BuC. -/
import Derived.Test.YtfpofaniicegaaaJWalkBytes8
import Derived.StillTailTactics
/- The walks of a machine's bytes. -/
set_option linter.unusedVariables false
set_option linter.unusedSimpArgs false
namespace Go.Proofs.Ytfpofaniicegaaa
open Go.RowKit
open S64
namespace Bu
theorem Row.ne_t {w : World} {g g' : Nat} {t t' : TypeId} {cs cs' : List Value} (h : Row w g t cs) (h' : Row w g' t' cs') (ht : t ≠ t') : g ≠ g' := by
  rintro rfl
  have := h.symm.trans h'
  injection this with this
  injection this with _ this _
  exact ht this
theorem setRow_row {w : World} {g : Nat} {t : TypeId} {cs : List Value} (h : Row w g t cs) (V : List Value) : Row (w.setRow g V.toArray) g t V := setRow_heap w g _ _ t _ h
theorem setRow_far {w : World} {g g' : Nat} {t : TypeId} {cs : List Value} (h : Row w g t cs) (hn : g ≠ g') (V : Array Value) : Row (w.setRow g' V) g t cs := (setRow_other w g' g V hn).trans h
theorem ChgP.setRow {Z : Nat → Prop} {a w : World} {g : Nat} (h : ChgP Z a w) (hg : Z g ∨ a.heap.size ≤ g) (V : Array Value) : ChgP Z a (w.setRow g V) :=
  ⟨h.os, h.tape, h.output, by simpa using h.size, fun i hi hn => (setRow_other w g i V (fun e => by subst e; rcases hg with h1 | h1; exact hn h1; omega)).trans (h.block i hi hn)⟩
/-- copy into a row, the world behind it written out -/
theorem wpList_copy_at {P : Program} {w : World} {ops : Array Oper} {rest : List Oper} {o : Oper} {a : Act} {Q : Exit → Act → World → Prop} (hgd : o.guard = none) (d s : Operand) (dT sT : TypeId)
    (ho : o.op = .call { callee := .builtin .copy, args := #[d, s], argTypes := #[dT, sT] }) (elem : TypeId) (hu : P.underlying dT = some (.slice elem)) (hsz : (P.info? elem).map (·.size) = some 1)
    (g off : Nat) (ad : Addr) (dLen dCap sLen sCap : Nat) (hd : a.eval d = .slice (some ⟨g, off, none⟩) dLen dCap) (hs : a.eval s = .slice (some ad) sLen sCap)
    (cur : List Value) (t : TypeId) (hg : Row w g t cur) (cs : List Value) (hn : cs.length = Nat.min sLen dLen)
    (hsrc : ∀ j v, cs[j]? = some v → w.cell? (ad.add j) = some v) (hfit : off + cs.length ≤ cur.length) (h1 : ∀ v ∈ cs, v.oneCell' = true)
    (h : wpList P ops Q rest (a.put o.dst (goInt (Nat.min sLen dLen))) (w.setRow g (splice cur off cs).toArray)) :
    wpList P ops Q (o :: rest) a w := by
  refine wpList_plain hgd fun K hK => ?_
  have hrun := run_copy_sz (P := P) w dT sT o.type elem g off dLen dCap ad sLen sCap 1 cur.toArray t cs hu hsz hg (by rw [Nat.mul_one]; exact hn) hsrc (by simpa using hfit) h1
  unfold Oper.wp
  simp [execOp, ho, resolve, invoke, builtin, hd, hs, hrun, Result.andThen]
  simp only [splice] at h
  exact hK _ _ h
/-- d bytes are there, the rest is nought -/
def outB (mem : Nat → Nat) (at_ n d : Nat) : List Value := (List.range n).map fun i => u8 (if i < d then mem (at_ + i) else 0)
theorem outB_len (mem : Nat → Nat) (at_ n d : Nat) : (outB mem at_ n d).length = n := by rw [outB, List.length_map, List.length_range]
theorem outB_get (mem : Nat → Nat) (at_ n d i : Nat) (hi : i < n) : (outB mem at_ n d)[i]? = some (u8 (if i < d then mem (at_ + i) else 0)) := by
  rw [outB, List.getElem?_map, List.getElem?_range hi]; rfl
theorem outB_zero (mem : Nat → Nat) (at_ n : Nat) : outB mem at_ n 0 = List.replicate n (.int .u8 0) := by
  apply List.ext_getElem?
  intro i
  rw [List.getElem?_replicate]
  by_cases hi : i < n
  · rw [outB_get _ _ _ _ _ hi, if_pos hi, if_neg (by omega)]; rfl
  · rw [List.getElem?_eq_none (by rw [outB_len]; omega), if_neg hi]
theorem page_split (at_ d j : Nat) : at_ + (d + j) = 4096 * ((at_ + d) / 4096) + ((at_ + d) % 4096 + j) := by omega
/-- nothing is laid there: noughts -/
theorem outB_skip (mem : Nat → Nat) (at_ n d : Nat) (hz : ∀ i, i < 4096 → mem (4096 * ((at_ + d) / 4096) + i) = 0) (hd : d < n) : outB mem at_ n (d + eachK at_ n d) = outB mem at_ n d := by
  have hk := eachK_pos (at_ := at_) hd
  refine List.map_congr_left fun i hi => ?_
  by_cases h1 : i < d
  · rw [if_pos h1, if_pos (by omega)]
  · rw [if_neg h1]
    by_cases h2 : i < d + eachK at_ n d
    · rw [if_pos h2]
      obtain ⟨j, rfl⟩ : ∃ j, i = d + j := ⟨i - d, by omega⟩
      rw [page_split, hz _ (by omega)]
    · rw [if_neg h2]
/-- a page's bytes laid in -/
theorem outB_lay (mem : Nat → Nat) (at_ n d : Nat) (hd : d < n) : splice (outB mem at_ n d) d (((leafRow mem ((at_ + d) / 4096)).drop ((at_ + d) % 4096)).take (eachK at_ n d)) = outB mem at_ n (d + eachK at_ n d) := by
  have hk := eachK_pos (at_ := at_) hd
  have hl : (((leafRow mem ((at_ + d) / 4096)).drop ((at_ + d) % 4096)).take (eachK at_ n d)).length = eachK at_ n d := by
    rw [List.length_take, List.length_drop, leafRow_len]; omega
  apply List.ext_getElem?
  intro i
  by_cases hi : i < n
  · rw [outB_get _ _ _ _ _ hi]
    unfold splice
    by_cases h1 : i < d
    · rw [List.getElem?_append_left (by rw [List.length_take, outB_len]; omega), List.getElem?_take, if_pos h1, outB_get _ _ _ _ _ hi, if_pos h1, if_pos (by omega)]
    · obtain ⟨j, rfl⟩ : ∃ j, i = d + j := ⟨i - d, by omega⟩
      rw [List.getElem?_append_right (by rw [List.length_take, outB_len]; omega), show d + j - (List.take d (outB mem at_ n d)).length = j by rw [List.length_take, outB_len]; omega]
      by_cases h2 : j < eachK at_ n d
      · rw [List.getElem?_append_left (by omega), List.getElem?_take, if_pos h2, List.getElem?_drop, leafRow_get _ _ _ (by omega), if_pos (by omega), page_split at_ d j]
      · rw [List.getElem?_append_right (by omega), hl, List.getElem?_drop, show d + eachK at_ n d + (j - eachK at_ n d) = d + j by omega, outB_get _ _ _ _ _ hi, if_neg (by omega), if_neg (by omega)]
  · rw [List.getElem?_eq_none (by unfold splice; simp only [List.length_append, List.length_take, List.length_drop, outB_len, hl, leafRow_len]; omega), List.getElem?_eq_none (by rw [outB_len]; omega)]
theorem leafRow_one (mem : Nat → Nat) (k : Nat) : ∀ v ∈ leafRow mem k, v.oneCell' = true := by
  intro v hv
  rw [leafRow, List.mem_map] at hv
  obtain ⟨i, _, rfl⟩ := hv
  rfl
theorem size5b : (Try.prog.info? 5).map (·.size) = some 1 := by kernel_rfl
theorem sliceAt_leaf (w : World) (p f : Nat) (hf : f < 4096) : (Instr.sliceAt 148 (.pointer (some ⟨p, 0, none⟩)) (some (.int .i64 (f : Nat))) none none).run Try.prog w = .ok (.slice (some ⟨p, f, none⟩) (4096 - f) (4096 - f)) w := by
  have ht : Try.prog.underlying 148 = some (.array (Try.prog.arrayLen 148) (Try.prog.elem 148)) := by kernel_rfl
  have hl : Try.prog.arrayLen 148 = 4096 := by kernel_rfl
  have hs : (sizeOf (Try.prog.elem 148)).run Try.prog w = .ok 1 w := by kernel_rfl
  rw [run_sliceAt_array_l w _ _ ht .i64 (f : Int) (by omega) (by rw [hl]; omega), hs, hl]
  simp only [Result.andThen, slicedAt, Int.toNat_natCast]
  rw [if_neg (by omega), Nat.mul_one, Addr.add_mid, Nat.zero_add]
/-- what the closure of bytes leaves -/
structure BInv (mem : Nat → Nat) (at_ n : Nat) (g c1 c2 bb : Nat) (w : World) (d : Nat) (wx : World) : Prop where
  r1 : Row wx c1 41 [.pointer (some ⟨g, 0, none⟩)]
  r2 : Row wx c2 52 [.slice (some ⟨bb, 0, none⟩) n n]
  rb : Row wx bb 5 (outB mem at_ n d)
  bel : Below w.heap.size w wx
  le : w.heap.size ≤ bb
set_option maxRecDepth 100000 in
set_option maxHeartbeats 1000000 in
theorem bytes1_any (Z R : Nat → Prop) (M : PM) (A1 A2 Ao : Option Addr) (x1 x2 no co b : Nat) (pm : Nat → Option Nat) (sp : Sp.S) (at_ n g c1 c2 bb d : Nat) (w wx : World)
    (hm : MachAt Z R w g M A1 A2 Ao x1 x2 no co b pm sp) (hi : BInv M.mem at_ n g c1 c2 bb w d wx) (hd : d < n) (h64 : at_ + n ≤ 4503599627370496) :
    Calls Try.prog 74 #[.int .u64 (((at_ + d) / 4096 : Nat) : Int), .int .i64 (((at_ + d) % 4096 : Nat) : Int), .int .i64 (eachK at_ n d : Nat), .int .i64 (d : Nat), .pointer (some ⟨c1, 0, none⟩), .pointer (some ⟨c2, 0, none⟩)] wx
      fun e w' => e = .returned (.tuple #[]) ∧ BInv M.mem at_ n g c1 c2 bb w (d + eachK at_ n d) w' := by
  have hmx := hm.below hi.bel
  have hk := eachK_pos (at_ := at_) hd
  obtain ⟨q, hq⟩ : ∃ q, q = (at_ + d) / 4096 := ⟨_, rfl⟩
  obtain ⟨f, hf⟩ : ∃ f, f = (at_ + d) % 4096 := ⟨_, rfl⟩
  obtain ⟨k, hkk⟩ : ∃ k, k = eachK at_ n d := ⟨_, rfl⟩
  have hlk := hmx.map.look q (by unfold TOP; omega)
  have hskip := outB_skip M.mem at_ n d
  have hlay := outB_lay M.mem at_ n d hd
  rw [← hkk] at hk hskip hlay ⊢
  rw [← hf] at hk hlay ⊢
  rw [← hq] at hskip hlay ⊢
  have p0 := hi.r1.cell 0
  have p1 := hi.r2.cell 0
  have p2 := hmx.row.cell 6
  have l1 := hi.r1.lt
  have l2 := hi.r2.lt
  have lg := hmx.row.lt
  simp only [List.getElem?_cons_zero, List.getElem?_cons_succ] at p0 p1 p2
  have HK := Lib.hid hk
  have HI := Lib.hid hi
  have HMX := Lib.hid hmx
  have HSK := Lib.hid hskip
  have HLY := Lib.hid hlay
  have hkn : d + k ≤ n := hk.2.1
  have hkf : f + k ≤ 4096 := hk.2.2
  have hn : n ≤ 4503599627370496 := by omega
  clear hskip hlay hk hi hmx hm hq hf hkk
  obtain ⟨o, ho⟩ : ∃ o, o = pm q := ⟨_, rfl⟩
  rw [← ho] at hlk
  have HO := Lib.hid ho
  clear ho
  cases o with
  | none =>
    unfold ptrV at hlk
    simp only [Option.isSome_none] at hlk
    go_enter Try.func74, Try.ntmps74
    go_wp2_with fail
    go_end0
    refine ⟨rfl, ⟨HI.out.r1, HI.out.r2, ?_, HI.out.bel, HI.out.le⟩⟩
    rw [HSK.out (HMX.out.zero q HO.out.symm) hd]
    exact HI.out.rb
  | some p =>
    unfold ptrV at hlk
    simp only [Option.isSome_some] at hlk
    obtain ⟨hr, hzp, hnz⟩ := HMX.out.leaf q p HO.out.symm
    have HP := Lib.hid hr
    have lp := hr.lt
    clear hr hzp hnz
    go_enter Try.func74, Try.ntmps74
    go_upto_region 2 with fail
    obtain ⟨t, ht⟩ : ∃ t, t = d + k := ⟨_, rfl⟩
    have e1 : (d : Int) + (k : Int) = (t : Int) := by omega
    have HT := Lib.hid ht
    have t1 : d ≤ t := by omega
    have t2 : t ≤ n := by omega
    have t3 : ¬ n = d := by omega
    have f3 : f ≤ 4096 := by omega
    have f4 : ¬ 4096 = f := by have := HK.out; omega
    have e2 : IntKind.i64.wrap (t : Int) = (t : Int) := by rw [IntKind.wrap_i64]; omega
    have f5 : ¬ f = 4096 := by have := HK.out; omega
    clear ht
    have hs31 : ∀ wy : World, (Instr.sliceAt 148 (.pointer (some ⟨p, 0, none⟩)) (some (.int .i64 (f : Nat))) none none).run Try.prog wy = .ok (.slice (some ⟨p, f, none⟩) (4096 - f) (4096 - f)) wy := fun wy => sliceAt_leaf wy p f (by have := HK.out; omega)
    go_still_tail 10, (by kernel_rfl)
    change wpList _ _ _ _ _ wx.drew
    refine wpList_copy_at rfl (.tmp 27) (.tmp 31) 52 52 rfl 5 Try.underlying52 size5b bb d ⟨p, f, none⟩ (t - d) (n - d) (4096 - f) (4096 - f) rfl rfl (outB M.mem at_ n d) 5 HI.out.rb.drew (((leafRow M.mem q).drop f).take k) ?hn ?hs ?hf ?h1 ?rest
    case hn =>
      have := HK.out; have := HT.out
      rw [List.length_take, List.length_drop, leafRow_len, Nat.min_def]
      simp only [Nat.min_def]
      split <;> split <;> omega
    case hs =>
      intro j v hv
      have hj : j < k := by have := (List.getElem?_eq_some_iff.1 hv).1; rw [List.length_take] at this; omega
      rw [List.getElem?_take, if_pos hj, List.getElem?_drop] at hv
      rw [Addr.add_mid]
      exact (HP.out.drew.cell (f + j)).trans hv
    case hf =>
      have := HK.out
      rw [List.length_take, List.length_drop, leafRow_len, outB_len]
      omega
    case h1 => exact fun v hv => leafRow_one _ _ v (List.mem_of_mem_drop (List.mem_of_mem_take hv))
    rw [HLY.out]
    have hne1 : c1 ≠ bb := Row.ne_t HI.out.r1 HI.out.rb (by decide)
    have hne2 : c2 ≠ bb := Row.ne_t HI.out.r2 HI.out.rb (by decide)
    have HB : Hid (BInv M.mem at_ n g c1 c2 bb w (d + k) (wx.drew.setRow bb (outB M.mem at_ n (d + k)).toArray)) := Lib.hid ⟨setRow_far HI.out.r1.drew hne1 _, setRow_far HI.out.r2.drew hne2 _, setRow_row HI.out.rb.drew _, below_setRow HI.out.bel.drew HI.out.le _, HI.out.le⟩
    clear hne1 hne2
    generalize wx.drew.setRow bb (outB M.mem at_ n (d + k)).toArray = wz at *
    go_wp2_with fail
    go_end0
    exact ⟨rfl, HB.out⟩
set_option maxRecDepth 100000 in
set_option maxHeartbeats 1000000 in
theorem bytes_any (Z R : Nat → Prop) (M : PM) (A1 A2 Ao : Option Addr) (x1 x2 no co b : Nat) (pm : Nat → Option Nat) (sp : Sp.S) (at_ n g : Nat) (w : World)
    (hm : MachAt Z R w g M A1 A2 Ao x1 x2 no co b pm sp) (h64 : n = 0 ∨ at_ + n ≤ 4503599627370496) (hn : n ≤ 1099511627776) (ha : at_ ≤ TOP) :
    Calls Try.prog 57 #[.pointer (some ⟨g, 0, none⟩), .int .u64 (at_ : Nat), .int .i64 (n : Nat)] w
      fun e w' => ∃ bb, e = .returned (.slice (some ⟨bb, 0, none⟩) n n) ∧ w.heap.size ≤ bb ∧ Row w' bb 5 (outB M.mem at_ n n) ∧ Below w.heap.size w w' := by
  have hmk := run_make_row' (P := Try.prog) 52 5 (.int .u8 0) 1 Try.underlying52 info5 rfl .i64 .i64 n (by omega) (by omega)
  rw [madeCells_one, ← outB_zero M.mem at_ n] at hmk
  have HM := Lib.hid hm
  have H64 := Lib.hid h64
  have HA := Lib.hid ha
  obtain ⟨Z0, hZ0⟩ : ∃ Z0, Z0 = outB M.mem at_ n 0 := ⟨_, rfl⟩
  rw [← hZ0] at hmk
  have HZ0 := Lib.hid hZ0
  clear hm h64 ha hZ0
  go_enter Try.func57, Try.ntmps57
  go_upto_region 2 with fail
  have s1 : (w.alloc (.cells #[.pointer (some ⟨g, 0, none⟩)] 41)).heap.size = w.heap.size + 1 := by simp
  have s2 : ((w.alloc (.cells #[.pointer (some ⟨g, 0, none⟩)] 41)).alloc (.cells Z0.toArray 5)).heap.size = w.heap.size + 1 + 1 := by simp
  have r1 : Row (((w.alloc (.cells #[.pointer (some ⟨g, 0, none⟩)] 41)).alloc (.cells Z0.toArray 5)).alloc (.cells #[.slice (some ⟨w.heap.size + 1, 0, none⟩) n n] 52)) w.heap.size 41 [.pointer (some ⟨g, 0, none⟩)] := ((Row.new w _ [.pointer (some ⟨g, 0, none⟩)]).alloc _).alloc _
  have rb : Row (((w.alloc (.cells #[.pointer (some ⟨g, 0, none⟩)] 41)).alloc (.cells Z0.toArray 5)).alloc (.cells #[.slice (some ⟨w.heap.size + 1, 0, none⟩) n n] 52)) (w.heap.size + 1) 5 Z0 := by
    have h := Row.new (w.alloc (.cells #[.pointer (some ⟨g, 0, none⟩)] 41)) 5 Z0
    rw [s1] at h
    exact h.alloc _
  have r2 : Row (((w.alloc (.cells #[.pointer (some ⟨g, 0, none⟩)] 41)).alloc (.cells Z0.toArray 5)).alloc (.cells #[.slice (some ⟨w.heap.size + 1, 0, none⟩) n n] 52)) (w.heap.size + 1 + 1) 52 [.slice (some ⟨w.heap.size + 1, 0, none⟩) n n] := by
    have h := Row.new ((w.alloc (.cells #[.pointer (some ⟨g, 0, none⟩)] 41)).alloc (.cells Z0.toArray 5)) 52 [.slice (some ⟨w.heap.size + 1, 0, none⟩) n n]
    rw [s2] at h
    exact h
  have hb : Below w.heap.size w (((w.alloc (.cells #[.pointer (some ⟨g, 0, none⟩)] 41)).alloc (.cells Z0.toArray 5)).alloc (.cells #[.slice (some ⟨w.heap.size + 1, 0, none⟩) n n] 52)) := (((Below.refl _ _).alloc (Nat.le_refl _) _).alloc (by simp) _).alloc (by simp; omega) _
  generalize ((w.alloc (.cells #[.pointer (some ⟨g, 0, none⟩)] 41)).alloc (.cells Z0.toArray 5)).alloc (.cells #[.slice (some ⟨w.heap.size + 1, 0, none⟩) n n] 52) = w1 at *
  rw [HZ0.out] at rb
  have HI : Hid (BInv M.mem at_ n g w.heap.size (w.heap.size + 1 + 1) (w.heap.size + 1) w 0 w1) := Lib.hid ⟨r1, r2, rb, hb, Nat.le_succ _⟩
  clear s1 s2 r1 rb r2 hb
  go_upto_region 3 with (go_at_call 70; refine (each_bytes w.heap.size (w.heap.size + 1 + 1) at_ n (BInv M.mem at_ n g w.heap.size (w.heap.size + 1 + 1) (w.heap.size + 1) w) w1 H64.out HA.out HI.out (fun d wx hi hd => bytes1_any Z R M A1 A2 Ao x1 x2 no co b pm sp at_ n g _ _ _ d w wx HM.out hi hd (by rcases H64.out with h | h <;> omega))).mono ?_; rintro e w2 ⟨rfl, hi2⟩; have HJ := Lib.hid hi2; clear hi2)
  have p1 := HJ.out.r2.cell 0
  have l2 := HJ.out.r2.lt
  simp only [List.getElem?_cons_zero] at p1
  go_wp2_with fail
  go_ret
  exact ⟨_, rfl, HJ.out.le, HJ.out.rb, HJ.out.bel⟩
end Bu
end Go.Proofs.Ytfpofaniicegaaa

/- The walk of a machine's access. -/
set_option linter.unusedVariables false
set_option linter.unusedSimpArgs false
namespace Go.Proofs.Ytfpofaniicegaaa
open Go.RowKit
open S64
namespace Bu
/-- the first of n bytes that is off the bus -/
def offAt (sp : Sp.S) (at_ n : Nat) : Option Nat := if (Sp.next sp at_).2 = true ∧ 0 < n ∧ (Sp.next sp at_).1 < at_ + n then some (Sp.next sp at_).1 else none
def faultV (f : Option Nat) : Value := match f with
  | none => .agg #[.int .i64 0, .int .u64 0]
  | some p => .agg #[.int .i64 30, .int .u64 (p : Nat)]
def stray (M : PM) (f : Option Nat) : PM := match f with
  | none => M
  | some _ => { M with strays := cInc M.strays }
theorem offAt_none {Z R : Nat → Prop} {w : World} {g : Nat} {M : PM} {A1 A2 Ao : Option Addr} {c1 c2 no co b : Nat} {pm : Nat → Option Nat} {sp : Sp.S} (h : MachAt Z R w g M A1 A2 Ao c1 c2 no co b pm sp) {at_ n : Nat} (ha : at_ ≤ TOP) (hf : offAt sp at_ n = none) : n = 0 ∨ at_ + n ≤ 4294967296 := by
  rcases Nat.eq_zero_or_pos n with h0 | h0
  · exact .inl h0
  refine .inr ?_
  rcases Nat.lt_or_ge 4294967296 (at_ + n) with hc | hc
  · exfalso
    -- a byte at or behind 2^32 is off the bus
    obtain ⟨p, hp1, hp2, hp3, hp4⟩ : ∃ p, at_ ≤ p ∧ p < at_ + n ∧ p ≤ TOP ∧ 4294967296 ≤ p := by
      rcases Nat.lt_or_ge at_ 4294967296 with h1 | h1
      · exact ⟨4294967296, by omega, by omega, by unfold TOP; omega, Nat.le_refl _⟩
      · exact ⟨at_, Nat.le_refl _, by omega, ha, h1⟩
    have hon : Sp.has sp p = true := by
      rw [h.has p hp3]
      cases ho : on (M.rams ++ M.devs) p with
      | false => rfl
      | true => have := h.lim p ho; omega
    unfold offAt at hf
    cases hx : Sp.next sp at_ with
    | mk m o =>
      rw [hx] at hf
      cases o with
      | false =>
        have := (Sp.next_none h.nrm.1 (show (Sp.next sp at_).2 = false by rw [hx])).2 p hp1
        rw [this] at hon; cases hon
      | true =>
        obtain ⟨g1, g2, g3⟩ := Sp.next_some h.nrm.1 hx
        have hm : m ≤ p := by
          rcases Nat.lt_or_ge p m with h4 | h4
          · have := g3 p hp1 h4; rw [this] at hon; cases hon
          · exact h4
        rw [if_pos ⟨rfl, h0, by simp only; omega⟩] at hf
        cases hf
  · exact hc
theorem has_top {s : Sp.S} (h : Sp.Nrm TOP s) {p : Nat} (hp : Sp.has s p = true) : p ≤ TOP := by
  obtain ⟨x, hx, h1, h2⟩ := Sp.has_iff.1 hp
  have := h.ok x hx
  omega
/-- a counter of the machine turned -/
theorem MachAt.count {Z R : Nat → Prop} {w : World} {g : Nat} {M : PM} {A1 A2 Ao : Option Addr} {c1 c2 no co b : Nat} {pm : Nat → Option Nat} {sp : Sp.S} (h : MachAt Z R w g M A1 A2 Ao c1 c2 no co b pm sp) (i : Nat) (v : Value) (M' : PM) (hr : M'.rams = M.rams) (hd : M'.devs = M.devs) (hm : M'.mem = M.mem)
    (hv : [.int .i64 M.loads, .int .i64 M.stores, .int .i64 M.strays, .slice A1 M.rams.length c1, .slice A2 M.devs.length c2, .slice Ao no co, .map (some b)].set i v = [.int .i64 M'.loads, .int .i64 M'.stores, .int .i64 M'.strays, .slice A1 M.rams.length c1, .slice A2 M.devs.length c2, .slice Ao no co, .map (some b)]) :
    MachAt Z R (w.setCell ⟨g, i, none⟩ v) g M' A1 A2 Ao c1 c2 no co b pm sp := by
  have hrow := h.row.set_ i v
  rw [hv] at hrow
  have hc : ChgP (fun k => k = g) w (w.setCell ⟨g, i, none⟩ v) := (ChgP.refl (fun k => k = g) w).set_ (p := ⟨g, i, none⟩) (.inl rfl) v
  have hR : ∀ k, R k → ¬ k = g := fun k hk e => h.dis g h.zg (e ▸ hk)
  have hl1 := h.l1.chg hc hR
  have hl2 := h.l2.chg hc hR
  have hlo := h.lo.chg hc hR
  have hbg : b ≠ g := by
    rintro rfl
    obtain ⟨⟨D, n, ⟨es, clock, hb, _⟩, _⟩, _⟩ := h.map
    have := h.row.symm.trans hb
    cases this
  refine ⟨by rw [hr, hd]; exact hrow, h.zg, h.zb, by rw [hr]; exact hl1, by rw [hd]; exact hl2, hlo, h.nrm, by rw [hr, hd]; exact h.has, by rw [hr, hd]; exact h.lim, h.map.same (hc.block b h.map.lt hbg), fun k p hp => ?_, h.inj, by rw [hm]; exact h.zero, by rw [hm]; exact h.byte, h.dis⟩
  obtain ⟨h1, h2, h3⟩ := h.leaf k p hp
  rw [hm]
  exact ⟨hc.row h1 (Row.ne_t h1 h.row (by decide)), h2, h3⟩
/-- what it owns is there now -/
theorem MachAt.tight {Z R : Nat → Prop} {w : World} {g : Nat} {M : PM} {A1 A2 Ao : Option Addr} {c1 c2 no co b : Nat} {pm : Nat → Option Nat} {sp : Sp.S} (h : MachAt Z R w g M A1 A2 Ao c1 c2 no co b pm sp) :
    MachAt (fun k => Z k ∧ k < w.heap.size) (fun k => R k ∧ k < w.heap.size) w g M A1 A2 Ao c1 c2 no co b pm sp :=
  ⟨h.row, ⟨h.zg, h.row.lt⟩, ⟨h.zb, h.map.lt⟩, ⟨h.l1.1, h.l1.2.1, h.l1.2.2.1, fun ad e h0 => ⟨h.l1.2.2.2 ad e h0, IsS.lt h.l1.1 h0 ad e⟩⟩, ⟨h.l2.1, h.l2.2.1, h.l2.2.2.1, fun ad e h0 => ⟨h.l2.2.2.2 ad e h0, IsS.lt h.l2.1 h0 ad e⟩⟩, ⟨h.lo.1, h.lo.2.1, h.lo.2.2.1, fun ad e h0 => ⟨h.lo.2.2.2 ad e h0, IsS.lt h.lo.1 h0 ad e⟩⟩,
    h.nrm, h.has, h.lim, h.map, fun k p hp => by
      obtain ⟨h1, h2, h3⟩ := h.leaf k p hp
      exact ⟨h1, ⟨h2, h1.lt⟩, h3⟩, h.inj, h.zero, h.byte, fun k hk hr => h.dis k hk.1 hr.1⟩
/-- it stands while new blocks are made, and those that were new are written -/
theorem MachAt.past {Z R : Nat → Prop} {w' w'' : World} {g : Nat} {M : PM} {A1 A2 Ao : Option Addr} {c1 c2 no co b : Nat} {pm : Nat → Option Nat} {sp : Sp.S} {N : Nat} (h : MachAt (fun k => Z k ∧ k < N) (fun k => R k ∧ k < N) w' g M A1 A2 Ao c1 c2 no co b pm sp) (hc : ChgP (fun k => N ≤ k) w' w'') (hd : ∀ k, Z k → ¬ R k) :
    MachAt Z R w'' g M A1 A2 Ao c1 c2 no co b pm sp :=
  (h.chg hc (fun k hk hy => by rcases hk with hk | hk <;> have := hk.2 <;> omega)).mono (fun k hk => hk.1) (fun k hk => hk.1) hd
set_option maxRecDepth 100000 in
set_option maxHeartbeats 1000000 in
theorem access_any (Z R : Nat → Prop) (M : PM) (A1 A2 Ao : Option Addr) (x1 x2 no co b : Nat) (pm : Nat → Option Nat) (sp : Sp.S) (at_ n g : Nat) (w : World)
    (hm : MachAt Z R w g M A1 A2 Ao x1 x2 no co b pm sp) (hn : n ≤ 9223372036854775807) (ha : at_ ≤ TOP) (hs : True) :
    Calls Try.prog 51 #[.pointer (some ⟨g, 0, none⟩), .int .u64 (at_ : Nat), .int .i64 (n : Nat)] w
      fun e w' => e = .returned (faultV (offAt sp at_ n)) ∧ MachAt Z R w' g (stray M (offAt sp at_ n)) A1 A2 Ao x1 x2 no co b pm sp ∧ ChgP Z w w' := by
  have HNX : Hid (∀ wx, Below w.heap.size w wx → Calls Try.prog 69 #[.agg #[.slice Ao no co], .int .u64 (at_ : Nat)] wx fun e w' => e = .returned (.tuple #[.int .u64 ((Sp.next sp at_).1 : Nat), .bool (Sp.next sp at_).2]) ∧ Below wx.heap.size wx w') := Lib.hid fun wx hb => next_any Ao no co at_ sp wx ((hm.lo.isSet hm.nrm).below hb) ha
  have HM := Lib.hid hm
  have HA := Lib.hid ha
  have HOF : Hid (offAt sp at_ n = if (Sp.next sp at_).2 = true ∧ 0 < n ∧ (Sp.next sp at_).1 < at_ + n then some (Sp.next sp at_).1 else none) := Lib.hid rfl
  have HNS : Hid ((Sp.next sp at_).2 = true → at_ ≤ (Sp.next sp at_).1 ∧ (Sp.next sp at_).1 ≤ TOP) := Lib.hid (by
    intro h
    cases hx : Sp.next sp at_ with
    | mk m o =>
      rw [hx] at h
      simp only at h
      subst h
      obtain ⟨h1, h2, h3⟩ := Sp.next_some hm.nrm.1 hx
      exact ⟨h1, has_top hm.nrm.1 h2⟩)
  obtain ⟨F, hF⟩ : ∃ F, F = offAt sp at_ n := ⟨_, rfl⟩
  rw [← hF] at HOF ⊢
  clear hF
  obtain ⟨P, hP⟩ : ∃ P, P = Sp.next sp at_ := ⟨_, rfl⟩
  rw [← hP] at HNX HOF HNS
  clear hP
  obtain ⟨m, ok⟩ := P
  simp only at HNX HOF HNS
  clear hm ha
  go_enter Try.func51, Try.ntmps51
  go_upto_region 1 with fail
  have r0 : Row (w.alloc (.cells #[.int .i64 0, .int .u64 0] 48)) w.heap.size 48 [.int .i64 0, .int .u64 0] := Row.new w _ [.int .i64 0, .int .u64 0]
  have hb0 : Below w.heap.size w (w.alloc (.cells #[.int .i64 0, .int .u64 0] 48)) := (Below.refl _ _).alloc (Nat.le_refl _) _
  generalize w.alloc (.cells #[.int .i64 0, .int .u64 0] 48) = w1 at *
  have HM1 : Hid (MachAt Z R w1 g M A1 A2 Ao x1 x2 no co b pm sp) := Lib.hid (HM.out.below hb0)
  have p5 := HM1.out.row.cell 5
  have lg := HM1.out.row.lt
  simp only [List.getElem?_cons_zero, List.getElem?_cons_succ] at p5
  have HB0 := Lib.hid hb0; have HR0 := Lib.hid r0
  clear hb0 r0
  go_upto_region 2 with (go_at_call 69; refine (HNX.out w1 HB0.out).mono ?_; rintro e w2 ⟨rfl, hb2⟩; have HB2 := Lib.hid hb2; clear hb2)
  have hr2 := HR0.out.below HB2.out HR0.out.lt
  have f0 := hr2.cell 0
  have f1 := hr2.cell 1
  have fz0 := hr2.frozen 0
  have fz1 := hr2.frozen 1
  have lf := hr2.lt
  simp only [List.getElem?_cons_zero, List.getElem?_cons_succ] at f0 f1
  have HR2 := Lib.hid hr2
  have HM2 : Hid (MachAt Z R w2 g M A1 A2 Ao x1 x2 no co b pm sp) := Lib.hid (HM1.out.below HB2.out)
  have HBW : Hid (Below w.heap.size w w2) := Lib.hid (HB0.out.trans (HB2.out.mono HB0.out.size))
  have HT2 : Hid (MachAt (fun k => Z k ∧ k < w.heap.size) (fun k => R k ∧ k < w.heap.size) w2 g M A1 A2 Ao x1 x2 no co b pm sp) := Lib.hid (HM.out.tight.below HBW.out)
  have lg2 := HM2.out.row.lt
  have g2 := HM2.out.row.cell 2
  have gz2 := HM2.out.row.frozen 2
  simp only [List.getElem?_cons_zero, List.getElem?_cons_succ] at g2
  clear hr2 p5 lg HNX
  cases ok with
  | false =>
    have HX : Hid (F = none) := Lib.hid (by rw [HOF.out]; rfl)
    go_wp2_with fail
    have hbz : Below w.heap.size w ((w2.setCell ⟨w.heap.size, 0, none⟩ (.int .i64 0)).setCell ⟨w.heap.size, 1, none⟩ (.int .u64 0)) := (HBW.out.setCell (p := ⟨w.heap.size, 0, none⟩) (Nat.le_refl _) _).setCell (p := ⟨w.heap.size, 1, none⟩) (Nat.le_refl _) _
    have hrz := (HR2.out.set_ 0 (.int .i64 0)).set_ 1 (.int .u64 0)
    have z0 := hrz.cell 0
    have z1 := hrz.cell 1
    simp only [List.set_cons_zero, List.set_cons_succ, List.getElem?_cons_zero, List.getElem?_cons_succ] at z0 z1
    refine bodyPost_ret (v := .agg #[.int .i64 0, .int .u64 0]) (by simp [results, Try.results51, go_sem, z0, z1]) rfl ⟨by rw [HX.out]; rfl, by rw [HX.out]; exact HM.out.below hbz, ChgP.of_below hbz⟩
  | true =>
    by_cases hn0 : 0 < n
    · have h1 := (HNS.out rfl).1
      have h2 : m ≤ 18446744073709551615 := (HNS.out rfl).2
      by_cases hlt : m - at_ < n
      · have HX : Hid (F = some m) := Lib.hid (by rw [HOF.out, if_pos ⟨rfl, hn0, by omega⟩])
        have h3 : (m : Int) - (at_ : Int) < (n : Int) := by omega
        obtain ⟨yy, hyy⟩ : ∃ yy, yy = cInc M.strays := ⟨_, rfl⟩
        have hw1 : IntKind.i64.wrap (M.strays + 1) = yy := by rw [hyy]; rfl
        have hw2 : wrap64 (M.strays + 1) = yy := by rw [hyy]; unfold cInc wrap64; exact (IntKind.wrap_i64 _).symm
        have HYY := Lib.hid hyy
        clear hyy
        go_upto_region 4 with fail
        have HM3 : Hid (MachAt (fun k => Z k ∧ k < w.heap.size) (fun k => R k ∧ k < w.heap.size) (w2.setCell ⟨g, 2, none⟩ (.int .i64 yy)) g { M with strays := cInc M.strays } A1 A2 Ao x1 x2 no co b pm sp) := Lib.hid (HT2.out.count 2 _ _ rfl rfl rfl (by rw [HYY.out]; simp))
        have hne : w.heap.size ≠ g := Row.ne_t HR2.out HM2.out.row (by decide)
        have HR3 : Hid (Row (w2.setCell ⟨g, 2, none⟩ (.int .i64 yy)) w.heap.size 48 [.int .i64 0, .int .u64 0]) := Lib.hid (HR2.out.far (p := ⟨g, 2, none⟩) hne _)
        have HC3 : Hid (ChgP Z w (w2.setCell ⟨g, 2, none⟩ (.int .i64 yy))) := Lib.hid ((ChgP.of_below HBW.out).set_ (p := ⟨g, 2, none⟩) (.inl HM.out.zg) _)
        clear f0 f1 fz0 fz1 lf g2 gz2 lg2 hne hw1 hw2
        generalize w2.setCell ⟨g, 2, none⟩ (.int .i64 yy) = w3 at *
        have f0 := HR3.out.cell 0
        have f1 := HR3.out.cell 1
        have fz0 := HR3.out.frozen 0
        have fz1 := HR3.out.frozen 1
        have lf := HR3.out.lt
        simp only [List.getElem?_cons_zero, List.getElem?_cons_succ] at f0 f1
        go_wp2_with fail
        have hcz : ChgP Z w ((w3.setCell ⟨w.heap.size, 0, none⟩ (.int .i64 30)).setCell ⟨w.heap.size, 1, none⟩ (.int .u64 (m : Nat))) := (HC3.out.set_ (p := ⟨w.heap.size, 0, none⟩) (.inr (Nat.le_refl _)) _).set_ (p := ⟨w.heap.size, 1, none⟩) (.inr (Nat.le_refl _)) _
        have hq : ChgP (fun k => w.heap.size ≤ k) w3 ((w3.setCell ⟨w.heap.size, 0, none⟩ (.int .i64 30)).setCell ⟨w.heap.size, 1, none⟩ (.int .u64 (m : Nat))) := ((ChgP.refl (fun k => w.heap.size ≤ k) w3).set_ (p := ⟨w.heap.size, 0, none⟩) (.inl (Nat.le_refl _)) _).set_ (p := ⟨w.heap.size, 1, none⟩) (.inl (Nat.le_refl _)) _
        have hrz := (HR3.out.set_ 0 (.int .i64 30)).set_ 1 (.int .u64 (m : Nat))
        have z0 := hrz.cell 0
        have z1 := hrz.cell 1
        simp only [List.set_cons_zero, List.set_cons_succ, List.getElem?_cons_zero, List.getElem?_cons_succ] at z0 z1
        refine bodyPost_ret (v := .agg #[.int .i64 30, .int .u64 (m : Nat)]) (by simp [results, Try.results51, go_sem, z0, z1]) rfl ⟨by rw [HX.out]; rfl, by rw [HX.out]; exact HM3.out.past hq HM.out.dis, hcz⟩
      · have HX : Hid (F = none) := Lib.hid (by rw [HOF.out, if_neg (by simp only [true_and]; omega)])
        have h3 : (n : Int) ≤ (m : Int) - (at_ : Int) := by omega
        go_wp2_with fail
        have hbz : Below w.heap.size w ((w2.setCell ⟨w.heap.size, 0, none⟩ (.int .i64 0)).setCell ⟨w.heap.size, 1, none⟩ (.int .u64 0)) := (HBW.out.setCell (p := ⟨w.heap.size, 0, none⟩) (Nat.le_refl _) _).setCell (p := ⟨w.heap.size, 1, none⟩) (Nat.le_refl _) _
        have hrz := (HR2.out.set_ 0 (.int .i64 0)).set_ 1 (.int .u64 0)
        have z0 := hrz.cell 0
        have z1 := hrz.cell 1
        simp only [List.set_cons_zero, List.set_cons_succ, List.getElem?_cons_zero, List.getElem?_cons_succ] at z0 z1
        refine bodyPost_ret (v := .agg #[.int .i64 0, .int .u64 0]) (by simp [results, Try.results51, go_sem, z0, z1]) rfl ⟨by rw [HX.out]; rfl, by rw [HX.out]; exact HM.out.below hbz, ChgP.of_below hbz⟩
    · have HX : Hid (F = none) := Lib.hid (by rw [HOF.out, if_neg (by simp only [true_and]; omega)])
      go_wp2_with fail
      have hbz : Below w.heap.size w ((w2.setCell ⟨w.heap.size, 0, none⟩ (.int .i64 0)).setCell ⟨w.heap.size, 1, none⟩ (.int .u64 0)) := (HBW.out.setCell (p := ⟨w.heap.size, 0, none⟩) (Nat.le_refl _) _).setCell (p := ⟨w.heap.size, 1, none⟩) (Nat.le_refl _) _
      have hrz := (HR2.out.set_ 0 (.int .i64 0)).set_ 1 (.int .u64 0)
      have z0 := hrz.cell 0
      have z1 := hrz.cell 1
      simp only [List.set_cons_zero, List.set_cons_succ, List.getElem?_cons_zero, List.getElem?_cons_succ] at z0 z1
      refine bodyPost_ret (v := .agg #[.int .i64 0, .int .u64 0]) (by simp [results, Try.results51, go_sem, z0, z1]) rfl ⟨by rw [HX.out]; rfl, by rw [HX.out]; exact HM.out.below hbz, ChgP.of_below hbz⟩
end Bu
end Go.Proofs.Ytfpofaniicegaaa

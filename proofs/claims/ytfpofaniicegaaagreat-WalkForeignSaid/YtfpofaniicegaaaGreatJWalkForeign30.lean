/- Texts of this claim, one behind the other: RlB. -/
import Derived.Test.YtfpofaniicegaaaGreatJWalkForeign28
import Derived.Test.YtfpofaniicegaaaGreatJWalkForeign2
import Derived.Test.YtfpofaniicegaaaGreatJWalkForeign27
import Derived.Test.YtfpofaniicegaaaGreatJWalkForeign29
import Derived.Deep.RegionLaw
import Derived.Deep.RegionHeld3
import Derived.Deep.RegionLawGrows
import Derived.Deep.QuietTactic
import Derived.Deep.Cut
/- The walk of what the document's Leaves does under a table. -/
set_option linter.unusedVariables false
set_option linter.unusedSimpArgs false
namespace Go.Proofs.YtfpofaniicegaaaGreat
open Go.RowKit
open S64
theorem stepT_sl {P : Program} (w : World) {ops : Array Oper} {o : Oper} {a : Act} {K : Act → World → Prop} {Q : Exit → Act → World → Prop} {E : Prop} (hgd : o.guard = none) (s x : Operand) (t : TypeId)
    (ho : o.op = .call { callee := .builtin .append, args := #[s, x], argTypes := #[t, t] })
    (base : Nat) (e : TypeId) (i : TypeInfo) (z : Value) (size bytes : Nat) (ht : P.underlying t = some (.slice e)) (hi : P.info? e = some i) (hz : i.zero = some z)
    (hsize : i.size = size) (hby : i.bytes = bytes) (hzs : z.cells.size = size) (hsz : 0 < size)
    (v : Value) (n : Nat) (xs : List Value) (hs : a.eval s = v) (hown : w.ownsRow base e size v n xs)
    (B : Nat) (A : Option Addr) (m c : Nat) (news : List Value) (hx : a.eval x = .slice A m c) (hr : Reads w B size A m news) (h1 : ∀ u ∈ news, u.oneCell' = true)
    (h63 : n + m ≤ maxLen) (hbytes : (n + m) * bytes ≤ 140737488355328) (hbase : base ≤ w.heap.size)
    (h : ∀ A' c' w', w'.ownsRow base e size (.slice A' (n + m) c') (n + m) (xs ++ news) → w.grownBy w' v.ownBlock →
      ((Value.slice A' (n + m) c').ownBlock = v.ownBlock ∨ (Value.slice A' (n + m) c').ownBlock = some w.heap.size) → K (a.put o.dst (.slice A' (n + m) c')) w') :
    if Region.wanted o (yielded ops a.tmps) = true then Oper.wp P o a w K Q else E := by
  refine step_append_any w hgd s x t ho base e i z size bytes ht hi hz hsize hby hzs hsz v n xs hs hown B A m c news hx hr h1 h63 hbytes hbase fun v' w' h2 h3 h4 => ?_
  obtain ⟨A', c', rfl, _⟩ := own_slice h2
  exact h A' c' w' h2 h3 h4

namespace Bu
/-- rows of entries laid behind gw stay -/
def KE (gw : Nat) (w0 wr : World) : Prop := ∀ k cs, gw < k → Row w0 k 97 cs → Row wr k 97 cs
theorem KE.refl (gw : Nat) (w : World) : KE gw w w := fun _ _ _ h => h
theorem KE.trans {gw : Nat} {a b c : World} (h : KE gw a b) (k : KE gw b c) : KE gw a c := fun i cs hi hr => k i cs hi (h i cs hi hr)
theorem KE.of {gw : Nat} {Y : Nat → Prop} {a b : World} (hc : ChgP Y a b) (hY : ∀ k, Y k → k ≤ gw) : KE gw a b := fun i cs hi hr => hc.row hr (fun h => by have := hY i h; omega)
theorem KE.app {gw base n size : Nat} {a b : World} {v : Value} {xs : List Value} (ho : a.ownsRow base 118 size v n xs) (hc : ChgP (fun k => v.ownBlock = some k) a b) : KE gw a b := fun i cs hi hr => hc.row hr (fun h => by
  have h : v.ownBlock = some i := h
  rcases ho.2 with ⟨hv, _⟩ | ⟨g, cap, cur, hv, _, hh, _⟩
  · rw [hv] at h; simp [Value.ownBlock] at h
  · rw [hv] at h
    have h2 : g = i := by simpa [Value.ownBlock] using h
    subst h2
    have h3 : a.heap[g]? = some (.cells cs.toArray 97) := hr
    rw [hh] at h3
    injection h3 with h3
    injection h3 with _ h3
    exact absurd h3 (by decide))
def tcell (l : Lv) : List Value := [.int .u64 (l.v : Nat), .int .u64 (l.p : Nat), .int .i64 (l.n : Nat), .bool l.b, .bool l.w, .bool l.x, .int .i64 (l.no : Nat)]
def tall (l : List Lv) : List Value := l.flatMap tcell
/-- while the document's Leaves goes -/
def US (Z : Nat → Prop) (B g : Nat) (M : PM) (gw : Nat) (told : List Lv) (left : Nat) (w0 wr : World) : Prop :=
  DM Z wr B g M ∧ (∃ A c, Row wr gw 140 [.slice A told.length c, .int .i64 (left : Nat)] ∧ wr.ownsRow (gw + 1) 118 7 (.slice A told.length c) told.length (tall told)) ∧ ChgP (fun k => Z k ∨ gw ≤ k) w0 wr ∧ KE gw w0 wr
theorem lvR_stp {M : PM} {sub : Nat → Nat → Nat → List Lv × Nat × Bool} {lv tab virt i left : Nat} (hi : i < 512) : lvR M sub lv tab virt (512 - i) left =
    if (entM M tab i lv).2 = 41 then lvR M sub lv tab virt (512 - (i + 1)) left
    else if (entM M tab i lv).2 = 0 ∧ (entM M tab i lv).1.t = true then
      (if left ≤ 1 then ([], 0, false)
       else if (sub (entM M tab i lv).1.F (virt + i * rch lv) (left - 1)).2.2 = true then
         ((sub (entM M tab i lv).1.F (virt + i * rch lv) (left - 1)).1 ++ (lvR M sub lv tab virt (512 - (i + 1)) (sub (entM M tab i lv).1.F (virt + i * rch lv) (left - 1)).2.1).1, (lvR M sub lv tab virt (512 - (i + 1)) (sub (entM M tab i lv).1.F (virt + i * rch lv) (left - 1)).2.1).2)
       else ((sub (entM M tab i lv).1.F (virt + i * rch lv) (left - 1)).1, (sub (entM M tab i lv).1.F (virt + i * rch lv) (left - 1)).2.1, false))
    else if left ≤ 1 then ([leafAt lv (virt + i * rch lv) (entM M tab i lv)], 0, false)
    else (leafAt lv (virt + i * rch lv) (entM M tab i lv) :: (lvR M sub lv tab virt (512 - (i + 1)) (left - 1)).1, (lvR M sub lv tab virt (512 - (i + 1)) (left - 1)).2) := by
  obtain ⟨d, hd⟩ : ∃ d, d = 511 - i := ⟨_, rfl⟩
  rw [show 512 - i = d + 1 by omega, show 512 - (i + 1) = d by omega]
  obtain rfl : i = 511 - d := by omega
  rfl
theorem say_nos (e lv : Nat) : (Ent.say e lv).2 = 0 ∨ (Ent.say e lv).2 = 41 ∨ (Ent.say e lv).2 = 42 := by
  unfold Ent.say
  split
  · exact .inr (.inl rfl)
  · split
    · exact .inr (.inr rfl)
    · split
      · exact .inr (.inr rfl)
      · exact .inl rfl
theorem lvR_len {M : PM} {sub : Nat → Nat → Nat → List Lv × Nat × Bool} {lv tab virt : Nat} (hs : ∀ a b l, 1 ≤ l → (sub a b l).1.length + (sub a b l).2.1 ≤ l ∧ ((sub a b l).2.2 = true → 1 ≤ (sub a b l).2.1)) : ∀ d left, 1 ≤ left → (lvR M sub lv tab virt d left).1.length + (lvR M sub lv tab virt d left).2.1 ≤ left := by
  intro d
  induction d with
  | zero => intro left h; simp [lvR]
  | succ d ih =>
    intro left h
    unfold lvR
    split
    · exact ih left h
    · split
      · split
        · simp
        · rename_i hl
          have h1 := hs (entM M tab (511 - d) lv).1.F (virt + (511 - d) * rch lv) (left - 1) (by omega)
          split
          · rename_i hg
            have h2 := ih _ (h1.2 hg)
            simp only [List.length_append]
            omega
          · simp only
            omega
      · split
        · simp; omega
        · have h2 := ih (left - 1) (by omega)
          simp only [List.length_cons]
          omega
theorem lvT_len {M : PM} : ∀ k lv tab virt left, 1 ≤ left → (lvT M k lv tab virt left).1.length + (lvT M k lv tab virt left).2.1 ≤ left := by
  intro k
  induction k with
  | zero => intro lv tab virt left h; simp [lvT]
  | succ k ih =>
    intro lv tab virt left h
    exact lvR_len (fun a b l hl => ⟨ih (lv + 1) a b l hl, (lvT_left k (lv + 1) a b l hl).2⟩) 512 left h
theorem reads_told (w : World) (l : Lv) : Reads (w.alloc (.cells (tcell l).toArray 118)) (w.alloc (.cells (tcell l).toArray 118)).heap.size 7 (some ⟨w.heap.size, 0, none⟩) 1 (tcell l) := by
  refine ⟨rfl, fun _ => ⟨_, rfl, by simp, fun j u hu => ?_⟩⟩
  have h := (Row.new w 118 (tcell l)).cell j
  unfold Addr.add
  split
  · rename_i h0; subst h0; rw [h]; exact hu
  · rw [Nat.zero_add, h]; exact hu
theorem oneCell_told (l : Lv) : ∀ u ∈ tcell l, u.oneCell' = true := by
  intro u hu
  simp only [tcell, List.mem_cons, List.not_mem_nil, or_false] at hu
  rcases hu with rfl | rfl | rfl | rfl | rfl | rfl | rfl <;> rfl
theorem infoTold : (Tryz.prog.info? 118).map (fun i => (i.zero, i.size, i.bytes)) = some (some (.agg #[.int .u64 0, .int .u64 0, .int .i64 0, .bool false, .bool false, .bool false, .int .i64 0]), 7, 40) := by kernel_rfl
theorem US.len {Z : Nat → Prop} {B g : Nat} {M : PM} {gw : Nat} {told : List Lv} {left : Nat} {w0 wr : World} (h : US Z B g M gw told left w0 wr) : gw < wr.heap.size := by
  obtain ⟨_, ⟨A, c, hr, _⟩, _⟩ := h
  exact hr.lt
theorem US.pre {Z : Nat → Prop} {B g : Nat} {M : PM} {gw : Nat} {told : List Lv} {left : Nat} {w0 w1 wr : World} (h : US Z B g M gw told left w1 wr) (hc : ChgP (fun k => Z k ∨ gw ≤ k) w0 w1 ∧ KE gw w0 w1) : US Z B g M gw told left w0 wr :=
  ⟨h.1, h.2.1, hc.1.trans h.2.2.1 (fun x hx => .inl hx), hc.2.trans h.2.2.2⟩
theorem US.chg {Z Y : Nat → Prop} {B g : Nat} {M : PM} {gw : Nat} {told : List Lv} {left : Nat} {w0 w1 w2 : World} (h : US Z B g M gw told left w0 w1) (hm : DM Z w2 B g M) (hc : ChgP Y w1 w2) (hY : ∀ k, Y k → Z k ∧ k < gw) : US Z B g M gw told left w0 w2 := by
  obtain ⟨h1, ⟨A, c, hr, ho⟩, h3, h4⟩ := h
  exact ⟨hm, ⟨A, c, hc.row hr (fun hk => by have := (hY _ hk).2; omega), owns_chgP ho hc (fun k hk hy => by have h1 := (World.ownsRow.lt ho k hk).1; have h2 := (hY _ hy).2; omega)⟩, h3.trans hc (fun x hx => .inl (.inl (hY x hx).1)), h4.trans (KE.of hc (fun k hk => Nat.le_of_lt (hY k hk).2))⟩
theorem US.below {Z : Nat → Prop} {B g : Nat} {M : PM} {gw : Nat} {told : List Lv} {left : Nat} {w0 w1 w2 : World} (h : US Z B g M gw told left w0 w1) (hb : Below w1.heap.size w1 w2) : US Z B g M gw told left w0 w2 :=
  h.chg (h.1.below hb) (ChgP.of_below (Z := fun _ => False) hb) (fun _ h => h.elim)
theorem US.left_ {Z : Nat → Prop} {B g : Nat} {M : PM} {gw : Nat} {told : List Lv} {left : Nat} {w0 w1 : World} (h : US Z B g M gw told left w0 w1) (hZ : ∀ k, Z k → k < gw) (hB : B ≤ gw) (left' : Nat) : US Z B g M gw told left' w0 (w1.setCell ⟨gw, 1, none⟩ (.int .i64 (left' : Nat))) := by
  obtain ⟨h1, ⟨A, c, hr, ho⟩, h3, h4⟩ := h
  have hc : ChgP (fun k => k = gw) w1 (w1.setCell ⟨gw, 1, none⟩ (.int .i64 (left' : Nat))) := ChgP.set_ (Z := fun k => k = gw) (ChgP.refl _ w1) (p := ⟨gw, 1, none⟩) (.inl rfl) _
  refine ⟨h1.chg hc (fun k hk hy => ?_), ⟨A, c, hr.set_ 1 _, owns_chgP ho hc (fun k hk hy => ?_)⟩, h3.trans hc (fun x hx => .inl (.inr (Nat.le_of_eq (show gw = x from Eq.symm hx)))), h4.trans (KE.of hc (fun k hk => Nat.le_of_eq hk))⟩
  · have hy : k = gw := hy
    rcases hk with hk | hk
    · have := hZ k hk; omega
    · omega
  · have hy : k = gw := hy
    have := (World.ownsRow.lt ho k hk).1
    omega
/-- what was told once more -/
theorem US.more_ {Z : Nat → Prop} {B g : Nat} {M : PM} {gw : Nat} {told : List Lv} {left : Nat} {w0 w1 : World} {l : Lv} {A : Option Addr} {c : Nat} {v : Value} (h1 : DM Z w1 B g M) (hr : Row w1 gw 140 [v, .int .i64 (left : Nat)]) (ho : w1.ownsRow (gw + 1) 118 7 (.slice A (told.length + 1) c) (told.length + 1) (tall told ++ tcell l)) (h3 : ChgP (fun k => Z k ∨ gw ≤ k) w0 w1) (h4 : KE gw w0 w1) (hZ : ∀ k, Z k → k < gw) (hB : B ≤ gw) :
    US Z B g M gw (told ++ [l]) left w0 (w1.setCell ⟨gw, 0, none⟩ (.slice A (told.length + 1) c)) := by
  have hc : ChgP (fun k => k = gw) w1 (w1.setCell ⟨gw, 0, none⟩ (.slice A (told.length + 1) c)) := ChgP.set_ (Z := fun k => k = gw) (ChgP.refl _ w1) (p := ⟨gw, 0, none⟩) (.inl rfl) _
  have e1 : (told ++ [l]).length = told.length + 1 := by simp
  have e2 : tall (told ++ [l]) = tall told ++ tcell l := by simp [tall]
  refine ⟨h1.chg hc (fun k hk hy => ?_), ⟨A, c, by rw [e1]; exact hr.set_ 0 _, ?_⟩, h3.trans hc (fun x hx => .inl (.inr (Nat.le_of_eq (show gw = x from Eq.symm hx)))), h4.trans (KE.of hc (fun k hk => Nat.le_of_eq hk))⟩
  · have hy : k = gw := hy
    rcases hk with hk | hk
    · have := hZ k hk; omega
    · omega
  · rw [e1, e2]
    exact owns_chgP ho hc (fun k hk hy => by
      have hy : k = gw := hy
      have := (World.ownsRow.lt ho k hk).1
      omega)
set_option maxRecDepth 100000 in
set_option maxHeartbeats 4000000 in
theorem under_any {Z : Nat → Prop} {B g : Nat} {M : PM} {gw : Nat} (hZ : ∀ k, Z k → k < gw) (hB : B ≤ gw) (hby : ∀ p, M.mem p < 256) : ∀ (k lv tab V left : Nat) (told : List Lv) (w : World), lv + k = 3 → lv < 3 → tab ≤ 18446744073709547520 → V + 512 * rch lv ≤ 549755813888 → 1 ≤ left → told.length + left ≤ 100000 → US Z B g M gw told left w w →
    Calls Tryz.prog 63 #[.pointer (some ⟨gw, 0, none⟩), .pointer (some ⟨g, 0, none⟩), .int .u64 (tab : Nat), .int .i64 (lv : Nat), .int .u64 (V : Nat)] w fun e w' => (∃ v, e = .returned v) ∧ US Z B g M gw (told ++ (lvT M k lv tab V left).1) (lvT M k lv tab V left).2.1 w w' := by
  intro k
  induction k with
  | zero => intro lv tab V left told w hlv hlv3; omega
  | succ k ih =>
  intro lv tab V left told w hlv hlv3 htab hV hl1 hl2 hus
  obtain ⟨r, hr⟩ : ∃ r, r = lvT M (k + 1) lv tab V left := ⟨_, rfl⟩
  rw [← hr]
  obtain ⟨sub, hsub⟩ : ∃ sub, sub = lvT M k (lv + 1) := ⟨_, rfl⟩
  have HRR : Hid (r = lvR M sub lv tab V 512 left) := Lib.hid (by rw [hr, hsub]; rfl)
  have HSUB := Lib.hid hsub
  have HIH := Lib.hid ih
  have HUS := Lib.hid hus
  have HZ := Lib.hid hZ; have HB := Lib.hid hB; have HBY := Lib.hid hby
  obtain ⟨rc, hrc⟩ : ∃ rc, rc = rch lv := ⟨_, rfl⟩
  obtain ⟨pg, hpg⟩ : ∃ pg, pg = rc / 4096 := ⟨_, rfl⟩
  have hrcB : (rc = 1073741824 ∧ lv = 0 ∧ pg = 262144) ∨ (rc = 2097152 ∧ lv = 1 ∧ pg = 512) ∨ (rc = 4096 ∧ lv = 2 ∧ pg = 1) := by
    rw [hpg, hrc]; unfold rch
    rcases (show lv = 0 ∨ lv = 1 ∨ lv = 2 by omega) with rfl | rfl | rfl <;> decide
  rw [← hrc] at hV
  have HV := Lib.hid hV
  have HRC := Lib.hid hrc; have HPG := Lib.hid hpg
  have HRB := Lib.hid hrcB
  clear hr hsub ih hus hZ hB hby hrc hpg hV
  go_enter Tryz.func63, Tryz.ntmps63
  have hcell : (w.alloc (.cells #[.int .i64 262144, .int .i64 512, .int .i64 1] 3)).cell? ⟨w.heap.size, lv, none⟩ = some (.int .i64 (pg : Nat)) := by
    have h := (Row.new w 3 [.int .i64 262144, .int .i64 512, .int .i64 1]).cell lv
    rw [show (w.alloc (.cells #[.int .i64 262144, .int .i64 512, .int .i64 1] 3)).cell? ⟨w.heap.size, lv, none⟩ = _ from h]
    rcases hrcB with ⟨_, h2, h3⟩ | ⟨_, h2, h3⟩ | ⟨_, h2, h3⟩ <;> rw [h2, h3] <;> rfl
  clear hrcB
  go_upto_region 1 with fail
  clear hcell
  have hus1 := HUS.out.below ((Below.refl _ _).alloc (Nat.le_refl _) (.cells #[.int .i64 262144, .int .i64 512, .int .i64 1] 3))
  generalize w.alloc (.cells #[.int .i64 262144, .int .i64 512, .int .i64 1] 3) = w1 at *
  have HU1 := Lib.hid hus1
  clear hus1 HUS
  obtain ⟨i0, hi0, hz1, hz2, hz3⟩ := info_parts infoTold
  have HI0 := Lib.hid hi0; have HZ1 := Lib.hid hz1; have HZ2 := Lib.hid hz2; have HZ3 := Lib.hid hz3
  clear hi0 hz1 hz2 hz3
  go_wp2_with fail
  go_loopw [11] (fun x wr => ∃ (i lf : Nat) (t1 : List Lv), i ≤ 512 ∧ x = .int .i64 (i : Nat) ∧ Hid (told.length + t1.length + lf ≤ 100000) ∧ Hid (US Z B g M gw (told ++ t1) lf w wr) ∧ Hid ((1 ≤ lf ∧ r.1 = t1 ++ (lvR M sub lv tab V (512 - i) lf).1 ∧ r.2.1 = (lvR M sub lv tab V (512 - i) lf).2.1) ∨ (lf = 0 ∧ r.1 = t1 ∧ r.2.1 = 0))) (fun x _ => 512 - (intOf x).toNat)
  case atStart => exact ⟨0, left, [], by omega, rfl, Lib.hid (by simpa using hl2), Lib.hid (by rw [List.append_nil]; exact HU1.out), Lib.hid (.inl ⟨hl1, by rw [HRR.out]; exact ⟨rfl, rfl⟩⟩)⟩
  case round =>
  clear HU1 HRR
  obtain ⟨i, lf, t1, hi, rfl, HLN, HU, HR⟩ := hrel
  obtain ⟨hdm, ⟨A, c, hrw, how⟩, hch⟩ := HU.out
  have lw1 := hrw.cell 1
  have lwl := hrw.lt
  simp only [List.getElem?_cons_zero, List.getElem?_cons_succ] at lw1
  have HDM := Lib.hid hdm; have HRW := Lib.hid hrw; have HOW := Lib.hid how; have HCH := Lib.hid hch
  clear hdm hrw how hch
  by_cases hin : i < 512 ∧ 1 ≤ lf
  · obtain ⟨hi5, hlf⟩ := hin
    have hi5' : (i : Int) < 512 := by omega
    have hlf' : (0 : Int) < (lf : Int) := by omega
    have HR' : Hid (r.1 = t1 ++ (lvR M sub lv tab V (512 - i) lf).1 ∧ r.2.1 = (lvR M sub lv tab V (512 - i) lf).2.1) := Lib.hid (by
      rcases HR.out with h | h
      · exact h.2
      · omega)
    clear HR
    have hll := HLN.out
    obtain ⟨ip, hip⟩ : ∃ ip, ip = i * pg := ⟨_, rfl⟩
    obtain ⟨ir, hir⟩ : ∃ ir, ir = i * rc := ⟨_, rfl⟩
    have hrc4 : rc = pg * 4096 := by rcases HRB.out with ⟨h1, _, h3⟩ | ⟨h1, _, h3⟩ | ⟨h1, _, h3⟩ <;> omega
    have hirp : ir = ip * 4096 := by rw [hir, hip, hrc4, Nat.mul_assoc]
    have hirB : ir + rc ≤ 512 * rc := by rw [hir]; have := Nat.mul_le_mul_right rc (show i + 1 ≤ 512 by omega); rw [Nat.add_mul, Nat.one_mul] at this; exact this
    have hvi := HV.out
    obtain ⟨at_, hat⟩ : ∃ a, a = V + ir := ⟨_, rfl⟩
    obtain ⟨a, ha⟩ : ∃ a, a = tab + 8 * i := ⟨_, rfl⟩
    have hpg : pg ≤ 262144 := by rcases HRB.out with ⟨_, _, h3⟩ | ⟨_, _, h3⟩ | ⟨_, _, h3⟩ <;> omega
    have ew1 : IntKind.u64.wrap (i : Int) = (i : Int) := by rw [IntKind.wrap_u64]; omega
    have ew2 : IntKind.u64.wrap (pg : Int) = (pg : Int) := by rw [IntKind.wrap_u64]; omega
    have ew3 : (i : Int) * (pg : Int) = (ip : Int) := by rw [hip]; simp
    have ew4 : IntKind.u64.wrap (ip : Int) = (ip : Int) := by rw [IntKind.wrap_u64]; omega
    have ew5 : (ip : Int) * 4096 = (ir : Int) := by omega
    have ew6 : IntKind.u64.wrap (ir : Int) = (ir : Int) := by rw [IntKind.wrap_u64]; omega
    have ew7 : (V : Int) + (ir : Int) = (at_ : Int) := by omega
    have ew8 : IntKind.u64.wrap (at_ : Int) = (at_ : Int) := by rw [IntKind.wrap_u64]; omega
    have ew9 : IntKind.u64.wrap (8 * (i : Int)) = 8 * (i : Int) := by rw [IntKind.wrap_u64]; omega
    have ewa : (tab : Int) + 8 * (i : Int) = (a : Int) := by omega
    have ewb : IntKind.u64.wrap (a : Int) = (a : Int) := by rw [IntKind.wrap_u64]; omega
    have HPK := Lib.hid (rpeek4_any HDM.out a (by omega))
    obtain ⟨E, hE⟩ : ∃ E, E = (rdM M a).getD 0 := ⟨_, rfl⟩
    obtain ⟨on_, hon⟩ : ∃ o, o = onE M a := ⟨_, rfl⟩
    have hE64 : E < 18446744073709551616 := by
      rw [hE]
      cases h : rdM M a with
      | none => decide
      | some e => exact (rdM_off.2 e h).2 ▸ numB_lt HBY.out _ 8
    rw [← hE, ← hon] at HPK
    have hY : entM M tab i lv = if on_ = true then Ent.say E lv else (Ent.zero, 42) := by
      unfold entM
      rw [← ha, hon, hE]
      unfold onE
      cases h : rdM M a <;> rfl
    have HY := Lib.hid hY
    have HAT := Lib.hid hat; have HIR := Lib.hid hir
    clear hip hir hirp hirB hvi hat ha hE hon hY hrc4 hpg
    go_wp2_with fail
    refine HPK.out.mono ?_
    rintro e w2 ⟨rfl, hm2, hc2⟩
    have hu2 := HU.out.chg hm2 hc2 (fun k hk => ⟨hk, HZ.out k hk⟩)
    have HU2 := Lib.hid hu2
    clear hm2 hc2 hu2 HU HDM HRW HOW HCH HPK lw1 lwl
    go_wp2_with fail
    refine (rentry_any E lv w2 hE64 hlv3).mono ?_
    rintro e w3 ⟨rfl, hb3⟩
    have HU3 := Lib.hid (HU2.out.below hb3)
    clear hb3 HU2
    obtain ⟨y, hy⟩ : ∃ y, y = Ent.say E lv := ⟨_, rfl⟩
    rw [← hy] at HY ⊢
    obtain ⟨⟨yF, yt, yb, yw, yx⟩, no⟩ := y
    have HSY := Lib.hid hy
    clear hy
    unfold eVal
    simp only
    go_upto_region 7 with fail
    have hgx := Row.new w3 97 [.int .u64 (yF : Nat), .bool yt, .bool yb, .bool yw, .bool yx]
    have hu4 := HU3.out.below ((Below.refl _ _).alloc (Nat.le_refl _) (.cells #[.int .u64 (yF : Nat), .bool yt, .bool yb, .bool yw, .bool yx] 97))
    obtain ⟨gx, hgx0⟩ : ∃ gx, gx = w3.heap.size := ⟨_, rfl⟩
    have hgg : gw < gx := by rw [hgx0]; exact HU3.out.len
    generalize w3.alloc (.cells #[.int .u64 (yF : Nat), .bool yt, .bool yb, .bool yw, .bool yx] 97) = w4 at *
    rw [← hgx0] at hgx ⊢
    have HGX := Lib.hid hgx; have HU4 := Lib.hid hu4
    clear hgx hu4 hgx0 HU3
    rw [lvR_stp hi5, ← HRC.out, ← HIR.out, ← HAT.out, HY.out] at HR'
    by_cases n41 : on_ = true ∧ no = 41
    · obtain ⟨rfl, rfl⟩ := n41
      have HR2 : Hid (r.1 = t1 ++ (lvR M sub lv tab V (512 - (i + 1)) lf).1 ∧ r.2.1 = (lvR M sub lv tab V (512 - (i + 1)) lf).2.1) := Lib.hid (by have := HR'.out; rw [if_pos rfl, if_pos rfl] at this; exact this)
      clear HR'
      go_wp2_with fail
      go_roundw
      case rel => exact ⟨i + 1, lf, t1, by omega, by go_num, HLN, HU4, Lib.hid (.inl ⟨hlf, HR2.out⟩)⟩
      case measure => simp [intOf]; omega
    obtain ⟨l1, hl1e⟩ : ∃ l1, l1 = lf - 1 := ⟨_, rfl⟩
    have ew7' : (lf : Int) - 1 = (l1 : Int) := by omega
    have HL1 := Lib.hid hl1e
    have hu5 := HU4.out.left_ HZ.out HB.out l1
    have hc5 : ChgP (fun k => k = gw) w4 (w4.setCell ⟨gw, 1, none⟩ (.int .i64 (l1 : Nat))) := ChgP.set_ (Z := fun k => k = gw) (ChgP.refl _ w4) (p := ⟨gw, 1, none⟩) (.inl rfl) _
    have hgx5 := hc5.row HGX.out (fun h => by have h : gx = gw := h; omega)
    obtain ⟨_, ⟨A4, c4, hrw4, _⟩, _⟩ := HU4.out
    have m1 := hrw4.cell 1
    have m1f := hrw4.frozen 1
    have m1l := hrw4.lt
    simp only [List.getElem?_cons_zero, List.getElem?_cons_succ] at m1
    clear hrw4 hc5 hl1e
    have stp : on_ = false ∨ on_ = true ∧ no ≠ 41 := by
      cases on_ with
      | false => exact .inl rfl
      | true => exact .inr ⟨rfl, fun h => n41 ⟨rfl, h⟩⟩
    have f41 : on_ = true → ((no : Int) == 41) = false := fun h => by
      have := stp.resolve_left (by rw [h]; decide)
      simp
      omega
    rcases stp with rfl | ⟨rfl, hn41⟩
    · clear f41 n41
      have HR2 : Hid ((1 ≤ l1 ∧ r.1 = (t1 ++ [⟨at_, 0, pg, false, false, false, 42⟩]) ++ (lvR M sub lv tab V (512 - (i + 1)) l1).1 ∧ r.2.1 = (lvR M sub lv tab V (512 - (i + 1)) l1).2.1) ∨ (l1 = 0 ∧ r.1 = t1 ++ [⟨at_, 0, pg, false, false, false, 42⟩] ∧ r.2.1 = 0)) := Lib.hid (by
        have h := HR'.out
        rw [if_neg (show ¬ (false = true) by decide)] at h
        rw [if_neg (by decide), if_neg (by simp)] at h
        have hx : leafAt lv at_ (Ent.zero, 42) = ⟨at_, 0, pg, false, false, false, 42⟩ := by
          unfold leafAt
          rw [if_neg (by decide), ← HRC.out, ← HPG.out]
        rw [hx] at h
        by_cases q : lf ≤ 1
        · rw [if_pos q] at h
          exact .inr ⟨by have := HL1.out; omega, h.1, h.2⟩
        · rw [if_neg q, ← HL1.out] at h
          exact .inl ⟨by have := HL1.out; omega, by rw [h.1]; simp, h.2⟩)
      clear HR'
      go_upto_region 9 with fail
      generalize w4.setCell ⟨gw, 1, none⟩ (.int .i64 (l1 : Nat)) = w5 at *
      have HU5 := Lib.hid hu5; have HGX5 := Lib.hid hgx5
      clear hu5 hgx5 m1 m1f m1l HU4 HGX
      go_upto_region 10 with fail
      obtain ⟨hdm5, ⟨A5, c5, hrw5, how5⟩, hch5⟩ := HU5.out
      obtain ⟨kk, hkk⟩ : ∃ kk, kk = (told ++ t1).length := ⟨_, rfl⟩
      have hkB : kk ≤ 100000 := by rw [hkk, List.length_append]; omega
      rw [← hkk] at hrw5 how5
      have HKK := Lib.hid hkk
      have n0 := hrw5.cell 0
      have nf := hrw5.frozen 0
      have nl := hrw5.lt
      simp only [List.getElem?_cons_zero, List.getElem?_cons_succ] at n0
      have HH5 := Lib.hid (And.intro hdm5 (And.intro hrw5 (And.intro how5 hch5)))
      clear hdm5 hrw5 how5 hch5 hkk

      go_wp2_with (at_builtin; refine (?_ : _ ∧ True).1)
      refine ⟨?_, trivial⟩
      refine wpList_append_sl _ (by rfl) (.tmp 79) (.tmp 84) 109 rfl (gw + 1) 118 i0 _ 7 40 Tryz.underlying109 HI0.out HZ1.out HZ2.out HZ3.out rfl (by omega) (.slice A5 kk c5) kk (tall (told ++ t1)) rfl (owns_chgP HH5.out.2.2.1 ((ChgP.refl (fun _ => False) w5).alloc _) (fun _ _ h => h)) _ (some ⟨w5.heap.size, 0, none⟩) 1 1 (tcell ⟨at_, 0, pg, false, false, false, 42⟩) rfl (reads_told w5 ⟨at_, 0, pg, false, false, false, 42⟩) (oneCell_told _) (by unfold maxLen; omega) (by omega) (by simp; omega) ?_
      intro A6 c6 w6 hown6 _ hg6 _
      have hc6 : ChgP (fun k => gw + 1 ≤ k) w5 w6 := ((ChgP.refl (fun k => gw + 1 ≤ k) w5).alloc _).grown hg6 (fun k hk => .inl (World.ownsRow.lt HH5.out.2.2.1 k hk).1)
      have hke : KE gw w5 w6 := KE.app HH5.out.2.2.1 (((ChgP.refl (fun k => (Value.slice A5 kk c5).ownBlock = some k) w5).alloc _).grown hg6 (fun k hk => .inl hk))

      have hrw6 := hc6.row HH5.out.2.1 (fun h => Nat.lt_irrefl _ h)
      have k0 := hrw6.cell 0
      have kf := hrw6.frozen 0
      have kl := hrw6.lt
      simp only [List.getElem?_cons_zero, List.getElem?_cons_succ] at k0
      have hdm6 : DM Z w6 B g M := HH5.out.1.chg hc6 (fun k hk hy => by
        have hy : gw + 1 ≤ k := hy
        have hb := HB.out
        rcases hk with hk | hk
        · have := HZ.out k hk; omega
        · omega)
      have hu6 : US Z B g M gw ((told ++ t1) ++ [⟨at_, 0, pg, false, false, false, 42⟩]) l1 w (w6.setCell ⟨gw, 0, none⟩ (.slice A6 (kk + 1) c6)) := by
        have h := US.more_ (told := told ++ t1) (l := ⟨at_, 0, pg, false, false, false, 42⟩) (left := l1) hdm6 (by exact hrw6) (A := A6) (c := c6) (by rw [← HKK.out]; exact hown6) (HH5.out.2.2.2.1.trans hc6 (fun x hx => .inl (.inr (by have hx : gw + 1 ≤ x := hx; omega)))) (HH5.out.2.2.2.2.trans hke) HZ.out HB.out
        rw [← HKK.out] at h
        exact h
      have HU6 := Lib.hid hu6
      clear hu6 hdm6 hrw6 hc6 hown6 hg6 n0 nf nl
      go_wp2_with fail
      go_roundw
      case rel => exact ⟨i + 1, l1, t1 ++ [⟨at_, 0, pg, false, false, false, 42⟩], by omega, by go_num, Lib.hid (by have := HL1.out; simp; omega), Lib.hid (by rw [← List.append_assoc]; exact HU6.out), HR2⟩
      case measure => simp [intOf]; omega
    · have f41' := f41 rfl
      clear f41 n41
      rw [if_pos rfl] at HR' HY
      by_cases n0' : no = 0
      · subst n0'
        cases yt with
        | true =>
          rw [if_neg (by simp), if_pos (by simp)] at HR'
          have ht := entM_t HY.out
          simp only at ht
          have hlv2 : lv < 2 := ht.1 trivial
          have HTT := Lib.hid ht
          clear ht
          go_upto_region 9 with fail
          generalize w4.setCell ⟨gw, 1, none⟩ (.int .i64 (l1 : Nat)) = w5 at *
          have HU5 := Lib.hid hu5; have HGX5 := Lib.hid hgx5
          clear hu5 hgx5 m1 m1f m1l HU4 HGX
          have gq := HGX5.out.cell 1
          have gq0 := HGX5.out.cell 0
          have gql := HGX5.out.lt
          obtain ⟨_, ⟨A5, c5, hrw5, _⟩, _⟩ := HU5.out
          have n1 := hrw5.cell 1
          have nl := hrw5.lt
          simp only [List.getElem?_cons_zero, List.getElem?_cons_succ] at gq gq0 n1
          clear hrw5
          by_cases q : l1 = 0
          · have ql : ¬ (0 : Int) < (l1 : Int) := by omega
            have HR2 : Hid ((1 ≤ l1 ∧ r.1 = t1 ++ (lvR M sub lv tab V (512 - (i + 1)) l1).1 ∧ r.2.1 = (lvR M sub lv tab V (512 - (i + 1)) l1).2.1) ∨ (l1 = 0 ∧ r.1 = t1 ∧ r.2.1 = 0)) := Lib.hid (by
              have h := HR'.out
              rw [if_pos (by have := HL1.out; omega)] at h
              simp only [List.append_nil] at h
              exact .inr ⟨q, h.1, h.2⟩)
            clear HR' q
            go_wp2_with fail
            go_roundw
            case rel => exact ⟨i + 1, l1, t1, by omega, by go_num, Lib.hid (by have := HL1.out; omega), HU5, HR2⟩
            case measure => simp [intOf]; omega
          · have ql : (0 : Int) < (l1 : Int) := by omega
            rw [if_neg (by have := HL1.out; omega), ← HL1.out] at HR'
            obtain ⟨s, hs⟩ : ∃ s, s = sub yF at_ l1 := ⟨_, rfl⟩
            rw [← hs] at HR'
            have hs2 : s = lvT M k (lv + 1) yF at_ l1 := by rw [hs, HSUB.out]
            have hlf1 := lvT_left (M := M) k (lv + 1) yF at_ l1 (by omega)
            have hlf2 := lvT_stop (M := M) k (lv + 1) yF at_ l1
            have hlf3 := lvT_len (M := M) k (lv + 1) yF at_ l1 (by omega)
            have hup : 512 * rch (lv + 1) = rc := by
              rw [HRC.out]
              unfold rch
              rcases (show lv = 0 ∨ lv = 1 by omega) with rfl | rfl <;> decide
            have hd := HIH.out (lv + 1) yF at_ l1 (told ++ t1) w5 (by omega) (by omega) (by have := HTT.out.2.1; omega) (by
              rw [hup]
              have h1 := HV.out
              have h2 : ir + rc ≤ 512 * rc := by rw [HIR.out]; have := Nat.mul_le_mul_right rc (show i + 1 ≤ 512 by omega); rw [Nat.add_mul, Nat.one_mul] at this; exact this
              have h3 := HAT.out
              omega) (by omega) (by have := HL1.out; rw [List.length_append]; omega) ⟨HU5.out.1, HU5.out.2.1, ChgP.refl _ _, KE.refl _ _⟩
            rw [← hs2] at hd hlf1 hlf2 hlf3
            rw [show ((lv + 1 : Nat) : Int) = (lv : Int) + 1 by omega] at hd
            have HD := Lib.hid hd
            have HLF := Lib.hid (And.intro hlf1 (And.intro hlf2 hlf3))
            clear hd hlf1 hlf2 hlf3 hs hs2 hup q
            go_wp2_with fail
            refine HD.out.mono ?_
            rintro e w6 ⟨⟨vv, rfl⟩, hu6⟩
            have HU6 := Lib.hid (hu6.pre HU5.out.2.2)
            have HGX6 := Lib.hid (hu6.2.2.2 gx _ hgg HGX5.out)
            clear hu6 HD gq gq0 gql n1 nl
            have gq := HGX6.out.cell 1
            have gql := HGX6.out.lt
            simp only [List.getElem?_cons_zero, List.getElem?_cons_succ] at gq
            have HR2 : Hid ((1 ≤ s.2.1 ∧ r.1 = (t1 ++ s.1) ++ (lvR M sub lv tab V (512 - (i + 1)) s.2.1).1 ∧ r.2.1 = (lvR M sub lv tab V (512 - (i + 1)) s.2.1).2.1) ∨ (s.2.1 = 0 ∧ r.1 = t1 ++ s.1 ∧ r.2.1 = 0)) := Lib.hid (by
              have h := HR'.out
              by_cases hg : s.2.2 = true
              · rw [if_pos hg] at h
                exact .inl ⟨HLF.out.1.2 hg, by rw [h.1, List.append_assoc], h.2⟩
              · rw [if_neg hg] at h
                have h0 := HLF.out.2.1 (by simpa using hg)
                exact .inr ⟨h0, h.1, by rw [h.2]; exact h0⟩)
            clear HR'
            go_wp2_with fail
            go_roundw
            case rel => exact ⟨i + 1, s.2.1, t1 ++ s.1, by omega, by go_num, Lib.hid (by have h1 := HLF.out.2.2; have h2 := HL1.out; rw [List.length_append]; omega), Lib.hid (by rw [← List.append_assoc]; exact HU6.out), HR2⟩
            case measure => simp [intOf]; omega
        | false =>
          have HR2 : Hid ((1 ≤ l1 ∧ r.1 = (t1 ++ [⟨at_, yF, pg, yb, yw, yx, 0⟩]) ++ (lvR M sub lv tab V (512 - (i + 1)) l1).1 ∧ r.2.1 = (lvR M sub lv tab V (512 - (i + 1)) l1).2.1) ∨ (l1 = 0 ∧ r.1 = t1 ++ [⟨at_, yF, pg, yb, yw, yx, 0⟩] ∧ r.2.1 = 0)) := Lib.hid (by
            have h := HR'.out
            rw [if_neg (by simp), if_neg (by simp)] at h
            have hx : leafAt lv at_ (⟨yF, false, yb, yw, yx⟩, 0) = ⟨at_, yF, pg, yb, yw, yx, 0⟩ := by
              unfold leafAt
              rw [if_pos rfl, ← HRC.out, ← HPG.out]
            rw [hx] at h
            by_cases q : lf ≤ 1
            · rw [if_pos q] at h
              exact .inr ⟨by have := HL1.out; omega, h.1, h.2⟩
            · rw [if_neg q, ← HL1.out] at h
              exact .inl ⟨by have := HL1.out; omega, by rw [h.1]; simp, h.2⟩)
          clear HR'
          go_upto_region 9 with fail
          generalize w4.setCell ⟨gw, 1, none⟩ (.int .i64 (l1 : Nat)) = w5 at *
          have HU5 := Lib.hid hu5; have HGX5 := Lib.hid hgx5
          clear hu5 hgx5 m1 m1f m1l HU4 HGX
          have gq := HGX5.out.cell 1
          have gql := HGX5.out.lt
          simp only [List.getElem?_cons_zero, List.getElem?_cons_succ] at gq
          go_upto_region 14 with fail
          clear gq gql
          obtain ⟨hdm5, ⟨A5, c5, hrw5, how5⟩, hch5⟩ := HU5.out
          obtain ⟨kk, hkk⟩ : ∃ kk, kk = (told ++ t1).length := ⟨_, rfl⟩
          have hkB : kk ≤ 100000 := by rw [hkk, List.length_append]; omega
          rw [← hkk] at hrw5 how5
          have HKK := Lib.hid hkk
          have n0 := hrw5.cell 0
          have nf := hrw5.frozen 0
          have nl := hrw5.lt
          simp only [List.getElem?_cons_zero, List.getElem?_cons_succ] at n0
          have HH5 := Lib.hid (And.intro hdm5 (And.intro hrw5 (And.intro how5 hch5)))
          clear hdm5 hrw5 how5 hch5 hkk

          clear n0
          have SX : Hid (∀ w' : World, Row w' gx 97 [.int .u64 (yF : Nat), .bool false, .bool yb, .bool yw, .bool yx] → w'.cell? ⟨gx, 0, none⟩ = some (.int .u64 (yF : Nat)) ∧ w'.cell? ⟨gx, 2, none⟩ = some (.bool yb) ∧ w'.cell? ⟨gx, 3, none⟩ = some (.bool yw) ∧ w'.cell? ⟨gx, 4, none⟩ = some (.bool yx)) := Lib.hid (fun w' h => ⟨h.cell 0, h.cell 2, h.cell 3, h.cell 4⟩)
          have n0 := HH5.out.2.1.cell 0
          simp only [List.getElem?_cons_zero] at n0
          refine wp_region_held_drew (S := (fun w' => w'.cell? ⟨gx, 0, none⟩ = some (.int .u64 (yF : Nat)) ∧ w'.cell? ⟨gx, 2, none⟩ = some (.bool yb) ∧ w'.cell? ⟨gx, 3, none⟩ = some (.bool yw) ∧ w'.cell? ⟨gx, 4, none⟩ = some (.bool yx))) (by kernel_rfl) (SX.out _ HGX5.out.drew) (fun hHeld => ?_)
          refine wpAnyH_take (i := 0) (v := ?kv1) rfl (by kernel_rfl) (by kernel_rfl) (by kernel_rfl) (fun _ _ _ h => h) (Or.inl ⟨by rfl, ?ky1⟩) (by assumption) ?kr1
          case ky1 => first | (intro w hSw; (try dsimp only at hSw); go_simp; done) | (intro w hSw; (try dsimp only at hSw); go_simp; with_reducible rfl)
          try simp only [Act.put, List.setIfInBounds_toArray, List.set_cons_zero, List.set_cons_succ]
          refine wpAnyH_take (i := 1) (v := ?kv2) rfl (by kernel_rfl) (by kernel_rfl) (by kernel_rfl) (fun _ _ _ h => h) (Or.inl ⟨by rfl, ?ky2⟩) (by assumption) ?kr2
          case ky2 => first | (intro w hSw; (try dsimp only at hSw); go_simp; done) | (intro w hSw; (try dsimp only at hSw); go_simp; with_reducible rfl)
          try simp only [Act.put, List.setIfInBounds_toArray, List.set_cons_zero, List.set_cons_succ]
          refine wpAnyH_take (i := 2) (v := ?kv3) rfl (by kernel_rfl) (by kernel_rfl) (by kernel_rfl) (fun _ _ _ h => h) (Or.inl ⟨by rfl, ?ky3⟩) (by assumption) ?kr3
          case ky3 => first | (intro w hSw; (try dsimp only at hSw); go_simp; done) | (intro w hSw; (try dsimp only at hSw); go_simp; with_reducible rfl)
          try simp only [Act.put, List.setIfInBounds_toArray, List.set_cons_zero, List.set_cons_succ]
          refine wpAnyH_take (i := 3) (v := ?kv4) rfl (by kernel_rfl) (by kernel_rfl) (by kernel_rfl) (fun _ _ _ h => h) (Or.inl ⟨by rfl, ?ky4⟩) (by assumption) ?kr4
          case ky4 => first | (intro w hSw; (try dsimp only at hSw); go_simp; done) | (intro w hSw; (try dsimp only at hSw); go_simp; with_reducible rfl)
          try simp only [Act.put, List.setIfInBounds_toArray, List.set_cons_zero, List.set_cons_succ]
          refine wpAnyH_take (i := 5) (v := ?kv5) rfl (by kernel_rfl) (by kernel_rfl) (by kernel_rfl) (fun _ _ _ h => h) (Or.inl ⟨by rfl, ?ky5⟩) (by assumption) ?kr5
          case ky5 => first | (intro w hSw; (try dsimp only at hSw); go_simp; done) | (intro w hSw; (try dsimp only at hSw); go_simp; with_reducible rfl)
          try simp only [Act.put, List.setIfInBounds_toArray, List.set_cons_zero, List.set_cons_succ]
          refine wpAnyH_take (i := 6) (v := ?kv6) rfl (by kernel_rfl) (by kernel_rfl) (by kernel_rfl) (fun _ _ _ h => h) (Or.inl ⟨by rfl, ?ky6⟩) (by assumption) ?kr6
          case ky6 => first | (intro w hSw; (try dsimp only at hSw); go_simp; done) | (intro w hSw; (try dsimp only at hSw); go_simp; with_reducible rfl)
          try simp only [Act.put, List.setIfInBounds_toArray, List.set_cons_zero, List.set_cons_succ]
          refine wpAnyH_take (i := 7) (v := ?kv7) rfl (by kernel_rfl) (by kernel_rfl) (by kernel_rfl) (fun _ _ _ h => h) (Or.inl ⟨by rfl, ?ky7⟩) (by assumption) ?kr7
          case ky7 => first | (intro w hSw; (try dsimp only at hSw); go_simp; done) | (intro w hSw; (try dsimp only at hSw); go_simp; with_reducible rfl)
          try simp only [Act.put, List.setIfInBounds_toArray, List.set_cons_zero, List.set_cons_succ]
          refine wpAnyH_take (i := 8) (v := ?kv8) rfl (by kernel_rfl) (by kernel_rfl) (by kernel_rfl) (fun _ _ _ h => h) (Or.inl ⟨by rfl, ?ky8⟩) (by assumption) ?kr8
          case ky8 => first | (intro w hSw; (try dsimp only at hSw); go_simp; done) | (intro w hSw; (try dsimp only at hSw); go_simp; with_reducible rfl)
          try simp only [Act.put, List.setIfInBounds_toArray, List.set_cons_zero, List.set_cons_succ]
          refine wpAnyH_take (i := 9) (v := ?kv9) rfl (by kernel_rfl) (by kernel_rfl) (by kernel_rfl) (fun _ _ _ h => h) (Or.inl ⟨by rfl, ?ky9⟩) (by assumption) ?kr9
          case ky9 => first | (intro w hSw; (try dsimp only at hSw); go_simp; done) | (intro w hSw; (try dsimp only at hSw); go_simp; with_reducible rfl)
          try simp only [Act.put, List.setIfInBounds_toArray, List.set_cons_zero, List.set_cons_succ]
          refine wpAnyH_take (i := 10) (v := ?kv10) rfl (by kernel_rfl) (by kernel_rfl) (by kernel_rfl) (fun _ _ _ h => h) (Or.inl ⟨by rfl, ?ky10⟩) (by assumption) ?kr10
          case ky10 => first | (intro w hSw; (try dsimp only at hSw); go_simp; done) | (intro w hSw; (try dsimp only at hSw); go_simp; with_reducible rfl)
          try simp only [Act.put, List.setIfInBounds_toArray, List.set_cons_zero, List.set_cons_succ]
          refine wpAnyH_take (i := 11) (v := ?kv11) rfl (by kernel_rfl) (by kernel_rfl) (by kernel_rfl) (fun _ _ _ h => h) (Or.inl ⟨by rfl, ?ky11⟩) (by assumption) ?kr11
          case ky11 => first | (intro w hSw; (try dsimp only at hSw); go_simp; done) | (intro w hSw; (try dsimp only at hSw); go_simp; with_reducible rfl)
          try simp only [Act.put, List.setIfInBounds_toArray, List.set_cons_zero, List.set_cons_succ]
          refine wpAnyH_take (i := 12) (v := ?kv12) rfl (by kernel_rfl) (by kernel_rfl) (by kernel_rfl) (fun _ _ _ h => h) (Or.inl ⟨by rfl, ?ky12⟩) (by assumption) ?kr12
          case ky12 => first | (intro w hSw; (try dsimp only at hSw); go_simp; done) | (intro w hSw; (try dsimp only at hSw); go_simp; with_reducible rfl)
          try simp only [Act.put, List.setIfInBounds_toArray, List.set_cons_zero, List.set_cons_succ]
          refine wpAnyH_take (i := 13) (v := ?kv13) rfl (by kernel_rfl) (by kernel_rfl) (by kernel_rfl) (fun _ _ _ h => h) (Or.inl ⟨by rfl, ?ky13⟩) (by assumption) ?kr13
          case ky13 => first | (intro w hSw; (try dsimp only at hSw); go_simp; done) | (intro w hSw; (try dsimp only at hSw); go_simp; with_reducible rfl)
          try simp only [Act.put, List.setIfInBounds_toArray, List.set_cons_zero, List.set_cons_succ]
          refine wpAnyH_take (i := 14) (v := ?kv14) rfl (by kernel_rfl) (by kernel_rfl) (by kernel_rfl) (fun _ _ _ h => h) (Or.inl ⟨by rfl, ?ky14⟩) (by assumption) ?kr14
          case ky14 => first | (intro w hSw; (try dsimp only at hSw); go_simp; done) | (intro w hSw; (try dsimp only at hSw); go_simp; with_reducible rfl)
          try simp only [Act.put, List.setIfInBounds_toArray, List.set_cons_zero, List.set_cons_succ]
          refine wpAnyH_take (i := 15) (v := ?kv15) rfl (by kernel_rfl) (by kernel_rfl) (by kernel_rfl) (fun _ _ _ h => h) (Or.inl ⟨by rfl, ?ky15⟩) (by assumption) ?kr15
          case ky15 => first | (intro w hSw; (try dsimp only at hSw); go_simp; done) | (intro w hSw; (try dsimp only at hSw); go_simp; with_reducible rfl)
          try simp only [Act.put, List.setIfInBounds_toArray, List.set_cons_zero, List.set_cons_succ]
          refine wpAnyH_take (i := 16) (v := ?kv16) rfl (by kernel_rfl) (by kernel_rfl) (by kernel_rfl) (fun _ _ _ h => h) (Or.inl ⟨by rfl, ?ky16⟩) (by assumption) ?kr16
          case ky16 => first | (intro w hSw; (try dsimp only at hSw); go_simp; done) | (intro w hSw; (try dsimp only at hSw); go_simp; with_reducible rfl)
          try simp only [Act.put, List.setIfInBounds_toArray, List.set_cons_zero, List.set_cons_succ]
          refine wpAnyH_ready (rs := [4, 17]) (by kernel_rfl) (by simp) ?_
          refine AllReadyH.cons rfl (fun K hK => ?_) (AllReadyH.cons rfl (fun K hK => ?_) AllReadyH.nil)
          · go_simp
            refine hK.out _ _ (SX.out _ HGX5.out.drew) (fun hHeld => ?_)
            clear hK K
            try simp only [Act.put, List.setIfInBounds_toArray, List.set_cons_zero, List.set_cons_succ]
            refine wpAnyH_ready (rs := [17]) (by kernel_rfl) (by simp) ?_
            refine AllReadyH.cons rfl (fun K hK => ?_) AllReadyH.nil
            go_simp
            refine hK.out _ _ (SX.out _ (HGX5.out.drew.alloc _)) (fun hHeld => ?_)
            clear hK K
            try simp only [Act.put, List.setIfInBounds_toArray, List.set_cons_zero, List.set_cons_succ]
            refine wpAnyH_ready (rs := [18]) (by kernel_rfl) (by simp) ?_
            refine AllReadyH.cons rfl (fun K hK => ?_) AllReadyH.nil
            (refine stepT_sl _ (by rfl) (.tmp 114) (.tmp 127) 109 (by rfl) (gw + 1) 118 i0 _ 7 40 Tryz.underlying109 HI0.out HZ1.out HZ2.out HZ3.out rfl (by omega) (.slice A5 kk c5) kk (tall (told ++ t1)) (by simp [Act.eval, Act.put]) (owns_chgP HH5.out.2.2.1 (((ChgP.refl (fun _ => False) w5).drew).alloc _) (fun _ _ h => h)) _ (some ⟨w5.heap.size, 0, none⟩) 1 1 (tcell ⟨at_, yF, pg, yb, yw, yx, 0⟩) (by simp [Act.eval, Act.put]) (reads_told w5.drew ⟨at_, yF, pg, yb, yw, yx, 0⟩) (oneCell_told _) (by unfold maxLen; omega) (by omega) (by simp; omega) ?_; intro A6 c6 w6 hown6 hg6 hat6; have hc6 : ChgP (fun k => gw + 1 ≤ k) w5 w6 := (((ChgP.refl (fun k => gw + 1 ≤ k) w5).drew).alloc _).grown hg6 (fun k hk => .inl (World.ownsRow.lt HH5.out.2.2.1 k hk).1); have hke : KE gw w5 w6 := KE.app HH5.out.2.2.1 ((((ChgP.refl (fun k => (Value.slice A5 kk c5).ownBlock = some k) w5).drew).alloc _).grown hg6 (fun k hk => .inl hk)); have HGX6 := Lib.hid (hke gx _ hgg HGX5.out); have hrw6 := hc6.row HH5.out.2.1 (fun h => Nat.lt_irrefl _ h); have k0 := hrw6.cell 0; have kf := hrw6.frozen 0; have kl := hrw6.lt; simp only [List.getElem?_cons_zero, List.getElem?_cons_succ] at k0; have HC6 := Lib.hid hc6; have HKE := Lib.hid hke; have HOWN6 := Lib.hid hown6; have HRW6 := Lib.hid hrw6; clear hc6 hke hown6 hg6 hat6 hrw6 n0 nf nl)
            refine hK.out _ _ (SX.out _ HGX6.out) (fun hHeld => ?_)
            clear hK K
            try simp only [Act.put, List.setIfInBounds_toArray, List.set_cons_zero, List.set_cons_succ]
            refine wpAnyH_take (i := 19) (v := ?kv17) rfl (by kernel_rfl) (by kernel_rfl) (by kernel_rfl) (fun _ _ _ h => h) (Or.inl ⟨by rfl, ?ky17⟩) (by assumption) ?kr17
            case ky17 => first | (intro w hSw; (try dsimp only at hSw); go_simp; done) | (intro w hSw; (try dsimp only at hSw); go_simp; with_reducible rfl)
            try simp only [Act.put, List.setIfInBounds_toArray, List.set_cons_zero, List.set_cons_succ]
            refine wpAnyH_take (i := 20) (v := ?kv18) rfl (by kernel_rfl) (by kernel_rfl) (by kernel_rfl) (fun _ _ _ h => h) (Or.inl ⟨by rfl, ?ky18⟩) (by assumption) ?kr18
            case ky18 => first | (intro w hSw; (try dsimp only at hSw); go_simp; done) | (intro w hSw; (try dsimp only at hSw); go_simp; with_reducible rfl)
            try simp only [Act.put, List.setIfInBounds_toArray, List.set_cons_zero, List.set_cons_succ]
            refine wpAnyH_ready (rs := [21]) (by kernel_rfl) (by simp) ?_
            refine AllReadyH.cons rfl (fun K hK => ?_) AllReadyH.nil
            go_simp
            refine hK.out _ _ (SX.out _ (HGX6.out.far (p := ⟨gw, 0, none⟩) (fun h => absurd hgg (by rw [h]; exact Nat.lt_irrefl _)) _)) (fun hHeld => ?_)
            clear hK K
            try simp only [Act.put, List.setIfInBounds_toArray, List.set_cons_zero, List.set_cons_succ]
            refine wpAnyH_done (by kernel_rfl) ?_ _
            clear k0 kf kl
            have hdm6 : DM Z w6 B g M := HH5.out.1.chg HC6.out (fun k hk hy => by
              have hy : gw + 1 ≤ k := hy
              have hb := HB.out
              rcases hk with hk | hk
              · have := HZ.out k hk; omega
              · omega)
            have hu6 : US Z B g M gw ((told ++ t1) ++ [⟨at_, yF, pg, yb, yw, yx, 0⟩]) l1 w (w6.setCell ⟨gw, 0, none⟩ (.slice A6 (kk + 1) c6)) := by
              have h := US.more_ (told := told ++ t1) (l := ⟨at_, yF, pg, yb, yw, yx, 0⟩) (left := l1) hdm6 (by exact HRW6.out) (A := A6) (c := c6) (by rw [← HKK.out]; exact HOWN6.out) (HH5.out.2.2.2.1.trans HC6.out (fun x hx => .inl (.inr (by have hx : gw + 1 ≤ x := hx; omega)))) (HH5.out.2.2.2.2.trans HKE.out) HZ.out HB.out
              rw [← HKK.out] at h
              exact h
            have HU6 := Lib.hid hu6
            clear hu6 hdm6
            go_wp2_with fail
            go_roundw
            case rel => exact ⟨i + 1, l1, t1 ++ [⟨at_, yF, pg, yb, yw, yx, 0⟩], by omega, by go_num, Lib.hid (by have := HL1.out; simp; omega), Lib.hid (by rw [← List.append_assoc]; exact HU6.out), HR2⟩
            case measure => simp [intOf]; omega
          · go_simp
            refine hK.out _ _ (SX.out _ (HGX5.out.drew.alloc _)) (fun hHeld => ?_)
            clear hK K
            try simp only [Act.put, List.setIfInBounds_toArray, List.set_cons_zero, List.set_cons_succ]
            refine wpAnyH_ready (rs := [4]) (by kernel_rfl) (by simp) ?_
            refine AllReadyH.cons rfl (fun K hK => ?_) AllReadyH.nil
            go_simp
            refine hK.out _ _ (SX.out _ (HGX5.out.drew.alloc _)) (fun hHeld => ?_)
            clear hK K
            try simp only [Act.put, List.setIfInBounds_toArray, List.set_cons_zero, List.set_cons_succ]
            refine wpAnyH_ready (rs := [18]) (by kernel_rfl) (by simp) ?_
            refine AllReadyH.cons rfl (fun K hK => ?_) AllReadyH.nil
            (refine stepT_sl _ (by rfl) (.tmp 114) (.tmp 127) 109 (by rfl) (gw + 1) 118 i0 _ 7 40 Tryz.underlying109 HI0.out HZ1.out HZ2.out HZ3.out rfl (by omega) (.slice A5 kk c5) kk (tall (told ++ t1)) (by simp [Act.eval, Act.put]) (owns_chgP HH5.out.2.2.1 (((ChgP.refl (fun _ => False) w5).drew).alloc _) (fun _ _ h => h)) _ (some ⟨w5.heap.size, 0, none⟩) 1 1 (tcell ⟨at_, yF, pg, yb, yw, yx, 0⟩) (by simp [Act.eval, Act.put]) (reads_told w5.drew ⟨at_, yF, pg, yb, yw, yx, 0⟩) (oneCell_told _) (by unfold maxLen; omega) (by omega) (by simp; omega) ?_; intro A6 c6 w6 hown6 hg6 hat6; have hc6 : ChgP (fun k => gw + 1 ≤ k) w5 w6 := (((ChgP.refl (fun k => gw + 1 ≤ k) w5).drew).alloc _).grown hg6 (fun k hk => .inl (World.ownsRow.lt HH5.out.2.2.1 k hk).1); have hke : KE gw w5 w6 := KE.app HH5.out.2.2.1 ((((ChgP.refl (fun k => (Value.slice A5 kk c5).ownBlock = some k) w5).drew).alloc _).grown hg6 (fun k hk => .inl hk)); have HGX6 := Lib.hid (hke gx _ hgg HGX5.out); have hrw6 := hc6.row HH5.out.2.1 (fun h => Nat.lt_irrefl _ h); have k0 := hrw6.cell 0; have kf := hrw6.frozen 0; have kl := hrw6.lt; simp only [List.getElem?_cons_zero, List.getElem?_cons_succ] at k0; have HC6 := Lib.hid hc6; have HKE := Lib.hid hke; have HOWN6 := Lib.hid hown6; have HRW6 := Lib.hid hrw6; clear hc6 hke hown6 hg6 hat6 hrw6 n0 nf nl)
            refine hK.out _ _ (SX.out _ HGX6.out) (fun hHeld => ?_)
            clear hK K
            try simp only [Act.put, List.setIfInBounds_toArray, List.set_cons_zero, List.set_cons_succ]
            refine wpAnyH_take (i := 19) (v := ?kv19) rfl (by kernel_rfl) (by kernel_rfl) (by kernel_rfl) (fun _ _ _ h => h) (Or.inl ⟨by rfl, ?ky19⟩) (by assumption) ?kr19
            case ky19 => first | (intro w hSw; (try dsimp only at hSw); go_simp; done) | (intro w hSw; (try dsimp only at hSw); go_simp; with_reducible rfl)
            try simp only [Act.put, List.setIfInBounds_toArray, List.set_cons_zero, List.set_cons_succ]
            refine wpAnyH_take (i := 20) (v := ?kv20) rfl (by kernel_rfl) (by kernel_rfl) (by kernel_rfl) (fun _ _ _ h => h) (Or.inl ⟨by rfl, ?ky20⟩) (by assumption) ?kr20
            case ky20 => first | (intro w hSw; (try dsimp only at hSw); go_simp; done) | (intro w hSw; (try dsimp only at hSw); go_simp; with_reducible rfl)
            try simp only [Act.put, List.setIfInBounds_toArray, List.set_cons_zero, List.set_cons_succ]
            refine wpAnyH_ready (rs := [21]) (by kernel_rfl) (by simp) ?_
            refine AllReadyH.cons rfl (fun K hK => ?_) AllReadyH.nil
            go_simp
            refine hK.out _ _ (SX.out _ (HGX6.out.far (p := ⟨gw, 0, none⟩) (fun h => absurd hgg (by rw [h]; exact Nat.lt_irrefl _)) _)) (fun hHeld => ?_)
            clear hK K
            try simp only [Act.put, List.setIfInBounds_toArray, List.set_cons_zero, List.set_cons_succ]
            refine wpAnyH_done (by kernel_rfl) ?_ _
            clear k0 kf kl
            have hdm6 : DM Z w6 B g M := HH5.out.1.chg HC6.out (fun k hk hy => by
              have hy : gw + 1 ≤ k := hy
              have hb := HB.out
              rcases hk with hk | hk
              · have := HZ.out k hk; omega
              · omega)
            have hu6 : US Z B g M gw ((told ++ t1) ++ [⟨at_, yF, pg, yb, yw, yx, 0⟩]) l1 w (w6.setCell ⟨gw, 0, none⟩ (.slice A6 (kk + 1) c6)) := by
              have h := US.more_ (told := told ++ t1) (l := ⟨at_, yF, pg, yb, yw, yx, 0⟩) (left := l1) hdm6 (by exact HRW6.out) (A := A6) (c := c6) (by rw [← HKK.out]; exact HOWN6.out) (HH5.out.2.2.2.1.trans HC6.out (fun x hx => .inl (.inr (by have hx : gw + 1 ≤ x := hx; omega)))) (HH5.out.2.2.2.2.trans HKE.out) HZ.out HB.out
              rw [← HKK.out] at h
              exact h
            have HU6 := Lib.hid hu6
            clear hu6 hdm6
            go_wp2_with fail
            go_roundw
            case rel => exact ⟨i + 1, l1, t1 ++ [⟨at_, yF, pg, yb, yw, yx, 0⟩], by omega, by go_num, Lib.hid (by have := HL1.out; simp; omega), Lib.hid (by rw [← List.append_assoc]; exact HU6.out), HR2⟩
            case measure => simp [intOf]; omega
      · have hn42 : no = 42 := by
          have h := say_nos E lv
          rw [← HSY.out] at h
          simp only at h
          omega
        subst hn42
        have HR2 : Hid ((1 ≤ l1 ∧ r.1 = (t1 ++ [⟨at_, 0, pg, false, false, false, 42⟩]) ++ (lvR M sub lv tab V (512 - (i + 1)) l1).1 ∧ r.2.1 = (lvR M sub lv tab V (512 - (i + 1)) l1).2.1) ∨ (l1 = 0 ∧ r.1 = t1 ++ [⟨at_, 0, pg, false, false, false, 42⟩] ∧ r.2.1 = 0)) := Lib.hid (by
          have h := HR'.out
          rw [if_neg (by simp), if_neg (by simp)] at h
          have hx : leafAt lv at_ (⟨yF, yt, yb, yw, yx⟩, 42) = ⟨at_, 0, pg, false, false, false, 42⟩ := by
            unfold leafAt
            rw [if_neg (by simp), ← HRC.out, ← HPG.out]
          rw [hx] at h
          by_cases q : lf ≤ 1
          · rw [if_pos q] at h
            exact .inr ⟨by have := HL1.out; omega, h.1, h.2⟩
          · rw [if_neg q, ← HL1.out] at h
            exact .inl ⟨by have := HL1.out; omega, by rw [h.1]; simp, h.2⟩)
        clear HR'
        go_upto_region 9 with fail
        generalize w4.setCell ⟨gw, 1, none⟩ (.int .i64 (l1 : Nat)) = w5 at *
        have HU5 := Lib.hid hu5; have HGX5 := Lib.hid hgx5
        clear hu5 hgx5 m1 m1f m1l HU4 HGX
        go_upto_region 10 with fail
        obtain ⟨hdm5, ⟨A5, c5, hrw5, how5⟩, hch5⟩ := HU5.out
        obtain ⟨kk, hkk⟩ : ∃ kk, kk = (told ++ t1).length := ⟨_, rfl⟩
        have hkB : kk ≤ 100000 := by rw [hkk, List.length_append]; omega
        rw [← hkk] at hrw5 how5
        have HKK := Lib.hid hkk
        have n0 := hrw5.cell 0
        have nf := hrw5.frozen 0
        have nl := hrw5.lt
        simp only [List.getElem?_cons_zero, List.getElem?_cons_succ] at n0
        have HH5 := Lib.hid (And.intro hdm5 (And.intro hrw5 (And.intro how5 hch5)))
        clear hdm5 hrw5 how5 hch5 hkk

        go_wp2_with (at_builtin; refine (?_ : _ ∧ True).1)
        refine ⟨?_, trivial⟩
        refine wpList_append_sl _ (by rfl) (.tmp 79) (.tmp 84) 109 rfl (gw + 1) 118 i0 _ 7 40 Tryz.underlying109 HI0.out HZ1.out HZ2.out HZ3.out rfl (by omega) (.slice A5 kk c5) kk (tall (told ++ t1)) rfl (owns_chgP HH5.out.2.2.1 ((ChgP.refl (fun _ => False) w5).alloc _) (fun _ _ h => h)) _ (some ⟨w5.heap.size, 0, none⟩) 1 1 (tcell ⟨at_, 0, pg, false, false, false, 42⟩) rfl (reads_told w5 ⟨at_, 0, pg, false, false, false, 42⟩) (oneCell_told _) (by unfold maxLen; omega) (by omega) (by simp; omega) ?_
        intro A6 c6 w6 hown6 _ hg6 _
        have hc6 : ChgP (fun k => gw + 1 ≤ k) w5 w6 := ((ChgP.refl (fun k => gw + 1 ≤ k) w5).alloc _).grown hg6 (fun k hk => .inl (World.ownsRow.lt HH5.out.2.2.1 k hk).1)
        have hke : KE gw w5 w6 := KE.app HH5.out.2.2.1 (((ChgP.refl (fun k => (Value.slice A5 kk c5).ownBlock = some k) w5).alloc _).grown hg6 (fun k hk => .inl hk))

        have hrw6 := hc6.row HH5.out.2.1 (fun h => Nat.lt_irrefl _ h)
        have k0 := hrw6.cell 0
        have kf := hrw6.frozen 0
        have kl := hrw6.lt
        simp only [List.getElem?_cons_zero, List.getElem?_cons_succ] at k0
        have hdm6 : DM Z w6 B g M := HH5.out.1.chg hc6 (fun k hk hy => by
          have hy : gw + 1 ≤ k := hy
          have hb := HB.out
          rcases hk with hk | hk
          · have := HZ.out k hk; omega
          · omega)
        have hu6 : US Z B g M gw ((told ++ t1) ++ [⟨at_, 0, pg, false, false, false, 42⟩]) l1 w (w6.setCell ⟨gw, 0, none⟩ (.slice A6 (kk + 1) c6)) := by
          have h := US.more_ (told := told ++ t1) (l := ⟨at_, 0, pg, false, false, false, 42⟩) (left := l1) hdm6 (by exact hrw6) (A := A6) (c := c6) (by rw [← HKK.out]; exact hown6) (HH5.out.2.2.2.1.trans hc6 (fun x hx => .inl (.inr (by have hx : gw + 1 ≤ x := hx; omega)))) (HH5.out.2.2.2.2.trans hke) HZ.out HB.out
          rw [← HKK.out] at h
          exact h
        have HU6 := Lib.hid hu6
        clear hu6 hdm6 hrw6 hc6 hown6 hg6 n0 nf nl
        go_wp2_with fail
        go_roundw
        case rel => exact ⟨i + 1, l1, t1 ++ [⟨at_, 0, pg, false, false, false, 42⟩], by omega, by go_num, Lib.hid (by have := HL1.out; simp; omega), Lib.hid (by rw [← List.append_assoc]; exact HU6.out), HR2⟩
        case measure => simp [intOf]; omega
  · have HE : Hid (r.1 = t1 ∧ r.2.1 = lf) := Lib.hid (by
      rcases HR.out with ⟨h1, h2, h3⟩ | ⟨h1, h2, h3⟩
      · have ei : i = 512 := by
          rcases Nat.lt_or_ge i 512 with h | h
          · exact absurd ⟨h, h1⟩ hin
          · omega
        subst ei
        rw [show 512 - 512 = 0 from rfl] at h2 h3
        simp only [lvR, List.append_nil] at h2 h3
        exact ⟨h2, h3⟩
      · exact ⟨h2, by rw [h3, h1]⟩)
    have HF : Hid (US Z B g M gw (told ++ r.1) r.2.1 w wr) := Lib.hid (by rw [HE.out.1, HE.out.2]; exact HU.out)
    by_cases hi5 : i < 512
    · have hi5' : (i : Int) < 512 := by omega
      have hlf' : ¬ (0 : Int) < (lf : Int) := by omega
      go_wp2_with fail
      go_end0
      exact ⟨⟨_, rfl⟩, HF.out⟩
    · have hi5' : ¬ (i : Int) < 512 := by omega
      go_wp2_with fail
      go_end0
      exact ⟨⟨_, rfl⟩, HF.out⟩
end Bu
end Go.Proofs.YtfpofaniicegaaaGreat

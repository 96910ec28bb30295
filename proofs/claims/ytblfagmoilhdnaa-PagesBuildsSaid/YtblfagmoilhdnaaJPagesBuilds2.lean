/- Texts of this claim, one behind the other: PgE, PgW, PgZ, Ent, PgL, EntryA, EntryB, Entry, Mapx, Make, PgC. -/
import Derived.Test.YtblfagmoilhdnaaJPagesBuilds1
import Derived.DeepKeys
import Derived.WalkKit
import Derived.ProofKit
import Derived.OpenShut
import Derived.Great.BuildSlice
import Derived.BigGuardPart
import Derived.Laws.IdiomRangeMap
import Derived.Deep.Draws
import Derived.Deep.LoopGhost
import Derived.Deep.Cut
import Derived.Deep.DeepCutAuto
import Derived.Deep.RegionHeld3
/- Arrays by value: one that is compared with itself. -/
set_option linter.unusedVariables false
set_option linter.unusedSimpArgs false
namespace Go.Proofs.Ytblfagmoilhdnaa
open Go.RowKit

theorem run_eqItems_self {P : Program} (w : World) (d : Nat) (e : TypeId) (he : P.underlying e = some (.int .u64)) (V : List Value) (hV : ∀ i, i < V.length → ∃ n, V[i]? = some (.int .u64 n)) : ∀ is : List Nat, (∀ i ∈ is, i < V.length) → (Op.eqItems (d + 1) e 1 V.toArray V.toArray is).run P w = .ok true w
  | [], _ => by simp [Op.eqItems]
  | i :: is, h => by
    obtain ⟨n, hn⟩ := hV i (h i (by simp))
    have hp := run_part_plain (P := P) (w := w) (e := e) (by simp [Program.plainKey, he]) (xs := V.toArray) (off := i * 1) (v := .int .u64 n) (by simpa using hn)
    simp only [Op.eqItems, Sem.run_bind, hp, Result.andThen_ok, run_equalIn_int w d e .u64 .u64 n n he]
    simp [run_eqItems_self w d e he V hV is (fun j hj => h j (by simp [hj]))]
theorem tab_eq_self (V : List Value) (hV : ∀ i, i < V.length → ∃ n, V[i]? = some (.int .u64 n)) (hl : V.length = 512) (w : World) : (Op.equalIn 10000 24 (.agg V.toArray) (.agg V.toArray)).run Try.prog w = .ok true w := by
  obtain ⟨i, hi, hi1⟩ : ∃ i, Try.prog.info? 22 = some i ∧ i.size = 1 := by
    have h : (Try.prog.info? 22).map (·.size) = some 1 := by kernel_rfl
    cases hq : Try.prog.info? 22 with
    | none => simp [hq] at h
    | some i => exact ⟨i, rfl, by simpa [hq] using h⟩
  have := run_equalIn_array (P := Try.prog) w 9999 V.toArray V.toArray Try.underlying24 hi
  rw [this]
  have hc : Try.prog.cellsOf 22 = 1 := by kernel_rfl
  rw [hc]
  exact run_eqItems_self w 9998 _ Try.underlying22 V hV _ (fun i hi => by rw [hl]; simpa using hi)
theorem own_capd {w : World} {base n c : Nat} {A : Option Addr} {bs : List Nat} (h : Own w base A n c bs) : n ≤ c ∧ c ≤ maxLen := by
  rcases h.1.2 with ⟨hv, h0⟩ | ⟨g, cap, cur, hv, _, _, hnc, hcm, _⟩
  · injection hv with _ _ hc; subst hc h0; exact ⟨by omega, by unfold maxLen; omega⟩
  · injection hv with _ _ hc; subst hc; exact ⟨hnc, hcm⟩
theorem reads_u8 {w : World} {u : Value} {B : Nat} (hB : w.heap.size < B) : Reads (w.alloc (.cells #[u] 5)) B 1 (some ⟨w.heap.size, 0, none⟩) 1 [u] := by
  refine ⟨rfl, fun _ => ⟨_, rfl, hB, fun j x hx => ?_⟩⟩
  have e : (⟨w.heap.size, 0, none⟩ : Addr).add j = ⟨w.heap.size, j, none⟩ := by unfold Addr.add; split <;> simp_all
  rw [e, (Row.new w 5 [u]).cell, hx]
set_option maxRecDepth 100000 in
/-- an array that came in -/
theorem open_tab {W : World} {base : Nat} {v : Value} (h : Value.okWide Try.prog W .any base 24 v) : ∃ t : List Nat, v = tabV t ∧ t.length = 512 ∧ ∀ x ∈ t, x < 18446744073709551616 := by
  unfold Value.okWide at h
  rw [Try.underlying24] at h
  obtain ⟨cs, rfl, hsz, ts, hts, _, hc⟩ := h
  have h1 : Try.prog.cellsOf 24 = 512 := by kernel_rfl
  have h2 : Try.prog.cellTypes Try.prog.depth 24 = some (List.replicate 512 22) := by kernel_rfl
  rw [h1] at hsz
  rw [h2] at hts
  injection hts with hts
  subst hts
  have h3 : ∀ i, i < 512 → ∃ x : Nat, cs[i]? = some (u64v x) ∧ x < 18446744073709551616 := by
    intro i hi
    obtain ⟨u, h4, h5⟩ := hc i cs[i] (Array.getElem?_eq_getElem (by omega))
    rw [List.length_replicate, List.getElem?_replicate, if_pos (Nat.mod_lt _ (by omega))] at h4
    injection h4 with h4
    subst h4
    unfold Cell.okWide at h5
    rw [Try.underlying22] at h5
    revert h5
    generalize hv : cs[i] = v
    intro h5
    have h6 : Cell.ok Try.prog W .any base 22 v := by
      revert h5; cases v <;> exact id
    unfold Cell.ok at h6
    rw [Try.underlying22] at h6
    cases v <;> simp at h6
    rename_i k n
    obtain ⟨rfl, hk⟩ := h6
    simp [IntKind.has, IntKind.min, IntKind.max, IntKind.bits, IntKind.signed] at hk
    refine ⟨n.toNat, ?_, ?_⟩
    · rw [Array.getElem?_eq_getElem (by omega), hv]
      unfold u64v
      rw [Int.toNat_of_nonneg (by omega)]
    · omega
  refine ⟨(List.range 512).map fun i => (intOf (cs[i]?.getD undef)).toNat, ?_, by simp, ?_⟩
  · unfold tabV
    congr 1
    apply Array.ext_getElem?
    intro i
    by_cases hi : i < 512
    · obtain ⟨x, h4, h5⟩ := h3 i hi
      simp [hi, h4, intOf, u64v]
    · simp [hi, Array.getElem?_eq_none (show cs.size ≤ i by omega)]
  · intro x hx
    simp only [List.mem_map, List.mem_range] at hx
    obtain ⟨i, hi, rfl⟩ := hx
    obtain ⟨x, h4, h5⟩ := h3 i hi
    simpa [h4, intOf, u64v] using h5
theorem beyond_list (w : World) (xs : List Nat) (hl : xs.length ≤ 1000000) (hx : ∀ x ∈ xs, x ≤ 9223372036854775807) (r : Bool) (hr : beyondL 2147483647 xs = r) :
    Calls Try.prog 9 #[.slice (some ⟨w.heap.size, 0, none⟩) xs.length xs.length] (w.alloc (.cells (xs.map i64).toArray 3)) fun e w' => e = .returned (.bool r) ∧ w.alloc (.cells (xs.map i64).toArray 3) = w' := by
  rw [← hr]
  refine beyond_any _ _ _ xs _ ?_ hl hx
  have := (Row.new w 3 (xs.map i64)).reads (B := (w.alloc (.cells (xs.map i64).toArray 3)).heap.size) 0 xs.length (by simp) (by simp)
  rw [List.drop_zero, List.take_of_length_le (by simp)] at this
  exact this
theorem beyond_one (w : World) (n : Nat) (hn : n ≤ 9223372036854775807) (r : Bool) (hr : beyondL 2147483647 [n] = r) :
    Calls Try.prog 9 #[.slice (some ⟨w.heap.size, 0, none⟩) 1 1] (w.alloc (.cells #[.int .i64 (n : Nat)] 3)) fun e w' => e = .returned (.bool r) ∧ w.alloc (.cells #[.int .i64 (n : Nat)] 3) = w' :=
  beyond_list w [n] (by simp) (by simpa using hn) r hr
theorem tbs_at (t : List Nat) (k : Nat) (x : Nat) (hk : t[k]? = some x) : ((tbs t).drop (8 * k)).take 8 = Wd.le 8 x := by
  induction t generalizing k with
  | nil => simp at hk
  | cons y r ih =>
    have e : tbs (y :: r) = Wd.le 8 y ++ tbs r := rfl
    have hl := Wd.le_len 8 y
    cases k with
    | zero =>
      simp at hk
      subst hk
      rw [e, Nat.mul_zero, List.drop_zero, List.take_append_of_le_length (by omega), List.take_of_length_le (by omega)]
    | succ k =>
      simp only [List.getElem?_cons_succ] at hk
      rw [e, List.drop_append, show 8 * (k + 1) - (Wd.le 8 y).length = 8 * k by omega, List.drop_of_length_le (by omega), List.nil_append]
      exact ih k hk
theorem tun_tbs (t : List Nat) (ht : t.length = 512) (hx : ∀ x ∈ t, x < 18446744073709551616) : tun (tbs t) = t := by
  apply List.ext_getElem?
  intro k
  by_cases hk : k < 512
  · have h1 : t[k]? = some t[k] := List.getElem?_eq_getElem (by omega)
    rw [tun_get _ _ hk, tbs_at t k _ h1, Wd.unle_le, h1, Nat.mod_eq_of_lt]
    exact hx _ (List.getElem_mem _)
  · rw [List.getElem?_eq_none (by rw [tun_len]; omega), List.getElem?_eq_none (by omega)]
theorem tbs_range (bs : List Nat) (hb : ∀ b ∈ bs, b < 256) (m : Nat) (hm : 8 * m ≤ bs.length) : tbs ((List.range m).map fun i => Wd.unle ((bs.drop (8 * i)).take 8)) = bs.take (8 * m) := by
  induction m with
  | zero => rfl
  | succ m ih =>
    have h1 := ih (by omega)
    have h2 := Wd.le_unle ((bs.drop (8 * m)).take 8) (fun b hb' => hb b (List.mem_of_mem_drop (List.mem_of_mem_take hb')))
    have h3 : ((bs.drop (8 * m)).take 8).length = 8 := by rw [List.length_take, List.length_drop]; omega
    rw [h3] at h2
    rw [List.range_succ, List.map_append, tbs, List.flatMap_append, ← tbs, h1]
    simp only [List.map_cons, List.map_nil, List.flatMap_cons, List.flatMap_nil, List.append_nil, h2]
    rw [show 8 * (m + 1) = 8 * m + 8 by omega, List.take_add]
theorem tbs_tun (bs : List Nat) (hl : bs.length = 4096) (hb : ∀ b ∈ bs, b < 256) : tbs (tun bs) = bs := by
  have h := tbs_range bs hb 512 (by omega)
  unfold tun
  rw [h]
  exact List.take_of_length_le (by omega)
theorem tun_lt (bs : List Nat) (hb : ∀ b ∈ bs, b < 256) : ∀ x ∈ tun bs, x < 18446744073709551616 := by
  intro x hx
  simp only [tun, List.mem_map, List.mem_range] at hx
  obtain ⟨i, _, rfl⟩ := hx
  have h := Wd.unle_lt ((bs.drop (8 * i)).take 8) (fun b hb' => hb b (List.mem_of_mem_drop (List.mem_of_mem_take hb')))
  have h2 : ((bs.drop (8 * i)).take 8).length ≤ 8 := by rw [List.length_take]; omega
  have h3 : (256 : Nat) ^ ((bs.drop (8 * i)).take 8).length ≤ 256 ^ 8 := Nat.pow_le_pow_right (by omega) h2
  have h4 : (256 : Nat) ^ 8 = 18446744073709551616 := by decide
  omega
theorem wpList_load_midw {P : Program} {ops : Array Oper} {rest : List Oper} {op : Oper} {a : Act} {w : World} {Q : Exit → Act → World → Prop} (hw : Region.wanted op (yielded ops a.tmps) = true) (ty : TypeId) (x : Operand) (ho : op.op = .load ty x)
    (b o : Nat) (hx : a.eval x = .pointer (some ⟨b, o, none⟩)) (cs : List Value) (d : TypeDesc) (hc : w.rangeAt b o cs)
    (hu : P.underlying ty = some d) (hd : d.isRow = true) (hi : (P.info? ty).map (·.size) = some cs.length)
    (h : wpList P ops Q rest (a.put op.dst (.agg cs.toArray)) w) : wpList P ops Q (op :: rest) a w :=
  wpList_wanted hw fun _ hK => wp_load_mid ty x ho b o hx cs d hc hu hd hi (hK _ _ h)
theorem row_rangeAt {w : World} {g : Nat} {t : TypeId} {V : List Value} (h : Row w g t V) : w.rangeAt g 0 V := fun j v hv => by rw [Nat.zero_add, h.cell, hv]
end Go.Proofs.Ytblfagmoilhdnaa

/- The walks of pages.unit, ends, right. -/
set_option linter.unusedVariables false
set_option linter.unusedSimpArgs false
namespace Go.Proofs.Ytblfagmoilhdnaa
open Go.RowKit

def lcells (r : Pg.Lf) : List Value := [.int .u64 (r.v : Nat), .int .u64 (r.p : Nat), .int .i64 r.n, .bool r.b, .bool r.w, .bool r.x]
def lfV (r : Pg.Lf) : Value := .agg #[.int .u64 (r.v : Nat), .int .u64 (r.p : Nat), .int .i64 r.n, .bool r.b, .bool r.w, .bool r.x]
/-- numbers as their fields hold them -/
def Pg.Lf.In (r : Pg.Lf) : Prop := r.v < 18446744073709551616 ∧ r.p < 18446744073709551616 ∧ -9223372036854775808 ≤ r.n ∧ r.n < 9223372036854775808
/-- the slice reads as these rows -/
def IsL (w : World) (B : Nat) (A : Option Addr) (n : Nat) (rows : List Pg.Lf) : Prop := Reads w B 6 A n (rows.flatMap lcells) ∧ (∀ r ∈ rows, r.In) ∧ rows.length = n ∧ n ≤ 9223372036854775807
theorem IsL.below {w w' : World} {B n : Nat} {A : Option Addr} {rows : List Pg.Lf} (h : IsL w B A n rows) (hb : Below B w w') : IsL w' B A n rows := ⟨h.1.below hb, h.2⟩
theorem IsL.more {w : World} {B B' n : Nat} {A : Option Addr} {rows : List Pg.Lf} (h : IsL w B A n rows) (hb : B ≤ B') : IsL w B' A n rows := ⟨h.1.more hb, h.2⟩
theorem lcells_len (r : Pg.Lf) : (lcells r).length = 6 := rfl
theorem flat_at {α β : Type} (f : α → List β) (sz : Nat) (hf : ∀ a, (f a).length = sz) : ∀ (xs : List α) (k j : Nat) (a : α), xs[k]? = some a → j < sz → (xs.flatMap f)[sz * k + j]? = (f a)[j]?
  | [], k, j, a, h, _ => by simp at h
  | x :: xs, 0, j, a, h, hj => by
    simp at h; subst h
    rw [List.flatMap_cons, Nat.mul_zero, Nat.zero_add, List.getElem?_append_left (by rw [hf]; exact hj)]
  | x :: xs, k + 1, j, a, h, hj => by
    rw [List.flatMap_cons, List.getElem?_append_right (by rw [hf, Nat.mul_succ]; omega), hf, Nat.mul_succ, show sz * k + sz + j - sz = sz * k + j by omega]
    exact flat_at f sz hf xs k j a (by simpa using h) hj
/-- where its cells lie -/
theorem IsL.form {w : World} {B n : Nat} {A : Option Addr} {rows : List Pg.Lf} (h : IsL w B A n rows) :
    ∃ b off, Hid (0 < n → A = some ⟨b, off, none⟩ ∧ b < B ∧ ∀ k r, rows[k]? = some r → ∀ j u, (lcells r)[j]? = some u → w.cell? ⟨b, off + k * 6 + j, none⟩ = some u) := by
  rcases Nat.eq_zero_or_pos n with h0 | h0
  · exact ⟨0, 0, fun h => absurd h (by omega)⟩
  · obtain ⟨⟨b, off, sp⟩, rfl, hb, hc⟩ := h.1.2 h0
    have hx : ∀ k r, rows[k]? = some r → ∀ j u, (lcells r)[j]? = some u → (rows.flatMap lcells)[6 * k + j]? = some u := fun k r hr j u hu => by
      rw [flat_at lcells 6 lcells_len rows k j r hr (List.getElem?_eq_some_iff.1 hu).1, hu]
    have hl := h.2.2.1
    have hs : sp = none := by
      have h0r : ∃ r, rows[0]? = some r := ⟨_, List.getElem?_eq_getElem (by omega)⟩
      obtain ⟨r, hr⟩ := h0r
      have := World.cell?_spot (hc 0 _ (hx 0 r hr 0 _ rfl))
      simpa [Addr.add] using this
    subst hs
    refine ⟨b, off, fun _ => ⟨rfl, hb, fun k r hr j u hu => ?_⟩⟩
    have := hc _ _ (hx k r hr j u hu)
    rw [show off + k * 6 + j = off + (6 * k + j) by omega]
    unfold Addr.add at this
    split at this
    · rename_i h0; rw [h0, Nat.add_zero]; exact this
    · exact this
set_option maxRecDepth 100000 in
theorem unit_any (r : Pg.Lf) (w : World) : Calls Try.prog 66 #[lfV r] w fun e w' => e = .returned (.int .u64 (r.u : Nat)) ∧ Below w.heap.size w w' := by
  unfold lfV
  have hu : r.u = if r.b then 2097152 else 4096 := rfl
  cases hb : r.b
  · rw [hb] at hu
    have HU := Lib.hid hu
    clear hu hb
    go_enter Try.func66, Try.ntmps66
    go_wp2
    go_ret
    exact ⟨by rw [HU.out]; rfl, (Below.refl _ _).alloc (Nat.le_refl _) _⟩
  · rw [hb] at hu
    have HU := Lib.hid hu
    clear hu hb
    go_enter Try.func66, Try.ntmps66
    go_wp2
    go_ret
    exact ⟨by rw [HU.out]; rfl, (Below.refl _ _).alloc (Nat.le_refl _) _⟩
def Pg.endsB (a : Nat) (n most : Nat) : Bool := !(decide (most ≤ a) || decide ((most - a) / 4096 < n))
theorem ends_ok (a n most : Nat) (w : World) (h1 : a < most) (h2 : n ≤ (most - a) / 4096) (hm : most ≤ 549755813888) :
    Calls Try.prog 42 #[.int .u64 (a : Nat), .int .i64 (n : Nat), .int .u64 (most : Nat)] w fun e w' => e = .returned (.tuple #[.int .u64 ((a + n * 4096 : Nat) : Int), .bool true]) ∧ w = w' := by
  have e0 : decide ((most : Nat) ≤ a) = false := decide_eq_false (by omega)
  have e1 : IntKind.u64.wrap (n : Int) = (n : Int) := by rw [IntKind.wrap_u64]; omega
  have e2 : ((most : Int) - (a : Int)) % 18446744073709551616 = ((most - a : Nat) : Int) := by omega
  have HA : Hid ((a : Int) + (n : Int) * 4096 = ((a + n * 4096 : Nat) : Int)) := Lib.hid (by omega)
  go_enter Try.func42, Try.ntmps42
  go_wp2
  go_ret2
  exact ⟨by rw [← HA.out]; rfl, rfl⟩
theorem ends_no (a n most : Nat) (w : World) (h : most ≤ a ∨ (most - a) / 4096 < n) (hm : most ≤ 549755813888) (ha : a < 18446744073709551616) (hn : n < 9223372036854775808) :
    Calls Try.prog 42 #[.int .u64 (a : Nat), .int .i64 (n : Nat), .int .u64 (most : Nat)] w fun e w' => e = .returned (.tuple #[.int .u64 0, .bool false]) ∧ w = w' := by
  by_cases h1 : most ≤ a
  · have e0 : decide ((most : Nat) ≤ a) = true := decide_eq_true h1
    clear h
    go_enter Try.func42, Try.ntmps42
    go_wp2
    go_ret2
    exact ⟨rfl, rfl⟩
  · have e0 : decide ((most : Nat) ≤ a) = false := decide_eq_false h1
    have h2 : (most - a) / 4096 < n := by omega
    have e1 : IntKind.u64.wrap (n : Int) = (n : Int) := by rw [IntKind.wrap_u64]; omega
    have e2 : ((most : Int) - (a : Int)) % 18446744073709551616 = ((most - a : Nat) : Int) := by omega
    have e3 : decide (((most : Int) - (a : Int)) / 4096 < (n : Int)) = true := decide_eq_true (by omega)
    clear h
    go_enter Try.func42, Try.ntmps42
    go_wp2
    all_goals
      go_ret2
      exact ⟨rfl, rfl⟩
theorem right_eq (bh v p nm : Nat) (b w x : Bool) (rs : List Pg.Lf) : Pg.right bh (⟨v, p, (nm : Nat), b, w, x⟩ :: rs) =
    if (nm : Int) < 1 ∨ nm * 4096 % Pg.Lf.u ⟨v, p, (nm : Nat), b, w, x⟩ ≠ 0 then 32
    else if v % Pg.Lf.u ⟨v, p, (nm : Nat), b, w, x⟩ ≠ 0 ∨ p % Pg.Lf.u ⟨v, p, (nm : Nat), b, w, x⟩ ≠ 0 then 33
    else if 549755813888 ≤ v ∨ (549755813888 - v) / 4096 < nm then 40
    else if 4294967296 ≤ p ∨ (4294967296 - p) / 4096 < nm then 34
    else if v < bh then 120
    else Pg.right (v + nm * 4096) rs := rfl
set_option maxRecDepth 100000 in
set_option maxHeartbeats 1000000 in
theorem right_any (A : Option Addr) (n c : Nat) (rows : List Pg.Lf) (w : World) (hr : IsL w w.heap.size A n rows) :
    Calls Try.prog 53 #[.slice A n c] w fun e w' => e = .returned (.int .i64 (Pg.right 0 rows : Nat)) ∧ Below w.heap.size w w' := by
  obtain ⟨b, off, HF⟩ := hr.form
  have HL := Lib.hid hr.2.2.1
  have HIN := Lib.hid hr.2.1
  have hn := hr.2.2.2
  clear hr
  go_enter Try.func53, Try.ntmps53
  go_wp2
  go_loopw [3, 13] (fun h i wr => ∃ k bh : Nat, k ≤ n ∧ i = .int .i64 k ∧ h = .int .u64 bh ∧ Hid (bh ≤ 549755813888) ∧ Hid (Pg.right bh (rows.drop k) = Pg.right 0 rows) ∧ Hid (Below w.heap.size w wr)) (fun _ i _ => n - (intOf i).toNat)
  case atStart => exact ⟨0, 0, by omega, rfl, rfl, Lib.hid (by omega), Lib.hid rfl, Lib.hid (Below.refl _ _)⟩
  case round =>
    obtain ⟨k, bh, hk, rfl, rfl, HBH, HR, HB⟩ := hrel
    by_cases hkn : k < n
    · obtain ⟨hA, hbB, hc⟩ := HF.out (by omega)
      subst hA
      obtain ⟨r, hrk⟩ : ∃ r, rows[k]? = some r := ⟨_, List.getElem?_eq_getElem (by have := HL.out; omega)⟩
      have hIn := HIN.out r (List.mem_of_getElem? hrk)
      have hd : rows.drop k = r :: rows.drop (k + 1) := by
        obtain ⟨hlt, he⟩ := List.getElem?_eq_some_iff.1 hrk
        rw [List.drop_eq_getElem_cons hlt, he]
      have c0 := (HB.out.cell (p := ⟨b, off + k * 6, none⟩) hbB).trans (hc k r hrk 0 _ rfl)
      have c1 := (HB.out.cell (p := ⟨b, off + k * 6 + 1, none⟩) hbB).trans (hc k r hrk 1 _ rfl)
      have c2 := (HB.out.cell (p := ⟨b, off + k * 6 + 2, none⟩) hbB).trans (hc k r hrk 2 _ rfl)
      have c3 := (HB.out.cell (p := ⟨b, off + k * 6 + 3, none⟩) hbB).trans (hc k r hrk 3 _ rfl)
      have c4 := (HB.out.cell (p := ⟨b, off + k * 6 + 4, none⟩) hbB).trans (hc k r hrk 4 _ rfl)
      have c5 := (HB.out.cell (p := ⟨b, off + k * 6 + 5, none⟩) hbB).trans (hc k r hrk 5 _ rfl)
      obtain ⟨v, p, m, bg, wt, ex⟩ := r
      clear hc
      go_wp2_with fail
      obtain ⟨g, hg⟩ : ∃ g, g = wr.heap.size := ⟨_, rfl⟩
      have hrow := Row.new wr 47 (lcells ⟨v, p, m, bg, wt, ex⟩)
      have hba : Below w.heap.size w (wr.alloc (.cells (lcells ⟨v, p, m, bg, wt, ex⟩).toArray 47)) := HB.out.alloc HB.out.size _
      have hbs := HB.out.size
      unfold lcells at hrow hba
      refine (unit_any ⟨v, p, m, bg, wt, ex⟩ _).mono ?_
      rintro e w2 ⟨rfl, hb2⟩
      have hrow2 := hrow.below hb2 hrow.lt
      have hba2 := hba.trans (hb2.mono (Nat.le_trans HB.out.size (by simp)))
      rw [← hg] at hrow2 ⊢
      have d0 := hrow2.cell 0
      have d1 := hrow2.cell 1
      have d2 := hrow2.cell 2
      have d3 := hrow2.cell 3
      have d4 := hrow2.cell 4
      have d5 := hrow2.cell 5
      simp at d0 d1 d2 d3 d4 d5
      have hgl := hrow2.lt
      obtain ⟨U, hU⟩ : ∃ U, U = Pg.Lf.u ⟨v, p, m, bg, wt, ex⟩ := ⟨_, rfl⟩
      have hU0 : 0 < U := by rw [hU]; rcases Pg.Lf.u_or ⟨v, p, m, bg, wt, ex⟩ with h | h <;> rw [h] <;> omega
      have hUU : U = 2097152 ∨ U = 4096 := by rw [hU]; exact Pg.Lf.u_or _
      rw [← hU]
      have HU := Lib.hid hU
      have HB2 := Lib.hid hba2
      have HUU := Lib.hid hUU
      have HRK := Lib.hid hrk
      have HD := Lib.hid hd
      have HI := Lib.hid hIn
      have hIn1 := hIn.1; have hIn2 := hIn.2.1; have hIn3 := hIn.2.2.1; have hIn4 := hIn.2.2.2
      simp only at hIn1 hIn2 hIn3 hIn4
      clear hrow hba hb2 hrow2 hba2 hU hUU hrk hd hIn hg c0 c1 c2 c3 c4 c5 HF HB
      by_cases q1 : m < 1
      · go_wp2_with fail
        go_ret
        refine ⟨?_, HB2.out⟩
        rw [← HR.out, HD.out]
        unfold Pg.right
        rw [if_pos (.inl q1)]
        rfl
      obtain ⟨nm, rfl⟩ : ∃ nm : Nat, m = nm := ⟨m.toNat, by omega⟩
      have q1' : decide ((nm : Int) < 1) = false := decide_eq_false q1
      have e1 : IntKind.u64.wrap (nm : Int) = (nm : Int) := by rw [IntKind.wrap_u64]; omega
      obtain ⟨Y, hY⟩ : ∃ Y, Y = nm * 4096 % 18446744073709551616 := ⟨_, rfl⟩
      have e2 : (nm : Int) * 4096 % 18446744073709551616 = (Y : Int) := by rw [hY]; omega
      have e2' : IntKind.u64.wrap ((nm : Int) * 4096) = (Y : Int) := by rw [IntKind.wrap_u64]; exact e2
      have hYU : Y % U = nm * 4096 % U := by
        rw [hY]
        rcases HUU.out with h | h <;> rw [h] <;> omega
      have HYU := Lib.hid hYU
      have hYm : (Y : Int) % (U : Int) = ((Y % U : Nat) : Int) := by simp
      obtain ⟨z1, hz1⟩ : ∃ z, z = Y % U := ⟨_, rfl⟩
      rw [← hz1] at hYm
      have HZ1 := Lib.hid hz1
      clear hY hYU hz1 q1
      by_cases q2 : z1 ≠ 0
      · have f2 : ((z1 : Int) != 0) = true := by rw [bne_iff_ne]; omega
        go_wp2_with fail
        go_ret
        refine ⟨?_, HB2.out⟩
        rw [← HR.out, HD.out]
        have h0 : nm * 4096 % Pg.Lf.u ⟨v, p, nm, bg, wt, ex⟩ ≠ 0 := by rw [← HU.out, ← HYU.out, ← HZ1.out]; exact q2
        rw [right_eq, if_pos (.inr h0)]
        rfl
      have g1 : Hid (¬ (((nm : Nat) : Int) < 1 ∨ nm * 4096 % Pg.Lf.u ⟨v, p, nm, bg, wt, ex⟩ ≠ 0)) := Lib.hid (by
        rintro (h | h)
        · exact (of_decide_eq_false q1') h
        · rw [← HU.out, ← HYU.out, ← HZ1.out] at h; exact q2 h)
      have f2 : ((z1 : Int) != 0) = false := by rw [bne_eq_false_iff_eq]; omega
      clear q2
      have hvm : (v : Int) % (U : Int) = ((v % U : Nat) : Int) := by simp
      have hpm : (p : Int) % (U : Int) = ((p % U : Nat) : Int) := by simp
      obtain ⟨z2, hz2⟩ : ∃ z, z = v % U := ⟨_, rfl⟩
      obtain ⟨z3, hz3⟩ : ∃ z, z = p % U := ⟨_, rfl⟩
      rw [← hz2] at hvm
      rw [← hz3] at hpm
      have HZ2 := Lib.hid hz2
      have HZ3 := Lib.hid hz3
      clear hz2 hz3
      by_cases q3 : z2 ≠ 0
      · have f3 : ((z2 : Int) != 0) = true := by rw [bne_iff_ne]; omega
        go_wp2_with fail
        go_ret
        refine ⟨?_, HB2.out⟩
        rw [← HR.out, HD.out]
        have h0 : v % Pg.Lf.u ⟨v, p, nm, bg, wt, ex⟩ ≠ 0 := by rw [← HU.out, ← HZ2.out]; exact q3
        rw [right_eq, if_neg g1.out, if_pos (.inl h0)]
        rfl
      have f3 : ((z2 : Int) != 0) = false := by rw [bne_eq_false_iff_eq]; omega
      by_cases q4 : z3 ≠ 0
      · have f4 : ((z3 : Int) != 0) = true := by rw [bne_iff_ne]; omega
        have Q3 := Lib.hid q3
        clear q3
        go_wp2_with fail
        go_ret
        refine ⟨?_, HB2.out⟩
        rw [← HR.out, HD.out]
        have h0 : p % Pg.Lf.u ⟨v, p, nm, bg, wt, ex⟩ ≠ 0 := by rw [← HU.out, ← HZ3.out]; exact q4
        rw [right_eq, if_neg g1.out, if_pos (.inr h0)]
        rfl
      have f4 : ((z3 : Int) != 0) = false := by rw [bne_eq_false_iff_eq]; omega
      have g2 : Hid (¬ (v % Pg.Lf.u ⟨v, p, nm, bg, wt, ex⟩ ≠ 0 ∨ p % Pg.Lf.u ⟨v, p, nm, bg, wt, ex⟩ ≠ 0)) := Lib.hid (by
        rintro (h | h)
        · rw [← HU.out, ← HZ2.out] at h; exact q3 h
        · rw [← HU.out, ← HZ3.out] at h; exact q4 h)
      clear q3 q4
      by_cases q5 : 549755813888 ≤ v ∨ (549755813888 - v) / 4096 < nm
      · have Q5 := Lib.hid q5
        have HE := Lib.hid (ends_no v nm 549755813888 w2 q5 (by omega) (by omega) (by omega))
        clear q5
        go_wp2_with fail
        refine HE.out.mono ?_
        rintro e w3 ⟨rfl, rfl⟩
        go_wp2_with fail
        go_ret
        refine ⟨?_, HB2.out⟩
        rw [← HR.out, HD.out]
        rw [right_eq, if_neg g1.out, if_neg g2.out, if_pos Q5.out]
        rfl
      have HE := Lib.hid (ends_ok v nm 549755813888 w2 (by omega) (by omega) (by omega))
      have Q5 := Lib.hid q5
      have HV : Hid (v + nm * 4096 ≤ 549755813888) := Lib.hid (by omega)
      clear q5
      by_cases q6 : 4294967296 ≤ p ∨ (4294967296 - p) / 4096 < nm
      · have Q6 := Lib.hid q6
        have HE2 := Lib.hid (ends_no p nm 4294967296 w2 q6 (by omega) (by omega) (by omega))
        clear q6
        go_wp2_with fail
        refine HE.out.mono ?_
        rintro e w3 ⟨rfl, rfl⟩
        go_wp2_with fail
        refine HE2.out.mono ?_
        rintro e w3 ⟨rfl, rfl⟩
        go_wp2_with fail
        go_ret
        refine ⟨?_, HB2.out⟩
        rw [← HR.out, HD.out]
        rw [right_eq, if_neg g1.out, if_neg g2.out, if_neg Q5.out, if_pos Q6.out]
        rfl
      have HE2 := Lib.hid (ends_ok p nm 4294967296 w2 (by omega) (by omega) (by omega))
      have Q6 := Lib.hid q6
      clear q6
      by_cases q7 : v < bh
      · have f7 : decide ((v : Nat) < bh) = true := decide_eq_true q7
        have Q7 := Lib.hid q7
        clear q7
        go_wp2_with fail
        refine HE.out.mono ?_
        rintro e w3 ⟨rfl, rfl⟩
        go_wp2_with fail
        refine HE2.out.mono ?_
        rintro e w3 ⟨rfl, rfl⟩
        go_wp2_with fail
        go_ret
        refine ⟨?_, HB2.out⟩
        rw [← HR.out, HD.out]
        rw [right_eq, if_neg g1.out, if_neg g2.out, if_neg Q5.out, if_neg Q6.out, if_pos Q7.out]
        rfl
      · have f7 : decide ((v : Nat) < bh) = false := decide_eq_false q7
        have Q7 := Lib.hid q7
        clear q7
        go_wp2_with fail
        refine HE.out.mono ?_
        rintro e w3 ⟨rfl, rfl⟩
        go_wp2_with fail
        refine HE2.out.mono ?_
        rintro e w3 ⟨rfl, rfl⟩
        go_wp2_with fail
        go_roundw
        case rel =>
          refine ⟨k + 1, v + nm * 4096, by omega, by go_num, rfl, HV, Lib.hid ?_, HB2⟩
          have := HR.out
          rw [HD.out] at this
          rw [right_eq, if_neg g1.out, if_neg g2.out, if_neg Q5.out, if_neg Q6.out, if_neg Q7.out] at this
          exact this
        case measure => simp [intOf]; omega
    · have HK : Hid (k = n) := Lib.hid (by omega)
      go_wp2
      go_ret
      refine ⟨?_, HB.out⟩
      rw [← HR.out, HK.out, List.drop_of_length_le (Nat.le_of_eq HL.out)]
      rfl
end Go.Proofs.Ytblfagmoilhdnaa

/- Closed facts on new tables. -/
set_option linter.unusedVariables false
set_option linter.unusedSimpArgs false
namespace Go.Proofs.Ytblfagmoilhdnaa
open Go.RowKit

theorem tab_built (w : World) : (Instr.buildSlice 42 1 #[(0, .agg (zeros 512).toArray)]).run Try.prog w = .ok (.slice (some ⟨w.heap.size, 0, none⟩) 1 1) (w.alloc (.cells (zeros 512).toArray 24)) := by
  kernel_rfl
theorem tab_made (w : World) : (Instr.makeSlice 42 (.int .i64 1) (.int .i64 1)).run Try.prog w = .ok (.slice (some ⟨w.heap.size, 0, none⟩) 1 1) (w.alloc (.cells (zeros 512).toArray 24)) := by
  kernel_rfl
theorem infoTabA : (Try.prog.info? 24).map (fun i => (i.zero, i.size, i.bytes)) = some (some (.agg (zeros 512).toArray), 512, 4096) := by kernel_rfl
end Go.Proofs.Ytblfagmoilhdnaa

/- Plain law: what an entry says at a level, the entry that says it, and that each is the other's inverse. No program in sight. -/
set_option linter.unusedVariables false
set_option linter.unusedSimpArgs false
namespace Go.Proofs.Ytblfagmoilhdnaa.Ent
/-- an entry's parts: frame, table, big, write, exec -/
structure E where
  F : Nat
  t : Bool
  b : Bool
  w : Bool
  x : Bool
deriving DecidableEq
def zero : E := ⟨0, false, false, false, false⟩
def frame (e : Nat) : Nat := e / 4096 % 1048576 * 4096
def bit (e k : Nat) : Bool := decide (e / k % 2 = 1)
/-- the parts are there, but do they fit the level? -/
def wrong (F : Nat) (lv : Nat) (b w x : Bool) : Bool := (b && (decide (lv ≠ 1) || decide (F % 2097152 ≠ 0))) || (decide (lv < 2) && !b && (w || x))
def say (e lv : Nat) : E × Nat :=
  if e % 2 = 0 then (zero, 41) else
  if e ≠ frame e + e % 16 then (zero, 42) else
  if wrong (frame e) lv (bit e 8) (bit e 2) (bit e 4) then (zero, 42) else (⟨frame e, decide (lv < 2) && !bit e 8, bit e 8, bit e 2, bit e 4⟩, 0)
def num (y : E) : Nat := (((y.F ||| 1) ||| (if y.w then 2 else 0)) ||| (if y.x then 4 else 0)) ||| (if y.b then 8 else 0)
def make (y : E) (lv : Nat) : Nat × Nat := if say (num y) lv = (y, 0) then (num y, 0) else (0, 42)

theorem frame_lt (e : Nat) : frame e < 4294967296 := by unfold frame; omega
theorem frame_of (e : Nat) : frame e = (e / 4096 % 1048576) <<< 12 := by unfold frame; rw [Nat.shiftLeft_eq]
theorem tb_frame (e i : Nat) : (frame e).testBit i = (decide (12 ≤ i) && decide (i < 32) && e.testBit i) := by
  rw [frame_of, Nat.testBit_shiftLeft]
  rw [show (1048576 : Nat) = 2 ^ 20 from rfl, Nat.testBit_mod_two_pow, show (4096 : Nat) = 2 ^ 12 from rfl, Nat.testBit_div_two_pow]
  by_cases h : 12 ≤ i
  · rw [show i - 12 + 12 = i by omega]
    by_cases h2 : i < 32
    · simp [h, h2, show i - 12 < 20 by omega]
    · simp [h, h2, show ¬ i - 12 < 20 by omega]
  · simp [h]
theorem and_frame (e : Nat) : e &&& 4294963200 = frame e := by
  apply Nat.eq_of_testBit_eq
  intro i
  rw [Nat.testBit_and, tb_frame]
  have h : (4294963200 : Nat) = (2 ^ 20 - 1) <<< 12 := rfl
  rw [h, Nat.testBit_shiftLeft, Nat.testBit_two_pow_sub_one]
  by_cases h1 : 12 ≤ i <;> by_cases h2 : i < 32
  · simp [h1, h2, show i - 12 < 20 by omega]
  · simp [h1, h2, show ¬ i - 12 < 20 by omega]
  · simp [h1]
  · simp [h1]
theorem and_pow (e k : Nat) : e &&& 2 ^ k = e / 2 ^ k % 2 * 2 ^ k := by
  apply Nat.eq_of_testBit_eq
  intro i
  rw [← Nat.shiftLeft_eq, Nat.testBit_and, Nat.testBit_two_pow, Nat.testBit_shiftLeft, show e / 2 ^ k % 2 = e / 2 ^ k % 2 ^ 1 from rfl, Nat.testBit_mod_two_pow, Nat.testBit_div_two_pow]
  by_cases h : k = i
  · subst h; simp
  · by_cases h2 : k ≤ i
    · simp [h, show ¬ i - k < 1 by omega]
    · simp [h, h2]
theorem and2 (e : Nat) : e &&& 2 = e / 2 % 2 * 2 := and_pow e 1
theorem and4 (e : Nat) : e &&& 4 = e / 4 % 2 * 4 := and_pow e 2
theorem and8 (e : Nat) : e &&& 8 = e / 8 % 2 * 8 := and_pow e 3
theorem and_mask (e : Nat) : e &&& 4294963215 = frame e + e % 16 := by
  have h1 : frame e + e % 16 = 2 ^ 12 * (e / 4096 % 1048576) + e % 16 := by unfold frame; omega
  rw [h1]
  apply Nat.eq_of_testBit_eq
  intro i
  rw [Nat.testBit_two_pow_mul_add _ (by omega), Nat.testBit_and]
  have h : (4294963215 : Nat) = 2 ^ 12 * (2 ^ 20 - 1) + (2 ^ 4 - 1) := rfl
  rw [h, Nat.testBit_two_pow_mul_add _ (by decide), Nat.testBit_two_pow_sub_one, Nat.testBit_two_pow_sub_one]
  by_cases h1 : i < 12
  · rw [if_pos h1, if_pos h1, show (16 : Nat) = 2 ^ 4 from rfl, Nat.testBit_mod_two_pow, Bool.and_comm]
  · rw [if_neg h1, if_neg h1, show (1048576 : Nat) = 2 ^ 20 from rfl, Nat.testBit_mod_two_pow, show (4096 : Nat) = 2 ^ 12 from rfl, Nat.testBit_div_two_pow, show i - 12 + 12 = i by omega, Bool.and_comm]
/-- the bits that say nothing -/
theorem rest_zero (e : Nat) (h : e < 18446744073709551616) : (e &&& (18446744073709551615 - 4294963215) = 0) ↔ e = frame e + e % 16 := by
  rw [← and_mask]
  have key : ∀ i, (e &&& (18446744073709551615 - 4294963215)).testBit i = (e.testBit i && !(4294963215 : Nat).testBit i) := by
    intro i
    rw [Nat.testBit_and]
    by_cases hi : i < 64
    · congr 1
      have : ∀ j : Fin 64, ((18446744073709551615 - 4294963215 : Nat)).testBit j.val = !(4294963215 : Nat).testBit j.val := by decide
      exact this ⟨i, hi⟩
    · rw [Nat.testBit_lt_two_pow (x := e) (Nat.lt_of_lt_of_le h (Nat.pow_le_pow_right (n := 2) (by decide) (show 64 ≤ i by omega)))]
      simp
  constructor
  · intro h0
    apply Nat.eq_of_testBit_eq
    intro i
    have := key i
    rw [h0, Nat.zero_testBit] at this
    rw [Nat.testBit_and]
    cases he : e.testBit i
    · simp
    · rw [he] at this; simp at this; rw [this]; rfl
  · intro h1
    apply Nat.eq_of_testBit_eq
    intro i
    rw [key, Nat.zero_testBit]
    have := congrArg (Nat.testBit · i) h1
    simp only [Nat.testBit_and] at this
    cases he : e.testBit i
    · simp
    · rw [he] at this; simp at this; rw [this]; simp
theorem num_tb (y : E) (i : Nat) : (num y).testBit i = (y.F.testBit i || decide (i = 0) || (y.w && decide (i = 1)) || (y.x && decide (i = 2)) || (y.b && decide (i = 3))) := by
  unfold num
  rw [Nat.testBit_or, Nat.testBit_or, Nat.testBit_or, Nat.testBit_or]
  have h1 : (1 : Nat).testBit i = decide (i = 0) := by
    have := Nat.testBit_two_pow (n := 0) (m := i); rw [show (1 : Nat) = 2 ^ 0 from rfl, this]; simp [eq_comm]
  have h2 : (if y.w = true then 2 else 0 : Nat).testBit i = (y.w && decide (i = 1)) := by
    cases y.w
    · simp
    · have := Nat.testBit_two_pow (n := 1) (m := i); rw [if_pos rfl, show (2 : Nat) = 2 ^ 1 from rfl, this]; simp [eq_comm]
  have h3 : (if y.x = true then 4 else 0 : Nat).testBit i = (y.x && decide (i = 2)) := by
    cases y.x
    · simp
    · have := Nat.testBit_two_pow (n := 2) (m := i); rw [if_pos rfl, show (4 : Nat) = 2 ^ 2 from rfl, this]; simp [eq_comm]
  have h4 : (if y.b = true then 8 else 0 : Nat).testBit i = (y.b && decide (i = 3)) := by
    cases y.b
    · simp
    · have := Nat.testBit_two_pow (n := 3) (m := i); rw [if_pos rfl, show (8 : Nat) = 2 ^ 3 from rfl, this]; simp [eq_comm]
  rw [h1, h2, h3, h4]
theorem bit_tb (e k : Nat) : bit e (2 ^ k) = e.testBit k := by
  unfold bit; rw [Nat.testBit_eq_decide_div_mod_eq]
/-- what an entry says is made into that entry again -/
theorem back {e lv : Nat} {y : E} (h : e < 18446744073709551616) (hs : say e lv = (y, 0)) : num y = e := by
  unfold say at hs
  split at hs
  · simp at hs
  · rename_i h2
    split at hs
    · simp at hs
    · rename_i h3
      split at hs
      · simp at hs
      · simp at hs
        subst hs
        have h3 : e &&& 4294963215 = e := by rw [and_mask]; omega
        apply Nat.eq_of_testBit_eq
        intro i
        rw [num_tb]
        simp only
        rw [tb_frame, show (8 : Nat) = 2 ^ 3 from rfl, show (2 : Nat) = 2 ^ 1 from rfl, show (4 : Nat) = 2 ^ 2 from rfl, bit_tb, bit_tb, bit_tb]
        have hi := congrArg (Nat.testBit · i) h3
        simp only [Nat.testBit_and] at hi
        have hm : (4294963215 : Nat).testBit i = (decide (i < 4) || (decide (12 ≤ i) && decide (i < 32))) := by
          have h : (4294963215 : Nat) = 2 ^ 12 * (2 ^ 20 - 1) + (2 ^ 4 - 1) := rfl
          rw [h, Nat.testBit_two_pow_mul_add _ (by decide), Nat.testBit_two_pow_sub_one, Nat.testBit_two_pow_sub_one]
          by_cases h1 : i < 12
          · rw [if_pos h1]; simp [show ¬ 12 ≤ i by omega]
          · rw [if_neg h1]; simp [show ¬ i < 4 by omega, show 12 ≤ i by omega]; omega
        rw [hm] at hi
        have h0 : e.testBit 0 = true := by rw [Nat.testBit_zero]; simp; omega
        by_cases i0 : i = 0
        · subst i0; simp [h0]
        by_cases i1 : i = 1
        · subst i1; simp
        by_cases i2 : i = 2
        · subst i2; simp
        by_cases i3 : i = 3
        · subst i3; simp
        simp [i0, i1, i2, i3]
        simp [show ¬ i < 4 by omega] at hi
        by_cases ha : 12 ≤ i <;> by_cases hb : i < 32
        · simp [ha, hb]
        · simp [hb] at hi; simp [hb, hi]
        · simp [ha] at hi; simp [ha, hi]
        · simp [ha] at hi; simp [ha, hi]
theorem make_back {e lv : Nat} {y : E} (h : e < 18446744073709551616) (hs : say e lv = (y, 0)) : make y lv = (e, 0) := by
  unfold make
  rw [back h hs, if_pos hs]
theorem say_lt {e lv : Nat} {y : E} (hs : say e lv = (y, 0)) : y.F < 4294967296 := by
  unfold say at hs
  split at hs
  · simp at hs
  · split at hs
    · simp at hs
    · split at hs
      · simp at hs
      · simp at hs; subst hs; exact frame_lt e
theorem make_one : make ⟨4194304, false, true, false, true⟩ 1 = (4194317, 0) := by decide
theorem say_one : say 20483 2 = (⟨20480, false, false, true, false⟩, 0) := by decide
theorem num_lt {y : E} (h : y.F < 18446744073709551616) : num y < 18446744073709551616 := by
  unfold num
  refine Nat.or_lt_two_pow (n := 64) (Nat.or_lt_two_pow (n := 64) (Nat.or_lt_two_pow (n := 64) (Nat.or_lt_two_pow (n := 64) h (by decide)) ?_) ?_) ?_ <;> split <;> decide
end Go.Proofs.Ytblfagmoilhdnaa.Ent

/- Plain law: the entries that a builder makes. -/
set_option linter.unusedVariables false
set_option linter.unusedSimpArgs false
namespace Go.Proofs.Ytblfagmoilhdnaa
namespace Pg
theorem or_add {F k : Nat} (h : F % 4096 = 0) (hk : k < 4096) : F ||| k = F + k := by
  have e : F = 2 ^ 12 * (F / 4096) := by omega
  rw [e]
  exact (Nat.two_pow_add_eq_or_of_lt (i := 12) (by simpa using hk) (F / 4096)).symm
theorem num_add {F : Nat} (h : F % 4096 = 0) (t b w x : Bool) : Ent.num ⟨F, t, b, w, x⟩ = F + (1 + (if w then 2 else 0) + (if x then 4 else 0) + (if b then 8 else 0)) := by
  unfold Ent.num
  cases w <;> cases x <;> cases b <;> simp only [Bool.false_eq_true, if_true, if_false, Nat.or_zero, Nat.or_assoc]
  all_goals
    first
    | exact or_add h (by decide)
    | (rw [show (1 ||| (2 ||| (4 ||| 8)) : Nat) = 15 from rfl]; exact or_add h (by decide))
    | (rw [show (1 ||| (2 ||| 4) : Nat) = 7 from rfl]; exact or_add h (by decide))
    | (rw [show (1 ||| (2 ||| 8) : Nat) = 11 from rfl]; exact or_add h (by decide))
    | (rw [show (1 ||| (4 ||| 8) : Nat) = 13 from rfl]; exact or_add h (by decide))
    | (rw [show (1 ||| 2 : Nat) = 3 from rfl]; exact or_add h (by decide))
    | (rw [show (1 ||| 4 : Nat) = 5 from rfl]; exact or_add h (by decide))
    | (rw [show (1 ||| 8 : Nat) = 9 from rfl]; exact or_add h (by decide))
theorem say_add {F : Nat} (h : F % 4096 = 0) (hl : F < 4294967296) (lv : Nat) (b w x : Bool) (hw : Ent.wrong F lv b w x = false) :
    Ent.say (F + (1 + (if w then 2 else 0) + (if x then 4 else 0) + (if b then 8 else 0))) lv = (⟨F, decide (lv < 2) && !b, b, w, x⟩, 0) := by
  obtain ⟨k, hk⟩ : ∃ k, k = 1 + (if w then 2 else 0) + (if x then 4 else 0) + (if b then 8 else 0) := ⟨_, rfl⟩
  rw [← hk]
  have hk16 : k < 16 ∧ k % 2 = 1 := by rw [hk]; cases w <;> cases x <;> cases b <;> decide
  have hb : (k / 8 % 2 = 1) ↔ b = true := by rw [hk]; cases w <;> cases x <;> cases b <;> decide
  have hw2 : (k / 2 % 2 = 1) ↔ w = true := by rw [hk]; cases w <;> cases x <;> cases b <;> decide
  have hx : (k / 4 % 2 = 1) ↔ x = true := by rw [hk]; cases w <;> cases x <;> cases b <;> decide
  have ef : Ent.frame (F + k) = F := by unfold Ent.frame; omega
  have e8 : Ent.bit (F + k) 8 = b := by
    unfold Ent.bit
    rw [Bool.eq_iff_iff, decide_eq_true_iff, ← hb]
    omega
  have e2 : Ent.bit (F + k) 2 = w := by
    unfold Ent.bit
    rw [Bool.eq_iff_iff, decide_eq_true_iff, ← hw2]
    omega
  have e4 : Ent.bit (F + k) 4 = x := by
    unfold Ent.bit
    rw [Bool.eq_iff_iff, decide_eq_true_iff, ← hx]
    omega
  unfold Ent.say
  rw [if_neg (by omega), ef, if_neg (by omega), e8, e2, e4, if_neg (by rw [hw]; simp)]
theorem make_of {F : Nat} (h : F % 4096 = 0) (hl : F < 4294967296) (lv : Nat) (t b w x : Bool) (ht : t = (decide (lv < 2) && !b)) (hw : Ent.wrong F lv b w x = false) :
    Ent.make ⟨F, t, b, w, x⟩ lv = (F + (1 + (if w then 2 else 0) + (if x then 4 else 0) + (if b then 8 else 0)), 0) := by
  unfold Ent.make
  rw [num_add h, say_add h hl lv b w x hw, if_pos (by rw [ht])]
theorem make_table {F : Nat} (h : F % 4096 = 0) (hl : F < 4294967296) : Ent.make ⟨F, true, false, false, false⟩ 0 = (F + 1, 0) := make_of h hl 0 true false false false rfl rfl
theorem make_small {q : Pge} (hq : q.Ok) (hb : q.b = false) : Ent.make ⟨q.p, false, q.b, q.w, q.x⟩ 2 = (q.num, 0) := by
  have hu : q.u = 4096 := by rcases q.u_or with ⟨_, h⟩ | ⟨h, _⟩; rw [hb] at h; cases h; exact h
  have h1 := hq.pa; have h2 := hq.pl
  rw [hu] at h1 h2
  exact make_of h1 (by omega) 2 false q.b q.w q.x (by simp) (by unfold Ent.wrong; rw [hb]; simp)
theorem make_big {q : Pge} (hq : q.Ok) (hb : q.b = true) : Ent.make ⟨q.p, false, q.b, q.w, q.x⟩ 1 = (q.num, 0) := by
  have hu : q.u = 2097152 := by rcases q.u_or with ⟨h, _⟩ | ⟨_, h⟩; exact h; rw [hb] at h; cases h
  have h1 := hq.pa; have h2 := hq.pl
  rw [hu] at h1 h2
  exact make_of (by omega) (by omega) 1 false q.b q.w q.x (by simp [hb]) (by unfold Ent.wrong; rw [hb]; simp; omega)
/-- numbers of an entry -/
theorem num_lt {q : Pge} (hq : q.Ok) : q.num < 18446744073709551616 := by
  have h2 := hq.pl
  unfold Pge.num
  cases q.w <;> cases q.x <;> cases q.b <;> simp <;> omega
theorem ptr_lt (base n : Nat) : ptr base n < 18446744073709551616 := by unfold ptr; omega
theorem setE_len (a : List (List Nat)) (t e x : Nat) : (setE a t e x).length = a.length := by simp [setE]
theorem childE_len (base : Nat) (a : List (List Nat)) (t e : Nat) : (childE base a t e).length = a.length + 1 := by simp [childE, setE_len]
end Pg
end Go.Proofs.Ytblfagmoilhdnaa

/- The walks of walk.Entry and bulkheadref4.Entry: both tell what the plain law's 'say' tells, whatever the entry and the level. -/
set_option linter.unusedVariables false
set_option linter.unusedSimpArgs false
namespace Go.Proofs.Ytblfagmoilhdnaa
open Go.RowKit
open Ent (E)

def eVal (y : E) : Value := .agg #[.int .u64 (y.F : Nat), .bool y.t, .bool y.b, .bool y.w, .bool y.x]
/-- what the walk's tests are told of an entry: its bits, its frame, whether anything else stands in it -/
structure Facts (e F r : Nat) (w x b : Bool) : Prop where
  hF : bits .and .u64 (e : Int) 4294963200 = (F : Int)
  hw : (bits .and .u64 (e : Int) 2 != 0) = w
  hx : (bits .and .u64 (e : Int) 4 != 0) = x
  hb : (bits .and .u64 (e : Int) 8 != 0) = b
  hr : bits .andNot .u64 (e : Int) 4294963215 = (r : Int)
  lt : F < 4294967296
theorem facts (e : Nat) (h : e < 18446744073709551616) : ∃ r, Facts e (Ent.frame e) r (Ent.bit e 2) (Ent.bit e 4) (Ent.bit e 8) ∧ (r = 0 ↔ e = Ent.frame e + e % 16) ∧ bits .and .u64 (e : Int) 1 = ((e % 2 : Nat) : Int) := by
  have b2 : ∀ k : Nat, k < 18446744073709551616 → bits .and .u64 (e : Int) (k : Int) = ((e &&& k : Nat) : Int) := fun k hk => u64_and_nat e k h hk
  refine ⟨e &&& (18446744073709551615 - 4294963215), ⟨?_, ?_, ?_, ?_, ?_, Ent.frame_lt e⟩, Ent.rest_zero e h, ?_⟩
  · rw [← Ent.and_frame]; exact b2 4294963200 (by decide)
  · rw [show bits .and .u64 (e : Int) 2 = ((e &&& 2 : Nat) : Int) from b2 2 (by decide), Ent.and2]
    unfold Ent.bit
    rcases Nat.mod_two_eq_zero_or_one (e / 2) with h | h <;> simp [h]
  · rw [show bits .and .u64 (e : Int) 4 = ((e &&& 4 : Nat) : Int) from b2 4 (by decide), Ent.and4]
    unfold Ent.bit
    rcases Nat.mod_two_eq_zero_or_one (e / 4) with h | h <;> simp [h]
  · rw [show bits .and .u64 (e : Int) 8 = ((e &&& 8 : Nat) : Int) from b2 8 (by decide), Ent.and8]
    unfold Ent.bit
    rcases Nat.mod_two_eq_zero_or_one (e / 8) with h | h <;> simp [h]
  · exact u64_andNot_nat e 4294963215 h (by decide)
  · have := b2 1 (by decide)
    rw [Nat.and_one_is_mod] at this
    exact this

/-- what is told of an entry whose bits are these, at a level that is there; mis: the frame is no great page's -/
def out (F lv : Nat) (w x b mis : Bool) : E × Nat := if (b && (decide (lv ≠ 1) || mis)) || (decide (lv < 2) && !b && (w || x)) then (Ent.zero, 42) else (⟨F, decide (lv < 2) && !b, b, w, x⟩, 0)

set_option maxRecDepth 100000 in
set_option maxHeartbeats 4000000 in
theorem ent_0 (e F r : Nat) (w x b mis : Bool) (W : World) (hf : Facts e F r w x b) (h1 : bits .and .u64 (e : Int) 1 = 1) (hr0 : r = 0) (hm : ((F : Int) % 2097152 != 0) = mis) (y : E) (n : Nat) (ho : Hid (out F 0 w x b mis = (y, n))) :
    Calls Try.prog 54 #[.int .u64 (e : Nat), .int .i64 0] W fun en w' => en = .returned (.tuple #[eVal y, .int .i64 (n : Nat)]) ∧ Below W.heap.size W w' := by
  obtain ⟨hF, hw, hx, hb, hr, hlt⟩ := hf
  subst hr0
  cases b
  · cases w
    · cases x
      all_goals
        have h := ho.out
        simp [out] at h
        obtain ⟨rfl, rfl⟩ := h
        clear ho
        go_enter Try.func54, Try.ntmps54
        go_wp2
        exact bodyPost_ret (v := .tuple #[eVal _, .int .i64 _]) (by simp [results, Try.results54, go_sem]; rfl) rfl ⟨rfl, ((Below.refl _ _).alloc (Nat.le_refl _) _).alloc (by simp) _⟩
    · skip
      have h := ho.out
      simp [out] at h
      obtain ⟨rfl, rfl⟩ := h
      clear ho
      go_enter Try.func54, Try.ntmps54
      go_wp2
      exact bodyPost_ret (v := .tuple #[eVal _, .int .i64 _]) (by simp [results, Try.results54, go_sem]; rfl) rfl ⟨rfl, ((Below.refl _ _).alloc (Nat.le_refl _) _).alloc (by simp) _⟩
  · skip
    have h := ho.out
    simp [out] at h
    obtain ⟨rfl, rfl⟩ := h
    clear ho
    go_enter Try.func54, Try.ntmps54
    go_wp2
    exact bodyPost_ret (v := .tuple #[eVal _, .int .i64 _]) (by simp [results, Try.results54, go_sem]; rfl) rfl ⟨rfl, ((Below.refl _ _).alloc (Nat.le_refl _) _).alloc (by simp) _⟩

set_option maxRecDepth 100000 in
set_option maxHeartbeats 4000000 in
theorem ent_1 (e F r : Nat) (w x b mis : Bool) (W : World) (hf : Facts e F r w x b) (h1 : bits .and .u64 (e : Int) 1 = 1) (hr0 : r = 0) (hm : ((F : Int) % 2097152 != 0) = mis) (y : E) (n : Nat) (ho : Hid (out F 1 w x b mis = (y, n))) :
    Calls Try.prog 54 #[.int .u64 (e : Nat), .int .i64 1] W fun en w' => en = .returned (.tuple #[eVal y, .int .i64 (n : Nat)]) ∧ Below W.heap.size W w' := by
  obtain ⟨hF, hw, hx, hb, hr, hlt⟩ := hf
  subst hr0
  cases b
  · cases w
    · cases x
      all_goals
        have h := ho.out
        simp [out] at h
        obtain ⟨rfl, rfl⟩ := h
        clear ho
        go_enter Try.func54, Try.ntmps54
        go_wp2
        exact bodyPost_ret (v := .tuple #[eVal _, .int .i64 _]) (by simp [results, Try.results54, go_sem]; rfl) rfl ⟨rfl, ((Below.refl _ _).alloc (Nat.le_refl _) _).alloc (by simp) _⟩
    · skip
      have h := ho.out
      simp [out] at h
      obtain ⟨rfl, rfl⟩ := h
      clear ho
      go_enter Try.func54, Try.ntmps54
      go_wp2
      exact bodyPost_ret (v := .tuple #[eVal _, .int .i64 _]) (by simp [results, Try.results54, go_sem]; rfl) rfl ⟨rfl, ((Below.refl _ _).alloc (Nat.le_refl _) _).alloc (by simp) _⟩
  · cases mis
    all_goals
      have h := ho.out
      simp [out] at h
      obtain ⟨rfl, rfl⟩ := h
      clear ho
      go_enter Try.func54, Try.ntmps54
      go_wp2
      exact bodyPost_ret (v := .tuple #[eVal _, .int .i64 _]) (by simp [results, Try.results54, go_sem]; rfl) rfl ⟨rfl, ((Below.refl _ _).alloc (Nat.le_refl _) _).alloc (by simp) _⟩

set_option maxRecDepth 100000 in
set_option maxHeartbeats 4000000 in
theorem ent_2 (e F r : Nat) (w x b mis : Bool) (W : World) (hf : Facts e F r w x b) (h1 : bits .and .u64 (e : Int) 1 = 1) (hr0 : r = 0) (hm : ((F : Int) % 2097152 != 0) = mis) (y : E) (n : Nat) (ho : Hid (out F 2 w x b mis = (y, n))) :
    Calls Try.prog 54 #[.int .u64 (e : Nat), .int .i64 2] W fun en w' => en = .returned (.tuple #[eVal y, .int .i64 (n : Nat)]) ∧ Below W.heap.size W w' := by
  obtain ⟨hF, hw, hx, hb, hr, hlt⟩ := hf
  subst hr0
  cases b
  · skip
    have h := ho.out
    simp [out] at h
    obtain ⟨rfl, rfl⟩ := h
    clear ho
    go_enter Try.func54, Try.ntmps54
    go_wp2
    exact bodyPost_ret (v := .tuple #[eVal _, .int .i64 _]) (by simp [results, Try.results54, go_sem]; rfl) rfl ⟨rfl, ((Below.refl _ _).alloc (Nat.le_refl _) _).alloc (by simp) _⟩
  · skip
    have h := ho.out
    simp [out] at h
    obtain ⟨rfl, rfl⟩ := h
    clear ho
    go_enter Try.func54, Try.ntmps54
    go_wp2
    exact bodyPost_ret (v := .tuple #[eVal _, .int .i64 _]) (by simp [results, Try.results54, go_sem]; rfl) rfl ⟨rfl, ((Below.refl _ _).alloc (Nat.le_refl _) _).alloc (by simp) _⟩

set_option maxRecDepth 100000 in
set_option maxHeartbeats 1000000 in
theorem entbad_0 (e F r : Nat) (w x b : Bool) (W : World) (hf : Facts e F r w x b) (h1 : bits .and .u64 (e : Int) 1 = 1) (hr0 : ((r : Int) != 0) = true) :
    Calls Try.prog 54 #[.int .u64 (e : Nat), .int .i64 0] W fun en w' => en = .returned (.tuple #[eVal Ent.zero, .int .i64 42]) ∧ Below W.heap.size W w' := by
  obtain ⟨hF, hw, hx, hb, hr, hlt⟩ := hf
  go_enter Try.func54, Try.ntmps54
  go_wp2
  exact bodyPost_ret (v := .tuple #[eVal _, .int .i64 _]) (by simp [results, Try.results54, go_sem]; rfl) rfl ⟨rfl, ((Below.refl _ _).alloc (Nat.le_refl _) _).alloc (by simp) _⟩

set_option maxRecDepth 100000 in
set_option maxHeartbeats 1000000 in
theorem entbad_1 (e F r : Nat) (w x b : Bool) (W : World) (hf : Facts e F r w x b) (h1 : bits .and .u64 (e : Int) 1 = 1) (hr0 : ((r : Int) != 0) = true) :
    Calls Try.prog 54 #[.int .u64 (e : Nat), .int .i64 1] W fun en w' => en = .returned (.tuple #[eVal Ent.zero, .int .i64 42]) ∧ Below W.heap.size W w' := by
  obtain ⟨hF, hw, hx, hb, hr, hlt⟩ := hf
  go_enter Try.func54, Try.ntmps54
  go_wp2
  exact bodyPost_ret (v := .tuple #[eVal _, .int .i64 _]) (by simp [results, Try.results54, go_sem]; rfl) rfl ⟨rfl, ((Below.refl _ _).alloc (Nat.le_refl _) _).alloc (by simp) _⟩

set_option maxRecDepth 100000 in
set_option maxHeartbeats 1000000 in
theorem entbad_2 (e F r : Nat) (w x b : Bool) (W : World) (hf : Facts e F r w x b) (h1 : bits .and .u64 (e : Int) 1 = 1) (hr0 : ((r : Int) != 0) = true) :
    Calls Try.prog 54 #[.int .u64 (e : Nat), .int .i64 2] W fun en w' => en = .returned (.tuple #[eVal Ent.zero, .int .i64 42]) ∧ Below W.heap.size W w' := by
  obtain ⟨hF, hw, hx, hb, hr, hlt⟩ := hf
  go_enter Try.func54, Try.ntmps54
  go_wp2
  exact bodyPost_ret (v := .tuple #[eVal _, .int .i64 _]) (by simp [results, Try.results54, go_sem]; rfl) rfl ⟨rfl, ((Below.refl _ _).alloc (Nat.le_refl _) _).alloc (by simp) _⟩

set_option maxRecDepth 100000 in
set_option maxHeartbeats 1000000 in
theorem entabsent (e : Nat) (lv : Int) (W : World) (h1 : bits .and .u64 (e : Int) 1 = 0) (hl : 0 ≤ lv) (hl2 : lv < 3) :
    Calls Try.prog 54 #[.int .u64 (e : Nat), .int .i64 lv] W fun en w' => en = .returned (.tuple #[eVal Ent.zero, .int .i64 41]) ∧ Below W.heap.size W w' := by
  go_enter Try.func54, Try.ntmps54
  go_wp2
  exact bodyPost_ret (v := .tuple #[eVal _, .int .i64 _]) (by simp [results, Try.results54, go_sem]; rfl) rfl ⟨rfl, ((Below.refl _ _).alloc (Nat.le_refl _) _)⟩
set_option maxRecDepth 100000 in
set_option maxHeartbeats 1000000 in
theorem entnone (e : Nat) (lv : Int) (W : World) (hl : lv < 0 ∨ 2 < lv) :
    Calls Try.prog 54 #[.int .u64 (e : Nat), .int .i64 lv] W fun en w' => en = .returned (.tuple #[eVal Ent.zero, .int .i64 1]) ∧ Below W.heap.size W w' := by
  rcases hl with hl | hl
  · go_enter Try.func54, Try.ntmps54
    go_wp2
    exact bodyPost_ret (v := .tuple #[eVal _, .int .i64 _]) (by simp [results, Try.results54, go_sem]; rfl) rfl ⟨rfl, ((Below.refl _ _).alloc (Nat.le_refl _) _)⟩
  · have hl' : ¬ lv < 0 := by omega
    go_enter Try.func54, Try.ntmps54
    go_wp2
    exact bodyPost_ret (v := .tuple #[eVal _, .int .i64 _]) (by simp [results, Try.results54, go_sem]; rfl) rfl ⟨rfl, ((Below.refl _ _).alloc (Nat.le_refl _) _)⟩

end Go.Proofs.Ytblfagmoilhdnaa

/- The walk of bulkheadref4.Entry, by the entry's bits and the level. -/
set_option linter.unusedVariables false
set_option linter.unusedSimpArgs false
namespace Go.Proofs.Ytblfagmoilhdnaa
open Go.RowKit
open Ent (E)

structure FactsR (e F : Nat) (w x b bad : Bool) : Prop where
  hF : (e : Int) / 4096 % 1048576 * 4096 = (F : Int)
  hw : ((e : Int) / 2 % 2 == 1) = w
  hx : ((e : Int) / 4 % 2 == 1) = x
  hb : ((e : Int) / 8 % 2 == 1) = b
  hr : ((e : Int) != (F : Int) + (e : Int) % 16) = bad
  lt : F < 4294967296
  le : e < 18446744073709551616
theorem factsR (e : Nat) (h : e < 18446744073709551616) : FactsR e (Ent.frame e) (Ent.bit e 2) (Ent.bit e 4) (Ent.bit e 8) (decide (e ≠ Ent.frame e + e % 16)) := by
  refine ⟨by unfold Ent.frame; omega, ?_, ?_, ?_, ?_, Ent.frame_lt e, h⟩
  · unfold Ent.bit; rw [Bool.eq_iff_iff]; simp; omega
  · unfold Ent.bit; rw [Bool.eq_iff_iff]; simp; omega
  · unfold Ent.bit; rw [Bool.eq_iff_iff]; simp; omega
  · rw [Bool.eq_iff_iff]; simp; omega

end Go.Proofs.Ytblfagmoilhdnaa

/- walk.Entry and bulkheadref4.Entry at every level: both tell what the plain law's 'say' tells. -/
set_option linter.unusedVariables false
set_option linter.unusedSimpArgs false
namespace Go.Proofs.Ytblfagmoilhdnaa
open Go.RowKit
open Ent (E)
theorem out_say (e lv : Nat) (hp : e % 2 = 1) (hr : e = Ent.frame e + e % 16) (mis : Bool) (hm : mis = decide (Ent.frame e % 2097152 ≠ 0)) : out (Ent.frame e) lv (Ent.bit e 2) (Ent.bit e 4) (Ent.bit e 8) mis = Ent.say e lv := by
  subst hm
  unfold Ent.say out Ent.wrong
  rw [if_neg (show ¬ e % 2 = 0 by omega), if_neg (show ¬ e ≠ Ent.frame e + e % 16 from not_not_intro hr)]
theorem say_absent (e lv : Nat) (hp : e % 2 = 0) : Ent.say e lv = (Ent.zero, 41) := by unfold Ent.say; rw [if_pos hp]
theorem say_bad (e lv : Nat) (hp : e % 2 = 1) (hr : e ≠ Ent.frame e + e % 16) : Ent.say e lv = (Ent.zero, 42) := by unfold Ent.say; rw [if_neg (by omega), if_pos hr]
/-- walk.Entry, at a level that is there -/
theorem entry_any (e lv : Nat) (W : World) (he : e < 18446744073709551616) (hl : lv < 3) :
    Calls Try.prog 54 #[.int .u64 (e : Nat), .int .i64 (lv : Nat)] W fun en w' => en = .returned (.tuple #[eVal (Ent.say e lv).1, .int .i64 ((Ent.say e lv).2 : Nat)]) ∧ Below W.heap.size W w' := by
  obtain ⟨r, hf, hr, h1⟩ := facts e he
  rcases Nat.mod_two_eq_zero_or_one e with hp | hp
  · rw [say_absent e lv hp]
    exact entabsent e lv W (by rw [h1, hp]; rfl) (by omega) (by omega)
  · rw [hp] at h1
    by_cases hr0 : r = 0
    · have ho := out_say e lv hp (hr.1 hr0) ((Ent.frame e : Int) % 2097152 != 0) (by rw [Bool.eq_iff_iff]; simp; omega)
      match lv, hl with
      | 0, _ => exact ent_0 e _ r _ _ _ _ W hf h1 hr0 rfl _ _ (Lib.hid (by rw [ho]))
      | 1, _ => exact ent_1 e _ r _ _ _ _ W hf h1 hr0 rfl _ _ (Lib.hid (by rw [ho]))
      | 2, _ => exact ent_2 e _ r _ _ _ _ W hf h1 hr0 rfl _ _ (Lib.hid (by rw [ho]))
    · rw [say_bad e lv hp (fun h => hr0 (hr.2 h))]
      have hr1 : ((r : Int) != 0) = true := by rw [bne_iff_ne]; omega
      match lv, hl with
      | 0, _ => exact entbad_0 e _ r _ _ _ W hf h1 hr1
      | 1, _ => exact entbad_1 e _ r _ _ _ W hf h1 hr1
      | 2, _ => exact entbad_2 e _ r _ _ _ W hf h1 hr1
end Go.Proofs.Ytblfagmoilhdnaa

/- Small laws on a map that the call itself makes out of a few integer keys, and on ranging over it in whatever order: the world behind a step is written out, draws and all. -/
set_option linter.unusedVariables false
set_option linter.unusedSimpArgs false
namespace Go.Proofs.Ytblfagmoilhdnaa
open Go.RowKit

/-- a store of a new integer key into the map that is the last block -/
theorem run_insert_new {P : Program} (w : World) (mt k e : TypeId) (kd : IntKind) (n : Int) (v : Value) (es : Array MapEntry) (c b : Nat) (hmt : P.underlying mt = some (.map k e)) (hk : P.underlying k = some (.int kd))
    (hn : ∀ x ∈ es.toList, ∃ m : Int, x.key = .int kd m ∧ m ≠ n) (hb : b = w.heap.size) :
    (Instr.mapUpdate mt (.map (some b)) (.int kd n) v).run P (w.alloc (.map es c)) = .ok () (w.alloc (.map (es.push { key := .int kd n, val := v, born := c }) (c + 1))) := by
  subst hb
  have hf : ∀ (l : List MapEntry) (i : Nat), (∀ x ∈ l, ∃ m : Int, x.key = .int kd m ∧ m ≠ n) → Instr.findNow (.int kd) (.int kd n) l i = some none := by
    intro l
    induction l with
    | nil => intro i _; rfl
    | cons x l ih =>
      intro i h
      obtain ⟨m, hm, hne⟩ := h x (by simp)
      simp only [Instr.findNow, hm]
      have : Instr.sameNow (.int kd) (.int kd n) (.int kd m) = some false := by
        simp [Instr.sameNow]
        omega
      rw [this]
      exact ih (i + 1) (fun y hy => h y (by simp [hy]))
  have hset : ∀ o' : Obj, (setObj w.heap.size o').run P (w.alloc (.map es c)) = .ok () (w.alloc o') := fun o' => by
    simp only [setObj, Sem.run]
    rw [heap_alloc_new]
    show Result.ok () ({ w.alloc (.map es c) with heap := (w.heap.push (.map es c)).setIfInBounds w.heap.size o' } : World) = _
    have : (w.heap.push (.map es c)).setIfInBounds w.heap.size o' = w.heap.push o' := by
      apply Array.toList_inj.1; simp
    rw [this]; rfl
  simp only [Instr.mapUpdate, Sem.run_bind, run_underlying hmt, Result.andThen, getObj, Sem.run, heap_alloc_new]
  have hck : (Instr.checkKey false 10000 k (.int kd n)).run P (w.alloc (.map es c)) = .ok () (w.alloc (.map es c)) := by
    exact MapKept.run_checkKey hk (by trivial) false 9999
  have hfk : (Instr.findKey k (.int kd n) es.toList).run P (w.alloc (.map es c)) = .ok none (w.alloc (.map es c)) := by
    exact MapKept.run_findKey hk (hf es.toList 0 hn)
  rw [hck]
  simp only [Result.andThen, hfk, hset]

/-- 'next' over a map that stands as it did: nothing is left, or one entry that is left, whichever, comes out; the world may have been drawn from, once -/
theorem run_next_drew {P : Program} (w : World) (ty : TypeId) (bm since c0 r : Nat) (seen : Array Nat) (es : Array MapEntry) (clock : Nat) (hr : r = w.heap.size) (hb : w.heap[bm]? = some (.map es clock)) (hold : ∀ x ∈ es.toList, x.born < since) (hsc : since ≤ c0) :
    ((leftOf es seen).size = 0 ∧ (Instr.next (.pointer (some ⟨r, 0, none⟩)) false ty).run P (w.alloc (.mapIter (some bm) since seen c0)) = .ok (.tuple #[.bool false]) (w.alloc (.mapIter (some bm) since seen c0))) ∨
    ∃ e ∈ (leftOf es seen).toList, ∃ n : Nat, (Instr.next (.pointer (some ⟨r, 0, none⟩)) false ty).run P (w.alloc (.mapIter (some bm) since seen c0)) = .ok (.tuple #[.bool true, e.key, e.val]) ((w.drewN n).alloc (.mapIter (some bm) since (seen.push e.born) clock)) := by
  subst hr
  have hlt : bm < w.heap.size := by
    rcases Nat.lt_or_ge bm w.heap.size with h | h
    · exact h
    · simp [Array.getElem?_eq_none h] at hb
  have hb' : (w.alloc (.mapIter (some bm) since seen c0)).heap[bm]? = some (.map es clock) := by rw [heap_alloc_old w _ hlt, hb]
  simp only [Instr.next, getObj, Sem.run_bind, Sem.run, heap_alloc_new, hb', Result.andThen, next_test_false seen es since c0 hold hsc, Bool.false_eq_true, if_false]
  unfold leftOf
  have hmem : ∀ x ∈ (Array.filter (fun e => !seen.contains e.born) es).toList, x.born < since := fun x hx => hold x (by simp at hx ⊢; exact hx.1)
  generalize Array.filter (fun e => !seen.contains e.born) es = L at hmem ⊢
  have e1 : L.filter (fun x => decide (x.born < since)) = L := Array.filter_eq_self.2 (fun x hx => by simpa using hmem x (by simpa using hx))
  have e2 : L.filter (fun x => decide (x.born ≥ since)) = #[] := by
    rw [Array.filter_eq_empty_iff]
    intro x hx
    have := hmem x (by simpa using hx)
    simp
    omega
  simp only [e1, e2, Array.append_empty]
  by_cases h0 : L.size = 0
  · left
    obtain rfl : L = #[] := Array.eq_empty_of_size_eq_zero h0
    refine ⟨rfl, ?_⟩
    simp [choose, Sem.run, Question.forced]
  · right
    have hne : L.isEmpty = false := by simp [Array.isEmpty, h0]
    simp only [hne, Bool.false_eq_true, if_false, Array.empty_append, Array.size_map]
    have hch : ∃ (j : Nat) (n : Nat), j < L.size ∧ (choose (Question.mapNext L.size)).run P (w.alloc (.mapIter (some bm) since seen c0)) = .ok j ((w.drewN n).alloc (.mapIter (some bm) since seen c0)) := by
      by_cases hf : L.size ≤ 1
      · exact ⟨0, 0, by omega, by simp [choose, Sem.run, Question.forced, hf]; rfl⟩
      · exact ⟨_, 1, Nat.mod_lt _ (by omega), by
          simp only [choose, Sem.run, Question.forced, decide_eq_true_eq, hf, if_false, Question.cut]
          rfl⟩
    obtain ⟨j, n, hj, hrun⟩ := hch
    refine ⟨L[j], by simp, n, ?_⟩
    have hp : ∀ (h : Array Obj) (x y : Obj), (h.push x).setIfInBounds h.size y = h.push y := by
      intro h x y
      apply Array.toList_inj.1
      simp
    have hset : ∀ (a : Option Nat) (b : Nat) (c : Array Nat) (d : Nat) (o' : Obj), (setObj w.heap.size o').run P ((w.drewN n).alloc (.mapIter a b c d)) = .ok () ((w.drewN n).alloc o') := fun a b c d o' => by
      simp only [setObj, Sem.run]
      have h1 : ((w.drewN n).alloc (.mapIter a b c d)).heap[w.heap.size]? = some (.mapIter a b c d) := heap_alloc_new (w.drewN n) _
      rw [h1]
      show Result.ok () ({ (w.drewN n).alloc (.mapIter a b c d) with heap := ((w.drewN n).heap.push (.mapIter a b c d)).setIfInBounds (w.drewN n).heap.size o' } : World) = _
      rw [hp]
      rfl
    simp only [hrun, Array.getElem?_map, Array.getElem?_eq_getElem hj, Option.map_some, Sem.run_bind, hset, Result.andThen]
    rfl
end Go.Proofs.Ytblfagmoilhdnaa

/- The walks of walk.Make and bulkheadref4.Make: both tell what the plain law's 'make' tells. -/
set_option linter.unusedVariables false
set_option linter.unusedSimpArgs false
namespace Go.Proofs.Ytblfagmoilhdnaa
open Go.RowKit
open Ent (E)

def ent3 (w x b : Bool) : Array MapEntry := #[{ key := .int .u64 2, val := .bool w, born := 0 }, { key := .int .u64 4, val := .bool x, born := 1 }, { key := .int .u64 8, val := .bool b, born := 2 }]
/-- what has been put together when the entries with these stamps have come -/
def acc (F : Nat) (w x b s0 s1 s2 : Bool) : Nat := (((F ||| 1) ||| (if s0 && w then 2 else 0)) ||| (if s1 && x then 4 else 0)) ||| (if s2 && b then 8 else 0)
theorem acc_all (y : E) : acc y.F y.w y.x y.b true true true = Ent.num y := by simp [acc, Ent.num]

theorem neqE (w : World) (z y : E) (c : Bool) (hc : decide (z ≠ y) = c) : (binOp .neq 100 (eVal z) (eVal y)).run Try.prog w = .ok (.bool c) w := by
  subst hc
  obtain ⟨F, t, b, v, x⟩ := z
  obtain ⟨F', t', b', v', x'⟩ := y
  unfold eVal
  go_simp
  by_cases h : F = F'
  · subst h
    cases t <;> cases t' <;> cases b <;> cases b' <;> cases v <;> cases v' <;> cases x <;> cases x' <;> simp
  · have h2 : ¬ (F : Int) = (F' : Int) := by omega
    rw [if_neg h2]; simp [h]
theorem eqlE (w : World) (z y : E) (c : Bool) (hc : decide (z = y) = c) : (binOp .eql 100 (eVal z) (eVal y)).run Try.prog w = .ok (.bool c) w := by
  subst hc
  obtain ⟨F, t, b, v, x⟩ := z
  obtain ⟨F', t', b', v', x'⟩ := y
  unfold eVal
  go_simp
  by_cases h : F = F'
  · subst h
    cases t <;> cases t' <;> cases b <;> cases b' <;> cases v <;> cases v' <;> cases x <;> cases x' <;> simp
  · have h2 : ¬ (F : Int) = (F' : Int) := by omega
    rw [if_neg h2]; simp [h]
theorem or_move (A p X Y : Nat) : ((A ||| p) ||| X) ||| Y = (((A ||| 0) ||| X) ||| Y) ||| p := by
  apply Nat.eq_of_testBit_eq
  intro i
  simp only [Nat.testBit_or, Nat.zero_testBit]
  cases A.testBit i <;> cases p.testBit i <;> cases X.testBit i <;> cases Y.testBit i <;> rfl
theorem or_move2 (A p Y : Nat) : (A ||| p) ||| Y = ((A ||| 0) ||| Y) ||| p := by
  apply Nat.eq_of_testBit_eq
  intro i
  simp only [Nat.testBit_or, Nat.zero_testBit]
  cases A.testBit i <;> cases p.testBit i <;> cases Y.testBit i <;> rfl
theorem acc_step0 (F : Nat) (w x b s1 s2 : Bool) : acc F w x b true s1 s2 = acc F w x b false s1 s2 ||| (if w then 2 else 0) := by
  cases w
  · simp [acc]
  · exact or_move (F ||| 1) 2 _ _
theorem acc_step1 (F : Nat) (w x b s0 s2 : Bool) : acc F w x b s0 true s2 = acc F w x b s0 false s2 ||| (if x then 4 else 0) := by
  cases x
  · simp [acc]
  · exact or_move2 ((F ||| 1) ||| _) 4 _
theorem acc_step2 (F : Nat) (w x b s0 s1 : Bool) : acc F w x b s0 s1 true = acc F w x b s0 s1 false ||| (if b then 8 else 0) := by
  cases b <;> simp [acc]
theorem acc_lt {F : Nat} (h : F < 18446744073709551616) (w x b s0 s1 s2 : Bool) : acc F w x b s0 s1 s2 < 18446744073709551616 := by
  unfold acc
  refine Nat.or_lt_two_pow (n := 64) (Nat.or_lt_two_pow (n := 64) (Nat.or_lt_two_pow (n := 64) (Nat.or_lt_two_pow (n := 64) h (by decide)) ?_) ?_) ?_ <;> split <;> decide
def accS (F : Nat) (w x b : Bool) (seen : Array Nat) : Nat := acc F w x b (seen.contains 0) (seen.contains 1) (seen.contains 2)
/-- what a round does, whichever entry has come -/
theorem acc_round {F : Nat} (h : F < 18446744073709551616) {w x b : Bool} {seen : Array Nat} {e : MapEntry} (he : e ∈ (leftOf (ent3 w x b) seen).toList) :
    ∃ (k : Nat) (on : Bool), e.key = .int .u64 (k : Int) ∧ e.val = .bool on ∧
      (on = true → bits .or .u64 ((accS F w x b seen : Nat) : Int) (k : Int) = ((accS F w x b (seen.push e.born) : Nat) : Int)) ∧
      (on = false → accS F w x b seen = accS F w x b (seen.push e.born)) := by
  unfold accS
  obtain ⟨hm, hs⟩ := mem_left he
  have hb (k : Nat) (hk : k < 18446744073709551616) := u64_or_nat (acc F w x b (seen.contains 0) (seen.contains 1) (seen.contains 2)) k (acc_lt h _ _ _ _ _ _) hk
  simp only [ent3, List.mem_cons, List.not_mem_nil, or_false] at hm
  rcases hm with rfl | rfl | rfl
  · refine ⟨2, w, rfl, rfl, fun hw => ?_, fun hw => ?_⟩
    · refine (hb 2 (by decide)).trans ?_
      have hs0 : seen.contains 0 = false := hs
      simp only [contains_push, hs0]
      subst hw
      have := acc_step0 F true x b (seen.contains 1) (seen.contains 2)
      simp at this ⊢
      rw [this]
    · have hs0 : seen.contains 0 = false := hs
      simp only [contains_push, hs0]
      subst hw
      simp [acc]
  · refine ⟨4, x, rfl, rfl, fun hw => ?_, fun hw => ?_⟩
    · refine (hb 4 (by decide)).trans ?_
      have hs0 : seen.contains 1 = false := hs
      simp only [contains_push, hs0]
      subst hw
      have := acc_step1 F w true b (seen.contains 0) (seen.contains 2)
      simp at this ⊢
      rw [this]
    · have hs0 : seen.contains 1 = false := hs
      simp only [contains_push, hs0]
      subst hw
      simp [acc]
  · refine ⟨8, b, rfl, rfl, fun hw => ?_, fun hw => ?_⟩
    · refine (hb 8 (by decide)).trans ?_
      have hs0 : seen.contains 2 = false := hs
      simp only [contains_push, hs0]
      subst hw
      have := acc_step2 F w x true (seen.contains 0) (seen.contains 1)
      simp at this ⊢
      rw [this]
    · have hs0 : seen.contains 2 = false := hs
      simp only [contains_push, hs0]
      subst hw
      simp [acc]
theorem acc_end {F : Nat} {w x b : Bool} {seen : Array Nat} (h : (leftOf (ent3 w x b) seen).size = 0) (t : Bool) : accS F w x b seen = Ent.num ⟨F, t, b, w, x⟩ := by
  unfold accS
  have ha := all_seen _ _ h
  have h0 := ha _ (show ({ key := .int .u64 2, val := .bool w, born := 0 } : MapEntry) ∈ (ent3 w x b).toList by simp [ent3])
  have h1 := ha _ (show ({ key := .int .u64 4, val := .bool x, born := 1 } : MapEntry) ∈ (ent3 w x b).toList by simp [ent3])
  have h2 := ha _ (show ({ key := .int .u64 8, val := .bool b, born := 2 } : MapEntry) ∈ (ent3 w x b).toList by simp [ent3])
  rw [h0, h1, h2]
  exact acc_all ⟨F, t, b, w, x⟩
theorem ent3_old (w x b : Bool) : ∀ e ∈ (ent3 w x b).toList, e.born < 3 := by
  intro e he
  simp only [ent3, List.mem_cons, List.not_mem_nil, or_false] at he
  rcases he with rfl | rfl | rfl
  · exact (show (0 : Nat) < 3 by decide)
  · exact (show (1 : Nat) < 3 by decide)
  · exact (show (2 : Nat) < 3 by decide)
theorem ent3_nodup (w x b : Bool) : ((ent3 w x b).toList.map (·.born)).Nodup := (show [0, 1, 2].Nodup by decide)
theorem ret2_of {a b : Nat} {p : Nat × Nat} (h : p = (a, b)) : Ending.returned (.tuple #[.int .u64 (a : Int), .int .i64 (b : Int)]) = .returned (.tuple #[.int .u64 (p.1 : Nat), .int .i64 (p.2 : Nat)]) := by subst h; rfl
abbrev boxE (y : E) : Obj := .cells #[.int .u64 (y.F : Nat), .bool y.t, .bool y.b, .bool y.w, .bool y.x] 100
theorem ins1 (W1 : World) (w : Bool) (n : Nat) (hn : n = W1.heap.size) : (Instr.mapUpdate 181 (.map (some n)) (.int .u64 2) (.bool w)).run Try.prog (W1.alloc (.map #[] 0)) = .ok () (W1.alloc (.map #[{ key := .int .u64 2, val := .bool w, born := 0 }] 1)) :=
  run_insert_new W1 _ 22 4 .u64 2 (.bool w) #[] 0 n Try.underlying181 Try.underlying22 (by simp) hn
theorem ins2 (W1 : World) (w x : Bool) (n : Nat) (hn : n = W1.heap.size) : (Instr.mapUpdate 181 (.map (some n)) (.int .u64 4) (.bool x)).run Try.prog (W1.alloc (.map #[{ key := .int .u64 2, val := .bool w, born := 0 }] 1)) = .ok () (W1.alloc (.map #[{ key := .int .u64 2, val := .bool w, born := 0 }, { key := .int .u64 4, val := .bool x, born := 1 }] 2)) :=
  run_insert_new W1 _ 22 4 .u64 4 (.bool x) _ 1 n Try.underlying181 Try.underlying22 (by simp) hn
theorem ins3 (W1 : World) (w x b : Bool) (n : Nat) (hn : n = W1.heap.size) : (Instr.mapUpdate 181 (.map (some n)) (.int .u64 8) (.bool b)).run Try.prog (W1.alloc (.map #[{ key := .int .u64 2, val := .bool w, born := 0 }, { key := .int .u64 4, val := .bool x, born := 1 }] 2)) = .ok () (W1.alloc (.map (ent3 w x b) 3)) :=
  run_insert_new W1 _ 22 4 .u64 8 (.bool b) _ 2 n Try.underlying181 Try.underlying22 (by simp) hn

set_option maxRecDepth 100000 in
set_option maxHeartbeats 1000000 in
theorem make_walk (y : E) (lv : Nat) (W : World) (hy : y.F < 18446744073709551616) (hl : lv < 3) :
    Calls Try.prog 86 #[eVal y, .int .i64 (lv : Nat)] W fun en w' => en = .returned (.tuple #[.int .u64 ((Ent.make y lv).1 : Nat), .int .i64 ((Ent.make y lv).2 : Nat)]) ∧ Below W.heap.size W w' := by
  obtain ⟨F, t, b, w, x⟩ := y
  unfold eVal
  have hmm := @run_makeMap Try.prog
  have hu1 := ins1 (W.alloc (boxE ⟨F, t, b, w, x⟩)) w (W.heap.size + 1) (by simp)
  have hu2 := ins2 (W.alloc (boxE ⟨F, t, b, w, x⟩)) w x (W.heap.size + 1) (by simp)
  have hu3 := ins3 (W.alloc (boxE ⟨F, t, b, w, x⟩)) w x b (W.heap.size + 1) (by simp)
  obtain ⟨es, hes⟩ : ∃ es, es = ent3 w x b := ⟨_, rfl⟩
  rw [← hes] at hu3
  have HES := Lib.hid hes; clear hes
  have hrg := run_range_map (P := Try.prog) ((W.alloc (boxE ⟨F, t, b, w, x⟩)).alloc (.map es 3)) 181 22 4 (W.heap.size + 1) es 3 Try.underlying181 (by have := heap_alloc_new (W.alloc (boxE ⟨F, t, b, w, x⟩)) (.map es 3); simpa using this)
  go_enter Try.func86, Try.ntmps86
  go_wp2_with fail
  clear hmm hu1 hu2 hu3 hrg
  go_loopg [6] 4 (fun k p wr => ∃ (m : Nat) (seen : Array Nat), (leftOf es seen).size < k ∧ wr = (((W.alloc (boxE ⟨F, t, b, w, x⟩)).alloc (.map es 3)).alloc (.mapIter (some (W.heap.size + 1)) 3 seen 3)).drewN m ∧ p = .int .u64 ((accS F w x b seen : Nat) : Int))
  case atStart => exact ⟨0, #[], by rw [HES.out]; simp [leftOf, ent3], rfl, by have := u64_or_nat F 1 hy (by decide); simp [accS, acc]; exact this⟩
  case round =>
    obtain ⟨m, seen, hlt, rfl, rfl⟩ := hrel
    have hbm : (((W.alloc (boxE ⟨F, t, b, w, x⟩)).alloc (.map es 3)).drewN m).heap[W.heap.size + 1]? = some (.map es 3) := by
      have := heap_alloc_new (W.alloc (boxE ⟨F, t, b, w, x⟩)) (.map es 3)
      simpa using this
    have law := run_next_drew (P := Try.prog) (((W.alloc (boxE ⟨F, t, b, w, x⟩)).alloc (.map es 3)).drewN m) 0 (W.heap.size + 1) 3 3 (W.heap.size + 1 + 1) seen es 3 (by simp) hbm (by rw [HES.out]; exact ent3_old w x b) (Nat.le_refl _)
    rcases law with ⟨h0, hrun⟩ | ⟨e, he, n, hrun⟩
    · have hnx : ∀ ty, (Instr.next (.pointer (some ⟨W.heap.size + 1 + 1, 0, none⟩)) false ty).run Try.prog ((((W.alloc (boxE ⟨F, t, b, w, x⟩)).alloc (.map es 3)).alloc (.mapIter (some (W.heap.size + 1)) 3 seen 3)).drewN m) = .ok (.tuple #[.bool false]) ((((W.alloc (boxE ⟨F, t, b, w, x⟩)).alloc (.map es 3)).alloc (.mapIter (some (W.heap.size + 1)) 3 seen 3)).drewN m) := fun _ => hrun
      rw [HES.out] at h0
      have hend := acc_end (F := F) h0 t
      rw [hend]
      have HEND := Lib.hid hend
      clear hrun hbm h0 hend
      go_wp2_with fail
      refine (entry_any _ lv _ (Ent.num_lt hy) hl).mono ?_
      rintro e w1 ⟨rfl, hb1⟩
      obtain ⟨⟨⟨F1, t1, b1, v1, x1⟩, n1⟩, hz⟩ : ∃ z, z = Ent.say (Ent.num ⟨F, t, b, w, x⟩) lv := ⟨_, rfl⟩
      rw [← hz]
      have HZ := Lib.hid hz
      have hrow : Row (((((W.alloc (boxE ⟨F, t, b, w, x⟩)).alloc (.map es 3)).alloc (.mapIter (some (W.heap.size + 1)) 3 seen 3)).drewN m)) W.heap.size 100 [.int .u64 (F : Nat), .bool t, .bool b, .bool w, .bool x] :=
        (((Row.new W 100 [.int .u64 (F : Nat), .bool t, .bool b, .bool w, .bool x]).alloc _).alloc _).drewN m
      have hrow1 := hrow.below hb1 hrow.lt
      have c0 := hrow1.cell 0
      have c1 := hrow1.cell 1
      have c2 := hrow1.cell 2
      have c3 := hrow1.cell 3
      have c4 := hrow1.cell 4
      have hsz1 := hrow1.lt
      simp only [List.getElem?_cons_zero, List.getElem?_cons_succ] at c0 c1 c2 c3 c4
      have hbase : Below W.heap.size W ((((W.alloc (boxE ⟨F, t, b, w, x⟩)).alloc (.map es 3)).alloc (.mapIter (some (W.heap.size + 1)) 3 seen 3)).drewN m) :=
        ⟨rfl, rfl, rfl, by simp; omega, fun k hk => by
          rw [show ((((W.alloc (boxE ⟨F, t, b, w, x⟩)).alloc (.map es 3)).alloc (.mapIter (some (W.heap.size + 1)) 3 seen 3)).drewN m).heap[k]? = (((W.alloc (boxE ⟨F, t, b, w, x⟩)).alloc (.map es 3)).alloc (.mapIter (some (W.heap.size + 1)) 3 seen 3)).heap[k]? from rfl, Below.heap_alloc _ _ _ (by simp; omega), Below.heap_alloc _ _ _ (by simp; omega), Below.heap_alloc _ _ _ (by omega)]⟩
      have HB1 := Lib.hid (hbase.trans (hb1.mono (hbase.size)))
      clear hrow hrow1 hb1 hz hbase
      unfold eVal
      have hfin : Ent.make ⟨F, t, b, w, x⟩ lv = if (⟨F1, t1, b1, v1, x1⟩, n1) = ((⟨F, t, b, w, x⟩ : E), 0) then (Ent.num ⟨F, t, b, w, x⟩, 0) else (0, 42) := by
        unfold Ent.make; rw [← HZ.out]
      have HFIN := Lib.hid hfin
      clear hfin
      by_cases hn : n1 = 0
      · have hn' : ((n1 : Int) != 0) = false := by simp [hn]
        by_cases he : (⟨F1, t1, b1, v1, x1⟩ : E) = ⟨F, t, b, w, x⟩
        · have hne := fun wx => neqE wx ⟨F1, t1, b1, v1, x1⟩ ⟨F, t, b, w, x⟩ false (by simp [he])
          unfold eVal at hne
          rw [if_pos (by rw [he, hn])] at HFIN
          clear hn he
          go_wp2_with fail
          go_ret2
          exact ⟨ret2_of HFIN.out, (HB1.out.alloc (by omega) _)⟩
        · have hne := fun wx => neqE wx ⟨F1, t1, b1, v1, x1⟩ ⟨F, t, b, w, x⟩ true (by simp [he])
          unfold eVal at hne
          rw [if_neg (fun h => he (Prod.mk.inj h).1)] at HFIN
          clear hn he
          go_wp2_with fail
          go_ret2
          exact ⟨ret2_of HFIN.out, (HB1.out.alloc (by omega) _)⟩
      · have hn' : ((n1 : Int) != 0) = true := by rw [bne_iff_ne]; omega
        rw [if_neg (fun h => hn (Prod.mk.inj h).2)] at HFIN
        clear hn
        go_wp2_with fail
        go_ret2
        exact ⟨ret2_of HFIN.out, HB1.out.alloc (by omega) _⟩
    · obtain ⟨k, on, hk, hv, hon, hoff⟩ := acc_round (w := w) (x := x) (b := b) hy (seen := seen) (e := e) (by rw [← HES.out]; exact he)
      have hnx : ∀ ty, (Instr.next (.pointer (some ⟨W.heap.size + 1 + 1, 0, none⟩)) false ty).run Try.prog ((((W.alloc (boxE ⟨F, t, b, w, x⟩)).alloc (.map es 3)).alloc (.mapIter (some (W.heap.size + 1)) 3 seen 3)).drewN m) = .ok (.tuple #[.bool true, .int .u64 (k : Int), .bool on]) ((((W.alloc (boxE ⟨F, t, b, w, x⟩)).alloc (.map es 3)).alloc (.mapIter (some (W.heap.size + 1)) 3 (seen.push e.born) 3)).drewN (m + n)) := fun _ => by
        rw [← hk, ← hv]; refine hrun.trans ?_; rw [World.drewN_drewN]; rfl
      have hen : (Instr.entry (.pointer (some ⟨W.heap.size + 1 + 1, 0, none⟩))).run Try.prog ((((W.alloc (boxE ⟨F, t, b, w, x⟩)).alloc (.map es 3)).alloc (.mapIter (some (W.heap.size + 1)) 3 (seen.push e.born) 3)).drewN (m + n)) = .ok (.tuple #[.int .u64 (k : Int), .bool on]) ((((W.alloc (boxE ⟨F, t, b, w, x⟩)).alloc (.map es 3)).alloc (.mapIter (some (W.heap.size + 1)) 3 (seen.push e.born) 3)).drewN (m + n)) := by
        have := run_entry_map (P := Try.prog) (((W.alloc (boxE ⟨F, t, b, w, x⟩)).alloc (.map es 3)).drewN (m + n)) (W.heap.size + 1) 3 seen es 3 e hbm (by rw [HES.out] at he ⊢; exact (mem_left he).1) (by rw [HES.out]; exact ent3_nodup w x b)
        rw [hk, hv, show (((W.alloc (boxE ⟨F, t, b, w, x⟩)).alloc (.map es 3)).drewN (m + n)).heap.size = W.heap.size + 1 + 1 by simp] at this
        exact this
      have hsh := left_shrinks es seen e he
      have HSH := Lib.hid (show (leftOf es (seen.push e.born)).size < gk - 1 by omega)
      clear hrun hbm hsh he hk hv
      obtain ⟨s', hs'⟩ : ∃ s', s' = seen.push e.born := ⟨_, rfl⟩
      rw [← hs'] at hnx hen HSH hon hoff
      clear hs'
      have HON := Lib.hid hon
      have HOFF := Lib.hid hoff
      clear hon hoff
      cases on
      · have HO := Lib.hid (HOFF.out rfl)
        clear HON HOFF
        go_wp2_with fail
        go_roundg (gk - 1)
        case measure => have := HSH.out; omega
        case rel => exact ⟨_, s', HSH.out, rfl, by rw [HO.out]⟩
      · have HO := Lib.hid (HON.out rfl)
        clear HON HOFF
        go_wp2_with fail
        go_roundg (gk - 1)
        case measure => have := HSH.out; omega
        case rel => exact ⟨_, s', HSH.out, rfl, by rw [HO.out]⟩

set_option maxRecDepth 100000 in
set_option maxHeartbeats 1000000 in
theorem make_none (y : E) (lv : Int) (W : World) (hl : lv < 0 ∨ 2 < lv) :
    Calls Try.prog 86 #[eVal y, .int .i64 lv] W fun en w' => en = .returned (.tuple #[.int .u64 0, .int .i64 1]) ∧ Below W.heap.size W w' := by
  obtain ⟨F, t, b, w, x⟩ := y
  unfold eVal
  rcases hl with hl | hl
  · go_enter Try.func86, Try.ntmps86
    go_wp2_with fail
    go_ret2
    exact ⟨rfl, (Below.refl _ _).alloc (Nat.le_refl _) _⟩
  · have hl' : ¬ lv < 0 := by omega
    go_enter Try.func86, Try.ntmps86
    go_wp2_with fail
    go_ret2
    exact ⟨rfl, (Below.refl _ _).alloc (Nat.le_refl _) _⟩
end Go.Proofs.Ytblfagmoilhdnaa

/- The walks of the builder's child and page. -/
set_option linter.unusedVariables false
set_option linter.unusedSimpArgs false
namespace Go.Proofs.Ytblfagmoilhdnaa
open Go.RowKit

def tcells (all : List (List Nat)) : List Value := all.flatMap (·.map u64v)
def Tabs (all : List (List Nat)) : Prop := ∀ t ∈ all, t.length = 512 ∧ ∀ x ∈ t, x < 18446744073709551616
def bcells (base mid low virt n c : Nat) (A : Option Addr) : List Value := [.int .u64 (base : Nat), .slice A n c, .int .i64 (mid : Nat), .int .i64 (low : Nat), .int .u64 (virt : Nat)]
/-- a builder in memory: block g; its tables in blocks from B on -/
def Bd (w : World) (B g base : Nat) (s : Pg.St) : Prop := ∃ ga c, Row w g 133 (bcells base s.mid s.low s.virt s.all.length c (some ⟨ga, 0, none⟩)) ∧ w.ownsRow B 24 512 (.slice (some ⟨ga, 0, none⟩) s.all.length c) s.all.length (tcells s.all) ∧ Tabs s.all
theorem Tabs.len {all : List (List Nat)} (h : Tabs all) : (tcells all).length = 512 * all.length := by
  induction all with
  | nil => rfl
  | cons t r ih =>
    have h1 := (h t (by simp)).1
    have h2 := ih fun x hx => h x (by simp [hx])
    unfold tcells at h2 ⊢
    rw [List.flatMap_cons, List.length_append, List.length_map, h1, h2, List.length_cons]
    omega
theorem tcells_at {all : List (List Nat)} (h : Tabs all) {t e : Nat} (ht : t < all.length) (he : e < 512) : (tcells all)[512 * t + e]? = some (u64v ((all.getD t []).getD e 0)) := by
  induction all generalizing t with
  | nil => simp at ht
  | cons a r ih =>
    have h1 := (h a (by simp)).1
    unfold tcells
    rw [List.flatMap_cons]
    cases t with
    | zero =>
      rw [Nat.mul_zero, Nat.zero_add, List.getElem?_append_left (by simp; omega)]
      simp [List.getD_eq_getElem?_getD, show e < a.length by omega]
    | succ t =>
      rw [List.getElem?_append_right (by simp; omega), List.length_map, h1, show 512 * (t + 1) + e - 512 = 512 * t + e by omega]
      have := ih (t := t) (fun x hx => h x (by simp [hx])) (by simpa using ht)
      unfold tcells at this
      rw [this]
      simp [List.getD_eq_getElem?_getD]
theorem setE_cons (a : List Nat) (r : List (List Nat)) (t e x : Nat) : Pg.setE (a :: r) (t + 1) e x = a :: Pg.setE r t e x := by simp [Pg.setE]
theorem tcells_set {all : List (List Nat)} (h : Tabs all) {t e x : Nat} (ht : t < all.length) (he : e < 512) : (tcells all).set (512 * t + e) (u64v x) = tcells (Pg.setE all t e x) := by
  induction all generalizing t with
  | nil => simp at ht
  | cons a r ih =>
    have h1 := (h a (by simp)).1
    cases t with
    | zero =>
      unfold tcells
      rw [List.flatMap_cons, Nat.mul_zero, Nat.zero_add, List.set_append_left _ _ (by simp; omega)]
      simp [Pg.setE, List.map_set]
    | succ t =>
      rw [setE_cons]
      have := ih (t := t) (fun x hx => h x (by simp [hx])) (by simpa using ht)
      unfold tcells at this ⊢
      rw [List.flatMap_cons, List.flatMap_cons, List.set_append_right _ _ (by simp; omega), List.length_map, h1, show 512 * (t + 1) + e - 512 = 512 * t + e by omega, this]
theorem Tabs.setE {all : List (List Nat)} (h : Tabs all) (t e x : Nat) (hx : x < 18446744073709551616) : Tabs (Pg.setE all t e x) := by
  rcases Nat.lt_or_ge t all.length with ht | ht
  · intro y hy
    unfold Pg.setE at hy
    rcases List.mem_or_eq_of_mem_set hy with hy | rfl
    · exact h y hy
    · have hm : all.getD t [] ∈ all := by simp [List.getD_eq_getElem?_getD, ht]
      obtain ⟨a1, a2⟩ := h _ hm
      refine ⟨by rw [List.length_set, a1], fun z hz => ?_⟩
      rcases List.mem_or_eq_of_mem_set hz with hz | rfl
      · exact a2 z hz
      · exact hx
  · unfold Pg.setE
    rw [List.set_eq_of_length_le ht]
    exact h
theorem Tabs.snoc {all : List (List Nat)} (h : Tabs all) : Tabs (all ++ [Pg.zero512]) := by
  intro y hy
  rcases List.mem_append.1 hy with hy | hy
  · exact h y hy
  · simp at hy
    subst hy
    refine ⟨List.length_replicate, fun z hz => ?_⟩
    obtain rfl := List.eq_of_mem_replicate hz
    decide
theorem tcells_snoc (all : List (List Nat)) : tcells (all ++ [Pg.zero512]) = tcells all ++ zeros 512 := by
  unfold tcells Pg.zero512 zeros
  rw [List.flatMap_append, List.flatMap_cons, List.flatMap_nil, List.append_nil, List.map_replicate]
theorem own_some {w : World} {base n c size : Nat} {e : TypeId} {A : Option Addr} {xs : List Value} (h : w.ownsRow base e size (.slice A n c) n xs) (hn : 0 < n) : ∃ g, A = some ⟨g, 0, none⟩ ∧ base ≤ g ∧ g < w.heap.size ∧ n ≤ c ∧ c ≤ maxLen := by
  rcases h.2 with ⟨_, e⟩ | ⟨g', cap, cur, hv, h1, hh, hnc, hcm, _⟩
  · omega
  · injection hv with hA _ hc
    subst hA hc
    exact ⟨g', rfl, h1, (h.lt g' rfl).2, hnc, hcm⟩
/-- blocks of other types are as they were -/
def Far (w w' : World) : Prop := ∀ k t cs, t ≠ 133 → t ≠ 24 → Row w k t cs → Row w' k t cs
theorem Far.refl (w : World) : Far w w := fun _ _ _ _ _ h => h
theorem Far.trans {a b c : World} (h : Far a b) (k : Far b c) : Far a c := fun i t cs h1 h2 hr => k i t cs h1 h2 (h i t cs h1 h2 hr)
theorem Far.below {w w' : World} (h : Below w.heap.size w w') : Far w w' := fun k t cs _ _ hr => hr.below h hr.lt
theorem Far.set_ {w : World} {g : Nat} {t0 : TypeId} {cur : Array Value} (h : Blk w g t0 cur) (ht : t0 = 133 ∨ t0 = 24) (i : Nat) (u : Value) : Far w (w.setCell ⟨g, i, none⟩ u) := fun k t cs h1 h2 hr =>
  hr.far (p := ⟨g, i, none⟩) (Blk.ne_ (cs := cs.toArray) hr h (by rcases ht with rfl | rfl <;> assumption)) u
theorem Far.grown {w w' : World} {row : Option Nat} (hg : w.grownBy w' row) (hb : ∀ k, row = some k → ∃ cur, Blk w k 24 cur) : Far w w' := fun k t cs h1 h2 hr =>
  row_grown hr hg (fun e => by
    obtain ⟨cur, hb⟩ := hb k e.symm
    exact Blk.ne_ (cs := cs.toArray) hr hb h2 rfl)
theorem own_blk' {w : World} {base n size : Nat} {e : TypeId} {v : Value} {xs : List Value} (h : w.ownsRow base e size v n xs) : ∀ k, v.ownBlock = some k → ∃ cur, Blk w k e cur := by
  intro k hk
  rcases h.2 with ⟨rfl, _⟩ | ⟨g, cap, cur, rfl, _, hh, _⟩
  · cases hk
  · simp [Value.ownBlock] at hk
    subst hk
    exact ⟨cur, hh⟩
theorem wpList_built {P : Program} {ops : Array Oper} {rest : List Oper} {o : Oper} {a : Act} {Q : Exit → Act → World → Prop} {w w1 : World} (hgd : Region.wanted o (yielded ops a.tmps) = true) (t : TypeId) (x : Operand) (ho : o.op = .buildSlice t 1 #[(0, x)]) {V v : Value} (hx : a.eval x = V)
    (hrun : (Instr.buildSlice t 1 #[(0, V)]).run P w = .ok v w1) (h : wpList P ops Q rest (a.put o.dst v) w1) : wpList P ops Q (o :: rest) a w :=
  wpList_wanted hgd fun _ hK => by
    unfold Oper.wp execOp
    simp only [ho, List.map_toArray, List.map_cons, List.map_nil, hx, Sem.run_bind, hrun, Result.andThen_ok]
    exact hK _ _ h
set_option maxRecDepth 100000 in
set_option maxHeartbeats 1000000 in
theorem child_any (B g base : Nat) (s : Pg.St) (tof e : Nat) (w : World) (hb : Bd w B g base s) (hB : B ≤ g) (hBw : B ≤ w.heap.size) (hof : tof < s.all.length) (he : e < 512) (hn : s.all.length ≤ 2000) (hbase : base % 4096 = 0) (hbl : base < 4294967296) :
    Calls Try.prog 85 #[.pointer (some ⟨g, 0, none⟩), .int .i64 (tof : Nat), .int .u64 (e : Nat)] w fun en w' => en = .returned (.int .i64 (s.all.length : Nat)) ∧ Bd w' B g base { s with all := Pg.childE base s.all tof e } ∧ Below B w w' ∧ Far w w' := by
  obtain ⟨ga, c, hrow, hown, htab⟩ := hb
  obtain ⟨n, hnn⟩ : ∃ n, n = s.all.length := ⟨_, rfl⟩
  rw [← hnn] at hrow hown hof hn ⊢
  obtain ⟨i0, hi0, hz1, hz2, hz3⟩ := info_parts infoTabA
  obtain ⟨hz, hsz⟩ := zero_of_info infoTabZ
  have hbs := tab_built
  have h0 := oneCell_zeros 512
  obtain ⟨Z, hZ⟩ : ∃ Z, Z = zeros 512 := ⟨_, rfl⟩
  rw [← hZ] at hz h0 hbs hz1
  have hzl : Z.length = 512 := by rw [hZ]; simp [zeros]
  have HBS := Lib.hid hbs
  clear hbs
  have HNE : Hid (some g ≠ (Value.slice (some ⟨ga, 0, none⟩) n c).ownBlock) := Lib.hid fun h => own_blk_ne (cs := (bcells base s.mid s.low s.virt n c (some ⟨ga, 0, none⟩)).toArray) hown hrow (by decide) h.symm
  have c0 := hrow.cell 0
  have c1 := hrow.cell 1
  simp only [bcells, List.getElem?_cons_zero, List.getElem?_cons_succ] at c0 c1
  have f1 := hrow.frozen 1
  have hlt := hrow.lt
  have HROW := Lib.hid hrow; have HOWN := Lib.hid hown; have HTAB := Lib.hid htab; have HN := Lib.hid hnn
  have HI := Lib.hid hi0; have HZ1 := Lib.hid hz1; have HZ2 := Lib.hid hz2; have HZ3 := Lib.hid hz3; have HZZ := Lib.hid hZ; have H0 := Lib.hid h0; have HZL := Lib.hid hzl
  clear hrow hown htab hnn hi0 hz1 hz2 hz3 hZ h0 hzl hsz
  go_enter Try.func85, Try.ntmps85
  go_upto_region 2 with fail
  have HR1 : Hid (Reads (w.alloc (.cells Z.toArray 24)) (w.alloc (.cells Z.toArray 24)).heap.size 512 (some ⟨w.heap.size, 0, none⟩) 1 Z) := Lib.hid (by
    have h := (Row.new w 24 Z)
    refine ⟨by rw [HZL.out], fun _ => ⟨_, rfl, h.lt, fun j u hu => ?_⟩⟩
    rw [Addr.add_mid, Nat.zero_add, h.cell, hu])
  go_upto_region 3 with (first | (refine wpList_built (V := .agg Z.toArray) (by rfl) 42 (.tmp 19) rfl (by rfl) (HBS.out _) ?_) | (at_builtin; refine wpList_append_sl _ (by rfl) (.tmp 18) (.tmp 20) 42 rfl B 24 i0 _ 512 4096 Try.underlying42 HI.out HZ1.out HZ2.out HZ3.out (by show Z.toArray.size = 512; simpa using HZL.out) (by omega) (.slice (some ⟨ga, 0, none⟩) n c) n (tcells s.all) rfl (HOWN.out.alloc _) _ (some ⟨w.heap.size, 0, none⟩) 1 1 Z rfl HR1.out H0.out (by unfold maxLen; omega) (by omega) (by simp; omega) ?_; intro A1 c1' w1 hown1 hrd1 hg1 hat1; have hr1 := row_grown (HROW.out.alloc _) hg1 HNE.out; have e1 := hr1.cell 1; simp only [bcells, List.getElem?_cons_zero, List.getElem?_cons_succ] at e1; have fe1 := hr1.frozen 1; have hl1 := hr1.lt; have HR1' := Lib.hid hr1; have HOWN1 := Lib.hid hown1; have HG1 := Lib.hid hg1; clear hown1 hrd1 hg1 hat1 hr1))
  have hown2 := HOWN1.out
  obtain ⟨g1, rfl, hB1, hlt1, hcc, hcm⟩ := own_some hown2 (by omega)
  have HO2 : Hid (w1.ownsRow B 24 512 (.slice (some ⟨g1, 0, none⟩) (n + 1) c1') (n + 1) (tcells (s.all ++ [Pg.zero512]))) := Lib.hid (by rw [tcells_snoc, ← HZZ.out]; exact hown2)
  have hT2 := HTAB.out.snoc
  have hne1 : g ≠ g1 := fun h => own_blk_ne (cs := (bcells base s.mid s.low s.virt n c (some ⟨ga, 0, none⟩)).toArray) hown2 HR1'.out (by decide) (by rw [h]; rfl)
  have HR2 : Hid (Row (w1.setCell ⟨g, 1, none⟩ (.slice (some ⟨g1, 0, none⟩) (n + 1) c1')) g 133 (bcells base s.mid s.low s.virt (n + 1) c1' (some ⟨g1, 0, none⟩))) := Lib.hid (HR1'.out.set_ 1 _)
  have HO3 : Hid ((w1.setCell ⟨g, 1, none⟩ (.slice (some ⟨g1, 0, none⟩) (n + 1) c1')).ownsRow B 24 512 (.slice (some ⟨g1, 0, none⟩) (n + 1) c1') (n + 1) (tcells (s.all ++ [Pg.zero512]))) := Lib.hid (own_set HO2.out HR1'.out (by decide) 1 _)
  have HB2 : Hid (Below B w (w1.setCell ⟨g, 1, none⟩ (.slice (some ⟨g1, 0, none⟩) (n + 1) c1'))) := Lib.hid ((((Below.refl B w).alloc hBw _).grown HG1.out (by simp; omega) (fun k hk => (HOWN.out.lt k hk).1)).setCell (p := ⟨g, 1, none⟩) hB _)
  have HFAR : Hid (Far w (w1.setCell ⟨g, 1, none⟩ (.slice (some ⟨g1, 0, none⟩) (n + 1) c1'))) := Lib.hid (((Far.below ((Below.refl w.heap.size w).alloc (Nat.le_refl _) (.cells Z.toArray 24))).trans (Far.grown HG1.out (own_blk' (HOWN.out.alloc _)))).trans (Far.set_ (cur := (bcells base s.mid s.low s.virt n c (some ⟨ga, 0, none⟩)).toArray) HR1'.out (.inl rfl) 1 _))
  have HT2 := Lib.hid hT2
  clear hown2 hT2 HOWN1 HO2 HG1 HOWN HROW HR1 HR1' HTAB e1 fe1 hl1 c0 c1 f1 hlt HNE hz HZ1 HZ2 HZ3 HI H0 HZL HZZ HBS hB1
  generalize w1.setCell ⟨g, 1, none⟩ (.slice (some ⟨g1, 0, none⟩) (n + 1) c1') = w2 at *
  have c0 := HR2.out.cell 0
  have c1 := HR2.out.cell 1
  simp only [bcells, List.getElem?_cons_zero, List.getElem?_cons_succ] at c0 c1
  have hlt := HR2.out.lt
  unfold maxLen at hcm
  go_upto_region 4 with fail
  obtain ⟨F, hF⟩ : ∃ F, F = (base + n * 4096) % 4294967296 := ⟨_, rfl⟩
  have hFl : F < 4294967296 := by omega
  have hFa : F % 4096 = 0 := by omega
  have w1' : IntKind.u64.wrap (n : Int) = (n : Int) := by rw [IntKind.wrap_u64]; omega
  have w2' : IntKind.u64.wrap ((n : Int) * 4096) = (n : Int) * 4096 := by rw [IntKind.wrap_u64]; omega
  have w3' : IntKind.u64.wrap ((base : Int) + (n : Int) * 4096) = (base : Int) + (n : Int) * 4096 := by rw [IntKind.wrap_u64]; omega
  have w4' : ((base : Int) + (n : Int) * 4096).tmod 4294967296 = (F : Int) := by rw [Int.tmod_eq_emod_of_nonneg (by omega)]; omega
  have w5' : ((base : Int) + (n : Int) * 4096) % 4294967296 = (F : Int) := by omega
  have HMK : Hid (Calls Try.prog 86 #[.agg #[.int .u64 (F : Nat), .bool true, .bool false, .bool false, .bool false], .int .i64 0] w2.drew fun en w' => en = .returned (.tuple #[.int .u64 ((F + 1 : Nat) : Int), .int .i64 0]) ∧ Below w2.drew.heap.size w2.drew w') := Lib.hid (by
    have h := make_walk ⟨F, true, false, false, false⟩ 0 w2.drew (by show F < _; omega) (by omega)
    rw [Pg.make_table hFa hFl] at h
    exact h)
  have hw0 : 512 * tof + e < (tcells (s.all ++ [Pg.zero512])).length := by rw [HT2.out.len, List.length_append, ← HN.out]; simp; omega
  have ca : w2.cell? ⟨g1, tof * 512 + e, none⟩ = some (u64v (((s.all ++ [Pg.zero512]).getD tof []).getD e 0)) := by
    rw [show tof * 512 + e = 512 * tof + e by omega, HO3.out.cellAt (512 * tof + e) (by omega), tcells_at HT2.out (by rw [List.length_append]; have := HN.out; simp; omega) he]
  have fa : w2.frozen? ⟨g1, tof * 512 + e, none⟩ = false := HO3.out.frozenAt _
  have hg1l : g1 < w2.heap.size := (HO3.out.lt g1 rfl).2
  have HFF := Lib.hid hF
  have KEEP : Hid (∀ (w' : World) (v : Value), w'.cell? ⟨g, 0, none⟩ = some (.int .u64 (base : Nat)) → (w'.setCell ⟨g1, tof * 512 + e, none⟩ v).cell? ⟨g, 0, none⟩ = some (.int .u64 (base : Nat))) := Lib.hid fun w' v h => (World.cell?_setCell_other _ _ _ _ (by simp [hne1])).trans h
  have he2 : (e : Int) < 512 := by omega
  have he0 : (0 : Int) ≤ (e : Int) := by omega
  clear hF c1 hw0
  go_cut [] (fun wx => Hid (∃ wm, Below w2.heap.size w2 wm ∧ wx = wm.setCell ⟨g1, tof * 512 + e, none⟩ (.int .u64 ((F + 1 : Nat) : Int))))
  case first =>
    go_region_held3 (fun w' => w'.cell? ⟨g, 0, none⟩ = some (.int .u64 (base : Nat)))
      (first | exact c0 | exact d0 | exact KEEP.out _ _ (by assumption))
      (first | (go_at_call 86; refine HMK.out.mono ?_; rintro en w' ⟨rfl, hbm⟩; have d0 : w'.cell? ⟨g, 0, none⟩ = some (.int .u64 (base : Nat)) := (hbm.cell (p := ⟨g, 0, none⟩) hlt).trans c0; have d1 := (hbm.cell (p := ⟨g1, tof * 512 + e, none⟩) hg1l).trans ca; have d2 := (hbm.frozen (p := ⟨g1, tof * 512 + e, none⟩) hg1l).trans fa; have hls := hbm.size; have HBM := Lib.hid hbm; clear hbm))
    all_goals
      go_wp2_with fail
      go_meet
      case rel => exact Lib.hid ⟨_, ((Below.refl w2.heap.size w2).drew).trans HBM.out, rfl⟩
  case rest =>
    obtain ⟨wm, hbm, rfl⟩ := hcut.out
    go_wp2_with fail
    go_ret
    have hown5 := owns_below HO3.out hbm
    have hst := hown5.stored (512 * tof + e) (u64v (F + 1))
    rw [tcells_set HT2.out (by rw [List.length_append]; have := HN.out; simp; omega) he, HFF.out] at hst
    have hl2 : (Pg.childE base s.all tof e).length = n + 1 := by rw [Pg.childE_len, ← HN.out]
    have hch : Pg.setE (s.all ++ [Pg.zero512]) tof e ((base + n * 4096) % 4294967296 + 1) = Pg.childE base s.all tof e := by
      have h := HN.out
      subst h
      rfl
    rw [hch, show 512 * tof + e = tof * 512 + e by omega] at hst
    have hp : F + 1 = (base + n * 4096) % 4294967296 + 1 := by rw [HFF.out]
    have hTT : Tabs (Pg.childE base s.all tof e) := by rw [← hch]; exact HT2.out.setE tof e _ (by omega)
    refine ⟨rfl, ⟨g1, c1', ?_, ?_, hTT⟩, (HB2.out.trans (hbm.mono (by have := HB2.out.size; omega))).setCell (by show B ≤ g1; exact (HO3.out.lt g1 rfl).1) _, ?_⟩
    · show Row _ g _ (bcells base s.mid s.low s.virt (Pg.childE base s.all tof e).length c1' _)
      rw [hl2]
      exact (HR2.out.below hbm hlt).far (p := ⟨g1, tof * 512 + e, none⟩) hne1 _
    · show World.ownsRow _ B _ 512 (.slice _ (Pg.childE base s.all tof e).length c1') (Pg.childE base s.all tof e).length (tcells (Pg.childE base s.all tof e))
      rw [hl2, hp]
      exact hst.1
    · obtain ⟨cur, hblk⟩ := own_blk' hown5 g1 rfl
      exact (HFAR.out.trans (Far.below hbm)).trans (Far.set_ hblk (.inr rfl) _ _)
end Go.Proofs.Ytblfagmoilhdnaa

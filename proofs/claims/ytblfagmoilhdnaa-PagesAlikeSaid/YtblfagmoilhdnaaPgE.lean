/- Arrays by value: one that is compared with itself. -/
import Derived.Test.YtblfagmoilhdnaaPgB
import Derived.Test.YtblfagmoilhdnaaBook
import Derived.DeepKeys
import Derived.WalkKit
import Derived.ProofKit
import Derived.OpenShut
set_option linter.unusedVariables false
set_option linter.unusedSimpArgs false
namespace Go.Proofs.Ytblfagmoilhdnaa
open Go.RowKit

theorem run_eqItems_self {P : Program} (w : World) (d : Nat) (e : TypeId) (he : P.underlying e = some (.int .u64)) (V : List Value) (hV : ∀ i, i < V.length → ∃ n, V[i]? = some (.int .u64 n)) : ∀ is : List Nat, (∀ i ∈ is, i < V.length) → (Op.eqItems (d + 1) e 1 V.toArray V.toArray is).run P w = .ok true w
  | [], _ => by simp [Op.eqItems]
  | i :: is, h => by
    obtain ⟨n, hn⟩ := hV i (h i (by simp))
    have hp := run_part_plain (P := P) (w := w) (e := e) (by simp [Program.plainKey, he]) (xs := V.toArray) (off := i * 1) (v := .int .u64 n) (by simpa using hn)
    simp only [Op.eqItems, Sem.run_bind, hp, Result.andThen_ok, run_equalIn_int w d e .u64 .u64 n n he]
    simp [run_eqItems_self w d e he V hV is (fun j hj => h j (by simp [hj]))]
theorem tab_eq_self (V : List Value) (hV : ∀ i, i < V.length → ∃ n, V[i]? = some (.int .u64 n)) (hl : V.length = 512) (w : World) : (Op.equalIn 10000 24 (.agg V.toArray) (.agg V.toArray)).run Try.prog w = .ok true w := by
  obtain ⟨i, hi, hi1⟩ : ∃ i, Try.prog.info? 22 = some i ∧ i.size = 1 := by
    have h : (Try.prog.info? 22).map (·.size) = some 1 := by kernel_rfl
    cases hq : Try.prog.info? 22 with
    | none => simp [hq] at h
    | some i => exact ⟨i, rfl, by simpa [hq] using h⟩
  have := run_equalIn_array (P := Try.prog) w 9999 V.toArray V.toArray Try.underlying24 hi
  rw [this]
  have hc : Try.prog.cellsOf 22 = 1 := by kernel_rfl
  rw [hc]
  exact run_eqItems_self w 9998 _ Try.underlying22 V hV _ (fun i hi => by rw [hl]; simpa using hi)
theorem own_capd {w : World} {base n c : Nat} {A : Option Addr} {bs : List Nat} (h : Own w base A n c bs) : n ≤ c ∧ c ≤ maxLen := by
  rcases h.1.2 with ⟨hv, h0⟩ | ⟨g, cap, cur, hv, _, _, hnc, hcm, _⟩
  · injection hv with _ _ hc; subst hc h0; exact ⟨by omega, by unfold maxLen; omega⟩
  · injection hv with _ _ hc; subst hc; exact ⟨hnc, hcm⟩
theorem reads_u8 {w : World} {u : Value} {B : Nat} (hB : w.heap.size < B) : Reads (w.alloc (.cells #[u] 5)) B 1 (some ⟨w.heap.size, 0, none⟩) 1 [u] := by
  refine ⟨rfl, fun _ => ⟨_, rfl, hB, fun j x hx => ?_⟩⟩
  have e : (⟨w.heap.size, 0, none⟩ : Addr).add j = ⟨w.heap.size, j, none⟩ := by unfold Addr.add; split <;> simp_all
  rw [e, (Row.new w 5 [u]).cell, hx]
set_option maxRecDepth 100000 in
/-- an array that came in -/
theorem open_tab {W : World} {base : Nat} {v : Value} (h : Value.okWide Try.prog W .any base 24 v) : ∃ t : List Nat, v = tabV t ∧ t.length = 512 ∧ ∀ x ∈ t, x < 18446744073709551616 := by
  unfold Value.okWide at h
  rw [Try.underlying24] at h
  obtain ⟨cs, rfl, hsz, ts, hts, _, hc⟩ := h
  have h1 : Try.prog.cellsOf 24 = 512 := by kernel_rfl
  have h2 : Try.prog.cellTypes Try.prog.depth 24 = some (List.replicate 512 22) := by kernel_rfl
  rw [h1] at hsz
  rw [h2] at hts
  injection hts with hts
  subst hts
  have h3 : ∀ i, i < 512 → ∃ x : Nat, cs[i]? = some (u64v x) ∧ x < 18446744073709551616 := by
    intro i hi
    obtain ⟨u, h4, h5⟩ := hc i cs[i] (Array.getElem?_eq_getElem (by omega))
    rw [List.length_replicate, List.getElem?_replicate, if_pos (Nat.mod_lt _ (by omega))] at h4
    injection h4 with h4
    subst h4
    unfold Cell.okWide at h5
    rw [Try.underlying22] at h5
    revert h5
    generalize hv : cs[i] = v
    intro h5
    have h6 : Cell.ok Try.prog W .any base 22 v := by
      revert h5; cases v <;> exact id
    unfold Cell.ok at h6
    rw [Try.underlying22] at h6
    cases v <;> simp at h6
    rename_i k n
    obtain ⟨rfl, hk⟩ := h6
    simp [IntKind.has, IntKind.min, IntKind.max, IntKind.bits, IntKind.signed] at hk
    refine ⟨n.toNat, ?_, ?_⟩
    · rw [Array.getElem?_eq_getElem (by omega), hv]
      unfold u64v
      rw [Int.toNat_of_nonneg (by omega)]
    · omega
  refine ⟨(List.range 512).map fun i => (intOf (cs[i]?.getD undef)).toNat, ?_, by simp, ?_⟩
  · unfold tabV
    congr 1
    apply Array.ext_getElem?
    intro i
    by_cases hi : i < 512
    · obtain ⟨x, h4, h5⟩ := h3 i hi
      simp [hi, h4, intOf, u64v]
    · simp [hi, Array.getElem?_eq_none (show cs.size ≤ i by omega)]
  · intro x hx
    simp only [List.mem_map, List.mem_range] at hx
    obtain ⟨i, hi, rfl⟩ := hx
    obtain ⟨x, h4, h5⟩ := h3 i hi
    simpa [h4, intOf, u64v] using h5
theorem beyond_list (w : World) (xs : List Nat) (hl : xs.length ≤ 1000000) (hx : ∀ x ∈ xs, x ≤ 9223372036854775807) (r : Bool) (hr : beyondL 2147483647 xs = r) :
    Calls Try.prog 9 #[.slice (some ⟨w.heap.size, 0, none⟩) xs.length xs.length] (w.alloc (.cells (xs.map i64).toArray 3)) fun e w' => e = .returned (.bool r) ∧ w.alloc (.cells (xs.map i64).toArray 3) = w' := by
  rw [← hr]
  refine beyond_any _ _ _ xs _ ?_ hl hx
  have := (Row.new w 3 (xs.map i64)).reads (B := (w.alloc (.cells (xs.map i64).toArray 3)).heap.size) 0 xs.length (by simp) (by simp)
  rw [List.drop_zero, List.take_of_length_le (by simp)] at this
  exact this
theorem beyond_one (w : World) (n : Nat) (hn : n ≤ 9223372036854775807) (r : Bool) (hr : beyondL 2147483647 [n] = r) :
    Calls Try.prog 9 #[.slice (some ⟨w.heap.size, 0, none⟩) 1 1] (w.alloc (.cells #[.int .i64 (n : Nat)] 3)) fun e w' => e = .returned (.bool r) ∧ w.alloc (.cells #[.int .i64 (n : Nat)] 3) = w' :=
  beyond_list w [n] (by simp) (by simpa using hn) r hr
theorem tbs_at (t : List Nat) (k : Nat) (x : Nat) (hk : t[k]? = some x) : ((tbs t).drop (8 * k)).take 8 = Wd.le 8 x := by
  induction t generalizing k with
  | nil => simp at hk
  | cons y r ih =>
    have e : tbs (y :: r) = Wd.le 8 y ++ tbs r := rfl
    have hl := Wd.le_len 8 y
    cases k with
    | zero =>
      simp at hk
      subst hk
      rw [e, Nat.mul_zero, List.drop_zero, List.take_append_of_le_length (by omega), List.take_of_length_le (by omega)]
    | succ k =>
      simp only [List.getElem?_cons_succ] at hk
      rw [e, List.drop_append, show 8 * (k + 1) - (Wd.le 8 y).length = 8 * k by omega, List.drop_of_length_le (by omega), List.nil_append]
      exact ih k hk
theorem tun_tbs (t : List Nat) (ht : t.length = 512) (hx : ∀ x ∈ t, x < 18446744073709551616) : tun (tbs t) = t := by
  apply List.ext_getElem?
  intro k
  by_cases hk : k < 512
  · have h1 : t[k]? = some t[k] := List.getElem?_eq_getElem (by omega)
    rw [tun_get _ _ hk, tbs_at t k _ h1, Wd.unle_le, h1, Nat.mod_eq_of_lt]
    exact hx _ (List.getElem_mem _)
  · rw [List.getElem?_eq_none (by rw [tun_len]; omega), List.getElem?_eq_none (by omega)]
theorem tbs_range (bs : List Nat) (hb : ∀ b ∈ bs, b < 256) (m : Nat) (hm : 8 * m ≤ bs.length) : tbs ((List.range m).map fun i => Wd.unle ((bs.drop (8 * i)).take 8)) = bs.take (8 * m) := by
  induction m with
  | zero => rfl
  | succ m ih =>
    have h1 := ih (by omega)
    have h2 := Wd.le_unle ((bs.drop (8 * m)).take 8) (fun b hb' => hb b (List.mem_of_mem_drop (List.mem_of_mem_take hb')))
    have h3 : ((bs.drop (8 * m)).take 8).length = 8 := by rw [List.length_take, List.length_drop]; omega
    rw [h3] at h2
    rw [List.range_succ, List.map_append, tbs, List.flatMap_append, ← tbs, h1]
    simp only [List.map_cons, List.map_nil, List.flatMap_cons, List.flatMap_nil, List.append_nil, h2]
    rw [show 8 * (m + 1) = 8 * m + 8 by omega, List.take_add]
theorem tbs_tun (bs : List Nat) (hl : bs.length = 4096) (hb : ∀ b ∈ bs, b < 256) : tbs (tun bs) = bs := by
  have h := tbs_range bs hb 512 (by omega)
  unfold tun
  rw [h]
  exact List.take_of_length_le (by omega)
theorem tun_lt (bs : List Nat) (hb : ∀ b ∈ bs, b < 256) : ∀ x ∈ tun bs, x < 18446744073709551616 := by
  intro x hx
  simp only [tun, List.mem_map, List.mem_range] at hx
  obtain ⟨i, _, rfl⟩ := hx
  have h := Wd.unle_lt ((bs.drop (8 * i)).take 8) (fun b hb' => hb b (List.mem_of_mem_drop (List.mem_of_mem_take hb')))
  have h2 : ((bs.drop (8 * i)).take 8).length ≤ 8 := by rw [List.length_take]; omega
  have h3 : (256 : Nat) ^ ((bs.drop (8 * i)).take 8).length ≤ 256 ^ 8 := Nat.pow_le_pow_right (by omega) h2
  have h4 : (256 : Nat) ^ 8 = 18446744073709551616 := by decide
  omega
theorem wpList_load_midw {P : Program} {ops : Array Oper} {rest : List Oper} {op : Oper} {a : Act} {w : World} {Q : Exit → Act → World → Prop} (hw : Region.wanted op (yielded ops a.tmps) = true) (ty : TypeId) (x : Operand) (ho : op.op = .load ty x)
    (b o : Nat) (hx : a.eval x = .pointer (some ⟨b, o, none⟩)) (cs : List Value) (d : TypeDesc) (hc : w.rangeAt b o cs)
    (hu : P.underlying ty = some d) (hd : d.isRow = true) (hi : (P.info? ty).map (·.size) = some cs.length)
    (h : wpList P ops Q rest (a.put op.dst (.agg cs.toArray)) w) : wpList P ops Q (op :: rest) a w :=
  wpList_wanted hw fun _ hK => wp_load_mid ty x ho b o hx cs d hc hu hd hi (hK _ _ h)
theorem row_rangeAt {w : World} {g : Nat} {t : TypeId} {V : List Value} (h : Row w g t V) : w.rangeAt g 0 V := fun j v hv => by rw [Nat.zero_add, h.cell, hv]
end Go.Proofs.Ytblfagmoilhdnaa

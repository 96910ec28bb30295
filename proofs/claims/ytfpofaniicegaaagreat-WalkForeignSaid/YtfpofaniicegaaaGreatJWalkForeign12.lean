/- Texts of this claim, one behind the other: BuQ. -/
import Derived.Test.YtfpofaniicegaaaGreatJWalkForeign11
/- What laying bytes does to a machine; the closures that tell the bytes. -/
set_option linter.unusedVariables false
set_option linter.unusedSimpArgs false
namespace Go.Proofs.YtfpofaniicegaaaGreat
open Go.RowKit
open S64
namespace Bu
/-- bytes, d of them laid from at_ on -/
def layM (mem : Nat → Nat) (at_ d : Nat) (f : Nat → Nat) : Nat → Nat := fun p => if at_ ≤ p ∧ p < at_ + d then f (p - at_) else mem p
theorem layM_zero (mem : Nat → Nat) (at_ : Nat) (f : Nat → Nat) : layM mem at_ 0 f = mem := by
  funext p
  unfold layM
  rw [if_neg (by omega)]
theorem layM_byte {mem : Nat → Nat} (hb : ∀ p, mem p < 256) {f : Nat → Nat} (hf : ∀ i, f i < 256) (at_ d : Nat) : ∀ p, layM mem at_ d f p < 256 := by
  intro p
  unfold layM
  split
  · exact hf _
  · exact hb _
theorem leafRow_congr {m m' : Nat → Nat} {k : Nat} (h : ∀ i, i < 4096 → m (4096 * k + i) = m' (4096 * k + i)) : leafRow m k = leafRow m' k :=
  List.map_congr_left fun i hi => by rw [h i (List.mem_range.1 hi)]
theorem leafRow_step (mem : Nat → Nat) (at_ d j : Nat) (f : Nat → Nat) (hj : (at_ + d) % 4096 + j < 4096) :
    (leafRow (layM mem at_ (d + j) f) ((at_ + d) / 4096)).set ((at_ + d) % 4096 + j) (u8 (f (d + j))) = leafRow (layM mem at_ (d + (j + 1)) f) ((at_ + d) / 4096) := by
  apply List.ext_getElem?
  intro i
  rw [List.getElem?_set]
  by_cases hi : i < 4096
  · rw [leafRow_get _ _ _ hi, leafRow_get _ _ _ hi]
    by_cases he : (at_ + d) % 4096 + j = i
    · rw [if_pos he, if_pos (by rw [leafRow_len]; omega)]
      unfold layM
      have e : 4096 * ((at_ + d) / 4096) + i = at_ + (d + j) := by omega
      rw [e, if_pos (by omega), show at_ + (d + j) - at_ = d + j by omega]
    · rw [if_neg he]
      unfold layM
      congr 2
      by_cases h1 : at_ ≤ 4096 * ((at_ + d) / 4096) + i ∧ 4096 * ((at_ + d) / 4096) + i < at_ + (d + j)
      · rw [if_pos h1, if_pos (by omega)]
      · rw [if_neg h1, if_neg (by omega)]
  · rw [List.getElem?_eq_none (by rw [leafRow_len]; omega), if_neg (by omega), List.getElem?_eq_none (by rw [leafRow_len]; omega)]
theorem layM_other {mem : Nat → Nat} {at_ d kk x : Nat} {f : Nat → Nat} (hk : (at_ + d) % 4096 + kk ≤ 4096) (hx : x / 4096 ≠ (at_ + d) / 4096) : layM mem at_ (d + kk) f x = layM mem at_ d f x := by
  unfold layM
  by_cases h1 : at_ ≤ x ∧ x < at_ + d
  · rw [if_pos h1, if_pos (by omega)]
  · rw [if_neg h1, if_neg (by omega)]
/-- is one of j bytes 0? -/
def zb (f : Nat → Nat) (d j : Nat) : Bool := (List.range j).any fun i => f (d + i) == 0
theorem zb_zero (f : Nat → Nat) (d : Nat) : zb f d 0 = false := rfl
theorem zb_succ (f : Nat → Nat) (d j : Nat) : zb f d (j + 1) = (zb f d j || f (d + j) == 0) := by
  unfold zb
  rw [List.range_succ, List.any_append]
  simp
theorem zb_no {f : Nat → Nat} {d j : Nat} (h : zb f d j = false) : ∀ i, i < j → f (d + i) ≠ 0 := by
  intro i hi e
  have := List.any_eq_false.1 h i (List.mem_range.2 hi)
  exact this (by rw [e]; rfl)
theorem nz_laid {mem : Nat → Nat} {at_ d k : Nat} {f : Nat → Nat} (h0 : 0 < k) (hk : (at_ + d) % 4096 + k ≤ 4096) (hz : zb f d k = false) : nz (layM mem at_ (d + k) f) ((at_ + d) / 4096) := by
  refine ⟨(at_ + d) % 4096, by omega, ?_⟩
  have := zb_no hz 0 h0
  rw [show 4096 * ((at_ + d) / 4096) + (at_ + d) % 4096 = at_ + (d + 0) by omega]
  unfold layM
  rw [if_pos (by omega), show at_ + (d + 0) - at_ = d + 0 by omega]
  exact this
/-- a page's cells as the equality of arrays reads them -/
theorem leafRow_cells (mem : Nat → Nat) (k : Nat) (hb : ∀ p, mem p < 256) : leafRow mem k = ((List.range 4096).map fun i => UInt8.ofNat (mem (4096 * k + i))).map Extern.Stop.cell := by
  rw [leafRow, List.map_map]
  refine List.map_congr_left fun i _ => ?_
  have h : (UInt8.ofNat (mem (4096 * k + i))).toNat = mem (4096 * k + i) := by rw [UInt8.toNat_ofNat']; exact Nat.mod_eq_of_lt (hb _)
  show u8 _ = Extern.Stop.cell _
  unfold u8 Extern.Stop.cell
  rw [h]; rfl
theorem leafZ_cells : List.replicate 4096 (u8 0) = (List.replicate 4096 (0 : UInt8)).map Extern.Stop.cell := by
  rw [List.map_replicate]; rfl
theorem leafRow_zero (mem : Nat → Nat) (k : Nat) (h : ∀ i, i < 4096 → mem (4096 * k + i) = 0) : leafRow mem k = List.replicate 4096 (u8 0) := by
  apply List.ext_getElem?
  intro i
  rw [List.getElem?_replicate]
  by_cases hi : i < 4096
  · rw [leafRow_get _ _ _ hi, if_pos hi, h i hi]
  · rw [List.getElem?_eq_none (by rw [leafRow_len]; omega), if_neg hi]
theorem size5c (w : World) : (sizeOf 5).run Tryz.prog w = .ok 1 w := by kernel_rfl
theorem under_leaf : Tryz.prog.underlying 156 = some (.array 4096 5) := by kernel_rfl
theorem under_u8 : Tryz.prog.underlying 5 = some (.int .u8) := by kernel_rfl
theorem info_leaf : (Tryz.prog.info? 156).map (fun i => (i.zero, i.size)) = some (some (.agg (List.replicate 4096 (u8 0)).toArray), 4096) := by kernel_rfl
/-- is a page noughts? -/
def lz (mem : Nat → Nat) (k : Nat) : Bool := (List.range 4096).all fun i => mem (4096 * k + i) == 0
theorem lz_yes {mem : Nat → Nat} {k : Nat} (h : lz mem k = true) : ∀ i, i < 4096 → mem (4096 * k + i) = 0 := fun i hi => by
  have := List.all_eq_true.1 h i (List.mem_range.2 hi)
  simpa using this
theorem lz_no {mem : Nat → Nat} {k : Nat} (h : lz mem k = false) : nz mem k := by
  obtain ⟨i, hi, h2⟩ := List.all_eq_false.1 h
  exact ⟨i, List.mem_range.1 hi, by simpa using h2⟩
theorem zeros_beq (n : Nat) (f : Nat → Nat) (hb : ∀ i, f i < 256) : (((List.range n).map fun i => UInt8.ofNat (f i)) == List.replicate n (0 : UInt8)) = (List.range n).all fun i => f i == 0 := by
  rw [Bool.eq_iff_iff]
  constructor
  · intro h
    have h := eq_of_beq h
    refine List.all_eq_true.2 fun i hi => ?_
    have h1 : ((List.range n).map fun i => UInt8.ofNat (f i))[i]? = (List.replicate n (0 : UInt8))[i]? := by rw [h]
    have hi := List.mem_range.1 hi
    rw [List.getElem?_map, List.getElem?_range hi, List.getElem?_replicate, if_pos hi] at h1
    injection h1 with h1
    have h2 : (UInt8.ofNat (f i)).toNat = 0 := by rw [show UInt8.ofNat (f i) = 0 from h1]; rfl
    rw [UInt8.toNat_ofNat', Nat.mod_eq_of_lt (hb _)] at h2
    simp [h2]
  · intro h
    apply beq_iff_eq.2
    apply List.ext_getElem?
    intro i
    rw [List.getElem?_map, List.getElem?_replicate]
    by_cases hi : i < n
    · have := List.all_eq_true.1 h i (List.mem_range.2 hi)
      rw [List.getElem?_range hi, if_pos hi, Option.map_some, show f i = 0 by simpa using this]; rfl
    · rw [List.getElem?_eq_none (by rw [List.length_range]; omega), if_neg hi]; rfl
theorem eql_leaf (mem : Nat → Nat) (k : Nat) (hb : ∀ p, mem p < 256) (w : World) : (binOp .eql 156 (.agg (leafRow mem k).toArray) (.agg (List.replicate 4096 (u8 0)).toArray)).run Tryz.prog w = .ok (.bool (lz mem k)) w := by
  rw [leafRow_cells mem k hb, leafZ_cells, run_eql_bytes w 156 5 4096 under_leaf under_u8 size5c _ _ (by rw [List.length_map, List.length_range]) (List.length_replicate), zeros_beq 4096 (fun i => mem (4096 * k + i)) (fun i => hb _), lz]
theorem ChgP.turned {b : Nat} {w w' : World} (h : w.mapTurned w' b) : ChgP (fun k => k = b) w w' := by
  have hg := h.grown
  exact ⟨hg.os, hg.tape, hg.output, hg.size, fun i hi hn => hg.block i hi (fun e => hn (by injection e))⟩
/-- A PAGE HAS TURNED: the machine stands with other bytes. -/
theorem MachAt.laid {Z R : Nat → Prop} {w w' : World} {g : Nat} {M : PM} {A1 A2 Ao : Option Addr} {c1 c2 no co b : Nat} {pm pm' : Nat → Option Nat} {sp : Sp.S} (h : MachAt Z R w g M A1 A2 Ao c1 c2 no co b pm sp) (q p : Nat) (mem' : Nat → Nat)
    (hc : ChgP (fun k => k = b ∨ k = p) w w') (hmap : MapAt w' b pm') (hoth : ∀ k, k ≠ q → pm' k = pm k)
    (hq : (pm' q = some p ∧ Row w' p 156 (leafRow mem' q) ∧ nz mem' q) ∨ (pm' q = none ∧ ∀ i, i < 4096 → mem' (4096 * q + i) = 0))
    (hp : ∀ k, k ≠ q → pm k ≠ some p) (hzp : Z p) (hne : g ≠ p) (hmem : ∀ x, x / 4096 ≠ q → mem' x = M.mem x) (hby : ∀ x, mem' x < 256) :
    MachAt Z R w' g { M with mem := mem' } A1 A2 Ao c1 c2 no co b pm' sp := by
  have hbg : g ≠ b := by
    rintro rfl
    obtain ⟨⟨D, n, ⟨es, clock, hb, _⟩, _⟩, _⟩ := h.map
    have := h.row.symm.trans hb
    cases this
  have hR : ∀ k, R k → ¬ (k = b ∨ k = p) := fun k hk e => by
    rcases e with rfl | rfl
    · exact h.dis _ h.zb hk
    · exact h.dis _ hzp hk
  refine ⟨hc.row h.row (by rintro (e | e); exact hbg e; exact hne e), h.zg, h.zb, h.l1.chg hc hR, h.l2.chg hc hR, h.lo.chg hc hR, h.nrm, h.has, h.lim, hmap, fun k p' hk => ?_, fun k k' p' h1 h2 => ?_, fun k hk i hi => ?_, hby, h.dis⟩
  · by_cases e : k = q
    · subst e
      rcases hq with ⟨h1, h2, h3⟩ | ⟨h1, _⟩
      · rw [h1] at hk; injection hk with hk; subst hk
        exact ⟨h2, hzp, h3⟩
      · rw [h1] at hk; cases hk
    · have hk0 := hk
      rw [hoth k e] at hk
      obtain ⟨h1, h2, i, hi, h3⟩ := h.leaf k p' hk
      have hb' : p' ≠ b := by
        rintro rfl
        obtain ⟨⟨D, n, ⟨es, clock, hb, _⟩, _⟩, _⟩ := h.map
        have := h1.symm.trans hb
        cases this
      have hp' : p' ≠ p := fun e2 => hp k e (by rw [← e2]; exact hk)
      have hm : ∀ i, i < 4096 → mem' (4096 * k + i) = M.mem (4096 * k + i) := fun i hi => hmem _ (by omega)
      have hrow := hc.row h1 (by rintro (e3 | e3); exact hb' e3; exact hp' e3)
      refine ⟨?_, h2, i, hi, ?_⟩
      · show Row w' p' _ (leafRow mem' k)
        rw [leafRow_congr hm]; exact hrow
      · show mem' _ ≠ 0
        rw [hm i hi]; exact h3
  · by_cases e : k = q
    · by_cases e' : k' = q
      · rw [e, e']
      · rw [hoth k' e'] at h2
        rcases hq with ⟨h3, _⟩ | ⟨h3, _⟩
        · rw [e, h3] at h1; injection h1 with h1; subst h1
          exact absurd h2 (hp k' e')
        · rw [e, h3] at h1; cases h1
    · by_cases e' : k' = q
      · rw [hoth k e] at h1
        rcases hq with ⟨h3, _⟩ | ⟨h3, _⟩
        · rw [e', h3] at h2; injection h2 with h2; subst h2
          exact absurd h1 (hp k e)
        · rw [e', h3] at h2; cases h2
      · rw [hoth k e] at h1; rw [hoth k' e'] at h2
        exact h.inj k k' p' h1 h2
  · by_cases e : k = q
    · subst e
      rcases hq with ⟨h3, _⟩ | ⟨_, h3⟩
      · rw [h3] at hk; cases hk
      · exact h3 i hi
    · rw [hoth k e] at hk
      show mem' _ = 0
      rw [hmem _ (by omega)]
      exact h.zero k hk i hi
/-- delete by its run -/
theorem wpList_delete_run {P : Program} {w w' : World} {ops : Array Oper} {rest : List Oper} {o : Oper} {a : Act} {Q : Exit → Act → World → Prop} (hg : o.guard = none) (m x : Operand) (t k : TypeId) (hop : o.op = Op.call { callee := Callee.builtin Builtin.delete, args := #[m, x], argTypes := #[t, k] })
    (vm vx : Value) (hm : a.eval m = vm) (hx : a.eval x = vx) (hrun : ∀ ty, (Builtin.delete_ #[t, k] ty #[vm, vx]).run P w = .ok (.tuple #[]) w') (hK : wpList P ops Q rest (a.put o.dst (.tuple #[])) w') :
    wpList P ops Q (o :: rest) a w := by
  refine wpList_plain hg fun K' hK' => ?_
  unfold Oper.wp
  simp [execOp, hop, resolve, invoke, builtin, hm, hx, hrun, Result.andThen]
  exact hK' _ _ hK
set_option maxRecDepth 100000 in
theorem store1_any (c v i : Nat) (w : World) (hr : Row w c 31 [.int .u64 (v : Nat)]) (hi : i < 8) (hv : v ≤ TOP) :
    Calls Tryz.prog 57 #[.int .i64 (i : Nat), .pointer (some ⟨c, 0, none⟩)] w fun e w' => e = .returned (u8 (v / 2 ^ (8 * i) % 256)) ∧ w = w' := by
  have c0 := hr.cell 0
  have lc := hr.lt
  simp only [List.getElem?_cons_zero] at c0
  go_enter Tryz.func57, Tryz.ntmps57
  go_wp2_with fail
  go_ret
  exact ⟨by unfold u8; rw [Int.natCast_emod, Int.natCast_ediv, Int.natCast_pow]; rfl, rfl⟩
end Bu
end Go.Proofs.YtfpofaniicegaaaGreat

/- The walks of All and what it hands back; Largest. -/
import Derived.Test.YtchajbegjajlkaaSpQ64
import Derived.Test.YtchajbegjajlkaaSpC
import Derived.Sort.CutIn
import Derived.Laws.EntriesVeiled
import Derived.OwnWalkIn
import Derived.TacticsInMore
import Derived.LoopNIn
import Derived.LoopIn
import Derived.Deep.RegionHeld3
set_option linter.unusedVariables false
set_option linter.unusedSimpArgs false
namespace Go.Proofs.Ytchajbegjajlkaa
open Go.RowKit
open Bu
attribute [local go_sem] Oper.semAt_some
namespace S64
theorem IsS.same {w w' : World} {B n : Nat} {A : Option Addr} {s : Sp.S} (h : IsS w B A n s) (hb : ∀ ad, A = some ad → 0 < n → w'.heap[ad.block]? = w.heap[ad.block]?) : IsS w' B A n s := ⟨reads_same h.1 hb, h.2⟩
theorem IsS.lt {w : World} {B n : Nat} {A : Option Addr} {s : Sp.S} (h : IsS w B A n s) (h0 : 0 < n) : ∀ ad, A = some ad → ad.block < B := by
  intro ad e
  obtain ⟨ad', e', hl, _⟩ := h.1.2 h0
  rw [e] at e'; injection e' with e'; rw [e']; exact hl
/-- a list of spans that lies where R holds -/
def Lst (w : World) (R : Nat → Prop) (A : Option Addr) (n : Nat) (s : Sp.S) : Prop := IsS w w.heap.size A n s ∧ ∀ ad, A = some ad → 0 < n → R ad.block
theorem Lst.chg {w w' : World} {R Y : Nat → Prop} {A : Option Addr} {n : Nat} {s : Sp.S} (h : Lst w R A n s) (hc : ChgP Y w w') (hY : ∀ k, R k → ¬ Y k) : Lst w' R A n s :=
  ⟨((IsS.same h.1 (fun ad e h0 => hc.block _ (IsS.lt h.1 h0 ad e) (hY _ (h.2 ad e h0)))).more hc.size), h.2⟩
/-- what All hands back -/
def allF (g : Nat) : Value := .func (.func 31) #[] #[.pointer (some ⟨g, 0, none⟩)]
set_option maxRecDepth 100000 in
theorem all_any (A : Option Addr) (n c : Nat) (w : World) :
    Calls Try.prog 10 #[setV A n c] w fun e w' => e = .returned (allF w.heap.size) ∧ w' = w.alloc (.cells #[.slice A n c] 26) := by
  unfold setV allF
  go_enter Try.func10, Try.ntmps10
  go_wp2_with fail
  go_ret
  exact ⟨rfl, rfl⟩
/-- a span, as it is handed to a loop -/
def spE (x : Nat × Nat) : Array Value := #[.agg #[.int .u64 (x.1 : Nat), .int .u64 (x.2 : Nat)]]
set_option maxRecDepth 100000 in
set_option maxHeartbeats 2000000 in
/-- WHAT All HANDS BACK TELLS THE SPANS, one behind the other. -/
theorem all_seq (A : Option Addr) (g nn c : Nat) (s : Sp.S) (prot : Nat → Prop) (n : Nat) (w : World) (hr : Row w g 26 [.slice A nn c]) (hL : Lst w prot A nn s) (hg : prot g) (hp : ∀ k, prot k → k < w.heap.size) :
    SeqC Fence.wide n Try.prog 31 #[.pointer (some ⟨g, 0, none⟩)] spE (fun _ => False) prot (fun xs => xs = s) (fun pre => pre <+: s) s 0 (fun _ => True) w := by
  intro l J Jx W hb hJ hJx hY h0
  have hdd : ∀ k : Nat, (Fence.wide.depth.isSome = true → 1 ≤ k) := fun k h => by cases h
  have hn63 := hL.1.2.2
  have hLW : Lst W prot A nn s := hL.chg (Y := fun _ => False) (ChgP.of_below hb) (fun _ _ h => h)
  have hrW := hr.below hb hr.lt
  have hpW : ∀ k, prot k → k < W.heap.size := fun k hk => Nat.lt_of_lt_of_le (hp k hk) hb.size
  have HP := Lib.hid hpW
  have HJ : Hid (∀ pre A B, J pre A → ChgP (fun _ => False) A B → J pre B) := Lib.hid (fun pre A B h hc => hJ pre A B h (hc.mono (fun _ h => h.elim)))
  have HY := Lib.hid hY; have HL := Lib.hid hLW; have H0 := Lib.hid h0
  have a1 := hrW.cell 0
  have b1 := hrW.lt
  simp only [List.getElem?_cons_zero] at a1
  have HLN := Lib.hid hLW.1.2.1
  clear hL hr hb hp hJ hJx hY h0 hLW hrW hpW
  simp only [List.append_toArray, List.cons_append, List.nil_append]
  refine callsIn_of_wp Try.func31 rfl trivial ?_ rfl
  simp only [Try.ntmps31, List.size_toArray, List.length_cons, List.length_nil, Nat.reduceAdd, Nat.reduceSub, Array.replicate_succ, Array.replicate_zero, List.push_toArray, List.append_toArray, List.nil_append, List.cons_append]
  gi_wp2_with fail
  gi_loopw [8] (fun x wr => ∃ i : Nat, i ≤ nn ∧ x = .int .i64 (i : Nat) ∧ Hid (J (s.take i) wr ∧ Lst wr prot A nn s ∧ W.heap.size ≤ wr.heap.size)) (fun x _ => nn - (intOf x).toNat)
  case atStart => exact ⟨0, by omega, rfl, Lib.hid ⟨H0.out, HL.out, Nat.le_refl _⟩⟩
  case round =>
  obtain ⟨i, hi, rfl, HI⟩ := hrel
  by_cases hin : i < nn
  · obtain ⟨b, o, x0, x1, rfl, hbl, hx, y0, y1⟩ := HI.out.2.1.1.cells hin
    have hi0 : (0 : Int) ≤ (i : Int) := by omega
    have hi1 : (i : Int) < (nn : Int) := by omega
    have hc2 : ChgP (fun _ => False) wr (wr.alloc (.cells #[.int .u64 (x0 : Nat), .int .u64 (x1 : Nat)] 35)) := (ChgP.refl _ wr).alloc _
    have hj2 := HJ.out _ _ _ HI.out.1 hc2
    have hl2 := HI.out.2.1.chg hc2 (fun _ _ h => h)
    have hs2 : W.heap.size + 0 ≤ (wr.alloc (.cells #[.int .u64 (x0 : Nat), .int .u64 (x1 : Nat)] 35)).heap.size := by have := HI.out.2.2; simp; omega
    have htk : s.take (i + 1) = s.take i ++ [(x0, x1)] := by rw [List.take_add_one, hx]; rfl
    have HR := Lib.hid (HY.out (s.take i) (x0, x1) _ hj2 (by rw [← htk]; exact List.take_prefix _ _) hs2)
    have HL2 := Lib.hid hl2; have HS2 := Lib.hid hs2; have HTK := Lib.hid htk
    unfold spE at HR
    simp only at HR
    clear hx hc2 hj2 hl2 hs2 htk
    gi_upto_region 3 with fail
    obtain ⟨fn, tmps, assign, body, hy, hR⟩ := HR.out
    have hrx := Row.new wr 35 [.int .u64 (x0 : Nat), .int .u64 (x1 : Nat)]
    obtain ⟨c9, hc9⟩ : ∃ c9, c9 = wr.heap.size := ⟨_, rfl⟩
    generalize wr.alloc (.cells #[.int .u64 (x0 : Nat), .int .u64 (x1 : Nat)] 35) = w2 at *
    rw [← hc9] at hrx ⊢
    have z0 := hrx.cell 0
    have z1 := hrx.cell 1
    have zl := hrx.lt
    simp only [List.getElem?_cons_zero, List.getElem?_cons_succ] at z0 z1
    clear hrx hc9 y0 y1 HR a1
    gi_wp2_with fail
    refine ⟨hdd _, hR.mono ?_⟩
    rintro e W3 (⟨rfl, hj3, hk3⟩ | ⟨rfl, hjx3, hk3⟩)
    · have HI3 : Hid (J (s.take (i + 1)) W3 ∧ Lst W3 prot (some ⟨b, o, none⟩) nn s ∧ W.heap.size ≤ W3.heap.size) := Lib.hid ⟨by rw [HTK.out]; exact hj3, HL2.out.chg hk3 (fun k hk hn => hn (.inl hk)), Nat.le_trans HS2.out hk3.size⟩
      clear hj3 hk3 z0 z1 zl hy hR
      gi_wp2_with fail
      go_roundw
      case rel => exact ⟨i + 1, by omega, by go_num, HI3⟩
      case measure => simp [intOf]; omega
    · clear hk3 z0 z1 zl hy hR
      gi_wp2_with fail
      refine bodyPost_ret (results_none rfl _ _ _) rfl ?_
      exact ⟨⟨_, rfl⟩, .inr ⟨s.take i ++ [(x0, x1)], by rw [← HTK.out]; exact List.take_prefix _ _, hjx3⟩, trivial⟩
  · have HN : Hid (J s wr) := Lib.hid (by
      have h := HI.out.1
      rw [List.take_of_length_le (by have := HLN.out; omega)] at h
      exact h)
    gi_wp2_with fail
    go_end0
    exact ⟨⟨_, rfl⟩, .inl ⟨s, rfl, HN.out⟩, trivial⟩
/-- the longest span, the first of them -/
def larg : Sp.S → Nat × Nat
  | [] => (0, 0)
  | x :: r => r.foldl (fun m y => if m.2 - m.1 < y.2 - y.1 then y else m) x
theorem larg_snoc (l : Sp.S) (x : Nat × Nat) : larg (l ++ [x]) = if l = [] then x else if (larg l).2 - (larg l).1 < x.2 - x.1 then x else larg l := by
  cases l with
  | nil => rfl
  | cons a r =>
    rw [if_neg (by simp)]
    show List.foldl _ a (r ++ [x]) = _
    rw [List.foldl_append]
    rfl
theorem larg_mem {s : Sp.S} (h : s ≠ []) : larg s ∈ s := by
  have hf : ∀ (r : Sp.S) (x : Nat × Nat), r.foldl (fun m y => if m.2 - m.1 < y.2 - y.1 then y else m) x = x ∨ r.foldl (fun m y => if m.2 - m.1 < y.2 - y.1 then y else m) x ∈ r := by
    intro r
    induction r with
    | nil => intro x; exact .inl rfl
    | cons a r ih =>
      intro x
      simp only [List.foldl_cons]
      split
      · rcases ih a with h | h
        · exact .inr (by rw [h]; simp)
        · exact .inr (List.mem_cons_of_mem _ h)
      · rcases ih x with h | h
        · exact .inl h
        · exact .inr (List.mem_cons_of_mem _ h)
  cases s with
  | nil => exact absurd rfl h
  | cons x r =>
    rcases hf r x with h | h
    · show List.foldl _ x r ∈ _
      rw [h]; simp
    · exact List.mem_cons_of_mem _ h
theorem larg_le {s : Sp.S} (hn : Sp.Nrm TOP s) : (larg s).1 ≤ (larg s).2 ∧ (larg s).2 ≤ TOP := by
  by_cases h : s = []
  · subst h; exact ⟨Nat.le_refl _, Nat.zero_le _⟩
  · exact hn.ok _ (larg_mem h)
end S64
end Go.Proofs.Ytchajbegjajlkaa

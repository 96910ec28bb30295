/- The walks of All and what it hands back; Largest. -/
import Derived.Test.YtchajbegjajlkaaSpQ8
import Derived.Test.YtchajbegjajlkaaSpC
import Derived.Sort.CutIn
import Derived.Laws.EntriesVeiled
import Derived.OwnWalkIn
import Derived.TacticsInMore
import Derived.LoopNIn
import Derived.LoopIn
import Derived.Deep.RegionHeld3
set_option linter.unusedVariables false
set_option linter.unusedSimpArgs false
namespace Go.Proofs.Ytchajbegjajlkaa
open Go.RowKit
open Bu
attribute [local go_sem] Oper.semAt_some
namespace S8
theorem IsS.same {w w' : World} {B n : Nat} {A : Option Addr} {s : Sp.S} (h : IsS w B A n s) (hb : ∀ ad, A = some ad → 0 < n → w'.heap[ad.block]? = w.heap[ad.block]?) : IsS w' B A n s := ⟨reads_same h.1 hb, h.2⟩
theorem IsS.lt {w : World} {B n : Nat} {A : Option Addr} {s : Sp.S} (h : IsS w B A n s) (h0 : 0 < n) : ∀ ad, A = some ad → ad.block < B := by
  intro ad e
  obtain ⟨ad', e', hl, _⟩ := h.1.2 h0
  rw [e] at e'; injection e' with e'; rw [e']; exact hl
/-- a list of spans that lies where R holds -/
def Lst (w : World) (R : Nat → Prop) (A : Option Addr) (n : Nat) (s : Sp.S) : Prop := IsS w w.heap.size A n s ∧ ∀ ad, A = some ad → 0 < n → R ad.block
theorem Lst.chg {w w' : World} {R Y : Nat → Prop} {A : Option Addr} {n : Nat} {s : Sp.S} (h : Lst w R A n s) (hc : ChgP Y w w') (hY : ∀ k, R k → ¬ Y k) : Lst w' R A n s :=
  ⟨((IsS.same h.1 (fun ad e h0 => hc.block _ (IsS.lt h.1 h0 ad e) (hY _ (h.2 ad e h0)))).more hc.size), h.2⟩
/-- what All hands back -/
def allF (g : Nat) : Value := .func (.func 56) #[] #[.pointer (some ⟨g, 0, none⟩)]
set_option maxRecDepth 100000 in
theorem all_any (A : Option Addr) (n c : Nat) (w : World) :
    Calls Try.prog 36 #[setV A n c] w fun e w' => e = .returned (allF w.heap.size) ∧ w' = w.alloc (.cells #[.slice A n c] 43) := by
  unfold setV allF
  go_enter Try.func36, Try.ntmps36
  go_wp2_with fail
  go_ret
  exact ⟨rfl, rfl⟩
/-- a span, as it is handed to a loop -/
def spE (x : Nat × Nat) : Array Value := #[.agg #[.int .u8 (x.1 : Nat), .int .u8 (x.2 : Nat)]]
set_option maxRecDepth 100000 in
set_option maxHeartbeats 2000000 in
/-- WHAT All HANDS BACK TELLS THE SPANS, one behind the other. -/
theorem all_seq (A : Option Addr) (g nn c : Nat) (s : Sp.S) (prot : Nat → Prop) (n : Nat) (w : World) (hr : Row w g 43 [.slice A nn c]) (hL : Lst w prot A nn s) (hg : prot g) (hp : ∀ k, prot k → k < w.heap.size) :
    SeqC Fence.wide n Try.prog 56 #[.pointer (some ⟨g, 0, none⟩)] spE (fun _ => False) prot (fun xs => xs = s) (fun pre => pre <+: s) s 0 (fun _ => True) w := by
  intro l J Jx W hb hJ hJx hY h0
  have hdd : ∀ k : Nat, (Fence.wide.depth.isSome = true → 1 ≤ k) := fun k h => by cases h
  have hn63 := hL.1.2.2
  have hLW : Lst W prot A nn s := hL.chg (Y := fun _ => False) (ChgP.of_below hb) (fun _ _ h => h)
  have hrW := hr.below hb hr.lt
  have hpW : ∀ k, prot k → k < W.heap.size := fun k hk => Nat.lt_of_lt_of_le (hp k hk) hb.size
  have HP := Lib.hid hpW
  have HJ : Hid (∀ pre A B, J pre A → ChgP (fun _ => False) A B → J pre B) := Lib.hid (fun pre A B h hc => hJ pre A B h (hc.mono (fun _ h => h.elim)))
  have HY := Lib.hid hY; have HL := Lib.hid hLW; have H0 := Lib.hid h0
  have a1 := hrW.cell 0
  have b1 := hrW.lt
  simp only [List.getElem?_cons_zero] at a1
  have HLN := Lib.hid hLW.1.2.1
  clear hL hr hb hp hJ hJx hY h0 hLW hrW hpW
  simp only [List.append_toArray, List.cons_append, List.nil_append]
  refine callsIn_of_wp Try.func56 rfl trivial ?_ rfl
  simp only [Try.ntmps56, List.size_toArray, List.length_cons, List.length_nil, Nat.reduceAdd, Nat.reduceSub, Array.replicate_succ, Array.replicate_zero, List.push_toArray, List.append_toArray, List.nil_append, List.cons_append]
  gi_wp2_with fail
  gi_loopw [8] (fun x wr => ∃ i : Nat, i ≤ nn ∧ x = .int .i64 (i : Nat) ∧ Hid (J (s.take i) wr ∧ Lst wr prot A nn s ∧ W.heap.size ≤ wr.heap.size)) (fun x _ => nn - (intOf x).toNat)
  case atStart => exact ⟨0, by omega, rfl, Lib.hid ⟨H0.out, HL.out, Nat.le_refl _⟩⟩
  case round =>
  obtain ⟨i, hi, rfl, HI⟩ := hrel
  by_cases hin : i < nn
  · obtain ⟨b, o, x0, x1, rfl, hbl, hx, y0, y1⟩ := HI.out.2.1.1.cells hin
    have hi0 : (0 : Int) ≤ (i : Int) := by omega
    have hi1 : (i : Int) < (nn : Int) := by omega
    have hc2 : ChgP (fun _ => False) wr (wr.alloc (.cells #[.int .u8 (x0 : Nat), .int .u8 (x1 : Nat)] 48)) := (ChgP.refl _ wr).alloc _
    have hj2 := HJ.out _ _ _ HI.out.1 hc2
    have hl2 := HI.out.2.1.chg hc2 (fun _ _ h => h)
    have hs2 : W.heap.size + 0 ≤ (wr.alloc (.cells #[.int .u8 (x0 : Nat), .int .u8 (x1 : Nat)] 48)).heap.size := by have := HI.out.2.2; simp; omega
    have htk : s.take (i + 1) = s.take i ++ [(x0, x1)] := by rw [List.take_add_one, hx]; rfl
    have HR := Lib.hid (HY.out (s.take i) (x0, x1) _ hj2 (by rw [← htk]; exact List.take_prefix _ _) hs2)
    have HL2 := Lib.hid hl2; have HS2 := Lib.hid hs2; have HTK := Lib.hid htk
    unfold spE at HR
    simp only at HR
    clear hx hc2 hj2 hl2 hs2 htk
    gi_upto_region 3 with fail
    obtain ⟨fn, tmps, assign, body, hy, hR⟩ := HR.out
    have hrx := Row.new wr 48 [.int .u8 (x0 : Nat), .int .u8 (x1 : Nat)]
    obtain ⟨c9, hc9⟩ : ∃ c9, c9 = wr.heap.size := ⟨_, rfl⟩
    generalize wr.alloc (.cells #[.int .u8 (x0 : Nat), .int .u8 (x1 : Nat)] 48) = w2 at *
    rw [← hc9] at hrx ⊢
    have z0 := hrx.cell 0
    have z1 := hrx.cell 1
    have zl := hrx.lt
    simp only [List.getElem?_cons_zero, List.getElem?_cons_succ] at z0 z1
    clear hrx hc9 y0 y1 HR a1
    gi_wp2_with fail
    refine ⟨hdd _, hR.mono ?_⟩
    rintro e W3 (⟨rfl, hj3, hk3⟩ | ⟨rfl, hjx3, hk3⟩)
    · have HI3 : Hid (J (s.take (i + 1)) W3 ∧ Lst W3 prot (some ⟨b, o, none⟩) nn s ∧ W.heap.size ≤ W3.heap.size) := Lib.hid ⟨by rw [HTK.out]; exact hj3, HL2.out.chg hk3 (fun k hk hn => hn (.inl hk)), Nat.le_trans HS2.out hk3.size⟩
      clear hj3 hk3 z0 z1 zl hy hR
      gi_wp2_with fail
      go_roundw
      case rel => exact ⟨i + 1, by omega, by go_num, HI3⟩
      case measure => simp [intOf]; omega
    · clear hk3 z0 z1 zl hy hR
      gi_wp2_with fail
      refine bodyPost_ret (results_none rfl _ _ _) rfl ?_
      exact ⟨⟨_, rfl⟩, .inr ⟨s.take i ++ [(x0, x1)], by rw [← HTK.out]; exact List.take_prefix _ _, hjx3⟩, trivial⟩
  · have HN : Hid (J s wr) := Lib.hid (by
      have h := HI.out.1
      rw [List.take_of_length_le (by have := HLN.out; omega)] at h
      exact h)
    gi_wp2_with fail
    go_end0
    exact ⟨⟨_, rfl⟩, .inl ⟨s, rfl, HN.out⟩, trivial⟩
/-- the longest span, the first of them -/
def larg : Sp.S → Nat × Nat
  | [] => (0, 0)
  | x :: r => r.foldl (fun m y => if m.2 - m.1 < y.2 - y.1 then y else m) x
theorem larg_snoc (l : Sp.S) (x : Nat × Nat) : larg (l ++ [x]) = if l = [] then x else if (larg l).2 - (larg l).1 < x.2 - x.1 then x else larg l := by
  cases l with
  | nil => rfl
  | cons a r =>
    rw [if_neg (by simp)]
    show List.foldl _ a (r ++ [x]) = _
    rw [List.foldl_append]
    rfl
theorem larg_mem {s : Sp.S} (h : s ≠ []) : larg s ∈ s := by
  have hf : ∀ (r : Sp.S) (x : Nat × Nat), r.foldl (fun m y => if m.2 - m.1 < y.2 - y.1 then y else m) x = x ∨ r.foldl (fun m y => if m.2 - m.1 < y.2 - y.1 then y else m) x ∈ r := by
    intro r
    induction r with
    | nil => intro x; exact .inl rfl
    | cons a r ih =>
      intro x
      simp only [List.foldl_cons]
      split
      · rcases ih a with h | h
        · exact .inr (by rw [h]; simp)
        · exact .inr (List.mem_cons_of_mem _ h)
      · rcases ih x with h | h
        · exact .inl h
        · exact .inr (List.mem_cons_of_mem _ h)
  cases s with
  | nil => exact absurd rfl h
  | cons x r =>
    rcases hf r x with h | h
    · show List.foldl _ x r ∈ _
      rw [h]; simp
    · exact List.mem_cons_of_mem _ h
theorem larg_le {s : Sp.S} (hn : Sp.Nrm TOP s) : (larg s).1 ≤ (larg s).2 ∧ (larg s).2 ≤ TOP := by
  by_cases h : s = []
  · subst h; exact ⟨Nat.le_refl _, Nat.zero_le _⟩
  · exact hn.ok _ (larg_mem h)
set_option maxRecDepth 100000 in
set_option maxHeartbeats 2000000 in
theorem largest_any (A : Option Addr) (n c : Nat) (s : Sp.S) (w : World) (hs : IsSet w A n c s) :
    Calls Try.prog 20 #[setV A n c] w fun e w' => e = .returned (.tuple #[.agg #[.int .u8 ((larg s).1 : Nat), .int .u8 ((larg s).2 : Nat)], .bool (decide (0 < n))]) ∧ Below w.heap.size w w' := by
  have HS := Lib.hid hs.1
  have HN := Lib.hid hs.2.2.2.1
  have HLN := Lib.hid hs.1.2.1
  have hn63 := hs.1.2.2
  unfold setV
  obtain ⟨LG, hLG⟩ : ∃ LG, LG = larg s := ⟨_, rfl⟩
  have HLG := Lib.hid hLG
  rw [← hLG]
  obtain ⟨l0, l1⟩ := LG
  simp only
  clear hs hLG
  go_enter Try.func20, Try.ntmps20
  go_upto_region 2 with fail
  have hrow : ∀ (w : World), Row (((w.alloc (.cells #[.slice A n c] 43)).alloc (.cells #[.int .u8 0, .int .u8 0] 48)).alloc (.cells #[.int .u8 0, .int .u8 0] 48)) w.heap.size 43 [.slice A n c] ∧
      Row (((w.alloc (.cells #[.slice A n c] 43)).alloc (.cells #[.int .u8 0, .int .u8 0] 48)).alloc (.cells #[.int .u8 0, .int .u8 0] 48)) (w.heap.size + 1) 48 [.int .u8 0, .int .u8 0] ∧
      Row (((w.alloc (.cells #[.slice A n c] 43)).alloc (.cells #[.int .u8 0, .int .u8 0] 48)).alloc (.cells #[.int .u8 0, .int .u8 0] 48)) (w.heap.size + 1 + 1) 48 [.int .u8 0, .int .u8 0] ∧
      Below w.heap.size w (((w.alloc (.cells #[.slice A n c] 43)).alloc (.cells #[.int .u8 0, .int .u8 0] 48)).alloc (.cells #[.int .u8 0, .int .u8 0] 48)) := fun w => by
    refine ⟨((Row.new w _ [.slice A n c]).alloc _).alloc _, ?_, ?_, (((Below.refl _ _).alloc (Nat.le_refl _) _).alloc (by simp) _).alloc (by simp; omega) _⟩
    · have h := Row.new (w.alloc (.cells #[.slice A n c] 43)) 48 [.int .u8 0, .int .u8 0]
      rw [show (w.alloc (.cells #[.slice A n c] 43)).heap.size = w.heap.size + 1 by simp] at h
      exact h.alloc _
    · have h := Row.new ((w.alloc (.cells #[.slice A n c] 43)).alloc (.cells #[.int .u8 0, .int .u8 0] 48)) 48 [.int .u8 0, .int .u8 0]
      rw [show ((w.alloc (.cells #[.slice A n c] 43)).alloc (.cells #[.int .u8 0, .int .u8 0] 48)).heap.size = w.heap.size + 1 + 1 by simp] at h
      exact h
  obtain ⟨r1, r2, r3, hb0⟩ := hrow w
  clear hrow
  generalize ((w.alloc (.cells #[.slice A n c] 43)).alloc (.cells #[.int .u8 0, .int .u8 0] 48)).alloc (.cells #[.int .u8 0, .int .u8 0] 48) = w1 at *
  have HI0 : Hid (Row w1 w.heap.size 43 [.slice A n c] ∧ Row w1 (w.heap.size + 1) 48 [.int .u8 0, .int .u8 0] ∧ Row w1 (w.heap.size + 1 + 1) 48 [.int .u8 ((larg (s.take 0)).1 : Nat), .int .u8 ((larg (s.take 0)).2 : Nat)] ∧ Below w.heap.size w w1) := Lib.hid ⟨r1, r2, r3, hb0⟩
  have c0 := r1.cell 0
  have hl0 := r1.lt
  simp only [List.getElem?_cons_zero] at c0
  clear r1 r2 r3 hb0
  go_wp2_with fail
  go_loopw [10] (fun x wr => ∃ i : Nat, i ≤ n ∧ x = .int .i64 (i : Nat) ∧ Hid (Row wr w.heap.size 43 [.slice A n c] ∧ Row wr (w.heap.size + 1) 48 [.int .u8 0, .int .u8 0] ∧ Row wr (w.heap.size + 1 + 1) 48 [.int .u8 ((larg (s.take i)).1 : Nat), .int .u8 ((larg (s.take i)).2 : Nat)] ∧ Below w.heap.size w wr)) (fun x _ => n - (intOf x).toNat)
  case atStart => exact ⟨0, by omega, rfl, HI0⟩
  case round =>
  clear HI0 c0 hl0
  obtain ⟨i, hi, rfl, HI⟩ := hrel
  by_cases hin : i < n
  · obtain ⟨b, o, x0, x1, rfl, hbl, hx, y0, y1⟩ := ((HS.out.below HI.out.2.2.2).more HI.out.2.2.2.size).cells hin
    have hi0 : (0 : Int) ≤ (i : Int) := by omega
    have hi1 : (i : Int) < (n : Int) := by omega
    have hxo := HN.out.ok _ (List.mem_of_getElem? hx)
    have htk : s.take (i + 1) = s.take i ++ [(x0, x1)] := by rw [List.take_add_one, hx]; rfl
    have hmo : (larg (s.take i)).1 ≤ (larg (s.take i)).2 ∧ (larg (s.take i)).2 ≤ TOP := by
      by_cases h : s.take i = []
      · rw [h]; exact ⟨Nat.le_refl _, Nat.zero_le _⟩
      · exact HN.out.ok _ (List.mem_of_mem_take (larg_mem h))
    have hsn := larg_snoc (s.take i) (x0, x1)
    rw [← htk] at hsn
    have hie : (s.take i = []) ↔ i = 0 := by
      constructor
      · intro h
        have h2 := congrArg List.length h
        rw [List.length_take, List.length_nil] at h2
        have := HLN.out
        omega
      · rintro rfl; rfl
    have HIE := Lib.hid hie
    obtain ⟨M, hM⟩ : ∃ M, M = larg (s.take i) := ⟨_, rfl⟩
    rw [← hM] at hmo hsn HI
    obtain ⟨M', hM'⟩ : ∃ M', M' = larg (s.take (i + 1)) := ⟨_, rfl⟩
    rw [← hM'] at hsn
    have HM' := Lib.hid hM'
    obtain ⟨m0, m1⟩ := M
    simp only at hmo hsn HI
    have HSN := Lib.hid hsn
    unfold TOP at hxo hmo
    simp only at hxo
    clear hx htk hM hM' hie hsn
    go_upto_region 5 with fail
    have hbx : Below wr.heap.size wr (wr.alloc (.cells #[.int .u8 (x0 : Nat), .int .u8 (x1 : Nat)] 48)) := (Below.refl _ _).alloc (Nat.le_refl _) _
    have hrx := Row.new wr 48 [.int .u8 (x0 : Nat), .int .u8 (x1 : Nat)]
    obtain ⟨c9, hc9⟩ : ∃ c9, c9 = wr.heap.size := ⟨_, rfl⟩
    have HC9 : Hid (w.heap.size + 1 + 1 < c9) := Lib.hid (by rw [hc9]; exact HI.out.2.2.1.lt)
    generalize wr.alloc (.cells #[.int .u8 (x0 : Nat), .int .u8 (x1 : Nat)] 48) = w2 at *
    rw [← hc9] at hrx ⊢
    have HI2 : Hid (Row w2 w.heap.size 43 [.slice (some ⟨b, o, none⟩) n c] ∧ Row w2 (w.heap.size + 1) 48 [.int .u8 0, .int .u8 0] ∧ Row w2 (w.heap.size + 1 + 1) 48 [.int .u8 (m0 : Nat), .int .u8 (m1 : Nat)] ∧ Below w.heap.size w w2) := Lib.hid ⟨HI.out.1.below hbx HI.out.1.lt, HI.out.2.1.below hbx HI.out.2.1.lt, HI.out.2.2.1.below hbx HI.out.2.2.1.lt, HI.out.2.2.2.trans (hbx.mono HI.out.2.2.2.size)⟩
    have z0 := hrx.cell 0
    have z1 := hrx.cell 1
    have zl := hrx.lt
    have v0 := HI2.out.2.2.1.cell 0
    have v1 := HI2.out.2.2.1.cell 1
    have f0 := HI2.out.2.2.1.frozen 0
    have f1 := HI2.out.2.2.1.frozen 1
    have vl := HI2.out.2.2.1.lt
    simp only [List.getElem?_cons_zero, List.getElem?_cons_succ] at z0 z1 v0 v1
    clear hbx hrx hc9 y0 y1 HI hbl
    have HST : Hid (∀ wx, wx = (w2.setCell ⟨w.heap.size + 1 + 1, 0, none⟩ (.int .u8 (x0 : Nat))).setCell ⟨w.heap.size + 1 + 1, 1, none⟩ (.int .u8 (x1 : Nat)) → Row wx w.heap.size 43 [.slice (some ⟨b, o, none⟩) n c] ∧ Row wx (w.heap.size + 1) 48 [.int .u8 0, .int .u8 0] ∧ Row wx (w.heap.size + 1 + 1) 48 [.int .u8 (x0 : Nat), .int .u8 (x1 : Nat)] ∧ Below w.heap.size w wx) := Lib.hid (fun wx e => by
      subst e
      obtain ⟨h1, h2, h3, h4⟩ := HI2.out
      exact ⟨(h1.far (p := ⟨w.heap.size + 1 + 1, 0, none⟩) (show w.heap.size ≠ w.heap.size + 1 + 1 by omega) _).far (p := ⟨w.heap.size + 1 + 1, 1, none⟩) (show w.heap.size ≠ w.heap.size + 1 + 1 by omega) _, (h2.far (p := ⟨w.heap.size + 1 + 1, 0, none⟩) (show w.heap.size + 1 ≠ w.heap.size + 1 + 1 by omega) _).far (p := ⟨w.heap.size + 1 + 1, 1, none⟩) (show w.heap.size + 1 ≠ w.heap.size + 1 + 1 by omega) _, (h3.set_ 0 _).set_ 1 _, (h4.setCell (p := ⟨w.heap.size + 1 + 1, 0, none⟩) (show w.heap.size ≤ w.heap.size + 1 + 1 by omega) _).setCell (p := ⟨w.heap.size + 1 + 1, 1, none⟩) (show w.heap.size ≤ w.heap.size + 1 + 1 by omega) _⟩)
    by_cases hi00 : i = 0
    · subst hi00
      have HE : Hid (M' = (x0, x1)) := Lib.hid (by rw [HSN.out, if_pos (HIE.out.2 rfl)])
      go_wp2_with fail
      have HF := Lib.hid (HST.out _ rfl)
      clear HST z0 z1 v0 v1 f0 f1 vl zl
      generalize (w2.setCell ⟨w.heap.size + 1 + 1, 0, none⟩ (.int .u8 (x0 : Nat))).setCell ⟨w.heap.size + 1 + 1, 1, none⟩ (.int .u8 (x1 : Nat)) = wx at *
      go_wp2_with fail
      go_roundw
      case rel => exact ⟨1, by omega, by go_num, Lib.hid (by rw [← HM'.out, HE.out]; exact HF.out)⟩
      case measure => simp [intOf]; omega
    · have g0 : ((i : Int) == 0) = false := by simp; omega
      have HE := Lib.hid (show M' = if m1 - m0 < x1 - x0 then (x0, x1) else (m0, m1) by rw [HSN.out, if_neg (fun h => hi00 (HIE.out.1 h))])
      obtain ⟨dx, hdx⟩ : ∃ dx, dx = x1 - x0 := ⟨_, rfl⟩
      obtain ⟨dm, hdm⟩ : ∃ dm, dm = m1 - m0 := ⟨_, rfl⟩
      have e1 : (x1 : Int) - (x0 : Int) = (dx : Int) := by omega
      have e2 : (m1 : Int) - (m0 : Int) = (dm : Int) := by omega
      have hdx1 : dx ≤ 255 := by omega
      have hdm1 : dm ≤ 255 := by omega
      rw [← hdx, ← hdm] at HE
      clear hdx hdm hi00
      by_cases hlt : dm < dx
      · have g1 : decide (dm < dx) = true := decide_eq_true hlt
        have HE1 : Hid (M' = (x0, x1)) := Lib.hid (by rw [HE.out, if_pos hlt])
        clear hlt
        go_wp2_with fail
        have HF := Lib.hid (HST.out _ rfl)
        clear HST z0 z1 v0 v1 f0 f1 vl zl
        generalize (w2.setCell ⟨w.heap.size + 1 + 1, 0, none⟩ (.int .u8 (x0 : Nat))).setCell ⟨w.heap.size + 1 + 1, 1, none⟩ (.int .u8 (x1 : Nat)) = wx at *
        go_wp2_with fail
        go_roundw
        case rel => exact ⟨i + 1, by omega, by go_num, Lib.hid (by rw [← HM'.out, HE1.out]; exact HF.out)⟩
        case measure => simp [intOf]; omega
      · have g1 : decide (dm < dx) = false := decide_eq_false hlt
        have HE1 : Hid (M' = (m0, m1)) := Lib.hid (by rw [HE.out, if_neg hlt])
        clear hlt
        go_wp2_with fail
        go_roundw
        case rel => exact ⟨i + 1, by omega, by go_num, Lib.hid (by rw [← HM'.out, HE1.out]; exact HI2.out)⟩
        case measure => simp [intOf]; omega
  · have hie : s.take i = s := List.take_of_length_le (by have := HLN.out; omega)
    have ein : i = n := by omega
    rw [hie] at HI
    rw [← HLG.out] at HI
    simp only at HI
    obtain ⟨m0, hm0⟩ : ∃ m0, m0 = l0 := ⟨_, rfl⟩
    obtain ⟨m1, hm1⟩ : ∃ m1, m1 = l1 := ⟨_, rfl⟩
    subst hm0 hm1
    obtain ⟨r1, r2, r3, hb⟩ := HI.out
    have c0 := r1.cell 0
    have cl := r1.lt
    have v0 := r3.cell 0
    have v1 := r3.cell 1
    have vl := r3.lt
    have q0 := r2.frozen 0
    have q1 := r2.frozen 1
    have u0 := r2.cell 0
    have u1 := r2.cell 1
    have ul := r2.lt
    simp only [List.getElem?_cons_zero, List.getElem?_cons_succ] at c0 v0 v1 u0 u1
    have HY0 := Lib.hid ((r2.set_ 0 (.int .u8 (m0 : Nat))).cell 0)
    have HY1 := Lib.hid (((r2.set_ 0 (.int .u8 (m0 : Nat))).set_ 1 (.int .u8 (m1 : Nat))).cell 1)
    simp only [List.set_cons_zero, List.set_cons_succ, List.getElem?_cons_zero, List.getElem?_cons_succ] at HY0 HY1
    have HKS : Hid (((wr.setCell ⟨w.heap.size + 1, 0, none⟩ (.int .u8 (m0 : Nat))).setCell ⟨w.heap.size + 1, 1, none⟩ (.int .u8 (m1 : Nat))).cell? ⟨w.heap.size, 0, none⟩ = some (.slice A n c) ∧ ((wr.setCell ⟨w.heap.size + 1, 0, none⟩ (.int .u8 (m0 : Nat))).setCell ⟨w.heap.size + 1, 1, none⟩ (.int .u8 (m1 : Nat))).cell? ⟨w.heap.size + 1 + 1, 0, none⟩ = some (.int .u8 (m0 : Nat)) ∧ ((wr.setCell ⟨w.heap.size + 1, 0, none⟩ (.int .u8 (m0 : Nat))).setCell ⟨w.heap.size + 1, 1, none⟩ (.int .u8 (m1 : Nat))).cell? ⟨w.heap.size + 1 + 1, 1, none⟩ = some (.int .u8 (m1 : Nat))) := Lib.hid (by
      have h1 := (r1.far (p := ⟨w.heap.size + 1, 0, none⟩) (show w.heap.size ≠ w.heap.size + 1 by omega) (.int .u8 (m0 : Nat))).far (p := ⟨w.heap.size + 1, 1, none⟩) (show w.heap.size ≠ w.heap.size + 1 by omega) (.int .u8 (m1 : Nat))
      have h3 := (r3.far (p := ⟨w.heap.size + 1, 0, none⟩) (show w.heap.size + 1 + 1 ≠ w.heap.size + 1 by omega) (.int .u8 (m0 : Nat))).far (p := ⟨w.heap.size + 1, 1, none⟩) (show w.heap.size + 1 + 1 ≠ w.heap.size + 1 by omega) (.int .u8 (m1 : Nat))
      exact ⟨h1.cell 0, h3.cell 0, h3.cell 1⟩)
    have HBZ := Lib.hid ((hb.setCell (p := ⟨w.heap.size + 1, 0, none⟩) (show w.heap.size ≤ w.heap.size + 1 by omega) (.int .u8 (m0 : Nat))).setCell (p := ⟨w.heap.size + 1, 1, none⟩) (show w.heap.size ≤ w.heap.size + 1 by omega) (.int .u8 (m1 : Nat)))
    clear r1 r2 r3 hb hie ein
    have hf : decide (i < n) = false := decide_eq_false hin
    go_upto_region 8 with fail
    go_region_held3 (fun w' => w'.cell? ⟨w.heap.size, 0, none⟩ = some (.slice A n c) ∧ w'.cell? ⟨w.heap.size + 1 + 1, 0, none⟩ = some (.int .u8 (m0 : Nat)) ∧ w'.cell? ⟨w.heap.size + 1 + 1, 1, none⟩ = some (.int .u8 (m1 : Nat)))
      (first | exact ⟨c0, v0, v1⟩ | exact HKS.out | fail) (fail)
    all_goals
      go_wp2_with fail
      refine bodyPost_ret (v := .tuple #[.agg #[.int .u8 (m0 : Nat), .int .u8 (m1 : Nat)], .bool (decide (0 < n))]) (by simp [results, Try.results20, go_sem, HY0.out, HY1.out]) rfl ⟨rfl, ?_⟩
      exact ⟨HBZ.out.os, HBZ.out.tape, HBZ.out.output, HBZ.out.size, HBZ.out.block⟩
end S8
end Go.Proofs.Ytchajbegjajlkaa

/- Texts of this claim, one behind the other: BuN. -/
import Derived.Test.YtfpofaniicegaaaGreatJWalkForeign14
/- The walk of bus.New. (Printed by wip/newgen.py.) -/
set_option linter.unusedVariables false
set_option linter.unusedSimpArgs false
namespace Go.Proofs.YtfpofaniicegaaaGreat
open Go.RowKit
open S64
namespace Bu
/-- have two ranges a byte in common? -/
def ovl (x y : Nat × Nat) : Bool := decide (x.1 < y.1 + y.2 ∧ y.1 < x.1 + x.2)
/-- what is said of a range behind others -/
def chk (most : Nat) (pre : Sp.S) (r : Nat × Nat) : Nat :=
  if r.2 = 0 ∨ r.2 % 4096 ≠ 0 ∨ most < r.2 then 32 else if r.1 % 4096 ≠ 0 then 33 else if M32 < r.1 + r.2 then 34 else if pre.any (ovl r) then 35 else 0
def chks (most : Nat) (pre : Sp.S) : Sp.S → Nat
  | [] => 0
  | r :: l => if chk most pre r ≠ 0 then chk most pre r else chks most (pre ++ [r]) l
def total (l : Sp.S) : Nat := (l.map (·.2)).sum
/-- why there is no such machine; 0: there is -/
def newE (rams devs : Sp.S) : Nat :=
  if 8 < rams.length ∨ 32 < devs.length then 4 else if chks TOP [] rams ≠ 0 then chks TOP [] rams else if chks 1048576 rams devs ≠ 0 then chks 1048576 rams devs else if 67108864 < total rams then 36 else 0
theorem chk_zero {most : Nat} {pre : Sp.S} {r : Nat × Nat} (h : chk most pre r = 0) : 0 < r.2 ∧ r.1 + r.2 ≤ M32 ∧ pre.any (ovl r) = false := by
  unfold chk at h
  split at h
  · cases h
  split at h
  · cases h
  split at h
  · cases h
  split at h
  · cases h
  · rename_i h1 h2 h3 h4
    exact ⟨by omega, by omega, by simpa using h4⟩
/-- good ranges -/
def good (l : Sp.S) : Prop := ∀ r ∈ l, 0 < r.2 ∧ r.1 + r.2 ≤ M32
theorem good_snoc {l : Sp.S} {r : Nat × Nat} {most : Nat} {pre : Sp.S} (h : good l) (hr : chk most pre r = 0) : good (l ++ [r]) := by
  intro x hx
  rcases List.mem_append.1 hx with hx | hx
  · exact h x hx
  · rw [List.mem_singleton.1 hx]; exact ⟨(chk_zero hr).1, (chk_zero hr).2.1⟩
theorem rt_chk {most : Nat} {pre t : Sp.S} {r : Nat × Nat} (hn : Sp.Nrm TOP t) (hh : ∀ p, p ≤ TOP → Sp.has t p = on pre p) (hg : good pre) : rt r.1 r.2 most t = chk most pre r := by
  unfold rt chk
  by_cases h1 : r.2 = 0 ∨ r.2 % 4096 ≠ 0 ∨ most < r.2
  · rw [if_pos h1, if_pos h1]
  rw [if_neg h1, if_neg h1]
  by_cases h2 : r.1 % 4096 ≠ 0
  · rw [if_pos h2, if_pos h2]
  rw [if_neg h2, if_neg h2]
  by_cases h3 : M32 < r.1 + r.2
  · rw [if_pos h3, if_pos h3]
  rw [if_neg h3, if_neg h3]
  have e : touch t r.1 (r.1 + r.2 - 1) = pre.any (ovl r) := by
    unfold M32 at h3
    rw [Bool.eq_iff_iff, touch_iff hn, List.any_eq_true]
    constructor
    · rintro ⟨p, h4, h5, h6⟩
      rw [hh p (by unfold TOP; omega)] at h6
      obtain ⟨x, hx, h7⟩ := List.any_eq_true.1 h6
      have h7 := of_decide_eq_true h7
      exact ⟨x, hx, decide_eq_true (by omega)⟩
    · rintro ⟨x, hx, h4⟩
      have h4 := of_decide_eq_true h4
      have h5 := hg x hx
      unfold M32 at h5
      refine ⟨max r.1 x.1, by omega, by omega, ?_⟩
      rw [hh _ (by unfold TOP; omega)]
      exact List.any_eq_true.2 ⟨x, hx, decide_eq_true (by omega)⟩
  rw [e]
theorem chks_drop {most : Nat} {pre l : Sp.S} {k : Nat} (h : ∀ j r, j < k → l[j]? = some r → chk most (pre ++ l.take j) r = 0) (hk : k ≤ l.length) : chks most pre l = chks most (pre ++ l.take k) (l.drop k) := by
  induction k with
  | zero => simp
  | succ k ih =>
    rw [ih (fun j r hj hr => h j r (by omega) hr) (by omega)]
    have hl : k < l.length := by omega
    rw [List.drop_eq_getElem_cons hl, chks, if_neg (by rw [h k _ (by omega) (List.getElem?_eq_getElem hl)]; decide), List.take_succ_eq_append_getElem hl, List.append_assoc]
theorem chks_all {most : Nat} {pre l : Sp.S} (h : ∀ j r, l[j]? = some r → chk most (pre ++ l.take j) r = 0) : chks most pre l = 0 := by
  rw [chks_drop (k := l.length) (fun j r _ hr => h j r hr) (Nat.le_refl _), List.drop_length]; rfl
theorem chks_at {most : Nat} {pre l : Sp.S} {k : Nat} {r : Nat × Nat} (h : ∀ j r, j < k → l[j]? = some r → chk most (pre ++ l.take j) r = 0) (hr : l[k]? = some r) (hn : chk most (pre ++ l.take k) r ≠ 0) : chks most pre l = chk most (pre ++ l.take k) r := by
  obtain ⟨hk, e⟩ := List.getElem?_eq_some_iff.1 hr
  rw [chks_drop h (by omega), List.drop_eq_getElem_cons hk, e, chks, if_pos hn]
theorem on_snoc (l : Sp.S) (r : Nat × Nat) (p : Nat) : on (l ++ [r]) p = (on l p || decide (r.1 ≤ p ∧ p < r.1 + r.2)) := by
  unfold on
  rw [List.any_append]; simp
theorem one_on {r : Nat × Nat} (h : 0 < r.2) (p : Nat) : Sp.has (one r.1 (r.1 + r.2 - 1)) p = decide (r.1 ≤ p ∧ p < r.1 + r.2) := by
  unfold one
  rw [if_neg (by omega), Sp.has_cons, Sp.has_nil, Bool.or_false, decide_eq_decide]
  omega
theorem total_snoc (l : Sp.S) (r : Nat × Nat) : total (l ++ [r]) = total l + r.2 := by
  unfold total; simp
theorem total_le {l : Sp.S} (h : good l) : total l ≤ 4294967296 * l.length := by
  induction l with
  | nil => simp [total]
  | cons x l ih =>
    have h1 := ih (fun r hr => h r (by simp [hr]))
    have h2 := h x (by simp)
    unfold M32 at h2
    unfold total at *
    simp only [List.map_cons, List.sum_cons, List.length_cons]
    omega
/-- what holds while New goes through its lists -/
structure NewI (w : World) (A1 A2 : Option Addr) (n1 n2 c1 c2 : Nat) (pre : Sp.S) (A : Option Addr) (n c : Nat) (t : Sp.S) (wr : World) : Prop where
  bus : Row wr w.heap.size 24 [.slice A1 n1 c1, .slice A2 n2 c2]
  row : Row wr (w.heap.size + 1) 86 [.slice A n c]
  set : IsSet wr A n c t
  len : n ≤ pre.length
  has : ∀ p, p ≤ TOP → Sp.has t p = on pre p
  good : good pre
  bel : Below w.heap.size w wr
theorem NewI.below {w : World} {A1 A2 : Option Addr} {n1 n2 c1 c2 : Nat} {pre : Sp.S} {A : Option Addr} {n c : Nat} {t : Sp.S} {wr wx : World} (h : NewI w A1 A2 n1 n2 c1 c2 pre A n c t wr) (hb : Below wr.heap.size wr wx) : NewI w A1 A2 n1 n2 c1 c2 pre A n c t wx :=
  ⟨h.bus.below hb h.bus.lt, h.row.below hb h.row.lt, h.set.below hb, h.len, h.has, h.good, h.bel.trans (hb.mono h.bel.size)⟩
/-- behind With and the store of what it made -/
theorem NewI.next {w : World} {A1 A2 : Option Addr} {n1 n2 c1 c2 : Nat} {pre : Sp.S} {A : Option Addr} {n c : Nat} {t : Sp.S} {wr wx : World} {r : Nat × Nat} {A' : Option Addr} {n' c' : Nat} {out : Sp.S} (h : NewI w A1 A2 n1 n2 c1 c2 pre A n c t wr) (hb : Below wr.heap.size wr wx) {B : Nat}
    (ho : OwnS wx B A' n' c' out) (hm : Sp.Mk TOP (fun a b => a || b) t (one r.1 (r.1 + r.2 - 1)) out) {most : Nat} (hr : chk most pre r = 0) (hl : pre.length ≤ 1000) :
    NewI w A1 A2 n1 n2 c1 c2 (pre ++ [r]) A' n' c' out (wx.setCell ⟨w.heap.size + 1, 0, none⟩ (.slice A' n' c')) := by
  have hx := h.below hb
  have hlen : n' ≤ (pre ++ [r]).length := by
    have h1 := Sp.or_len hm
    have h2 := one_len r.1 (r.1 + r.2 - 1)
    have h3 := ho.2
    have h4 := h.set.1.2.1
    have h5 := h.len
    rw [List.length_append, List.length_singleton]
    omega
  refine ⟨hx.bus.far (p := ⟨w.heap.size + 1, 0, none⟩) (by simp) _, hx.row.set_ 0 _, ?_, hlen, fun p hp => ?_, good_snoc h.good hr, hx.bel.setCell (p := ⟨w.heap.size + 1, 0, none⟩) (Nat.le_succ _) _⟩
  · exact OwnS.isSet (B := B) ⟨own_setr ho.1 hx.row (by decide) 0 _, ho.2⟩ hm.nrm (by rw [List.length_append, List.length_singleton] at hlen; omega)
  · rw [hm.pts p hp, h.has p hp, on_snoc, one_on (chk_zero hr).1]
theorem idx_rng (w : World) (b o n c k : Nat) (hk : k < n) (hn : n ≤ 9223372036854775807) : (Instr.indexAt 22 (.slice (some ⟨b, o, none⟩) n c) (.int .i64 (k : Nat))).run Tryz.prog w = .ok (.pointer (some ⟨b, o + k * 2, none⟩)) w := by
  have h1 : (k : Int) < (n : Int) := by omega
  go_simp
/-- what New tells -/
def NewSaid (w : World) (rams devs : Sp.S) (e : Ending) (w' : World) : Prop :=
  Below w.heap.size w w' ∧ ((newE rams devs ≠ 0 ∧ e = .returned (.tuple #[.pointer none, .int .i64 (newE rams devs : Nat)])) ∨
    (newE rams devs = 0 ∧ ∃ g Z R, e = .returned (.tuple #[.pointer (some ⟨g, 0, none⟩), .int .i64 0]) ∧ Mach Z R w' g ⟨rams, devs, fun _ => 0, 0, 0, 0, fun l => l = []⟩ ∧ ∀ k, Z k ∨ R k → w.heap.size ≤ k ∧ k < w'.heap.size))
theorem own_blk2 {w : World} {base n c size : Nat} {e : TypeId} {ad : Addr} {xs : List Value} (h : w.ownsRow base e size (.slice (some ad) n c) n xs) : ∃ cur, w.heap[ad.block]? = some (.cells cur e (0, 0)) := by
  rcases h.2 with ⟨hv, _⟩ | ⟨g, cap, cur, hv, _, hh, _⟩
  · injection hv with hv; cases hv
  · injection hv with hv; injection hv with hv; subst hv
    exact ⟨cur, hh⟩
theorem owns_below2 {w w' : World} {base n size : Nat} {e : TypeId} {v : Value} {xs : List Value} (h : w.ownsRow base e size v n xs) (hb : Below w.heap.size w w') : w'.ownsRow base e size v n xs := owns_chgr (S := []) h (Chg.of_below hb) (fun _ _ h => by cases h)
/-- the machine that New has made -/
theorem new_mach {w wtx wt wl wm W : World} {g mb n1 n2 d1 d2 no co Bl : Nat} {rams devs t out : Sp.S} {E1 E2 Ao : Option Addr}
    (ht : Twin wtx n1 n2 rams devs E1 E2 d1 d2 wt) (bT : Below wt.heap.size wt W) (gT : w.heap.size ≤ wtx.heap.size)
    (hl : OwnS wl Bl Ao no co out) (bL : Below wl.heap.size wl W) (gL : w.heap.size ≤ Bl)
    (hm : MapAt wm mb (fun _ => none)) (bM : Below wm.heap.size wm W) (gM : w.heap.size ≤ mb)
    (hrow : Row W g 89 [.int .i64 0, .int .i64 0, .int .i64 0, .slice E1 n1 d1, .slice E2 n2 d2, .slice Ao no co, .map (some mb)]) (gG : w.heap.size ≤ g)
    (mk : Sp.Mk TOP (fun a b => a && !b) (one 0 TOP) t out) (hn : Sp.Nrm TOP t) (hh : ∀ p, p ≤ TOP → Sp.has t p = on (rams ++ devs) p) (hg : good (rams ++ devs)) (h1 : rams.length = n1) (h2 : devs.length = n2) (hno : no ≤ 2199023255552) (hco : no ≤ co ∧ co ≤ 9223372036854775807)
    (hE : newE rams devs = 0) (hb : Below w.heap.size w W) : NewSaid w rams devs (.returned (.tuple #[.pointer (some ⟨g, 0, none⟩), .int .i64 0])) W := by
  have o1 := ht.own1.below bT
  have o2 := ht.own2.below bT
  have o3 : OwnS W Bl Ao no co out := ⟨owns_below2 hl.1 bL, hl.2⟩
  have hmW : MapAt W mb (fun _ => none) := hm.same (bM.block mb hm.lt)
  have hmap : ∃ es clock, W.heap[mb]? = some (.map es clock) := by
    obtain ⟨⟨D, n, ⟨es, clock, hb, _⟩, _⟩, _⟩ := hmW
    exact ⟨es, clock, hb⟩
  have hd : ∀ k, (k = g ∨ k = mb) → ¬ ((∃ ad, E1 = some ad ∧ ad.block = k) ∨ (∃ ad, E2 = some ad ∧ ad.block = k) ∨ (∃ ad, Ao = some ad ∧ ad.block = k)) := by
    intro k hk hr
    have key : ∃ cur e, W.heap[k]? = some (.cells cur e (0, 0)) ∧ e ≠ 89 := by
      rcases hr with ⟨ad, rfl, rfl⟩ | ⟨ad, rfl, rfl⟩ | ⟨ad, rfl, rfl⟩
      · obtain ⟨cur, h⟩ := own_blk2 o1.1; exact ⟨cur, _, h, by decide⟩
      · obtain ⟨cur, h⟩ := own_blk2 o2.1; exact ⟨cur, _, h, by decide⟩
      · obtain ⟨cur, h⟩ := own_blk2 o3.1; exact ⟨cur, _, h, by decide⟩
    obtain ⟨cur, e, h, hne⟩ := key
    rcases hk with rfl | rfl
    · have := h.symm.trans hrow
      injection this with this; injection this with _ this _
      exact hne this
    · obtain ⟨es, clock, h'⟩ := hmap
      have := h.symm.trans h'
      cases this
  refine ⟨hb, .inr ⟨hE, g, fun k => k = g ∨ k = mb, fun k => (∃ ad, E1 = some ad ∧ ad.block = k) ∨ (∃ ad, E2 = some ad ∧ ad.block = k) ∨ (∃ ad, Ao = some ad ∧ ad.block = k), rfl, ⟨E1, E2, Ao, d1, d2, no, co, mb, fun _ => none, out, ?_⟩, ?_⟩⟩
  · subst h1; subst h2
    refine ⟨hrow, .inl rfl, .inr rfl, ⟨o1.isS, ht.cap1.1, ht.cap1.2, fun ad e _ => .inl ⟨ad, e, rfl⟩⟩, ⟨o2.isS, ht.cap2.1, ht.cap2.2, fun ad e _ => .inr (.inl ⟨ad, e, rfl⟩)⟩, ⟨⟨Reads.of_own o3.1, o3.2, by omega⟩, hco.1, hco.2, fun ad e _ => .inr (.inr ⟨ad, e, rfl⟩)⟩, ⟨mk.nrm, hno⟩, fun p hp => ?_, fun p hp => ?_, hmW, fun k p h => (by cases h), fun k k' p h => (by cases h), fun k _ i _ => rfl, fun p => (by show 0 < 256; decide), hd⟩
    · rw [mk.pts p hp, hh p hp]
      have : Sp.has (one 0 TOP) p = true := by
        unfold one
        rw [if_neg (by unfold TOP; omega), Sp.has_cons, Sp.has_nil, Bool.or_false]
        exact decide_eq_true ⟨Nat.zero_le _, hp⟩
      rw [this]; simp
    · obtain ⟨x, hx, h⟩ := List.any_eq_true.1 hp
      have h := of_decide_eq_true h
      have := hg x hx
      unfold M32 at this
      omega
  · intro k hk
    have hlt : ∀ ad : Addr, (E1 = some ad ∨ E2 = some ad ∨ Ao = some ad) → w.heap.size ≤ ad.block ∧ ad.block < W.heap.size := fun ad h => by
      rcases h with h | h | h
      · have := o1.adr ad h; omega
      · have := o2.adr ad h; omega
      · have := own_adr o3.1 ad h; omega
    rcases hk with (rfl | rfl) | ⟨ad, h, rfl⟩ | ⟨ad, h, rfl⟩ | ⟨ad, h, rfl⟩
    · exact ⟨gG, hrow.lt⟩
    · exact ⟨gM, hmW.lt⟩
    · exact hlt ad (.inl h)
    · exact hlt ad (.inr (.inl h))
    · exact hlt ad (.inr (.inr h))
theorem own_cap {w : World} {base n c size : Nat} {e : TypeId} {A : Option Addr} {xs : List Value} (h : w.ownsRow base e size (.slice A n c) n xs) : n ≤ c ∧ c ≤ 9223372036854775807 := by
  rcases h.2 with ⟨hv, h0⟩ | ⟨g, cap, cur, hv, _, _, h1, h2, _⟩
  · injection hv with _ h1 h2; omega
  · injection hv with _ h3 h4; subst h4; unfold maxLen at h2; exact ⟨h1, h2⟩
theorem sz_alloc (w : World) (o : Obj) : (w.alloc o).heap.size = w.heap.size + 1 := by simp
theorem bel_chain {w5 wx wt : World} (h : Below w5.heap.size w5 wx) (k : Below wx.heap.size wx wt) : Below w5.heap.size w5 wt := h.trans (k.mono h.size)
set_option maxRecDepth 100000 in
set_option maxHeartbeats 2000000 in
theorem new_any (A1 A2 : Option Addr) (n1 n2 c1 c2 : Nat) (rams devs : Sp.S) (w : World) (h1 : IsS w w.heap.size A1 n1 rams) (h2 : IsS w w.heap.size A2 n2 devs) (t1 : ∀ x ∈ rams, x.1 ≤ TOP ∧ x.2 ≤ TOP) (t2 : ∀ x ∈ devs, x.1 ≤ TOP ∧ x.2 ≤ TOP) :
    Calls Tryz.prog 28 #[.agg #[.slice A1 n1 c1, .slice A2 n2 c2]] w (NewSaid w rams devs) := by
  have H1 := Lib.hid h1; have H2 := Lib.hid h2; have T1 := Lib.hid t1; have T2 := Lib.hid t2
  have l1 := h1.2.2
  have l2 := h2.2.2
  clear h1 h2 t1 t2
  by_cases g1 : 8 < n1
  · have HE : Hid (newE rams devs = 4) := Lib.hid (by rw [newE, if_pos (.inl (by rw [H1.out.2.1]; exact g1))])
    go_enter Tryz.func28, Tryz.ntmps28
    go_wp2_with fail
    go_ret2
    exact ⟨(Below.refl _ _).alloc (Nat.le_refl _) _, .inl ⟨by rw [HE.out]; decide, by rw [HE.out]; rfl⟩⟩
  by_cases g2 : 32 < n2
  · have HE : Hid (newE rams devs = 4) := Lib.hid (by rw [newE, if_pos (.inr (by rw [H2.out.2.1]; exact g2))])
    have g1' : n1 ≤ 8 := by omega
    go_enter Tryz.func28, Tryz.ntmps28
    go_wp2_with fail
    go_ret2
    exact ⟨(Below.refl _ _).alloc (Nat.le_refl _) _, .inl ⟨by rw [HE.out]; decide, by rw [HE.out]; rfl⟩⟩
  have g1' : n1 ≤ 8 := by omega
  have g2' : n2 ≤ 32 := by omega
  have HE0 : Hid (newE rams devs = if chks TOP [] rams ≠ 0 then chks TOP [] rams else if chks 1048576 rams devs ≠ 0 then chks 1048576 rams devs else if 67108864 < total rams then 36 else 0) := Lib.hid (by rw [newE, if_neg (by rw [H1.out.2.1, H2.out.2.1]; omega)])
  clear g1 g2
  go_enter Tryz.func28, Tryz.ntmps28
  go_upto_region 5 with fail
  have s1 : (w.alloc (.cells #[.slice A1 n1 c1, .slice A2 n2 c2] 24)).heap.size = w.heap.size + 1 := by simp
  have r0 : Row ((w.alloc (.cells #[.slice A1 n1 c1, .slice A2 n2 c2] 24)).alloc (.cells #[.slice none 0 0] 86)) w.heap.size 24 [.slice A1 n1 c1, .slice A2 n2 c2] := (Row.new w _ [.slice A1 n1 c1, .slice A2 n2 c2]).alloc _
  have r1 : Row ((w.alloc (.cells #[.slice A1 n1 c1, .slice A2 n2 c2] 24)).alloc (.cells #[.slice none 0 0] 86)) (w.heap.size + 1) 86 [.slice none 0 0] := by
    have h := Row.new (w.alloc (.cells #[.slice A1 n1 c1, .slice A2 n2 c2] 24)) 86 [.slice none 0 0]
    rw [s1] at h
    exact h
  have hb0 : Below w.heap.size w ((w.alloc (.cells #[.slice A1 n1 c1, .slice A2 n2 c2] 24)).alloc (.cells #[.slice none 0 0] 86)) := ((Below.refl _ _).alloc (Nat.le_refl _) _).alloc (by simp) _
  generalize (w.alloc (.cells #[.slice A1 n1 c1, .slice A2 n2 c2] 24)).alloc (.cells #[.slice none 0 0] 86) = w1 at *
  have HI0 : Hid (NewI w A1 A2 n1 n2 c1 c2 [] none 0 0 [] w1) := Lib.hid ⟨r0, r1, IsSet.nil w1, Nat.zero_le _, fun p hp => rfl, (fun r hr => by cases hr), hb0⟩
  have b0 := r0.cell 0
  have lb := r0.lt
  simp only [List.getElem?_cons_zero] at b0
  clear r0 r1 hb0 s1
  go_wp2_with fail
  go_loopg [5, 26] (n1 + 1) (fun q ram i wr => ∃ (k : Nat) (A : Option Addr) (n c : Nat) (t : Sp.S), k ≤ n1 ∧ k + q = n1 + 1 ∧ i = .int .i64 (k : Nat) ∧ ram = .int .u64 (total (rams.take k) : Nat) ∧ Hid (NewI w A1 A2 n1 n2 c1 c2 (rams.take k) A n c t wr) ∧ Hid (∀ (j : Nat) (r : Nat × Nat), j < k → rams[j]? = some r → chk TOP (([] ++ rams.take j)) r = 0))
  case atStart => exact ⟨0, none, 0, 0, [], by omega, by omega, rfl, rfl, HI0, Lib.hid (fun j r h => absurd h (by omega))⟩
  case round =>
    obtain ⟨k, A, n, c, t, hk, hkq, rfl, rfl, HI, HOK⟩ := hrel
    by_cases hkn : k < n1
    · obtain ⟨bb, off, hf⟩ := (H1.out.below HI.out.bel).form
      obtain ⟨hA, hbB, hcc⟩ := hf.out (by omega)
      have HAH := Lib.hid hA
      clear hA
      have hix : ∀ wx : World, (Instr.indexAt 22 (.slice A1 n1 c1) (.int .i64 (k : Nat))).run Tryz.prog wx = .ok (.pointer (some ⟨bb, off + k * 2, none⟩)) wx := fun wx => by
        rw [HAH.out]
        exact idx_rng wx bb off n1 c1 k hkn (by omega)
      obtain ⟨⟨a, s⟩, hx⟩ : ∃ x, rams[k]? = some x := ⟨_, List.getElem?_eq_getElem (by have := H1.out.2.1; omega)⟩
      obtain ⟨x0, xs⟩ := hcc k _ hx
      simp only at x0 xs
      have lbb : bb < wr.heap.size := Nat.lt_of_lt_of_le hbB HI.out.bel.size
      have HX := Lib.hid hx
      have HT1 : Hid (a ≤ TOP ∧ s ≤ TOP) := Lib.hid (T1.out _ (List.mem_of_getElem? hx))
      clear hf hcc hx b0 lb
      go_upto_region 8 with fail
      have hrx : Row (wr.alloc (.cells #[.int .u64 (a : Nat), .int .u64 (s : Nat)] 62)) wr.heap.size 62 [.int .u64 (a : Nat), .int .u64 (s : Nat)] := Row.new wr _ [.int .u64 (a : Nat), .int .u64 (s : Nat)]
      have hi4 : NewI w A1 A2 n1 n2 c1 c2 (rams.take k) A n c t (wr.alloc (.cells #[.int .u64 (a : Nat), .int .u64 (s : Nat)] 62)) := HI.out.below ((Below.refl _ _).alloc (Nat.le_refl _) _)
      obtain ⟨cx, hcx⟩ : ∃ cx, cx = wr.heap.size := ⟨_, rfl⟩
      have hcl : w.heap.size + 1 < cx := by rw [hcx]; exact HI.out.row.lt
      rw [← hcx] at hrx ⊢
      clear hcx x0 xs lbb
      generalize wr.alloc (.cells #[.int .u64 (a : Nat), .int .u64 (s : Nat)] 62) = w4 at *
      have HI4 := Lib.hid hi4
      have HRX := Lib.hid hrx
      have y0 := hrx.cell 0
      have y1 := hrx.cell 1
      have ly := hrx.lt
      have z0 := hi4.row.cell 0
      simp only [List.getElem?_cons_zero, List.getElem?_cons_succ] at y0 y1 z0
      clear hrx hi4
      have HRT : Hid (rt a s TOP t = chk TOP (rams.take k) (a, s)) := Lib.hid (rt_chk (r := (a, s)) HI4.out.set.2.2.2.1 HI4.out.has HI4.out.good)
      obtain ⟨E, hE⟩ : ∃ E, E = chk TOP (rams.take k) (a, s) := ⟨_, rfl⟩
      rw [← hE] at HRT
      have HE := Lib.hid hE
      clear hE
      have HSET := Lib.hid HI4.out.set
      go_upto_region 9 with (go_at_call 48; refine (right_any a s TOP A n c t w4 HSET.out HT1.out.1 HT1.out.2 (by unfold TOP; omega)).mono ?_; rw [HRT.out]; rintro e w5 ⟨rfl, hb5⟩; have HB5 := Lib.hid hb5; clear hb5)
      by_cases hE0 : E = 0
      · have HE0' := Lib.hid hE0
        have hEb : ((E : Int) != 0) = false := by rw [hE0]; rfl
        clear hE0 y0 y1 z0
        have HI5 := Lib.hid (HI4.out.below HB5.out)
        have HRX5 := Lib.hid (HRX.out.below HB5.out ly)
        have HCK : Hid (chk TOP (rams.take k) (a, s) = 0) := Lib.hid (by rw [← HE.out]; exact HE0'.out)
        have HCZ := Lib.hid (chk_zero HCK.out)
        clear HI4 HRX HB5 ly HSET HRT
        have y0 := HRX5.out.cell 0
        have y1 := HRX5.out.cell 1
        have ly := HRX5.out.lt
        have z0 := HI5.out.row.cell 0
        have zf := HI5.out.row.frozen 0
        have lz := HI5.out.row.lt
        simp only [List.getElem?_cons_zero, List.getElem?_cons_succ] at y0 y1 z0
        have HNX : Hid (∀ (wx : World) (A' : Option Addr) (n' c' B : Nat) (out : Sp.S), Below w5.heap.size w5 wx → OwnS wx B A' n' c' out → Sp.Mk TOP (fun a b => a || b) t (one a (a + s - 1)) out → NewI w A1 A2 n1 n2 c1 c2 (rams.take k ++ [(a, s)]) A' n' c' out (wx.setCell ⟨w.heap.size + 1, 0, none⟩ (.slice A' n' c'))) := Lib.hid (fun wx A' n' c' B out hb ho hm => HI5.out.next hb ho hm HCK.out (by rw [List.length_take]; omega))
        have HALL : Hid (∀ wx, Calls Tryz.prog 50 #[.agg #[.int .u64 (a : Nat), .int .u64 (s : Nat)]] wx fun e w' => e = .returned (.agg #[.int .u64 (a : Nat), .int .u64 ((a + s - 1 : Nat) : Int)]) ∧ Below wx.heap.size wx w') := Lib.hid (fun wx => all_any a s wx HCZ.out.1 HCZ.out.2.1)
        have HWI : Hid (∀ wx, Below w5.heap.size w5 wx → Calls Tryz.prog 49 #[.agg #[.slice A n c], .agg #[.int .u64 (a : Nat), .int .u64 ((a + s - 1 : Nat) : Int)]] wx (MadeW wx t a (a + s - 1))) := Lib.hid (fun wx hb => with_any A n c a (a + s - 1) t wx (HI5.out.set.below hb) HT1.out.1 (by have := HCZ.out.2.1; unfold M32 at this; unfold TOP; simp only at this; omega) (by have h := HI5.out.len; rw [List.length_take] at h; omega))
        go_upto_region 11 with fail
        go_cut [] (fun wx => Hid (∃ A' n' c' out, NewI w A1 A2 n1 n2 c1 c2 (rams.take k ++ [(a, s)]) A' n' c' out wx ∧ Row wx cx 62 [.int .u64 (a : Nat), .int .u64 (s : Nat)]))
        case first =>
          go_region_law (first
            | (go_simp; go_at_call 50; refine (HALL.out _).mono ?_; rintro e w6 ⟨rfl, hb6⟩; have HB6 : Hid (Below w5.heap.size w5 w6) := Lib.hid ((Below.refl w5.heap.size w5).drew.trans hb6); have z6 := (HI5.out.row.below HB6.out HI5.out.row.lt).cell 0; simp only [List.getElem?_cons_zero] at z6; clear hb6)
            | (go_simp; go_at_call 49; refine (HWI.out w6 HB6.out).mono ?_; rintro e w7 ⟨A7, n7, c7, out7, rfl, ho7, hm7, hb7⟩; have HB7 : Hid (Below w5.heap.size w5 w7) := Lib.hid (HB6.out.trans (hb7.mono HB6.out.size)); have HN7 := Lib.hid (HNX.out w7 A7 n7 c7 _ out7 HB7.out ho7 hm7); have z7 := (HI5.out.row.below HB7.out HI5.out.row.lt).cell 0; have zf7 := (HI5.out.row.below HB7.out HI5.out.row.lt).frozen 0; have lz7 := (HI5.out.row.below HB7.out HI5.out.row.lt).lt; simp only [List.getElem?_cons_zero] at z7; unfold setV; clear hb7 ho7 hm7))
          all_goals
            go_wp2_with fail
            go_meet
            case rel => exact Lib.hid ⟨A7, n7, c7, out7, HN7.out, (HRX5.out.below HB7.out HRX5.out.lt).far (p := ⟨w.heap.size + 1, 0, none⟩) (by simp only; omega) _⟩
        case rest =>
          clear y0 y1 z0 zf lz ly
          obtain ⟨A6, n6, c6, out6, hi6, hrx6⟩ := hcut.out
          have HI6 : Hid (NewI w A1 A2 n1 n2 c1 c2 (rams.take (k + 1)) A6 n6 c6 out6 _) := Lib.hid (by rw [List.take_succ_eq_append_getElem (by have := (List.getElem?_eq_some_iff.1 HX.out).1; omega), (List.getElem?_eq_some_iff.1 HX.out).2]; exact hi6)
          have HOK2 : Hid (∀ (j : Nat) (r : Nat × Nat), j < k + 1 → rams[j]? = some r → chk TOP (([] ++ rams.take j)) r = 0) := Lib.hid (fun j r hj hr => by
            rcases Nat.lt_or_ge j k with h | h
            · exact HOK.out j r h hr
            · obtain rfl : j = k := by omega
              rw [HX.out] at hr; injection hr with hr; subst hr
              exact HCK.out)
          have y1 := hrx6.cell 1
          have ly := hrx6.lt
          simp only [List.getElem?_cons_zero, List.getElem?_cons_succ] at y1
          clear hcut hi6 hrx6
          obtain ⟨T, hT⟩ : ∃ T, T = total (rams.take k) := ⟨_, rfl⟩
          have hTb : T ≤ 34359738368 := by
            have h1 := total_le HI.out.good
            rw [List.length_take] at h1
            omega
          have hsb : s ≤ 4294967296 := by have := HCZ.out.2.1; unfold M32 at this; simp only at this; omega
          have HTE : Hid (((total (rams.take (k + 1)) : Nat) : Int) = (T : Int) + (s : Int)) := Lib.hid (by
            rw [List.take_succ_eq_append_getElem (by have := (List.getElem?_eq_some_iff.1 HX.out).1; omega), (List.getElem?_eq_some_iff.1 HX.out).2, total_snoc, hT]; rfl)
          rw [← hT]
          clear hT
          go_wp2_with fail
          go_roundg (gk - 1)
          case measure => omega
          case rel => exact ⟨k + 1, A6, n6, c6, out6, by omega, by omega, by go_num, by rw [HTE.out], HI6, HOK2⟩
      · have HEN : Hid (newE rams devs = E) := Lib.hid (by
          have hne : chk TOP (rams.take k) (a, s) ≠ 0 := by rw [← HE.out]; exact hE0
          have h := chks_at HOK.out HX.out hne
          rw [HE.out]
          rw [HE0.out, if_pos (show chks TOP [] rams ≠ 0 from fun e => hne (h.symm.trans e))]
          exact h)
        have hEb : ((E : Int) != 0) = true := by rw [bne_iff_ne]; omega
        have HBW : Hid (Below w.heap.size w w5) := Lib.hid (HI4.out.bel.trans (HB5.out.mono HI4.out.bel.size))
        have HNE : Hid (newE rams devs ≠ 0) := Lib.hid (by rw [HEN.out]; exact hE0)
        clear hE0 y0 y1 z0
        go_wp2_with fail
        go_ret2
        exact ⟨HBW.out, .inl ⟨HNE.out, by rw [HEN.out]; rfl⟩⟩
    · have HKN : Hid (k = n1) := Lib.hid (by omega)
      have HCH : Hid (chks TOP ([]) rams = 0) := Lib.hid (chks_all (fun j r hr => HOK.out j r (by have := (List.getElem?_eq_some_iff.1 hr).1; have := H1.out.2.1; have := HKN.out; omega) hr))
      have HI1 : Hid (NewI w A1 A2 n1 n2 c1 c2 (rams ++ devs.take 0) A n c t wr) := Lib.hid (by
        have h := HI.out
        rw [List.take_of_length_le (by have := H1.out.2.1; have := HKN.out; omega)] at h
        rw [List.take_zero, List.append_nil]; exact h)
      obtain ⟨T, hT⟩ : ∃ T, T = total rams := ⟨_, rfl⟩
      have hTk : total (rams.take k) = T := by rw [hT, List.take_of_length_le (by have := H1.out.2.1; have := HKN.out; omega)]
      have hTb : T ≤ 34359738368 := by
        have h1 := total_le HI.out.good
        rw [hTk, List.length_take] at h1
        omega
      have HTT := Lib.hid hT
      have HCH1 := HCH
      rw [hTk]
      obtain ⟨Ao, no, co, tq, hi1⟩ : ∃ A n c t, Hid (NewI w A1 A2 n1 n2 c1 c2 (rams ++ devs.take 0) A n c t wr) := ⟨A, n, c, t, HI1⟩
      clear hT hTk HI HOK HKN HCH HI1
      have b1 := hi1.out.bus.cell 1
      have lb := hi1.out.bus.lt
      simp only [List.getElem?_cons_zero, List.getElem?_cons_succ] at b1
      obtain ⟨wa, hwa⟩ : ∃ wa : World, wa = wr := ⟨_, rfl⟩
      subst hwa
      have HI1 := hi1
      clear hi1
      go_wp2_with fail
      clear hkn hkq hk
      go_loopg [48] (n2 + 1) (fun q i wr => ∃ (k : Nat) (A : Option Addr) (n c : Nat) (t : Sp.S), k ≤ n2 ∧ k + q = n2 + 1 ∧ i = .int .i64 (k : Nat) ∧ Hid (NewI w A1 A2 n1 n2 c1 c2 (rams ++ devs.take k) A n c t wr) ∧ Hid (∀ (j : Nat) (r : Nat × Nat), j < k → devs[j]? = some r → chk 1048576 (rams ++ devs.take j) r = 0))
      case atStart => exact ⟨0, Ao, no, co, tq, by omega, by omega, rfl, HI1, Lib.hid (fun j r h => absurd h (by omega))⟩
      case round =>
        obtain ⟨k, A, n, c, t, hk, hkq, rfl, HI, HOK⟩ := hrel
        by_cases hkn : k < n2
        · obtain ⟨bb, off, hf⟩ := (H2.out.below HI.out.bel).form
          obtain ⟨hA, hbB, hcc⟩ := hf.out (by omega)
          have HAH := Lib.hid hA
          clear hA
          have hix : ∀ wx : World, (Instr.indexAt 22 (.slice A2 n2 c2) (.int .i64 (k : Nat))).run Tryz.prog wx = .ok (.pointer (some ⟨bb, off + k * 2, none⟩)) wx := fun wx => by
            rw [HAH.out]
            exact idx_rng wx bb off n2 c2 k hkn (by omega)
          obtain ⟨⟨a, s⟩, hx⟩ : ∃ x, devs[k]? = some x := ⟨_, List.getElem?_eq_getElem (by have := H2.out.2.1; omega)⟩
          obtain ⟨x0, xs⟩ := hcc k _ hx
          simp only at x0 xs
          have lbb : bb < wr.heap.size := Nat.lt_of_lt_of_le hbB HI.out.bel.size
          have HX := Lib.hid hx
          have HT2 : Hid (a ≤ TOP ∧ s ≤ TOP) := Lib.hid (T2.out _ (List.mem_of_getElem? hx))
          clear hf hcc hx b1 lb
          go_upto_region 17 with fail
          have hrx : Row (wr.alloc (.cells #[.int .u64 (a : Nat), .int .u64 (s : Nat)] 62)) wr.heap.size 62 [.int .u64 (a : Nat), .int .u64 (s : Nat)] := Row.new wr _ [.int .u64 (a : Nat), .int .u64 (s : Nat)]
          have hi4 : NewI w A1 A2 n1 n2 c1 c2 (rams ++ devs.take k) A n c t (wr.alloc (.cells #[.int .u64 (a : Nat), .int .u64 (s : Nat)] 62)) := HI.out.below ((Below.refl _ _).alloc (Nat.le_refl _) _)
          obtain ⟨cx, hcx⟩ : ∃ cx, cx = wr.heap.size := ⟨_, rfl⟩
          have hcl : w.heap.size + 1 < cx := by rw [hcx]; exact HI.out.row.lt
          rw [← hcx] at hrx ⊢
          clear hcx x0 xs lbb
          generalize wr.alloc (.cells #[.int .u64 (a : Nat), .int .u64 (s : Nat)] 62) = w4 at *
          have HI4 := Lib.hid hi4
          have HRX := Lib.hid hrx
          have y0 := hrx.cell 0
          have y1 := hrx.cell 1
          have ly := hrx.lt
          have z0 := hi4.row.cell 0
          simp only [List.getElem?_cons_zero, List.getElem?_cons_succ] at y0 y1 z0
          clear hrx hi4
          have HRT : Hid (rt a s 1048576 t = chk 1048576 (rams ++ devs.take k) (a, s)) := Lib.hid (rt_chk (r := (a, s)) HI4.out.set.2.2.2.1 HI4.out.has HI4.out.good)
          obtain ⟨E, hE⟩ : ∃ E, E = chk 1048576 (rams ++ devs.take k) (a, s) := ⟨_, rfl⟩
          rw [← hE] at HRT
          have HE := Lib.hid hE
          clear hE
          have HSET := Lib.hid HI4.out.set
          go_upto_region 18 with (go_at_call 48; refine (right_any a s 1048576 A n c t w4 HSET.out HT2.out.1 HT2.out.2 (by unfold TOP; omega)).mono ?_; rw [HRT.out]; rintro e w5 ⟨rfl, hb5⟩; have HB5 := Lib.hid hb5; clear hb5)
          by_cases hE0 : E = 0
          · have HE0' := Lib.hid hE0
            have hEb : ((E : Int) != 0) = false := by rw [hE0]; rfl
            clear hE0 y0 y1 z0
            have HI5 := Lib.hid (HI4.out.below HB5.out)
            have HRX5 := Lib.hid (HRX.out.below HB5.out ly)
            have HCK : Hid (chk 1048576 (rams ++ devs.take k) (a, s) = 0) := Lib.hid (by rw [← HE.out]; exact HE0'.out)
            have HCZ := Lib.hid (chk_zero HCK.out)
            clear HI4 HRX HB5 ly HSET HRT
            have y0 := HRX5.out.cell 0
            have y1 := HRX5.out.cell 1
            have ly := HRX5.out.lt
            have z0 := HI5.out.row.cell 0
            have zf := HI5.out.row.frozen 0
            have lz := HI5.out.row.lt
            simp only [List.getElem?_cons_zero, List.getElem?_cons_succ] at y0 y1 z0
            have HNX : Hid (∀ (wx : World) (A' : Option Addr) (n' c' B : Nat) (out : Sp.S), Below w5.heap.size w5 wx → OwnS wx B A' n' c' out → Sp.Mk TOP (fun a b => a || b) t (one a (a + s - 1)) out → NewI w A1 A2 n1 n2 c1 c2 (rams ++ devs.take k ++ [(a, s)]) A' n' c' out (wx.setCell ⟨w.heap.size + 1, 0, none⟩ (.slice A' n' c'))) := Lib.hid (fun wx A' n' c' B out hb ho hm => HI5.out.next hb ho hm HCK.out (by rw [List.length_append, H1.out.2.1, List.length_take]; omega))
            have HALL : Hid (∀ wx, Calls Tryz.prog 50 #[.agg #[.int .u64 (a : Nat), .int .u64 (s : Nat)]] wx fun e w' => e = .returned (.agg #[.int .u64 (a : Nat), .int .u64 ((a + s - 1 : Nat) : Int)]) ∧ Below wx.heap.size wx w') := Lib.hid (fun wx => all_any a s wx HCZ.out.1 HCZ.out.2.1)
            have HWI : Hid (∀ wx, Below w5.heap.size w5 wx → Calls Tryz.prog 49 #[.agg #[.slice A n c], .agg #[.int .u64 (a : Nat), .int .u64 ((a + s - 1 : Nat) : Int)]] wx (MadeW wx t a (a + s - 1))) := Lib.hid (fun wx hb => with_any A n c a (a + s - 1) t wx (HI5.out.set.below hb) HT2.out.1 (by have := HCZ.out.2.1; unfold M32 at this; unfold TOP; simp only at this; omega) (by have h := HI5.out.len; rw [List.length_append, H1.out.2.1, List.length_take] at h; omega))
            go_upto_region 20 with fail
            go_region_law (first
              | (go_simp; go_at_call 50; refine (HALL.out _).mono ?_; rintro e w6 ⟨rfl, hb6⟩; have HB6 : Hid (Below w5.heap.size w5 w6) := Lib.hid ((Below.refl w5.heap.size w5).drew.trans hb6); have z6 := (HI5.out.row.below HB6.out HI5.out.row.lt).cell 0; simp only [List.getElem?_cons_zero] at z6; clear hb6)
              | (go_simp; go_at_call 49; refine (HWI.out w6 HB6.out).mono ?_; rintro e w7 ⟨A7, n7, c7, out7, rfl, ho7, hm7, hb7⟩; have HB7 : Hid (Below w5.heap.size w5 w7) := Lib.hid (HB6.out.trans (hb7.mono HB6.out.size)); have HN7 := Lib.hid (HNX.out w7 A7 n7 c7 _ out7 HB7.out ho7 hm7); have z7 := (HI5.out.row.below HB7.out HI5.out.row.lt).cell 0; have zf7 := (HI5.out.row.below HB7.out HI5.out.row.lt).frozen 0; have lz7 := (HI5.out.row.below HB7.out HI5.out.row.lt).lt; simp only [List.getElem?_cons_zero] at z7; unfold setV; clear hb7 ho7 hm7))
            all_goals
              have HI6 : Hid (NewI w A1 A2 n1 n2 c1 c2 (rams ++ devs.take (k + 1)) A7 n7 c7 out7 _) := Lib.hid (by rw [List.take_succ_eq_append_getElem (by have := (List.getElem?_eq_some_iff.1 HX.out).1; omega), (List.getElem?_eq_some_iff.1 HX.out).2, ← List.append_assoc]; exact HN7.out)
              have HOK2 : Hid (∀ (j : Nat) (r : Nat × Nat), j < k + 1 → devs[j]? = some r → chk 1048576 (rams ++ devs.take j) r = 0) := Lib.hid (fun j r hj hr => by
                rcases Nat.lt_or_ge j k with h | h
                · exact HOK.out j r h hr
                · obtain rfl : j = k := by omega
                  rw [HX.out] at hr; injection hr with hr; subst hr
                  exact HCK.out)
              go_wp2_with fail
              go_roundg (gk - 1)
              case measure => omega
              case rel => exact ⟨k + 1, A7, n7, c7, out7, by omega, by omega, by go_num, HI6, HOK2⟩
          · have HEN : Hid (newE rams devs = E) := Lib.hid (by
              have hne : chk 1048576 (rams ++ devs.take k) (a, s) ≠ 0 := by rw [← HE.out]; exact hE0
              have h := chks_at HOK.out HX.out hne
              rw [HE.out]
              rw [HE0.out, if_neg (by rw [HCH1.out]; decide), if_pos (show chks 1048576 rams devs ≠ 0 from fun e => hne (h.symm.trans e))]
              exact h)
            have hEb : ((E : Int) != 0) = true := by rw [bne_iff_ne]; omega
            have HBW : Hid (Below w.heap.size w w5) := Lib.hid (HI4.out.bel.trans (HB5.out.mono HI4.out.bel.size))
            have HNE : Hid (newE rams devs ≠ 0) := Lib.hid (by rw [HEN.out]; exact hE0)
            clear hE0 y0 y1 z0
            go_wp2_with fail
            go_ret2
            exact ⟨HBW.out, .inl ⟨HNE.out, by rw [HEN.out]; rfl⟩⟩
        · have HKN : Hid (k = n2) := Lib.hid (by omega)
          have HCH : Hid (chks 1048576 (rams) devs = 0) := Lib.hid (chks_all (fun j r hr => HOK.out j r (by have := (List.getElem?_eq_some_iff.1 hr).1; have := H2.out.2.1; have := HKN.out; omega) hr))
          have HIF : Hid (NewI w A1 A2 n1 n2 c1 c2 (rams ++ devs) A n c t wr) := Lib.hid (by
            have h := HI.out
            rw [List.take_of_length_le (by have := H2.out.2.1; have := HKN.out; omega)] at h
            exact h)
          by_cases hT : 67108864 < T
          · have HEN : Hid (newE rams devs = 36) := Lib.hid (by rw [HE0.out, if_neg (by rw [HCH1.out]; decide), if_neg (by rw [HCH.out]; decide), if_pos (by rw [← HTT.out]; exact hT)])
            go_wp2_with fail
            go_ret2
            exact ⟨HIF.out.bel, .inl ⟨by rw [HEN.out]; decide, by rw [HEN.out]; rfl⟩⟩
          have HEN : Hid (newE rams devs = 0) := Lib.hid (by rw [HE0.out, if_neg (by rw [HCH1.out]; decide), if_neg (by rw [HCH.out]; decide), if_neg (by rw [← HTT.out]; exact hT)])
          obtain ⟨nw, hnw⟩ : ∃ nw, nw = (one 0 TOP).length := ⟨_, rfl⟩
          have HNW := Lib.hid hnw
          have HOC : Hid (∀ (g : Nat) (wx : World), Row wx g 122 [.int .u64 0, .int .u64 18446744073709551615] → Calls Tryz.prog 51 #[.slice (some ⟨g, 0, none⟩) 1 1] wx fun e w' => ∃ Ao co, e = .returned (.agg #[.slice Ao nw co]) ∧ OwnS w' wx.heap.size Ao nw co (one 0 TOP) ∧ Below wx.heap.size wx w') := Lib.hid (fun g wx hr => by
            rw [hnw]
            exact of_one g 1 0 TOP wx hr (Nat.zero_le _) (Nat.le_refl _))
          clear hnw
          have hTT : T ≤ 67108864 := by omega
          clear hT
          go_upto_region 24 with fail
          go_upto_region 25 with (go_at_call 51; refine (HOC.out wr.heap.size _ (Row.new wr _ [.int .u64 0, .int .u64 18446744073709551615])).mono ?_; rintro e w6 ⟨Aw, cw, rfl, how, hb6⟩; have HOW := Lib.hid how; have HB6 := Lib.hid (bel_chain ((Below.refl wr.heap.size wr).alloc (Nat.le_refl _) (.cells #[.int .u64 0, .int .u64 18446744073709551615] 122)) hb6); clear how hb6)
          have hi7 := HIF.out.below (HB6.out.alloc HB6.out.size (.cells #[.slice Aw nw cw] 86))
          have how7 : OwnS (w6.alloc (.cells #[.slice Aw nw cw] 86)) _ Aw nw cw (one 0 TOP) := ⟨owns_below2 HOW.out.1 ((Below.refl _ _).alloc (Nat.le_refl _) _), HOW.out.2⟩
          have hrw : Row (w6.alloc (.cells #[.slice Aw nw cw] 86)) w6.heap.size 86 [.slice Aw nw cw] := Row.new w6 _ [.slice Aw nw cw]
          obtain ⟨c12, hc12⟩ : ∃ c12, c12 = w6.heap.size := ⟨_, rfl⟩
          rw [← hc12] at hrw ⊢
          clear hc12
          generalize w6.alloc (.cells #[.slice Aw nw cw] 86) = w7 at *
          have hw1 : nw ≤ 1 := by rw [HNW.out]; exact one_len _ _
          have hset7 : IsSet w7 Aw nw cw (one 0 TOP) := OwnS.isSet how7 (one_nrm (Nat.le_refl _)) (by omega)
          have HTC : Hid (∀ wx, Below w7.heap.size w7 wx → Calls Tryz.prog 52 #[.agg #[.slice A1 n1 c1, .slice A2 n2 c2]] wx (Twinned wx n1 n2 rams devs)) := Lib.hid (fun wx hb => twin_any A1 A2 n1 n2 c1 c2 rams devs wx (((H1.out.below hi7.bel).more hi7.bel.size).below hb |>.more hb.size) (((H2.out.below hi7.bel).more hi7.bel.size).below hb |>.more hb.size) (by omega) (by omega))
          have HLC : Hid (∀ wx, Below w7.heap.size w7 wx → Calls Tryz.prog 53 #[.agg #[.slice Aw nw cw], .agg #[.slice A n c]] wx (Made wx (fun a b => a && !b) (one 0 TOP) t)) := Lib.hid (fun wx hb => less_any Aw A nw cw n c (one 0 TOP) t wx (hset7.below hb) (hi7.set.below hb) (by have := hi7.len; rw [List.length_append, H1.out.2.1, H2.out.2.1] at this; omega))
          have q0 := hi7.bus.cell 0
          have q1 := hi7.bus.cell 1
          have q2 := hrw.cell 0
          have q3 := hi7.row.cell 0
          have m0 := hi7.bus.lt
          have m2 := hrw.lt
          have m3 := hi7.row.lt
          simp only [List.getElem?_cons_zero, List.getElem?_cons_succ] at q0 q1 q2 q3
          have KAL : Hid (∀ wx, Below w7.heap.size w7 wx → (wx.cell? ⟨w.heap.size, 0, none⟩ = some (.slice A1 n1 c1) ∧ wx.cell? ⟨w.heap.size, 1, none⟩ = some (.slice A2 n2 c2) ∧ wx.cell? ⟨c12, 0, none⟩ = some (.slice Aw nw cw) ∧ wx.cell? ⟨w.heap.size + 1, 0, none⟩ = some (.slice A n c))) := Lib.hid (fun wx hb => ⟨(hb.cell (p := ⟨w.heap.size, 0, none⟩) m0).trans q0, (hb.cell (p := ⟨w.heap.size, 1, none⟩) m0).trans q1, (hb.cell (p := ⟨c12, 0, none⟩) m2).trans q2, (hb.cell (p := ⟨w.heap.size + 1, 0, none⟩) m3).trans q3⟩)
          have HI7 := Lib.hid hi7
          clear hi7 how7 hrw hset7
          have hmm : ∀ wx : World, (Instr.makeMap 87 none).run Tryz.prog wx = .ok (.map (some wx.heap.size)) (wx.alloc (.map #[] 0)) := fun wx => rfl
          go_region_held3 (fun w' => w'.cell? ⟨w.heap.size, 0, none⟩ = some (.slice A1 n1 c1) ∧ w'.cell? ⟨w.heap.size, 1, none⟩ = some (.slice A2 n2 c2) ∧ w'.cell? ⟨c12, 0, none⟩ = some (.slice Aw nw cw) ∧ w'.cell? ⟨w.heap.size + 1, 0, none⟩ = some (.slice A n c))
            (first | exact ⟨q0, q1, q2, q3⟩ | exact KAL.out _ (by (first | exact (Below.refl _ _).drew | exact ((Below.refl _ _).alloc (Nat.le_refl _) _).drew | exact HBT.out | exact HBL.out | exact HBT.out.alloc HBT.out.size _ | exact HBL.out.alloc HBL.out.size _ | exact (((Below.refl _ _).alloc (Nat.le_refl _) _).alloc (by simp) _).drew | exact (HBT.out.alloc HBT.out.size _).alloc (HBT.out.alloc HBT.out.size _).size _ | exact (HBL.out.alloc HBL.out.size _).alloc (HBL.out.alloc HBL.out.size _).size _)))
            (first
              | (go_at_call 52; refine (HTC.out _ (by (first | exact (Below.refl _ _).drew | exact ((Below.refl _ _).alloc (Nat.le_refl _) _).drew | exact HBT.out | exact HBL.out | exact HBT.out.alloc HBT.out.size _ | exact HBL.out.alloc HBL.out.size _ | exact (((Below.refl _ _).alloc (Nat.le_refl _) _).alloc (by simp) _).drew | exact (HBT.out.alloc HBT.out.size _).alloc (HBT.out.alloc HBT.out.size _).size _ | exact (HBL.out.alloc HBL.out.size _).alloc (HBL.out.alloc HBL.out.size _).size _))).mono ?_; rintro e wt ⟨E1, E2, d1, d2, rfl, ht⟩; have HT := Lib.hid ht; have HTB := Lib.hid ht.bel; have HBT : Hid (Below w7.heap.size w7 wt) := Lib.hid (bel_chain (by (first | exact (Below.refl _ _).drew | exact ((Below.refl _ _).alloc (Nat.le_refl _) _).drew | exact HBT.out | exact HBL.out | exact HBT.out.alloc HBT.out.size _ | exact HBL.out.alloc HBL.out.size _ | exact (((Below.refl _ _).alloc (Nat.le_refl _) _).alloc (by simp) _).drew | exact (HBT.out.alloc HBT.out.size _).alloc (HBT.out.alloc HBT.out.size _).size _ | exact (HBL.out.alloc HBL.out.size _).alloc (HBL.out.alloc HBL.out.size _).size _)) ht.bel); clear ht)
              | (go_at_call 53; refine (HLC.out _ (by (first | exact (Below.refl _ _).drew | exact ((Below.refl _ _).alloc (Nat.le_refl _) _).drew | exact HBT.out | exact HBL.out | exact HBT.out.alloc HBT.out.size _ | exact HBL.out.alloc HBL.out.size _ | exact (((Below.refl _ _).alloc (Nat.le_refl _) _).alloc (by simp) _).drew | exact (HBT.out.alloc HBT.out.size _).alloc (HBT.out.alloc HBT.out.size _).size _ | exact (HBL.out.alloc HBL.out.size _).alloc (HBL.out.alloc HBL.out.size _).size _))).mono ?_; rintro e wl ⟨Ao, no, co, out, rfl, hol, hmk, hbl⟩; have HOL := Lib.hid hol; have HMK := Lib.hid hmk; have HLB := Lib.hid hbl; have HBL : Hid (Below w7.heap.size w7 wl) := Lib.hid (bel_chain (by (first | exact (Below.refl _ _).drew | exact ((Below.refl _ _).alloc (Nat.le_refl _) _).drew | exact HBT.out | exact HBL.out | exact HBT.out.alloc HBT.out.size _ | exact HBL.out.alloc HBL.out.size _ | exact (((Below.refl _ _).alloc (Nat.le_refl _) _).alloc (by simp) _).drew | exact (HBT.out.alloc HBT.out.size _).alloc (HBT.out.alloc HBT.out.size _).size _ | exact (HBL.out.alloc HBL.out.size _).alloc (HBL.out.alloc HBL.out.size _).size _)) hbl); unfold setV; clear hol hmk hbl))
          all_goals
            rename_i hh
            clear hh
            have hbt := HBT.out.size; have hbl := HBL.out.size; have hb7 := HI7.out.bel.size
            have htb := HTB.out.size; have hlb := HLB.out.size
            simp only [World.drew, sz_alloc] at hbt hbl hb7 htb hlb
            have HNO : Hid (no ≤ 2199023255552) := Lib.hid (by
              have h1 := Sp.mk_len (one_nrm (Nat.le_refl _)) HI7.out.set.2.2.2.1 rfl HMK.out
              have h2 := one_len 0 TOP
              have h3 := HOL.out.2
              have h4 := HI7.out.set.1.2.1
              have h5 := HI7.out.len
              rw [List.length_append, H1.out.2.1, H2.out.2.1] at h5
              omega)
            have HSZ := Lib.hid (And.intro hbt (And.intro hbl (And.intro hb7 (And.intro htb hlb))))
            clear hbt hbl hb7 htb hlb
            go_wp2_with fail
            go_ret2
            first
              | exact new_mach (wm := wl.alloc (.map #[] 0)) (g := wl.heap.size + 1) HT.out ((HLB.out.alloc HLB.out.size _).alloc (HLB.out.alloc HLB.out.size _).size _) (by have := HSZ.out; simp only [World.drew]; omega) HOL.out (((Below.refl _ _).alloc (Nat.le_refl _) _).alloc (by simp) _) (by have := HSZ.out; omega) (mapAt_made wl) ((Below.refl _ _).alloc (Nat.le_refl _) _) (by have := HSZ.out; omega) (by
                  have h := Row.new (wl.alloc (.map #[] 0)) 89 [.int .i64 0, .int .i64 0, .int .i64 0, .slice E1 n1 d1, .slice E2 n2 d2, .slice Ao no co, .map (some wl.heap.size)]
                  rw [show (wl.alloc (.map #[] 0)).heap.size = wl.heap.size + 1 by simp] at h
                  exact h) (by have := HSZ.out; omega) HMK.out HI7.out.set.2.2.2.1 HI7.out.has HI7.out.good H1.out.2.1 H2.out.2.1 HNO.out (own_cap HOL.out.1) HEN.out (HI7.out.bel.trans ((HBL.out.alloc HBL.out.size _).alloc (HBL.out.alloc HBL.out.size _).size _ |>.mono HI7.out.bel.size))
              | exact new_mach (wm := wt.alloc (.map #[] 0)) (g := wl.heap.size) HT.out ((((Below.refl _ _).alloc (Nat.le_refl _) _).trans (HLB.out.mono (by simp))).alloc (by have := HSZ.out; omega) _) (by have := HSZ.out; simp only [World.drew]; omega) HOL.out ((Below.refl _ _).alloc (Nat.le_refl _) _) (by have := HSZ.out; simp only [sz_alloc]; omega) (mapAt_made wt) (HLB.out.alloc HLB.out.size _) (by have := HSZ.out; omega) (Row.new wl 89 [.int .i64 0, .int .i64 0, .int .i64 0, .slice E1 n1 d1, .slice E2 n2 d2, .slice Ao no co, .map (some wt.heap.size)]) (by have := HSZ.out; omega) HMK.out HI7.out.set.2.2.2.1 HI7.out.has HI7.out.good H1.out.2.1 H2.out.2.1 HNO.out (own_cap HOL.out.1) HEN.out (HI7.out.bel.trans ((HBL.out.alloc HBL.out.size _) |>.mono HI7.out.bel.size))
              | exact new_mach (wm := (w7.alloc (.map #[] 0)).drew) (g := wl.heap.size) HT.out (HLB.out.alloc HLB.out.size _) (by have := HSZ.out; simp only [World.drew, sz_alloc]; omega) HOL.out ((Below.refl _ _).alloc (Nat.le_refl _) _) (by have := HSZ.out; omega) ((mapAt_made w7).same rfl) ((HTB.out.trans (HLB.out.mono HTB.out.size)).alloc (HTB.out.trans (HLB.out.mono HTB.out.size)).size _) (by have := HSZ.out; omega) (Row.new wl 89 [.int .i64 0, .int .i64 0, .int .i64 0, .slice E1 n1 d1, .slice E2 n2 d2, .slice Ao no co, .map (some w7.heap.size)]) (by have := HSZ.out; omega) HMK.out HI7.out.set.2.2.2.1 HI7.out.has HI7.out.good H1.out.2.1 H2.out.2.1 HNO.out (own_cap HOL.out.1) HEN.out (HI7.out.bel.trans ((HBL.out.alloc HBL.out.size _) |>.mono HI7.out.bel.size))
end Bu
end Go.Proofs.YtfpofaniicegaaaGreat

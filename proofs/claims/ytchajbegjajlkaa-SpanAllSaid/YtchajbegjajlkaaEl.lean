/- Elements of several cells: cells that are stored one after the other, a copy of such elements. -/
import Derived.Test.YtchajbegjajlkaaChg
import Derived.Laws.CopyOwn
import Derived.Deep.MidRow
import Derived.Deep.QuietTactic
import Derived.BigQuiet
set_option linter.unusedVariables false
set_option linter.unusedSimpArgs false
namespace Go.Proofs.Ytchajbegjajlkaa
open Go.RowKit
theorem own_setr {w : World} {base size n g t : Nat} {e : TypeId} {v : Value} {xs cs : List Value} (h : w.ownsRow base e size v n xs) (hr : Row w g t cs) (hne : e ≠ t) (i : Nat) (u : Value) : (w.setCell ⟨g, i, none⟩ u).ownsRow base e size v n xs := by
  refine ⟨h.1, ?_⟩
  rcases h.2 with h2 | ⟨g', cap, cur, hv, hg, hh, r⟩
  · exact .inl h2
  · refine .inr ⟨g', cap, cur, hv, hg, ?_, r⟩
    have hgg : g' ≠ g := Blk.ne_ (t := e) (cs := cur) (cs' := cs.toArray) hh hr hne
    rw [Below.heap_setCell _ _ _ _ hgg]; exact hh
theorem owns_chgr {S : List Nat} {w w' : World} {base : Nat} {e : TypeId} {size n : Nat} {v : Value} {xs : List Value} (h : w.ownsRow base e size v n xs) (hc : Chg S w w') (hr : ∀ k, v.ownBlock = some k → k ∉ S) : w'.ownsRow base e size v n xs := by
  refine ⟨h.1, ?_⟩
  rcases h.2 with h2 | ⟨g, cap, cur, hv, hg, hh, r⟩
  · exact .inl h2
  · refine .inr ⟨g, cap, cur, hv, hg, ?_, r⟩
    rw [hc.block g (Blk.lt (cs := cur) hh) (hr g (by rw [hv]; rfl))]; exact hh
theorem own_somer {w : World} {base n c size : Nat} {e : TypeId} {A : Option Addr} {xs : List Value} (h : w.ownsRow base e size (.slice A n c) n xs) (hn : 0 < n) : ∃ g, A = some ⟨g, 0, none⟩ ∧ base ≤ g ∧ g < w.heap.size ∧ n ≤ c ∧ c ≤ maxLen := by
  rcases h.2 with ⟨_, e⟩ | ⟨g', cap, cur, hv, h1, hh, hnc, hcm, _⟩
  · omega
  · injection hv with hA _ hc
    subst hA hc
    exact ⟨g', rfl, h1, (h.lt g' rfl).2, hnc, hcm⟩
theorem own_blkr {w : World} {base n size : Nat} {e : TypeId} {v : Value} {xs : List Value} (h : w.ownsRow base e size v n xs) : ∀ k, v.ownBlock = some k → ∃ cur, Blk w k e cur := by
  intro k hk
  rcases h.2 with ⟨rfl, _⟩ | ⟨g, cap, cur, rfl, _, hh, _⟩
  · cases hk
  · simp [Value.ownBlock] at hk
    subst hk
    exact ⟨cur, hh⟩
theorem own_adr {w : World} {base n c size : Nat} {e : TypeId} {A : Option Addr} {xs : List Value} (h : w.ownsRow base e size (.slice A n c) n xs) : ∀ ad, A = some ad → base ≤ ad.block ∧ ad.block < w.heap.size := by
  intro ad he
  rcases h.2 with ⟨h1, _⟩ | ⟨g, cap, cur, h1, hg, hh, _⟩
  · injection h1 with h1; rw [h1] at he; cases he
  · injection h1 with h1
    rw [h1] at he
    injection he with he
    rw [← he]
    exact ⟨hg, Blk.lt hh⟩
theorem own_monor {w : World} {base base' n size : Nat} {e : TypeId} {v : Value} {xs : List Value} (h : w.ownsRow base e size v n xs) (hb : base' ≤ base) : w.ownsRow base' e size v n xs := by
  refine ⟨h.1, ?_⟩
  rcases h.2 with h | ⟨g, cap, cur, h1, h2, h3⟩
  · exact .inl h
  · exact .inr ⟨g, cap, cur, h1, Nat.le_trans hb h2, h3⟩
/-- cells that are stored one after the other -/
def setL : List Value → Nat → List Value → List Value
  | l, _, [] => l
  | l, o, v :: r => setL (l.set o v) (o + 1) r
theorem setL_len : ∀ (vs : List Value) (l : List Value) (o : Nat), (setL l o vs).length = l.length
  | [], l, o => rfl
  | v :: r, l, o => by rw [setL, setL_len r, List.length_set]
theorem setL_at : ∀ (vs : List Value) (l : List Value) (o i : Nat), o + vs.length ≤ l.length → (setL l o vs)[i]? = if o ≤ i ∧ i < o + vs.length then vs[i - o]? else l[i]?
  | [], l, o, i, h => by rw [setL, if_neg (by rintro ⟨h1, h2⟩; rw [List.length_nil] at h2; omega)]
  | v :: r, l, o, i, h => by
    rw [List.length_cons] at h
    rw [setL, setL_at r _ _ _ (by rw [List.length_set]; omega), List.length_cons]
    by_cases h1 : i = o
    · subst h1
      rw [if_neg (by omega), if_pos (by omega), List.getElem?_set_self (by omega), Nat.sub_self]
      rfl
    · by_cases h2 : o + 1 ≤ i ∧ i < o + 1 + r.length
      · rw [if_pos h2, if_pos (by omega), show i - o = (i - (o + 1)) + 1 by omega, List.getElem?_cons_succ]
      · rw [if_neg h2, if_neg (by omega), List.getElem?_set_ne (by omega)]
theorem Row.sets {w : World} {g : Nat} {t : TypeId} : ∀ {l : List Value} (_ : Row w g t l) (vs : List Value) (o : Nat), Row (w.setCells g o vs) g t (setL l o vs) := by
  intro l h vs
  induction vs generalizing w l with
  | nil => intro o; exact h
  | cons v r ih => intro o; exact ih (h.set_ o v) (o + 1)
theorem Row.fars {w : World} {g b : Nat} {t : TypeId} {l : List Value} (h : Row w g t l) (e : g ≠ b) (vs : List Value) (o : Nat) : Row (w.setCells b o vs) g t l := by
  induction vs generalizing w o with
  | nil => exact h
  | cons v r ih => exact ih (h.far (p := ⟨b, o, none⟩) e v) (o + 1)
theorem Chg.sets {S : List Nat} {w w' : World} (h : Chg S w w') {b : Nat} (hb : b ∈ S ∨ w.heap.size ≤ b) (vs : List Value) (o : Nat) : Chg S w (w'.setCells b o vs) := by
  induction vs generalizing w' o with
  | nil => exact h
  | cons v r ih => exact ih (h.set_ (p := ⟨b, o, none⟩) hb v) (o + 1)
theorem Chg.cell_ {w w' : World} (h : Chg [] w w') {g : Nat} (hg : g < w.heap.size) {o : Nat} {s : Option Nat} : w'.cell? ⟨g, o, s⟩ = w.cell? ⟨g, o, s⟩ := by
  have := h.block g hg (by simp)
  unfold World.cell?
  rw [this]
theorem Chg.range {w w' : World} (h : Chg [] w w') {g o : Nat} (hg : g < w.heap.size) {V : List Value} (hr : w.rangeAt g o V) : w'.rangeAt g o V := fun j v hv => (h.cell_ hg).trans (hr j v hv)
theorem Row.there {w : World} {g : Nat} {t : TypeId} {l : List Value} (h : Row w g t l) {o n : Nat} (hl : o + n ≤ l.length) : w.there g o n := by
  intro j hj
  rw [h.cell (o + j), List.getElem?_eq_getElem (by omega)]
  exact ⟨rfl, h.frozen _⟩
theorem setL_flat {s : Nat} {x : List Value} (hx : x.length = s) : ∀ (bs : List (List Value)) (_ : ∀ b ∈ bs, b.length = s) (i : Nat), i < bs.length → setL bs.flatten (s * i) x = (bs.set i x).flatten := by
  intro bs hb i hi
  have hfl : ∀ (l : List (List Value)), (∀ b ∈ l, b.length = s) → l.flatten.length = s * l.length := by
    intro l
    induction l with
    | nil => intro _; simp
    | cons a r ih =>
      intro h
      rw [List.flatten_cons, List.length_append, h a (by simp), ih (fun b hb => h b (by simp [hb])), List.length_cons, Nat.mul_succ]
      omega
  have hat : ∀ (l : List (List Value)) (_ : ∀ b ∈ l, b.length = s) (k : Nat), l.flatten[k]? = if s = 0 then none else (l[k / s]?).bind (fun b => b[k % s]?) := by
    intro l
    induction l with
    | nil => intro _ k; simp
    | cons a r ih =>
      intro h k
      have ha := h a (by simp)
      rw [List.flatten_cons]
      rcases Nat.eq_zero_or_pos s with h0 | h0
      · rw [if_pos h0]
        have hz := hfl (a :: r) h
        rw [h0, Nat.zero_mul, List.flatten_cons] at hz
        rw [List.getElem?_eq_none (by omega)]
      · rw [if_neg (by omega)]
        by_cases hk : k < s
        · rw [List.getElem?_append_left (by omega), Nat.div_eq_of_lt hk, Nat.mod_eq_of_lt hk]
          rfl
        · rw [List.getElem?_append_right (by omega), ha, ih (fun b hb => h b (by simp [hb])), if_neg (by omega)]
          have e1 : k / s = (k - s) / s + 1 := by rw [Nat.div_eq_sub_div h0 (by omega)]
          have e2 : k % s = (k - s) % s := by rw [Nat.mod_eq_sub_mod (by omega)]
          rw [e1, e2, List.getElem?_cons_succ]
  have hset : ∀ b ∈ bs.set i x, b.length = s := by
    intro b h
    rcases List.mem_or_eq_of_mem_set h with h | rfl
    · exact hb b h
    · exact hx
  have hl := hfl bs hb
  have hfit : s * i + s ≤ s * bs.length := by rw [← Nat.mul_succ]; exact Nat.mul_le_mul_left _ hi
  apply List.ext_getElem?
  intro k
  rw [setL_at x bs.flatten (s * i) k (by rw [hx, hl]; exact hfit), hat _ hset, hat _ hb, hx]
  rcases Nat.eq_zero_or_pos s with h0 | h0
  · subst h0
    rw [if_neg (by omega)]
    simp
  · simp only [if_neg (show ¬ s = 0 by omega)]
    by_cases hk : s * i ≤ k ∧ k < s * i + s
    · rw [if_pos hk]
      have e1 : k / s = i := by
        have := Nat.div_add_mod k s
        exact Nat.div_eq_of_lt_le (by rw [Nat.mul_comm]; omega) (by rw [Nat.mul_comm, Nat.mul_succ]; omega)
      have e2 : k % s = k - s * i := by have := Nat.div_add_mod k s; rw [e1] at this; omega
      rw [e1, e2, List.getElem?_set_self hi]
      rfl
    · rw [if_neg hk]
      have e1 : i ≠ k / s := by
        intro e
        apply hk
        have := Nat.div_add_mod k s
        have := Nat.mod_lt k h0
        rw [← e] at *
        omega
      rw [List.getElem?_set_ne e1]
theorem flat_len {s : Nat} : ∀ (l : List (List Value)), (∀ b ∈ l, b.length = s) → l.flatten.length = s * l.length := by
  intro l
  induction l with
  | nil => intro _; simp
  | cons a r ih =>
    intro h
    rw [List.flatten_cons, List.length_append, h a (by simp), ih (fun b hb => h b (by simp [hb])), List.length_cons, Nat.mul_succ]
    omega
theorem flat_cell {s : Nat} : ∀ (l : List (List Value)) (_ : ∀ b ∈ l, b.length = s) (i j : Nat) (b : List Value), l[i]? = some b → j < s → l.flatten[s * i + j]? = b[j]? := by
  intro l
  induction l with
  | nil => intro _ i j b h; simp at h
  | cons a r ih =>
    intro h i j b hb hj
    have ha := h a (by simp)
    rw [List.flatten_cons]
    cases i with
    | zero =>
      injection hb with hb
      subst hb
      rw [Nat.mul_zero, Nat.zero_add, List.getElem?_append_left (by omega)]
    | succ i =>
      rw [List.getElem?_append_right (by rw [ha, Nat.mul_succ]; omega), ha, show s * (i + 1) + j - s = s * i + j by rw [Nat.mul_succ]; omega]
      exact ih (fun b hb => h b (by simp [hb])) i j b hb hj
theorem madeCells_rep (z : List Value) (s n : Nat) (hs : z.length = s) (h0 : 0 < s) : madeCells z.toArray (n * s) = ((List.replicate n z).flatten).toArray := by
  have hz := flat_len (s := s) (List.replicate n z) (fun b h => by rw [List.eq_of_mem_replicate h]; exact hs)
  rw [List.length_replicate] at hz
  apply Array.ext_getElem?
  intro k
  have e0 : ((List.replicate n z).flatten).toArray[k]? = ((List.replicate n z).flatten)[k]? := by simp
  rw [e0]
  by_cases hk : k < n * s
  · have hm : k % s < s := Nat.mod_lt _ h0
    have h1 := flat_cell (s := s) (List.replicate n z) (fun b h => by rw [List.eq_of_mem_replicate h]; exact hs) (k / s) (k % s) z (by rw [List.getElem?_replicate, if_pos ((Nat.div_lt_iff_lt_mul h0).2 hk)]) hm
    rw [Nat.div_add_mod] at h1
    rw [h1]
    unfold madeCells
    rw [Array.getElem?_map, Array.getElem?_range, if_pos hk]
    simp only [Option.map_some, List.size_toArray, hs]
    rw [List.getElem?_eq_getElem (show k % s < z.length by omega)]
    congr 1
    exact getElem!_pos z.toArray (k % s) (by simpa [hs] using hm)
  · rw [List.getElem?_eq_none (by rw [hz, Nat.mul_comm]; omega), Array.getElem?_eq_none (by rw [size_madeCells]; omega)]
theorem below_sets {B : Nat} {w w' : World} (h : Below B w w') {b : Nat} (hb : B ≤ b) (vs : List Value) (o : Nat) : Below B w (w'.setCells b o vs) := by
  induction vs generalizing w' o with
  | nil => exact h
  | cons v r ih => exact ih (h.setCell (p := ⟨b, o, none⟩) hb v) (o + 1)
section
variable {P : Program}
theorem run_copy_sz (w : World) (dT sT ty elem : TypeId) (g o dLen dCap : Nat) (a : Addr) (sLen sCap size : Nat) (cur : Array Value) (t : TypeId) (cs : List Value)
    (hu : P.underlying dT = some (.slice elem)) (hs : (P.info? elem).map (·.size) = some size)
    (hg : w.heap[g]? = some (.cells cur t (0, 0))) (hn : cs.length = Nat.min sLen dLen * size)
    (hsrc : ∀ j v, cs[j]? = some v → w.cell? (a.add j) = some v) (hfit : o + cs.length ≤ cur.size) (h1 : ∀ v ∈ cs, v.oneCell' = true) :
    (Builtin.copy_ #[dT, sT] ty #[.slice (some ⟨g, o, none⟩) dLen dCap, .slice (some a) sLen sCap]).run P w =
      .ok (goInt (Nat.min sLen dLen)) (w.setRow g (cur.toList.take o ++ cs ++ cur.toList.drop (o + cs.length)).toArray) := by
  have hl := run_loadCells_list (P := P) w a cs hsrc
  have hst := run_storeCells_at P g o t cs 0 cur w hg (by simpa using hfit) h1
  cases hq : P.info? elem with
  | none => simp [hq] at hs
  | some i =>
    have hi : i.size = size := by simpa [hq] using hs
    simp [Builtin.copy_, run_underlying hu, Builtin.lenOf, Builtin.firstCells, sizeOf, typeInfo, hq, hi, ← hn, hl, hst]
theorem run_copy_zero (w : World) (dT sT ty elem : TypeId) (d a : Option Addr) (dLen dCap sLen sCap size : Nat) (hu : P.underlying dT = some (.slice elem)) (hs : (P.info? elem).map (·.size) = some size) (hn : Nat.min sLen dLen = 0) :
    (Builtin.copy_ #[dT, sT] ty #[.slice d dLen dCap, .slice a sLen sCap]).run P w = .ok (goInt 0) w := by
  cases hq : P.info? elem with
  | none => simp [hq] at hs
  | some i =>
    have hl : ∀ (x : Addr), (loadCells x 0).run P w = .ok #[] w := fun x => by simpa using run_loadCells_list (P := P) w x [] (by simp)
    cases d <;> cases a <;> simp [Builtin.copy_, run_underlying hu, Builtin.lenOf, Builtin.firstCells, sizeOf, typeInfo, hq, hn, storeCells, hl]
/-- copy of elements of any size into a row that is known whole -/
theorem wpList_copy_sz {w : World} {ops : Array Oper} {rest : List Oper} {o : Oper} {a : Act} {Q : Exit → Act → World → Prop} (hgd : o.guard = none) (d s : Operand) (dT sT : TypeId)
    (ho : o.op = .call { callee := .builtin .copy, args := #[d, s], argTypes := #[dT, sT] }) (elem : TypeId) (size : Nat) (hu : P.underlying dT = some (.slice elem)) (hsz : (P.info? elem).map (·.size) = some size)
    (dp sp : Option Addr) (dLen dCap sLen sCap : Nat) (hd : a.eval d = .slice dp dLen dCap) (hs : a.eval s = .slice sp sLen sCap)
    (g off : Nat) (cur : List Value) (t : TypeId) (hg : w.heap[g]? = some (.cells cur.toArray t (0, 0))) (cs : List Value) (hn : cs.length = Nat.min sLen dLen * size)
    (hpos : 0 < Nat.min sLen dLen → dp = some ⟨g, off, none⟩ ∧ ∃ ad, sp = some ad ∧ ∀ j v, cs[j]? = some v → w.cell? (ad.add j) = some v)
    (hfit : off + cs.length ≤ cur.length) (h1 : ∀ v ∈ cs, v.oneCell' = true) (B : Nat) (w0 : World) (hb : Below B w0 w) (hBg : B ≤ g)
    (h : ∀ w', Hid (w'.heap[g]? = some (.cells (splice cur off cs).toArray t (0, 0))) → Below B w0 w' → wpList P ops Q rest (a.put o.dst (goInt (Nat.min sLen dLen))) w') :
    wpList P ops Q (o :: rest) a w := by
  by_cases h0 : Nat.min sLen dLen = 0
  · obtain rfl : cs = [] := List.eq_nil_of_length_eq_zero (by rw [hn, h0, Nat.zero_mul])
    refine wpList_plain hgd fun K hK => ?_
    have hrun := run_copy_zero (P := P) w dT sT o.type elem dp sp dLen dCap sLen sCap size hu hsz h0
    rw [h0] at h
    have h2 := h w (show _ = _ by simpa [splice] using hg) hb
    unfold Oper.wp
    simp [execOp, ho, resolve, invoke, builtin, hd, hs, hrun, Result.andThen]
    exact hK _ _ h2
  · obtain ⟨rfl, ad, rfl, hsrc⟩ := hpos (by omega)
    refine wpList_plain hgd fun K hK => ?_
    have hrun := run_copy_sz (P := P) w dT sT o.type elem g off dLen dCap ad sLen sCap size cur.toArray t cs hu hsz hg hn hsrc (by simpa using hfit) h1
    have h2 := h _ (show _ = _ by simpa [splice] using setRow_heap w g _ _ t _ hg) (below_setRow hb hBg _)
    unfold Oper.wp
    simp [execOp, ho, resolve, invoke, builtin, hd, hs, hrun, Result.andThen]
    exact hK _ _ h2
theorem el_load {ops : Array Oper} {rest : List Oper} {op : Oper} {a : Act} {w : World} {Q : Exit → Act → World → Prop} (hw : Region.wanted op (yielded ops a.tmps) = true) (ty : TypeId) (x : Operand) (ho : op.op = .load ty x)
    (b o : Nat) (hx : a.eval x = .pointer (some ⟨b, o, none⟩)) (cs : List Value) (d : TypeDesc) (hc : w.rangeAt b o cs)
    (hu : P.underlying ty = some d) (hd : d.isRow = true) (hi : (P.info? ty).map (·.size) = some cs.length)
    (h : wpList P ops Q rest (a.put op.dst (.agg cs.toArray)) w) : wpList P ops Q (op :: rest) a w :=
  wpList_wanted hw fun _ hK => wp_load_mid ty x ho b o hx cs d hc hu hd hi (hK _ _ h)
theorem el_range {w : World} {g : Nat} {t : TypeId} {V : List Value} (h : Row w g t V) : w.rangeAt g 0 V := fun j v hv => by rw [Nat.zero_add, h.cell, hv]
theorem el_at {w : World} {g s : Nat} {t : TypeId} {bs : List (List Value)} (h : Row w g t bs.flatten) (hb : ∀ b ∈ bs, b.length = s) {i : Nat} {V : List Value} (hi : bs[i]? = some V) : w.rangeAt g (i * s) V := fun j v hv => by
  have hV := hb V (List.mem_of_getElem? hi)
  rw [h.cell, Nat.mul_comm, flat_cell (s := s) bs hb i j V hi (by have := (List.getElem?_eq_some_iff.1 hv).1; omega), hv]
theorem el_form {w : World} {B s n : Nat} {A : Option Addr} {bs : List (List Value)} (h : Reads w B s A n bs.flatten) (hb : ∀ b ∈ bs, b.length = s) (hl : bs.length = n) (h0s : 0 < s) : ∃ b o, Hid (0 < n → A = some ⟨b, o, none⟩ ∧ b < B ∧ ∀ i V, bs[i]? = some V → w.rangeAt b (o + i * s) V) := by
  rcases Nat.eq_zero_or_pos n with h0 | h0
  · exact ⟨0, 0, fun h => absurd h (by omega)⟩
  · obtain ⟨⟨b, o, sp⟩, rfl, hB, hc⟩ := h.2 h0
    have hx : ∀ i V, bs[i]? = some V → ∀ j v, V[j]? = some v → bs.flatten[s * i + j]? = some v := fun i V hi j v hv => by
      rw [flat_cell (s := s) bs hb i j V hi (by have := (List.getElem?_eq_some_iff.1 hv).1; have := hb V (List.mem_of_getElem? hi); omega), hv]
    have hs : sp = none := by
      obtain ⟨V, hV⟩ : ∃ V, bs[0]? = some V := ⟨_, List.getElem?_eq_getElem (by omega)⟩
      obtain ⟨v, hv⟩ : ∃ v, V[0]? = some v := ⟨_, List.getElem?_eq_getElem (by have := hb V (List.mem_of_getElem? hV); omega)⟩
      have := World.cell?_spot (hc (s * 0 + 0) _ (hx 0 V hV 0 v hv))
      simpa [Addr.add] using this
    subst hs
    refine ⟨b, o, fun _ => ⟨rfl, hB, fun i V hi j v hv => ?_⟩⟩
    have := hc _ _ (hx i V hi j v hv)
    rw [Addr.add_mid] at this
    rw [show o + i * s + j = o + (s * i + j) by rw [Nat.mul_comm]; omega]
    exact this
theorem el_qwant {ops : Array Oper} {C : World → Prop} {Q : Act → Prop} {a : Act} {o : Oper} {rest : List Oper} (hw : Region.wanted o (yielded ops a.tmps) = true) (h : ∀ K : Act → Prop, (∀ a, wpQuiet P ops C Q rest a → K a) → o.quiet P a C K) : wpQuiet P ops C Q (o :: rest) a :=
  wpQuiet_step fun K hK => by rw [if_pos hw]; exact h K hK
theorem el_qload {o : Oper} {a : Act} {C : World → Prop} {K : Act → Prop} (ty : TypeId) (x : Operand) (ho : o.op = .load ty x) (b k : Nat) (hx : a.eval x = .pointer (some ⟨b, k, none⟩)) (cs : List Value) (d : TypeDesc) (hc : ∀ w, C w → w.rangeAt b k cs)
    (hu : P.underlying ty = some d) (hd : d.isRow = true) (hi : (P.info? ty).map (·.size) = some cs.length) (hk : K (a.put o.dst (.agg cs.toArray))) : o.quiet P a C K :=
  ⟨_, fun w hw => by
    unfold Oper.quietAt execOp
    simp only [ho, hx, Instr.loadAt, Instr.sureAddr, Sem.run_bind, Sem.run_pure, Result.andThen_ok, run_loadVar_mid w b k ty cs d (hc w hw) hu hd hi]
    exact ⟨rfl, rfl⟩, hk⟩
theorem el_qbin {o : Oper} {a : Act} {C : World → Prop} {K : Act → Prop} (b : BinOp) (t : TypeId) (x y : Operand) (s : TypeId) (ho : o.op = .binOp b t x y s) {xs ys : Array Value} {v : Value} (hx : a.eval x = .agg xs) (hy : a.eval y = .agg ys) (hm : P.eqGuardType P.depth t = false)
    (hrun : ∀ w, (binOp b t (.agg xs) (.agg ys)).run P w = .ok v w) (hk : K (a.put o.dst v)) : o.quiet P a C K :=
  ⟨_, fun w hw => by
    unfold Oper.quietAt execOp
    simp only [ho, hx, hy, Sem.run_bind, run_eqGuard_agg (hm := hm), hrun, Result.andThen_ok, Sem.run_pure]
    exact ⟨rfl, rfl⟩, hk⟩
end
end Go.Proofs.Ytchajbegjajlkaa

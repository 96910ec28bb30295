/- Words for a reader in memory, and the walks of the reader's next, At, Left, Err, End, and of NewReader. -/
import Derived.Test.YtblfagmoilhdnaaWriterB
import Derived.Test.YtblfagmoilhdnaaGet
import Derived.Deep.QuietTactic
import Derived.BigQuiet
set_option linter.unusedVariables false
set_option linter.unusedSimpArgs false
namespace Go.Proofs.Ytblfagmoilhdnaa
open Go.RowKit

theorem owns_chg {S : List Nat} {w w' : World} {base : Nat} {e : TypeId} {size n : Nat} {v : Value} {xs : List Value} (h : w.ownsRow base e size v n xs) (hc : Chg S w w') (hr : ∀ k, v.ownBlock = some k → k ∉ S) : w'.ownsRow base e size v n xs := by
  refine ⟨h.1, ?_⟩
  rcases h.2 with h2 | ⟨g, cap, cur, hv, hg, hh, r⟩
  · exact .inl h2
  · refine .inr ⟨g, cap, cur, hv, hg, ?_, r⟩
    rw [hc.block g (Blk.lt (cs := cur) hh) (hr g (by rw [hv]; rfl))]; exact hh
theorem Wr.chg {S : List Nat} {w w' : World} {g : Nat} {r : Option Nat} {s : Wd.W} (h : Wr w g r s) (hc : Chg S w w') (hg : g ∉ S) (hr : ∀ k, r = some k → k ∉ S) : Wr w' g r s := by
  obtain ⟨A, c, hrow, hown, hob, h2⟩ := h
  exact ⟨A, c, hc.row hrow hg, owns_chg hown hc (fun k hk => hr k (hob.symm.trans hk)), hob, h2⟩
/-- bytes that lie in a block of one's own: they stay as long as that block does -/
def IsR (w : World) (r : Option Nat) (A : Option Addr) (n c : Nat) (bs : List Nat) : Prop := ∀ w2 : World, (∀ k, r = some k → w2.heap[k]? = w.heap[k]?) → w.heap.size ≤ w2.heap.size → IsB' w2 A n c bs
theorem IsR.b {w : World} {r : Option Nat} {A : Option Addr} {n c : Nat} {bs : List Nat} (h : IsR w r A n c bs) : IsB' w A n c bs := h w (fun _ _ => rfl) (Nat.le_refl _)
theorem IsR.chg {S : List Nat} {w w' : World} {r : Option Nat} {A : Option Addr} {n c : Nat} {bs : List Nat} (h : IsR w r A n c bs) (hc : Chg S w w') (hr : ∀ k, r = some k → k ∉ S) (hlt : ∀ k, r = some k → k < w.heap.size) : IsR w' r A n c bs :=
  fun w2 h1 h2 => h w2 (fun k hk => (h1 k hk).trans (hc.block k (hlt k hk) (hr k hk))) (Nat.le_trans hc.size h2)
theorem own_lt {w : World} {base n c : Nat} {e : TypeId} {size : Nat} {A : Option Addr} {xs : List Value} (h : w.ownsRow base e size (.slice A n c) n xs) : ∀ k, (Value.slice A n c).ownBlock = some k → k < w.heap.size := by
  rcases h.2 with ⟨h, _⟩ | ⟨g', cap, cur, hv, hg, hh, _⟩
  · injection h with hA _ _
    subst hA
    intro k hk
    cases hk
  · intro k hk
    rw [hv] at hk
    injection hk with hk
    exact hk ▸ (Blk.lt (cs := cur) hh)
theorem own_isR {w : World} {n c : Nat} {A : Option Addr} {bs : List Nat} (hown : w.ownsRow 0 5 1 (.slice A n c) n (bs.map u8)) (hbs : ∀ b ∈ bs, b < 256) : IsR w (Value.slice A n c).ownBlock A n c bs := by
  intro w2 h1 h2
  have hown2 : w2.ownsRow 0 5 1 (.slice A n c) n (bs.map u8) := by
    refine ⟨hown.1, ?_⟩
    rcases hown.2 with h3 | ⟨g, cap, cur, hv, hg, hh, r⟩
    · exact .inl h3
    · refine .inr ⟨g, cap, cur, hv, hg, ?_, r⟩
      rw [h1 g (by rw [hv]; rfl)]; exact hh
  refine ⟨⟨Reads.of_own hown2, hbs, ?_⟩, ?_⟩
  · rcases hown.2 with ⟨h, h0⟩ | ⟨g', cap, cur, hv, _, _, hnc, hcm, _⟩
    · omega
    · unfold maxLen at hcm
      omega
  · intro hA
    rcases hown.2 with ⟨h, _⟩ | ⟨g', cap, cur, hv, _⟩
    · injection h
    · rw [hA] at hv; cases hv
theorem next_part {w : World} {A : Option Addr} {xs : List Nat} {n c f k : Nat} (hB : IsB w w.heap.size A n xs) (hcn : n ≤ c) (hfl : f + k ≤ n) :
    IsB w w.heap.size (if c = f then A else A.map (·.add f)) k ((xs.drop f).take k) := by
  have hr : Reads w w.heap.size 1 (if c = f then A else A.map (·.add (f * 1))) (n - f) ((xs.map u8).drop (f * 1)) := hB.1.cut (by omega) hcn
  have := hB.2.2
  rw [Nat.mul_one] at hr
  refine ⟨⟨by have := hB.len; simp; omega, fun h => ?_⟩, fun b hb => hB.2.1 b (List.mem_of_mem_drop (List.mem_of_mem_take hb)), by omega⟩
  obtain ⟨ad, h1, h2, h3⟩ := hr.2 (by omega)
  refine ⟨ad, h1, h2, fun i u hu => h3 i u ?_⟩
  simp only [List.map_take, List.map_drop] at hu
  rw [List.getElem?_take] at hu
  split at hu
  · exact hu
  · cases hu

end Go.Proofs.Ytblfagmoilhdnaa

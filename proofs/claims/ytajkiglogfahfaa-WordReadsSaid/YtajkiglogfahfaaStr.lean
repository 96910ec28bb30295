/- Strings as lists of bytes: what a conversion to bytes, and back, comes to. -/
import Derived.Test.YtajkiglogfahfaaChg
import Derived.Laws.IdiomStrings
import Derived.Laws.BytesString
set_option linter.unusedVariables false
set_option linter.unusedSimpArgs false
namespace Go.Proofs.Ytajkiglogfahfaa
open Go.RowKit

/-- a text's bytes -/
def sb (s : ByteArray) : List Nat := s.data.toList.map UInt8.toNat
/-- the text of bytes -/
def bs2s (bs : List Nat) : ByteArray := ⟨(bs.map UInt8.ofNat).toArray⟩
theorem sb_len (s : ByteArray) : (sb s).length = s.size := by unfold sb; rw [List.length_map, Array.length_toList]; rfl
theorem sb_lt (s : ByteArray) : ∀ b ∈ sb s, b < 256 := by
  intro b hb
  obtain ⟨c, _, rfl⟩ := List.mem_map.1 hb
  exact c.toNat_lt
theorem sb_bs2s (bs : List Nat) (h : ∀ b ∈ bs, b < 256) : sb (bs2s bs) = bs := by
  unfold sb bs2s
  simp only [List.map_map]
  conv => rhs; rw [← List.map_id bs]
  refine List.map_congr_left fun b hb => ?_
  have := h b hb
  simp [UInt8.toNat_ofNat']
  omega
theorem bs2s_sb (s : ByteArray) : bs2s (sb s) = s := by
  unfold sb bs2s
  simp only [List.map_map]
  have : (UInt8.ofNat ∘ UInt8.toNat) = id := by funext x; simp
  rw [this, List.map_id]
theorem sb_inj {s t : ByteArray} (h : sb s = sb t) : s = t := by rw [← bs2s_sb s, h, bs2s_sb]
theorem bs2s_inj {a b : List Nat} (ha : ∀ x ∈ a, x < 256) (hb : ∀ x ∈ b, x < 256) (h : bs2s a = bs2s b) : a = b := by rw [← sb_bs2s a ha, h, sb_bs2s b hb]
theorem bs2s_size (bs : List Nat) : (bs2s bs).size = bs.length := by simp [bs2s, ByteArray.size]
theorem bs2s_nil : bs2s [] = ⟨#[]⟩ := rfl
theorem run_bytes_of (src dst : TypeId) (s : ByteArray) (w : World) (hs : Try.prog.underlying src = some .string) (hd : Try.prog.underlying dst = some (.slice 5)) (hl : s.size ≤ 9223372036854775807) :
    ∃ g c W, (convert src dst (.string s)).run Try.prog w = .ok (.slice (some ⟨g, 0, none⟩) s.size c) W ∧ IsB W W.heap.size (some ⟨g, 0, none⟩) s.size (sb s) ∧ Below w.heap.size w W ∧ w.heap.size ≤ g := by
  refine ⟨_, _, _, run_bytes_of_string w src dst 5 s hs hd Try.underlying5, ⟨⟨by simp [sb_len], fun h0 => ⟨_, rfl, by simp, fun j u hu => ?_⟩⟩, sb_lt s, hl⟩, ?_, Nat.le_refl _⟩
  · have hj : j < s.data.size := by
      have := (List.getElem?_eq_some_iff.1 hu).1
      simp [sb] at this
      exact this
    have e : (⟨w.heap.size, 0, none⟩ : Addr).add j = ⟨w.heap.size, j, none⟩ := by unfold Addr.add; split <;> simp_all
    have h1 := World.cell?_alloc_mark w.drew (bytesRow s (grownCap w s.size 0 5)) 5 ((bytesRow s (grownCap w s.size 0 5)).size, (bytesRow s (grownCap w s.size 0 5)).size + 1) j
    have e2 : w.drew.heap.size = w.heap.size := rfl
    rw [e2] at h1
    rw [e, h1, bytesRow_at s _ j hj, ← hu]
    simp only [sb, List.map_map, List.getElem?_map, Array.getElem?_toList, Array.getElem?_eq_getElem hj, Option.map_some]
    rfl
  · exact (Below.refl _ _).drew.alloc (Nat.le_refl _) _
theorem bytes_at {B n : Nat} {ad : Addr} {bs : List Nat} {w : World} (hb : IsB w B (some ad) n bs) : ∀ (j : Nat) (hj : j < (bs.map UInt8.ofNat).length), w.cell? (ad.add j) = some (.int .u8 ((bs.map UInt8.ofNat)[j].toNat : Int)) := by
  intro j hj
  have hl := hb.len
  have hjb : j < bs.length := by simpa using hj
  obtain ⟨ad', h1, _, hc⟩ := hb.1.2 (by omega)
  injection h1 with h1
  subst h1
  have h5 := hb.2.1 bs[j] (List.getElem_mem hjb)
  have h6 : (UInt8.ofNat bs[j]).toNat = bs[j] := by rw [UInt8.toNat_ofNat']; omega
  have hx : (bs.map u8)[j]? = some (u8 bs[j]) := by rw [List.getElem?_map, List.getElem?_eq_getElem hjb]; rfl
  rw [hc j _ hx, List.getElem_map, h6]
  rfl
theorem run_string_of (src dst : TypeId) (A : Option Addr) (n c B : Nat) (bs : List Nat) (w : World) (hs : Try.prog.underlying src = some (.slice 5)) (hd : Try.prog.underlying dst = some .string) (hb : IsB w B A n bs) :
    (convert src dst (.slice A n c)).run Try.prog w = .ok (.string (bs2s bs)) w := by
  have hl := hb.len
  cases A with
  | none =>
    have hn : n = 0 := by
      rcases Nat.eq_zero_or_pos n with h | h
      · exact h
      · obtain ⟨ad, h, _⟩ := hb.1.2 h; cases h
    subst hn
    obtain rfl : bs = [] := List.eq_nil_of_length_eq_zero hl
    rw [run_convert_bytes_string w src dst 5 none 0 c hs Try.underlying5 hd]
    simp [Conv.bytesToString, bs2s_nil]
    rfl
  | some ad =>
    have hll : (bs.map UInt8.ofNat).length = n := by simp [hl]
    have hback := bytes_at hb
    have := run_convert_bytes_back (P := Try.prog) w src dst 5 ad c (bs.map UInt8.ofNat) hs Try.underlying5 hd hback
    rw [hll] at this
    exact this
end Go.Proofs.Ytajkiglogfahfaa

/-
  Walks: the law that joins texts.
-/
import Derived.Test.YtnbjfhmajaiokaaTitleP
namespace Go.Proofs.Ytnbjfhmajaiokaa
open Go.RowKit

theorem oc_append (a b : ByteArray) : oc (a ++ b) = oc a ++ oc b := by simp [oc]
theorem join_facts (a b : ByteArray) (ha : strays (oc a) = 0) (hb : strays (oc b) = 0) :
    wholes (oc (a ++ b)) = wholes (oc a) + wholes (oc b) ∧ strays (oc (a ++ b)) = 0 ∧ st (headL (oc (a ++ b)) (wholes (oc a))) = a := by
  have h1 := (strays_none (oc a)).1 ha
  have h := runes_append (oc a) (oc b) h1
  rw [oc_append]
  refine ⟨?_, ?_, ?_⟩
  · unfold wholes; rw [h, List.filter_append, List.length_append]
  · unfold strays at *; rw [h, List.filter_append, List.length_append, ha, hb]
  · have hc := counts (oc a)
    unfold headL
    rw [h, List.take_left' (by omega), octs_runes, st_oc]

set_option maxHeartbeats 1000000 in
theorem joins_law (s t : ByteArray) (w : World) :
    Calls Try.prog 8 #[.string s, .string t] w fun e w' => e = .returned (.bool true) ∧ Below w.heap.size w w' := by
  have hs := fewS_size s
  have ht := fewS_size t
  go_enter Try.func8, Try.ntmps8
  go_wp2_with fail
  refine (few_any s w).mono ?_
  rintro e w0 ⟨rfl, rfl⟩
  generalize fewS s = a at *
  go_wp2_with fail
  refine (few_any t w).mono ?_
  rintro e w0 ⟨rfl, rfl⟩
  generalize fewS t = b at *
  go_wp2_with fail
  refine (Count_any a w (by omega)).mono ?_
  rintro e w1 ⟨rfl, h1⟩
  go_wp2_with fail
  refine (Count_any b w1 (by omega)).mono ?_
  rintro e w2 ⟨rfl, h2⟩
  have b2 := h1.trans (h2.mono h1.size)
  have hj := join_facts a b
  have hsz : (a ++ b).size = a.size + b.size := ByteArray.size_append
  have hca := counts (oc a)
  have hcb := counts (oc b)
  have hla := runes_len_le (oc a)
  have hlb := runes_len_le (oc b)
  rw [oc_len] at hla hlb
  have HJ := Lib.hid hj
  have HSZ := Lib.hid hsz
  obtain ⟨ab, hab⟩ : ∃ ab, a ++ b = ab := ⟨_, rfl⟩
  rw [hab] at hj hsz
  have HAB := Lib.hid hab
  obtain ⟨x, hx⟩ : ∃ x, strays (oc a) = x := ⟨_, rfl⟩
  obtain ⟨y, hy⟩ : ∃ y, strays (oc b) = y := ⟨_, rfl⟩
  obtain ⟨c, hc⟩ : ∃ c, wholes (oc a) = c := ⟨_, rfl⟩
  obtain ⟨d, hd⟩ : ∃ d, wholes (oc b) = d := ⟨_, rfl⟩
  rw [hx, hc] at hca
  rw [hy, hd] at hcb
  rw [hx, hy, hc, hd] at hj ⊢
  have HJ2 := Lib.hid hj
  have hcd : c ≤ 200 ∧ d ≤ 200 := by omega
  have hsz2 : ab.size ≤ 1000 := by omega
  clear hj hsz hab hx hy hc hd hca hcb
  by_cases hx0 : 0 < x
  · go_wp2_with fail
    refine (awake_any w2).mono ?_
    rintro e w3 ⟨rfl, h3⟩
    go_wp2
    go_ret
    exact ⟨rfl, b2.trans (h3.mono b2.size)⟩
  · by_cases hy0 : 0 < y
    · go_wp2_with fail
      refine (awake_any w2).mono ?_
      rintro e w3 ⟨rfl, h3⟩
      go_wp2
      go_ret
      exact ⟨rfl, b2.trans (h3.mono b2.size)⟩
    · obtain ⟨j1, j2, j3⟩ := HJ2.out (by omega) (by omega)
      have J1 := Lib.hid j1
      have J2 := Lib.hid j2
      have J3 := Lib.hid j3
      clear j1 j2 j3
      go_wp2_with fail
      rw [HAB.out]
      refine (Count_any ab w2 (by omega)).mono ?_
      rintro e w3 ⟨rfl, h3⟩
      rw [J1.out, J2.out]
      have b3 := b2.trans (h3.mono b2.size)
      have hcc : (((c + d : Nat) : Int) == (c : Int) + (d : Int)) = true := by simp
      go_wp2_with fail
      rw [HAB.out]
      refine (Head_any ab (c : Int) w3 (by omega) (by omega)).mono ?_
      rintro e w4 ⟨rfl, h4⟩
      rw [Int.toNat_natCast, J3.out]
      have b4 := b3.trans (h4.mono b3.size)
      go_wp2_with fail
      refine (awake_any w4).mono ?_
      rintro e w5 ⟨rfl, h5⟩
      go_wp2
      go_ret
      exact ⟨rfl, b4.trans (h5.mono b4.size)⟩
end Go.Proofs.Ytnbjfhmajaiokaa

/-
  Walk: numbers laid into octets by their widths.
-/
import Derived.Test.YtpjghildhhpeeaaRowV
import Derived.Test.YtpjghildhhpeeaaAppB
import Derived.Test.YtpjghildhhpeeaaTitleN
namespace Go.Proofs.Ytpjghildhhpeeaa
open Go.RowKit

abbrev Num := Nat × Nat
def fN (x : Num) : List Value := [.int .i64 x.1, .int .u64 x.2]
theorem fN_len (x : Num) : (fN x).length = 2 := rfl
abbrev rowN (l : List Num) : List Value := rowV fN l
def okN (x : Num) : Prop := 1 ≤ x.1 ∧ x.1 ≤ 8 ∧ x.2 < 256 ^ x.1
def byteN (x : Num) (i : Nat) : UInt8 := UInt8.ofNat (x.2 / 256 ^ (x.1 - 1 - i) % 256)
def octN (x : Num) : List UInt8 := (List.range x.1).map (byteN x)
def packL (l : List Num) : List UInt8 := l.flatMap octN
theorem packL_snoc (l : List Num) (x : Num) : packL (l ++ [x]) = packL l ++ octN x := by simp [packL]
theorem octN_len (x : Num) : (octN x).length = x.1 := by simp [octN]
theorem num_at {w : World} {B n : Nat} {A : Option Addr} {l : List Num} (h : Rd w B 2 A n (rowN l)) {k : Nat} (hk : k < n) :
    ∃ g o x, A = some ⟨g, o, none⟩ ∧ g < B ∧ l[k]? = some x ∧ w.cell? ⟨g, o + k * 2, none⟩ = some (.int .i64 x.1) ∧ w.cell? ⟨g, o + k * 2 + 1, none⟩ = some (.int .u64 x.2) := by
  obtain ⟨g, o, x, e, hb, hx, hc⟩ := rowV_at fN_len h hk (by omega)
  exact ⟨g, o, x, e, hb, hx, by simpa using hc 0 _ rfl, by rw [Nat.add_assoc]; exact hc 1 _ rfl⟩
theorem octV_snoc (l : List UInt8) (b : UInt8) : octV (l ++ [b]) = octV l ++ [.int .u8 b.toNat] := by simp [octV]
theorem octV_append (l m : List UInt8) : octV (l ++ m) = octV l ++ octV m := by simp [octV]
theorem octV_len (l : List UInt8) : (octV l).length = l.length := by simp [octV]
theorem octV_one (l : List UInt8) : ∀ u ∈ octV l, u.oneCell' = true := by
  intro u hu
  obtain ⟨b, _, rfl⟩ := List.mem_map.1 hu
  rfl
theorem octN_take (x : Num) (i : Nat) : octN x = (List.range x.1).map (byteN x) ∧ ((List.range (i + 1)).map (byteN x)) = ((List.range i).map (byteN x)) ++ [byteN x i] := ⟨rfl, by rw [List.range_succ, List.map_append]; rfl⟩

theorem Try.info5 : (Try.prog.info? 5).map (fun i => (i.zero, i.size, i.bytes)) = some (some (.int .u8 0), 1, 1) := by kernel_rfl

theorem byteN_int (W V i : Nat) : ((byteN (W, V) i).toNat : Int) = (V : Int) / 2 ^ (8 * (W - 1 - i)) % 256 := by
  unfold byteN
  have h : (256 : Nat) ^ (W - 1 - i) = 2 ^ (8 * (W - 1 - i)) := by rw [Nat.pow_mul]
  have h2 : (UInt8.ofNat (V / 256 ^ (W - 1 - i) % 256)).toNat = V / 2 ^ (8 * (W - 1 - i)) % 256 := by
    rw [h]
    simp
  show ((UInt8.ofNat (V / 256 ^ (W - 1 - i) % 256)).toNat : Int) = _
  rw [h2, Int.natCast_emod, Int.natCast_ediv, Int.natCast_pow]
  rfl
theorem Blk.grown {w w' : World} {g : Nat} {t : TypeId} {fz : Nat × Nat} {cs : Array Value} {row : Option Nat} (h : Blk w g t fz cs) (hb : w.grownBy w' row) (hg : row ≠ some g) : Blk w' g t fz cs :=
  (hb.block g h.lt (fun e => hg e.symm)).trans h
set_option maxHeartbeats 400000 in
theorem wide_any (n : Nat) (w : World) (h1 : 1 ≤ n) (h2 : n ≤ 8) :
    Calls Try.prog 51 #[.int .i64 n] w fun e w' => e = .returned (.bool true) ∧ w = w' := by
  go_enter Try.func51, Try.ntmps51
  go_wp2
  go_ret
  exact ⟨by simp; omega, rfl⟩

set_option maxHeartbeats 4000000 in
set_option maxRecDepth 100000 in
theorem Pack_ok (A : Option Addr) (n c : Nat) (l : List Num) (w : World) (hr : Rd w w.heap.size 2 A n (rowN l)) (hn : n ≤ 1000) (hok : ∀ x ∈ l, okN x) :
    Calls Try.prog 35 #[.slice A n c] w fun e w' => (∃ v, e = .returned (.tuple #[v, .int .i64 0]) ∧ w'.ownsRow w.heap.size 5 1 v (packL l).length (octV (packL l))) ∧ Below w.heap.size w w' := by
  obtain ⟨i0, hi, hz0, hz1, hz2⟩ := info_parts Try.info5
  have hln := rowV_count fN_len hr (by omega)
  have HR := Lib.hid hr
  have HL := Lib.hid hln
  have HOK := Lib.hid hok
  clear hr hln hok
  go_enter Try.func35, Try.ntmps35
  go_wp2
  go_loopw [4, 10] (fun v i wr => ∃ k : Nat, k ≤ n ∧ i = .int .i64 k ∧ wr.ownsRow w.heap.size 5 1 v (packL (l.take k)).length (octV (packL (l.take k))) ∧ (packL (l.take k)).length ≤ 8 * k ∧ Below w.heap.size w wr) (fun _ i _ => n - (intOf i).toNat)
  case atStart => exact ⟨0, Nat.zero_le _, rfl, ⟨rfl, .inl ⟨rfl, rfl⟩⟩, by simp [packL], Below.refl _ _⟩
  case round =>
    obtain ⟨k, hk, rfl, hown, hlen, hbw⟩ := hrel
    obtain ⟨wo, rfl⟩ : ∃ wo : World, wo = wr := ⟨_, rfl⟩
    by_cases hlt : k < n
    · obtain ⟨g, o, x, rfl, hg, hx, c0, c1⟩ := num_at (HR.out.below hbw) hlt
      obtain ⟨ok1, ok2, ok3⟩ := HOK.out x (List.mem_iff_getElem?.2 ⟨k, hx⟩)
      have hsn : packL (l.take (k + 1)) = packL (l.take k) ++ octN x := by rw [take_snoc l k x hx, packL_snoc]
      obtain ⟨W, V⟩ := x
      simp only at c0 c1 ok1 ok2 ok3
      have HSN := Lib.hid hsn
      clear hsn hx
      have hgx0 : Blk (wo.alloc (.cells #[.int .i64 W, .int .u64 V] 62)) wo.heap.size 62 (0, 0) #[.int .i64 W, .int .u64 V] := Blk.new wo _ _ _
      have HGX0 := Lib.hid hgx0
      have hob0 : Hid (∀ k, u4.ownBlock = some k → k < wo.heap.size) := Lib.hid (fun k hk => (hown.lt k hk).2)
      have hsz0 : wo.heap.size < (wo.alloc (.cells #[.int .i64 W, .int .u64 V] 62)).heap.size := by simp
      by_cases h8 : W < 8
      · have hz : ((V : Int) / 2 ^ (8 * W) != 0) = false := by
          rw [bne_eq_false_iff_eq]
          have h256 : (256 : Nat) ^ W = 2 ^ (8 * W) := by rw [Nat.pow_mul]
          have : V / 2 ^ (8 * W) = 0 := Nat.div_eq_of_lt (by rw [← h256]; exact ok3)
          have h3 : ((V / 2 ^ (8 * W) : Nat) : Int) = 0 := by rw [this]; rfl
          rw [Int.natCast_ediv, Int.natCast_pow] at h3
          exact h3
        go_wp2_with fail
        refine (wide_any W _ ok1 ok2).mono ?_
        rintro e w1 ⟨rfl, rfl⟩
        go_wp2
        go_loopw [4, 32] (fun v j wi => ∃ i : Nat, i ≤ W ∧ j = .int .i64 i ∧ wi.ownsRow w.heap.size 5 1 v (packL (l.take k) ++ (List.range i).map (byteN (W, V))).length (octV (packL (l.take k) ++ (List.range i).map (byteN (W, V)))) ∧ Hid (Blk wi wo.heap.size 62 (0, 0) #[.int .i64 W, .int .u64 V]) ∧ Hid (v.ownBlock ≠ some wo.heap.size) ∧ Below w.heap.size w wi) (fun _ j _ => W - (intOf j).toNat)
        case atStart => exact ⟨0, Nat.zero_le _, rfl, by simpa using own_later hown ((Below.refl _ _).alloc (Nat.le_refl _) _), HGX0, Lib.hid (fun e => by have := hob0.out _ e; omega), hbw.alloc hbw.size _⟩
        case round =>
          obtain ⟨i, hi1, rfl, hown2, HGX, HOB, hbi⟩ := hrel
          obtain ⟨x0, x1, xf⟩ : wr.cell? ⟨wo.heap.size, 0, none⟩ = some (.int .i64 W) ∧ wr.cell? ⟨wo.heap.size, 1, none⟩ = some (.int .u64 V) ∧ True := ⟨HGX.out.cell 0, HGX.out.cell 1, trivial⟩
          have hgl := HGX.out.lt
          by_cases hlt2 : i < W
          · have hby := byteN_int W V i
            have hsn2 : packL (l.take k) ++ (List.range (i + 1)).map (byteN (W, V)) = (packL (l.take k) ++ (List.range i).map (byteN (W, V))) ++ [byteN (W, V) i] := by
              rw [List.range_succ, List.map_append, List.append_assoc]; rfl
            have hll : (packL (l.take k) ++ (List.range i).map (byteN (W, V))).length ≤ 8 * k + 8 := by
              rw [List.length_append, List.length_map, List.length_range]; omega
            obtain ⟨L, hL⟩ : ∃ L, packL (l.take k) ++ (List.range i).map (byteN (W, V)) = L := ⟨_, rfl⟩
            rw [hL] at hsn2 hown2 hll
            obtain ⟨p, hp⟩ : ∃ p, L.length = p := ⟨_, rfl⟩
            rw [hp] at hown2 hll
            have HP := Lib.hid hp
            have HSN2 := Lib.hid hsn2
            have HBY := Lib.hid hby
            clear hsn2 hby hp hL
            go_wp2_with (at_builtin; refine wpList_append_own_at _ rfl (.tmp 35) (.tmp 46) 42 rfl w.heap.size 5 i0 _ 1 1 Try.underlying42 hi hz0 hz1 hz2 rfl (by decide) _ _ _ rfl (hown2.alloc _) ⟨wr.heap.size, 0, none⟩ 1 1 [.int .u8 ((V : Int) / 2 ^ (8 * (W - 1 - i)) % 256)] (by rfl) (by rfl) (fun j u hj => new_cells wr _ _ _ rfl j u hj) (one_cell rfl) (by unfold maxLen; omega) (by omega) (base_alloc hbi.size _) ?_)
            intro v' w' hown' hgrow _ hat
            have hb' : Below w.heap.size w w' := (hbi.alloc hbi.size _).grown hgrow (base_alloc hbi.size _) (fun k hk => (hown2.lt k hk).1)
            have HO : Hid (w'.ownsRow w.heap.size 5 1 v' (packL (l.take k) ++ (List.range (i + 1)).map (byteN (W, V))).length (octV (packL (l.take k) ++ (List.range (i + 1)).map (byteN (W, V))))) := Lib.hid (by
              rw [HSN2.out, octV_snoc, HBY.out, List.length_append, HP.out]
              exact hown')
            have HGX' := Lib.hid ((HGX.out.alloc (.cells #[.int .u8 ((V : Int) / 2 ^ (8 * (W - 1 - i)) % 256)] 5)).grown hgrow HOB.out)
            have HOB' : Hid (v'.ownBlock ≠ some wo.heap.size) := Lib.hid (by
              rcases hat with h | h
              · rw [h]; exact HOB.out
              · rw [h]; intro e; injection e with e; (try simp at e); omega)
            clear hown' hown2 hgrow hat
            go_wp2
            go_roundw
            case rel => exact ⟨i + 1, by omega, by go_num, HO.out, HGX', HOB', hb'⟩
            case measure => simp [intOf]; omega
          · obtain rfl : i = W := by omega
            have hown3 : wr.ownsRow w.heap.size 5 1 u4 (packL (l.take (k + 1))).length (octV (packL (l.take (k + 1)))) := by rw [HSN.out]; exact hown2
            have hlen3 : (packL (l.take (k + 1))).length ≤ 8 * (k + 1) := by rw [HSN.out, List.length_append, octN_len]; show _ + i ≤ _; omega
            have HO := Lib.hid hown3
            clear hown2 hown3 hlen
            go_wp2
            go_roundw
            case rel => exact ⟨k + 1, by omega, by go_num, HO.out, hlen3, hbi⟩
            case measure => simp [intOf]; omega
      · obtain rfl : W = 8 := by omega
        clear ok1 ok2 h8 ok3
        go_wp2_with fail
        refine (wide_any 8 _ (by omega) (by omega)).mono ?_
        rintro e w1 ⟨rfl, rfl⟩
        go_wp2
        go_loopw [4, 32] (fun v j wi => ∃ i : Nat, i ≤ 8 ∧ j = .int .i64 i ∧ wi.ownsRow w.heap.size 5 1 v (packL (l.take k) ++ (List.range i).map (byteN (8, V))).length (octV (packL (l.take k) ++ (List.range i).map (byteN (8, V)))) ∧ Hid (Blk wi wo.heap.size 62 (0, 0) #[.int .i64 8, .int .u64 V]) ∧ Hid (v.ownBlock ≠ some wo.heap.size) ∧ Below w.heap.size w wi) (fun _ j _ => 8 - (intOf j).toNat)
        case atStart => exact ⟨0, Nat.zero_le _, rfl, by simpa using own_later hown ((Below.refl _ _).alloc (Nat.le_refl _) _), HGX0, Lib.hid (fun e => by have := hob0.out _ e; omega), hbw.alloc hbw.size _⟩
        case round =>
          obtain ⟨i, hi1, rfl, hown2, HGX, HOB, hbi⟩ := hrel
          obtain ⟨x0, x1, xf⟩ : wr.cell? ⟨wo.heap.size, 0, none⟩ = some (.int .i64 8) ∧ wr.cell? ⟨wo.heap.size, 1, none⟩ = some (.int .u64 V) ∧ True := ⟨HGX.out.cell 0, HGX.out.cell 1, trivial⟩
          have hgl := HGX.out.lt
          by_cases hlt2 : i < 8
          · have hby := byteN_int 8 V i
            have hsn2 : packL (l.take k) ++ (List.range (i + 1)).map (byteN (8, V)) = (packL (l.take k) ++ (List.range i).map (byteN (8, V))) ++ [byteN (8, V) i] := by
              rw [List.range_succ, List.map_append, List.append_assoc]; rfl
            have hll : (packL (l.take k) ++ (List.range i).map (byteN (8, V))).length ≤ 8 * k + 8 := by
              rw [List.length_append, List.length_map, List.length_range]; omega
            obtain ⟨L, hL⟩ : ∃ L, packL (l.take k) ++ (List.range i).map (byteN (8, V)) = L := ⟨_, rfl⟩
            rw [hL] at hsn2 hown2 hll
            obtain ⟨p, hp⟩ : ∃ p, L.length = p := ⟨_, rfl⟩
            rw [hp] at hown2 hll
            have HP := Lib.hid hp
            have HSN2 := Lib.hid hsn2
            have HBY := Lib.hid hby
            clear hsn2 hby hp hL
            go_wp2_with (at_builtin; refine wpList_append_own_at _ rfl (.tmp 35) (.tmp 46) 42 rfl w.heap.size 5 i0 _ 1 1 Try.underlying42 hi hz0 hz1 hz2 rfl (by decide) _ _ _ rfl (hown2.alloc _) ⟨wr.heap.size, 0, none⟩ 1 1 [.int .u8 ((V : Int) / 2 ^ (8 * (8 - 1 - i)) % 256)] (by rfl) (by rfl) (fun j u hj => new_cells wr _ _ _ rfl j u hj) (one_cell rfl) (by unfold maxLen; omega) (by omega) (base_alloc hbi.size _) ?_)
            intro v' w' hown' hgrow _ hat
            have hb' : Below w.heap.size w w' := (hbi.alloc hbi.size _).grown hgrow (base_alloc hbi.size _) (fun k hk => (hown2.lt k hk).1)
            have HO : Hid (w'.ownsRow w.heap.size 5 1 v' (packL (l.take k) ++ (List.range (i + 1)).map (byteN (8, V))).length (octV (packL (l.take k) ++ (List.range (i + 1)).map (byteN (8, V))))) := Lib.hid (by
              rw [HSN2.out, octV_snoc, HBY.out, List.length_append, HP.out]
              exact hown')
            have HGX' := Lib.hid ((HGX.out.alloc (.cells #[.int .u8 ((V : Int) / 2 ^ (8 * (8 - 1 - i)) % 256)] 5)).grown hgrow HOB.out)
            have HOB' : Hid (v'.ownBlock ≠ some wo.heap.size) := Lib.hid (by
              rcases hat with h | h
              · rw [h]; exact HOB.out
              · rw [h]; intro e; injection e with e; (try simp at e); omega)
            clear hown' hown2 hgrow hat
            go_wp2
            go_roundw
            case rel => exact ⟨i + 1, by omega, by go_num, HO.out, HGX', HOB', hb'⟩
            case measure => simp [intOf]; omega
          · obtain rfl : i = 8 := by omega
            have hown3 : wr.ownsRow w.heap.size 5 1 u4 (packL (l.take (k + 1))).length (octV (packL (l.take (k + 1)))) := by rw [HSN.out]; exact hown2
            have hlen3 : (packL (l.take (k + 1))).length ≤ 8 * (k + 1) := by rw [HSN.out, List.length_append, octN_len]; show _ + 8 ≤ _; omega
            have HO := Lib.hid hown3
            clear hown2 hown3 hlen
            go_wp2
            go_roundw
            case rel => exact ⟨k + 1, by omega, by go_num, HO.out, hlen3, hbi⟩
            case measure => simp [intOf]; omega
    · obtain rfl : k = n := by omega
      rw [List.take_of_length_le (by rw [HL.out]; exact Nat.le_refl _)] at hown
      have HO := Lib.hid hown
      clear hown hlen
      go_wp2
      go_ret2
      exact ⟨⟨_, rfl, HO.out⟩, hbw⟩
end Go.Proofs.Ytpjghildhhpeeaa

/-
  Walk: the law on the order of paths, and on how many nodes.
-/
import Derived.Test.YtmladfkafbjmoaaReachS
namespace Go.Proofs.Ytmladfkafbjmoaa
open Go.RowKit

def lexZ : List Int → List Int → Bool
  | [], _ => false
  | _ :: _, [] => false
  | x :: s, y :: t => if x = y then lexZ s t else decide (x < y)
theorem lex_step {xs ys : List Int} {k : Nat} {x y : Int} (hx : xs[k]? = some x) (hy : ys[k]? = some y) :
    lexZ (xs.drop k) (ys.drop k) = if x = y then lexZ (xs.drop (k + 1)) (ys.drop (k + 1)) else decide (x < y) := by
  have e1 := List.drop_eq_getElem_cons (get_lt hx)
  have e2 := List.drop_eq_getElem_cons (get_lt hy)
  have g1 : xs[k]'(get_lt hx) = x := by rw [List.getElem?_eq_getElem (get_lt hx)] at hx; exact Option.some.inj hx
  have g2 : ys[k]'(get_lt hy) = y := by rw [List.getElem?_eq_getElem (get_lt hy)] at hy; exact Option.some.inj hy
  rw [e1, e2, g1, g2, lexZ]
theorem lex_end1 {xs ys : List Int} {k : Nat} (h : xs.length ≤ k) : lexZ (xs.drop k) (ys.drop k) = false := by
  rw [List.drop_eq_nil_of_le h, lexZ]
theorem lex_end2 {xs ys : List Int} {k : Nat} (h : ys.length ≤ k) : lexZ (xs.drop k) (ys.drop k) = false := by
  rw [List.drop_eq_nil_of_le h]
  cases xs.drop k <;> rfl
theorem lex_path (a b : Nat) : lexZ (toZ (pathN a)) (toZ (pathN b)) = decide (a < b) := by
  have key : (lexZ (toZ (pathN a)) (toZ (pathN b)) = true) ↔ a < b := by
    by_cases a1 : a < 6
    · rw [path1 a a1]
      by_cases b1 : b < 6
      · rw [path1 b b1]; simp [toZ, lexZ]; first | omega | (repeat' split) <;> (try simp) <;> omega
      by_cases b2 : b < 21
      · rw [path2 b (by omega)]; simp [toZ, lexZ]; first | omega | (repeat' split) <;> (try simp) <;> omega
      by_cases b3 : b < 246
      · rw [path3 b (by omega)]; simp [toZ, lexZ]; first | omega | (repeat' split) <;> (try simp) <;> omega
      · rw [path4 b (by omega)]; simp [toZ, lexZ]; first | omega | (repeat' split) <;> (try simp) <;> omega
    by_cases a2 : a < 21
    · rw [path2 a (by omega)]
      by_cases b1 : b < 6
      · rw [path1 b b1]; simp [toZ, lexZ]; first | omega | (repeat' split) <;> (try simp) <;> omega
      by_cases b2 : b < 21
      · rw [path2 b (by omega)]; simp [toZ, lexZ]; first | omega | (repeat' split) <;> (try simp) <;> omega
      by_cases b3 : b < 246
      · rw [path3 b (by omega)]; simp [toZ, lexZ]; first | omega | (repeat' split) <;> (try simp) <;> omega
      · rw [path4 b (by omega)]; simp [toZ, lexZ]; first | omega | (repeat' split) <;> (try simp) <;> omega
    by_cases a3 : a < 246
    · rw [path3 a (by omega)]
      by_cases b1 : b < 6
      · rw [path1 b b1]; simp [toZ, lexZ]; first | omega | (repeat' split) <;> (try simp) <;> omega
      by_cases b2 : b < 21
      · rw [path2 b (by omega)]; simp [toZ, lexZ]; first | omega | (repeat' split) <;> (try simp) <;> omega
      by_cases b3 : b < 246
      · rw [path3 b (by omega)]; simp [toZ, lexZ]; first | omega | (repeat' split) <;> (try simp) <;> omega
      · rw [path4 b (by omega)]; simp [toZ, lexZ]; first | omega | (repeat' split) <;> (try simp) <;> omega
    · rw [path4 a (by omega)]
      by_cases b1 : b < 6
      · rw [path1 b b1]; simp [toZ, lexZ]; first | omega | (repeat' split) <;> (try simp) <;> omega
      by_cases b2 : b < 21
      · rw [path2 b (by omega)]; simp [toZ, lexZ]; first | omega | (repeat' split) <;> (try simp) <;> omega
      by_cases b3 : b < 246
      · rw [path3 b (by omega)]; simp [toZ, lexZ]; first | omega | (repeat' split) <;> (try simp) <;> omega
      · rw [path4 b (by omega)]; simp [toZ, lexZ]; first | omega | (repeat' split) <;> (try simp) <;> omega
  by_cases h : a < b
  · rw [decide_eq_true h]; exact key.2 h
  · rw [decide_eq_false h, ← Bool.not_eq_true]; exact fun h2 => h (key.1 h2)

theorem onZ_toZ (l : List Nat) : onZ (toZ l) = onL l := by
  unfold onZ onL toZ
  rw [List.flatMap_map]
  rfl
theorem toZ_range (k : Nat) : toZ (List.range (k + 1)) = toZ (List.range k) ++ [(k : Int)] := by
  unfold toZ; rw [List.range_succ, List.map_append]; rfl
theorem toZ_range_len (k : Nat) : (toZ (List.range k)).length = k := by simp [toZ]
theorem toZ_range_ok (k : Nat) (hk : k ≤ 256) : ∀ x ∈ toZ (List.range k), okB x := by
  intro x hx
  unfold toZ at hx
  obtain ⟨y, hy, rfl⟩ := List.mem_map.1 hx
  have := List.mem_range.1 hy
  exact ⟨Int.natCast_nonneg y, by show (y : Int) ≤ 3620; omega⟩

set_option maxHeartbeats 4000000 in
set_option maxRecDepth 100000 in
theorem order_lt (n1 n2 : Int) (M : Nat) (w : World) (h0 : 0 ≤ n1) (g0 : n1 ≤ 65535) (h1 : 0 ≤ n2) (g1 : n2 ≤ 65535) (hM : M ≤ 255) (a b : Nat) (ha : n1 % 3621 = (a : Int)) (hb : n2 % 3621 = (b : Int)) (ha3 : a < 3621) (hb3 : b < 3621) (hab : (a : Int) < (b : Int)) :
    Calls Try.prog 7 #[.int .u16 n1, .int .u16 n2, .int .u8 M] w fun e w' => e = .returned (.bool true) ∧ Below w.heap.size w w' := by
  obtain ⟨i0, hi, hz0, hz1, hz2⟩ := info_parts Try.info3
  have hla := path_len a
  have hlb := path_len b
  have hta := toZ_len (pathN a)
  have htb := toZ_len (pathN b)
  have HPA := Lib.hid (fun w => Path_rd a w ha3)
  have HPB := Lib.hid (fun w => Path_rd b w hb3)
  have hab3 : decide (a < b) = true := decide_eq_true (by omega)
  have hlex := lex_path a b
  rw [decide_eq_true (show a < b by omega)] at hlex
  obtain ⟨xs, hxs⟩ : ∃ xs, toZ (pathN a) = xs := ⟨_, rfl⟩
  obtain ⟨ys, hys⟩ : ∃ ys, toZ (pathN b) = ys := ⟨_, rfl⟩
  rw [hxs] at hta HPA hlex
  rw [hys] at htb HPB hlex
  rw [← hta] at hla
  rw [← htb] at hlb
  obtain ⟨m, hm⟩ : ∃ m, xs.length = m := ⟨_, rfl⟩
  obtain ⟨n, hn⟩ : ∃ n, ys.length = n := ⟨_, rfl⟩
  rw [hm] at hla HPA
  rw [hn] at hlb HPB
  have HMX := Lib.hid hm
  have HNY := Lib.hid hn
  have HLEX := Lib.hid hlex
  clear hlex hxs hys hta htb hm hn
  go_enter Try.func7, Try.ntmps7
  go_wp2_with fail
  refine (HPA.out w).mono ?_
  rintro e w1 ⟨⟨A1, c1, rfl, hc1, r1⟩, b1⟩
  have R1 := Lib.hid r1
  clear r1
  go_wp2_with fail
  refine (HPB.out w1).mono ?_
  rintro e w2 ⟨⟨A2, c2, rfl, hc2, r2⟩, e2⟩
  have R2 := Lib.hid r2
  have P2 := Lib.hid ((R1.out.below e2).more e2.size)
  have b2 := b1.trans (e2.mono b1.size)
  clear r2
  go_wp2
  go_loopw [13, 14] (fun l i wr => l = .bool false ∧ ∃ k : Nat, k ≤ 4 ∧ i = .int .i64 k ∧ Hid (lexZ (xs.drop k) (ys.drop k) = true) ∧ Below w2.heap.size w2 wr) (fun _ i _ => 4 - (intOf i).toNat)
  case atStart => exact ⟨rfl, 0, Nat.zero_le _, rfl, Lib.hid (by simpa using HLEX.out), Below.refl _ _⟩
  case round =>
    obtain ⟨rfl, k, hk4, rfl, HK, hbr⟩ := hrel
    have HBW := Lib.hid (b2.trans (hbr.mono b2.size))
    by_cases hkm : k < m
    · by_cases hkn : k < n
      · obtain ⟨g3, o3, x, rfl, hg3, hx, hcx⟩ := int_at ((P2.out.below hbr).more hbr.size) hkm
        obtain ⟨g4, o4, y, rfl, hg4, hy, hcy⟩ := int_at ((R2.out.below hbr).more hbr.size) hkn
        have hst := lex_step hx hy
        rw [HK.out] at hst
        by_cases hxy : x = y
        · subst hxy
          rw [if_pos rfl] at hst
          have HK2 := Lib.hid hst.symm
          clear hst hx hy
          go_wp2
          go_quiet (fail)
          go_wp2
          go_roundw
          case rel => exact ⟨rfl, k + 1, by omega, by go_num, HK2, below_drewN hbr _⟩
          case measure => simp [intOf]; omega
        · rw [if_neg hxy] at hst
          have hxl : x < y := of_decide_eq_true hst.symm
          have hxd : decide (x < y) = true := decide_eq_true hxl
          have hxb : (x != y) = true := bne_iff_ne.2 hxy
          clear hst hx hy
          go_wp2
          go_quiet (fail)
          go_wp2
          go_quiet (fail)
          go_wp2
          go_loopw [15, 16] (fun v i w4 => ∃ q : Nat, q ≤ M ∧ i = .int .i64 q ∧ w4.ownsRow w.heap.size 3 1 v q (intsV (toZ (List.range q))) ∧ Below w.heap.size w w4) (fun _ i _ => M - (intOf i).toNat)
          case atStart => first | exact ⟨0, Nat.zero_le _, rfl, ⟨rfl, .inl ⟨rfl, rfl⟩⟩, HBW.out⟩ | exact ⟨0, Nat.zero_le _, rfl, ⟨rfl, .inl ⟨rfl, rfl⟩⟩, below_drewN HBW.out _⟩ | exact ⟨0, Nat.zero_le _, rfl, ⟨rfl, .inl ⟨rfl, rfl⟩⟩, below_drewN (below_drewN HBW.out _) _⟩
          case round =>
            obtain ⟨q, hqM, rfl, hown, hb4⟩ := hrel
            by_cases hqlt : q < M
            · have HTR := Lib.hid (toZ_range q)
              obtain ⟨T, hT⟩ : ∃ T, toZ (List.range q) = T := ⟨_, rfl⟩
              rw [hT] at hown HTR
              clear hT
              rename_i w4 _
              go_wp2_with (at_builtin; refine wpList_append_own _ rfl (.tmp 77) (.tmp 79) 25 rfl w.heap.size 3 i0 _ 1 8 Try.underlying25 hi hz0 hz1 hz2 rfl (by decide) _ _ _ rfl (hown.alloc _) ⟨_, 0, none⟩ 1 1 [.int .i64 q] (by rfl) (by rfl) (fun j u hj => new_cells _ _ _ _ rfl j u hj) (one_cell rfl) (by unfold maxLen; omega) (by omega) (base_alloc hb4.size _) ?_)
              intro v' w5 hown' hgrow _
              have hb5 : Below w.heap.size w w5 := (hb4.alloc hb4.size _).grown hgrow (base_alloc hb4.size _) (fun k hk => (hown.lt k hk).1)
              have HO : Hid (w5.ownsRow w.heap.size 3 1 v' (q + 1) (intsV (toZ (List.range (q + 1))))) := Lib.hid (by
                rw [HTR.out, intsV_snoc]; exact hown')
              clear hown' hown hgrow
              go_wp2
              go_roundw
              case rel => exact ⟨q + 1, by omega, by go_num, HO.out, hb5⟩
              case measure => simp [intOf]; omega
            · obtain rfl : q = M := by omega
              obtain ⟨A5, c5, rfl, hc5, _, hr5⟩ := own_form hown
              have HR5 := Lib.hid hr5
              clear hown hr5
              go_wp2_with fail
              refine (Nodes_ok A5 q c5 (toZ (List.range q)) _ HR5.out (by omega) (toZ_range_ok q (by omega))).mono ?_
              rintro e w6 ⟨⟨v6, rfl, ho6⟩, h6⟩
              have b6 := hb4.trans (h6.mono hb4.size)
              rw [onZ_toZ] at ho6
              obtain ⟨A6, c6, rfl, hc6, hr6⟩ := own_rd ho6
              rw [lean_count q (by omega)] at hr6 hc6 ⊢
              obtain ⟨C, hC⟩ : ∃ C, countN q = C := ⟨_, rfl⟩
              rw [hC]
              have HC := Lib.hid hC
              clear hr6 hc6 ho6 hC
              go_wp2_with fail
              refine (Count_any (q : Int) w6 (by omega)).mono ?_
              rintro e w7 ⟨rfl, h7⟩
              rw [show (min (q : Int) 3621).toNat = q from by omega, HC.out]
              have b7 := b6.trans (h7.mono b6.size)
              go_wp2_with fail
              refine (awake_any w7).mono ?_
              rintro e w8 ⟨rfl, h8⟩
              have b8 := b7.trans (h8.mono b7.size)
              go_wp2
              go_ret
              exact ⟨rfl, b8⟩
      · exact absurd (HK.out.symm.trans (lex_end2 (by rw [HNY.out]; omega))) (by simp)
    · exact absurd (HK.out.symm.trans (lex_end1 (by rw [HMX.out]; omega))) (by simp)

set_option maxHeartbeats 4000000 in
set_option maxRecDepth 100000 in
theorem order_ge (n1 n2 : Int) (M : Nat) (w : World) (h0 : 0 ≤ n1) (g0 : n1 ≤ 65535) (h1 : 0 ≤ n2) (g1 : n2 ≤ 65535) (hM : M ≤ 255) (a b : Nat) (ha : n1 % 3621 = (a : Int)) (hb : n2 % 3621 = (b : Int)) (ha3 : a < 3621) (hb3 : b < 3621) (hab : ¬ (a : Int) < (b : Int)) :
    Calls Try.prog 7 #[.int .u16 n1, .int .u16 n2, .int .u8 M] w fun e w' => e = .returned (.bool true) ∧ Below w.heap.size w w' := by
  obtain ⟨i0, hi, hz0, hz1, hz2⟩ := info_parts Try.info3
  have hla := path_len a
  have hlb := path_len b
  have hta := toZ_len (pathN a)
  have htb := toZ_len (pathN b)
  have HPA := Lib.hid (fun w => Path_rd a w ha3)
  have HPB := Lib.hid (fun w => Path_rd b w hb3)
  have hab3 : decide (a < b) = false := decide_eq_false (by omega)
  have hlex := lex_path a b
  rw [decide_eq_false (show ¬ a < b by omega)] at hlex
  obtain ⟨xs, hxs⟩ : ∃ xs, toZ (pathN a) = xs := ⟨_, rfl⟩
  obtain ⟨ys, hys⟩ : ∃ ys, toZ (pathN b) = ys := ⟨_, rfl⟩
  rw [hxs] at hta HPA hlex
  rw [hys] at htb HPB hlex
  rw [← hta] at hla
  rw [← htb] at hlb
  obtain ⟨m, hm⟩ : ∃ m, xs.length = m := ⟨_, rfl⟩
  obtain ⟨n, hn⟩ : ∃ n, ys.length = n := ⟨_, rfl⟩
  rw [hm] at hla HPA
  rw [hn] at hlb HPB
  have HMX := Lib.hid hm
  have HNY := Lib.hid hn
  have HLEX := Lib.hid hlex
  clear hlex hxs hys hta htb hm hn
  go_enter Try.func7, Try.ntmps7
  go_wp2_with fail
  refine (HPA.out w).mono ?_
  rintro e w1 ⟨⟨A1, c1, rfl, hc1, r1⟩, b1⟩
  have R1 := Lib.hid r1
  clear r1
  go_wp2_with fail
  refine (HPB.out w1).mono ?_
  rintro e w2 ⟨⟨A2, c2, rfl, hc2, r2⟩, e2⟩
  have R2 := Lib.hid r2
  have P2 := Lib.hid ((R1.out.below e2).more e2.size)
  have b2 := b1.trans (e2.mono b1.size)
  clear r2
  go_wp2
  go_loopw [13, 14] (fun l i wr => l = .bool false ∧ ∃ k : Nat, k ≤ 4 ∧ i = .int .i64 k ∧ Hid (lexZ (xs.drop k) (ys.drop k) = false) ∧ Below w2.heap.size w2 wr) (fun _ i _ => 4 - (intOf i).toNat)
  case atStart => exact ⟨rfl, 0, Nat.zero_le _, rfl, Lib.hid (by simpa using HLEX.out), Below.refl _ _⟩
  case round =>
    obtain ⟨rfl, k, hk4, rfl, HK, hbr⟩ := hrel
    have HBW := Lib.hid (b2.trans (hbr.mono b2.size))
    by_cases hkm : k < m
    · by_cases hkn : k < n
      · obtain ⟨g3, o3, x, rfl, hg3, hx, hcx⟩ := int_at ((P2.out.below hbr).more hbr.size) hkm
        obtain ⟨g4, o4, y, rfl, hg4, hy, hcy⟩ := int_at ((R2.out.below hbr).more hbr.size) hkn
        have hst := lex_step hx hy
        rw [HK.out] at hst
        by_cases hxy : x = y
        · subst hxy
          rw [if_pos rfl] at hst
          have HK2 := Lib.hid hst.symm
          clear hst hx hy
          go_wp2
          go_quiet (fail)
          go_wp2
          go_roundw
          case rel => exact ⟨rfl, k + 1, by omega, by go_num, HK2, below_drewN hbr _⟩
          case measure => simp [intOf]; omega
        · rw [if_neg hxy] at hst
          have hxl : ¬ x < y := of_decide_eq_false hst.symm
          have hxd : decide (x < y) = false := decide_eq_false hxl
          have hxb : (x != y) = true := bne_iff_ne.2 hxy
          clear hst hx hy
          go_wp2
          go_quiet (fail)
          go_wp2
          go_quiet (fail)
          go_wp2
          go_loopw [15, 16] (fun v i w4 => ∃ q : Nat, q ≤ M ∧ i = .int .i64 q ∧ w4.ownsRow w.heap.size 3 1 v q (intsV (toZ (List.range q))) ∧ Below w.heap.size w w4) (fun _ i _ => M - (intOf i).toNat)
          case atStart => first | exact ⟨0, Nat.zero_le _, rfl, ⟨rfl, .inl ⟨rfl, rfl⟩⟩, HBW.out⟩ | exact ⟨0, Nat.zero_le _, rfl, ⟨rfl, .inl ⟨rfl, rfl⟩⟩, below_drewN HBW.out _⟩ | exact ⟨0, Nat.zero_le _, rfl, ⟨rfl, .inl ⟨rfl, rfl⟩⟩, below_drewN (below_drewN HBW.out _) _⟩
          case round =>
            obtain ⟨q, hqM, rfl, hown, hb4⟩ := hrel
            by_cases hqlt : q < M
            · have HTR := Lib.hid (toZ_range q)
              obtain ⟨T, hT⟩ : ∃ T, toZ (List.range q) = T := ⟨_, rfl⟩
              rw [hT] at hown HTR
              clear hT
              rename_i w4 _
              go_wp2_with (at_builtin; refine wpList_append_own _ rfl (.tmp 77) (.tmp 79) 25 rfl w.heap.size 3 i0 _ 1 8 Try.underlying25 hi hz0 hz1 hz2 rfl (by decide) _ _ _ rfl (hown.alloc _) ⟨_, 0, none⟩ 1 1 [.int .i64 q] (by rfl) (by rfl) (fun j u hj => new_cells _ _ _ _ rfl j u hj) (one_cell rfl) (by unfold maxLen; omega) (by omega) (base_alloc hb4.size _) ?_)
              intro v' w5 hown' hgrow _
              have hb5 : Below w.heap.size w w5 := (hb4.alloc hb4.size _).grown hgrow (base_alloc hb4.size _) (fun k hk => (hown.lt k hk).1)
              have HO : Hid (w5.ownsRow w.heap.size 3 1 v' (q + 1) (intsV (toZ (List.range (q + 1))))) := Lib.hid (by
                rw [HTR.out, intsV_snoc]; exact hown')
              clear hown' hown hgrow
              go_wp2
              go_roundw
              case rel => exact ⟨q + 1, by omega, by go_num, HO.out, hb5⟩
              case measure => simp [intOf]; omega
            · obtain rfl : q = M := by omega
              obtain ⟨A5, c5, rfl, hc5, _, hr5⟩ := own_form hown
              have HR5 := Lib.hid hr5
              clear hown hr5
              go_wp2_with fail
              refine (Nodes_ok A5 q c5 (toZ (List.range q)) _ HR5.out (by omega) (toZ_range_ok q (by omega))).mono ?_
              rintro e w6 ⟨⟨v6, rfl, ho6⟩, h6⟩
              have b6 := hb4.trans (h6.mono hb4.size)
              rw [onZ_toZ] at ho6
              obtain ⟨A6, c6, rfl, hc6, hr6⟩ := own_rd ho6
              rw [lean_count q (by omega)] at hr6 hc6 ⊢
              obtain ⟨C, hC⟩ : ∃ C, countN q = C := ⟨_, rfl⟩
              rw [hC]
              have HC := Lib.hid hC
              clear hr6 hc6 ho6 hC
              go_wp2_with fail
              refine (Count_any (q : Int) w6 (by omega)).mono ?_
              rintro e w7 ⟨rfl, h7⟩
              rw [show (min (q : Int) 3621).toNat = q from by omega, HC.out]
              have b7 := b6.trans (h7.mono b6.size)
              go_wp2_with fail
              refine (awake_any w7).mono ?_
              rintro e w8 ⟨rfl, h8⟩
              have b8 := b7.trans (h8.mono b7.size)
              go_wp2
              go_ret
              exact ⟨rfl, b8⟩
      · skip
        go_wp2
        go_loopw [15, 16] (fun v i w4 => ∃ q : Nat, q ≤ M ∧ i = .int .i64 q ∧ w4.ownsRow w.heap.size 3 1 v q (intsV (toZ (List.range q))) ∧ Below w.heap.size w w4) (fun _ i _ => M - (intOf i).toNat)
        case atStart => first | exact ⟨0, Nat.zero_le _, rfl, ⟨rfl, .inl ⟨rfl, rfl⟩⟩, HBW.out⟩ | exact ⟨0, Nat.zero_le _, rfl, ⟨rfl, .inl ⟨rfl, rfl⟩⟩, below_drewN HBW.out _⟩ | exact ⟨0, Nat.zero_le _, rfl, ⟨rfl, .inl ⟨rfl, rfl⟩⟩, below_drewN (below_drewN HBW.out _) _⟩
        case round =>
          obtain ⟨q, hqM, rfl, hown, hb4⟩ := hrel
          by_cases hqlt : q < M
          · have HTR := Lib.hid (toZ_range q)
            obtain ⟨T, hT⟩ : ∃ T, toZ (List.range q) = T := ⟨_, rfl⟩
            rw [hT] at hown HTR
            clear hT
            rename_i w4 _
            go_wp2_with (at_builtin; refine wpList_append_own _ rfl (.tmp 77) (.tmp 79) 25 rfl w.heap.size 3 i0 _ 1 8 Try.underlying25 hi hz0 hz1 hz2 rfl (by decide) _ _ _ rfl (hown.alloc _) ⟨_, 0, none⟩ 1 1 [.int .i64 q] (by rfl) (by rfl) (fun j u hj => new_cells _ _ _ _ rfl j u hj) (one_cell rfl) (by unfold maxLen; omega) (by omega) (base_alloc hb4.size _) ?_)
            intro v' w5 hown' hgrow _
            have hb5 : Below w.heap.size w w5 := (hb4.alloc hb4.size _).grown hgrow (base_alloc hb4.size _) (fun k hk => (hown.lt k hk).1)
            have HO : Hid (w5.ownsRow w.heap.size 3 1 v' (q + 1) (intsV (toZ (List.range (q + 1))))) := Lib.hid (by
              rw [HTR.out, intsV_snoc]; exact hown')
            clear hown' hown hgrow
            go_wp2
            go_roundw
            case rel => exact ⟨q + 1, by omega, by go_num, HO.out, hb5⟩
            case measure => simp [intOf]; omega
          · obtain rfl : q = M := by omega
            obtain ⟨A5, c5, rfl, hc5, _, hr5⟩ := own_form hown
            have HR5 := Lib.hid hr5
            clear hown hr5
            go_wp2_with fail
            refine (Nodes_ok A5 q c5 (toZ (List.range q)) _ HR5.out (by omega) (toZ_range_ok q (by omega))).mono ?_
            rintro e w6 ⟨⟨v6, rfl, ho6⟩, h6⟩
            have b6 := hb4.trans (h6.mono hb4.size)
            rw [onZ_toZ] at ho6
            obtain ⟨A6, c6, rfl, hc6, hr6⟩ := own_rd ho6
            rw [lean_count q (by omega)] at hr6 hc6 ⊢
            obtain ⟨C, hC⟩ : ∃ C, countN q = C := ⟨_, rfl⟩
            rw [hC]
            have HC := Lib.hid hC
            clear hr6 hc6 ho6 hC
            go_wp2_with fail
            refine (Count_any (q : Int) w6 (by omega)).mono ?_
            rintro e w7 ⟨rfl, h7⟩
            rw [show (min (q : Int) 3621).toNat = q from by omega, HC.out]
            have b7 := b6.trans (h7.mono b6.size)
            go_wp2_with fail
            refine (awake_any w7).mono ?_
            rintro e w8 ⟨rfl, h8⟩
            have b8 := b7.trans (h8.mono b7.size)
            go_wp2
            go_ret
            exact ⟨rfl, b8⟩
    · skip
      go_wp2
      go_loopw [15, 16] (fun v i w4 => ∃ q : Nat, q ≤ M ∧ i = .int .i64 q ∧ w4.ownsRow w.heap.size 3 1 v q (intsV (toZ (List.range q))) ∧ Below w.heap.size w w4) (fun _ i _ => M - (intOf i).toNat)
      case atStart => first | exact ⟨0, Nat.zero_le _, rfl, ⟨rfl, .inl ⟨rfl, rfl⟩⟩, HBW.out⟩ | exact ⟨0, Nat.zero_le _, rfl, ⟨rfl, .inl ⟨rfl, rfl⟩⟩, below_drewN HBW.out _⟩ | exact ⟨0, Nat.zero_le _, rfl, ⟨rfl, .inl ⟨rfl, rfl⟩⟩, below_drewN (below_drewN HBW.out _) _⟩
      case round =>
        obtain ⟨q, hqM, rfl, hown, hb4⟩ := hrel
        by_cases hqlt : q < M
        · have HTR := Lib.hid (toZ_range q)
          obtain ⟨T, hT⟩ : ∃ T, toZ (List.range q) = T := ⟨_, rfl⟩
          rw [hT] at hown HTR
          clear hT
          rename_i w4 _
          go_wp2_with (at_builtin; refine wpList_append_own _ rfl (.tmp 77) (.tmp 79) 25 rfl w.heap.size 3 i0 _ 1 8 Try.underlying25 hi hz0 hz1 hz2 rfl (by decide) _ _ _ rfl (hown.alloc _) ⟨_, 0, none⟩ 1 1 [.int .i64 q] (by rfl) (by rfl) (fun j u hj => new_cells _ _ _ _ rfl j u hj) (one_cell rfl) (by unfold maxLen; omega) (by omega) (base_alloc hb4.size _) ?_)
          intro v' w5 hown' hgrow _
          have hb5 : Below w.heap.size w w5 := (hb4.alloc hb4.size _).grown hgrow (base_alloc hb4.size _) (fun k hk => (hown.lt k hk).1)
          have HO : Hid (w5.ownsRow w.heap.size 3 1 v' (q + 1) (intsV (toZ (List.range (q + 1))))) := Lib.hid (by
            rw [HTR.out, intsV_snoc]; exact hown')
          clear hown' hown hgrow
          go_wp2
          go_roundw
          case rel => exact ⟨q + 1, by omega, by go_num, HO.out, hb5⟩
          case measure => simp [intOf]; omega
        · obtain rfl : q = M := by omega
          obtain ⟨A5, c5, rfl, hc5, _, hr5⟩ := own_form hown
          have HR5 := Lib.hid hr5
          clear hown hr5
          go_wp2_with fail
          refine (Nodes_ok A5 q c5 (toZ (List.range q)) _ HR5.out (by omega) (toZ_range_ok q (by omega))).mono ?_
          rintro e w6 ⟨⟨v6, rfl, ho6⟩, h6⟩
          have b6 := hb4.trans (h6.mono hb4.size)
          rw [onZ_toZ] at ho6
          obtain ⟨A6, c6, rfl, hc6, hr6⟩ := own_rd ho6
          rw [lean_count q (by omega)] at hr6 hc6 ⊢
          obtain ⟨C, hC⟩ : ∃ C, countN q = C := ⟨_, rfl⟩
          rw [hC]
          have HC := Lib.hid hC
          clear hr6 hc6 ho6 hC
          go_wp2_with fail
          refine (Count_any (q : Int) w6 (by omega)).mono ?_
          rintro e w7 ⟨rfl, h7⟩
          rw [show (min (q : Int) 3621).toNat = q from by omega, HC.out]
          have b7 := b6.trans (h7.mono b6.size)
          go_wp2_with fail
          refine (awake_any w7).mono ?_
          rintro e w8 ⟨rfl, h8⟩
          have b8 := b7.trans (h8.mono b7.size)
          go_wp2
          go_ret
          exact ⟨rfl, b8⟩

theorem order_law (n1 n2 n3 : Int) (w : World) (h0 : 0 ≤ n1) (g0 : n1 ≤ 65535) (h1 : 0 ≤ n2) (g1 : n2 ≤ 65535) (h2 : 0 ≤ n3) (g2 : n3 ≤ 255) :
    Calls Try.prog 7 #[.int .u16 n1, .int .u16 n2, .int .u8 n3] w fun e w' => e = .returned (.bool true) ∧ Below w.heap.size w w' := by
  obtain ⟨a, ha⟩ := Int.eq_ofNat_of_zero_le (show 0 ≤ n1 % 3621 by omega)
  obtain ⟨b, hb⟩ := Int.eq_ofNat_of_zero_le (show 0 ≤ n2 % 3621 by omega)
  obtain ⟨M, rfl⟩ := Int.eq_ofNat_of_zero_le h2
  by_cases h : a < b
  · exact order_lt n1 n2 M w h0 g0 h1 g1 (by omega) a b ha hb (by omega) (by omega) (by omega)
  · exact order_ge n1 n2 M w h0 g0 h1 g1 (by omega) a b ha hb (by omega) (by omega) (by omega)
end Go.Proofs.Ytmladfkafbjmoaa

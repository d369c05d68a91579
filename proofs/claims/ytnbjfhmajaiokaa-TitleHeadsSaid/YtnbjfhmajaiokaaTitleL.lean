/-
  Walks: the program's heads and cuts.
-/
import Derived.Test.YtnbjfhmajaiokaaTitleK
namespace Go.Proofs.Ytnbjfhmajaiokaa
open Go.RowKit

theorem enters_head1 : ∀ args w, (callFunc 34 args).run Try.prog w = .ok (.enter 34 args) w := enters_of Try.func34 (by kernel_rfl) rfl
theorem enters_cut1 : ∀ args w, (callFunc 39 args).run Try.prog w = .ok (.enter 39 args) w := enters_of Try.func39 (by kernel_rfl) rfl

set_option maxHeartbeats 400000 in
theorem head1_any (c : Int) (own : ByteArray) (odd : Bool) (a b : Nat) (x y : Int) (w : World) (hab : a ≠ b)
    (ha : w.cell? ⟨a, 0, none⟩ = some (.int .i64 x)) (hb : w.cell? ⟨b, 0, none⟩ = some (.int .i64 y)) (fa : w.frozen? ⟨a, 0, none⟩ = false) (fb : w.frozen? ⟨b, 0, none⟩ = false)
    (hx : x ≤ 9223372036854775807) (hy : 0 ≤ y ∧ y ≤ 1000000) (ho : own.size ≤ 1000000) :
    Calls Try.prog 34 #[.int .i32 c, .string own, .bool odd, .pointer (some ⟨a, 0, none⟩), .pointer (some ⟨b, 0, none⟩)] w fun e w' =>
      e = .returned (.bool (decide (1 ≤ x))) ∧ w' = if 1 ≤ x then (w.setCell ⟨a, 0, none⟩ (.int .i64 (x - 1))).setCell ⟨b, 0, none⟩ (.int .i64 (y + own.size)) else w := by
  by_cases h : 1 ≤ x
  · have h' : ¬ x < 1 := by omega
    have c2 : (w.setCell ⟨a, 0, none⟩ (.int .i64 (x - 1))).cell? ⟨b, 0, none⟩ = some (.int .i64 y) := by
      rw [World.cell?_setCell_other _ _ _ _ (by intro e; injection e with e1 _ _; omega)]; exact hb
    have f2 : (w.setCell ⟨a, 0, none⟩ (.int .i64 (x - 1))).frozen? ⟨b, 0, none⟩ = false := by
      rw [World.frozen?_of_block (Below.heap_setCell _ _ _ _ (by dsimp only; omega))]; exact fb
    rw [decide_eq_true h, if_pos h]
    go_enter Try.func34, Try.ntmps34
    go_wp2
    go_ret
    exact ⟨rfl, rfl⟩
  · have h' : x < 1 := by omega
    rw [decide_eq_false h, if_neg h]
    go_enter Try.func34, Try.ntmps34
    go_wp2
    go_ret
    exact ⟨rfl, rfl⟩

theorem octs_take_snoc (l : List UInt8) (m : Nat) (r : Rn) (h : (runes l)[m]? = some r) : (octs ((runes l).take (m + 1))).length = (octs ((runes l).take m)).length + r.o.length ∧ (octs ((runes l).take (m + 1))).length ≤ l.length :=
  ⟨by rw [take_snoc _ _ _ h, octs_snoc, List.length_append], octs_len l (m + 1)⟩

set_option maxHeartbeats 1000000 in
theorem Head_any (s : ByteArray) (n : Int) (w : World) (hs : s.size ≤ 1000000) (hn : n ≤ 9223372036854775807) :
    Calls Try.prog 21 #[.string s, .int .i64 n] w fun e w' => e = .returned (.string (st (headL (oc s) n.toNat))) ∧ Below w.heap.size w w' := by
  have hrl := runes_len_le (oc s)
  rw [oc_len] at hrl
  go_enter Try.func21, Try.ntmps21
  go_wp2_with fail
  refine (each_any s hs 34 #[.pointer (some ⟨w.heap.size, 0, none⟩), .pointer (some ⟨w.heap.size + 1, 0, none⟩)] enters_head1 _
    (fun m W => Blk W w.heap.size 3 (0, 0) #[.int .i64 (n - m)] ∧ Blk W (w.heap.size + 1) 3 (0, 0) #[.int .i64 (octs ((runes (oc s)).take m)).length] ∧ (m = 0 ∨ (m : Int) ≤ n) ∧ m ≤ (runes (oc s)).length ∧ Below w.heap.size w W)
    (fun W => Blk W (w.heap.size + 1) 3 (0, 0) #[.int .i64 (headL (oc s) n.toNat).length] ∧ Below w.heap.size w W) ?_ ?_ ?_ ?_).mono ?_
  · exact ⟨by simpa using (Blk.new w 3 (0, 0) #[.int .i64 n]).alloc _, by simpa [octs] using Blk.new (w.alloc _) 3 (0, 0) #[.int .i64 0], .inl rfl, Nat.zero_le _, ((Below.refl _ _).alloc (Nat.le_refl _) _).alloc (by simp) _⟩
  · rintro m W W' ⟨b1, b2, h1, h2, hb⟩ hbl
    simp only [World.size_alloc] at hbl
    exact ⟨b1.below hbl (by omega), b2.below hbl (by omega), h1, h2, hb.trans (hbl.mono (by omega))⟩
  · rintro W W' ⟨b2, hb⟩ hbl
    simp only [World.size_alloc] at hbl
    exact ⟨b2.below hbl (by omega), hb.trans (hbl.mono (by omega))⟩
  · rintro m r W hr ⟨b1, b2, h1, h2, hb⟩ hsz
    have hml := get_lt hr
    have hot := octs_take_snoc (oc s) m r hr
    rw [oc_len] at hot
    have hros := st_size r.o
    refine (head1_any (runeOf r) (st r.o) r.odd w.heap.size (w.heap.size + 1) _ _ W (by omega) (b1.cell 0) (b2.cell 0) (b1.frozen 0) (b2.frozen 0) (by omega) (by omega) (by omega)).mono ?_
    rintro e W' ⟨rfl, rfl⟩
    refine ⟨_, rfl, ?_, ?_, fun h => ?_, fun h => ?_⟩
    · simp only [World.size_alloc]
      by_cases hx : 1 ≤ n - m
      · rw [if_pos hx]
        exact (Below.heap_setCell _ _ _ _ (by dsimp only; omega)).trans (Below.heap_setCell _ _ _ _ (by dsimp only; omega))
      · rw [if_neg hx]
    · by_cases hx : 1 ≤ n - m
      · rw [if_pos hx]; simp [World.setCell]
      · rw [if_neg hx]; exact Nat.le_refl _
    · have hx : 1 ≤ n - m := of_decide_eq_true h
      rw [if_pos hx]
      refine ⟨?_, ?_, .inr (by omega), hml, (hb.setCell (by dsimp only; omega) _).setCell (by dsimp only; omega) _⟩
      · have := (b1.set_ 0 (.int .i64 (n - m - 1))).far (p := ⟨w.heap.size + 1, 0, none⟩) (by dsimp only; omega) (.int .i64 ((octs ((runes (oc s)).take m)).length + (st r.o).size))
        rw [show (n - ((m + 1 : Nat) : Int)) = n - m - 1 from by omega]; exact this
      · have := (b2.far (p := ⟨w.heap.size, 0, none⟩) (by dsimp only; omega) (.int .i64 (n - m - 1))).set_ 0 (.int .i64 ((octs ((runes (oc s)).take m)).length + (st r.o).size))
        rw [hot.1, ← hros]
        simpa using this
    · have hx : ¬ 1 ≤ n - m := of_decide_eq_false h
      rw [if_neg hx]
      have e : n.toNat = m := by omega
      exact ⟨by rw [e]; exact b2, hb⟩
  · rintro e W ⟨rfl, hI⟩
    have key : Blk W (w.heap.size + 1) 3 (0, 0) #[.int .i64 (headL (oc s) n.toNat).length] ∧ Below w.heap.size w W := by
      rcases hI with ⟨b1, b2, h1, h2, hb⟩ | h
      · refine ⟨?_, hb⟩
        have e : headL (oc s) n.toNat = octs ((runes (oc s)).take (runes (oc s)).length) := by
          unfold headL
          rw [List.take_of_length_le (Nat.le_refl _)]
          rcases h1 with h1 | h1
          · have : runes (oc s) = [] := List.eq_nil_of_length_eq_zero h1
            rw [this]; simp
          · rw [List.take_of_length_le (by omega)]
        rw [e]; exact b2
      · exact h
    obtain ⟨b2, hb⟩ := key
    have c2 : W.cell? ⟨w.heap.size + 1, 0, none⟩ = some (.int .i64 (headL (oc s) n.toNat).length) := b2.cell 0
    have hl := head_len (oc s) n.toNat
    rw [oc_len] at hl
    have hx : s.extract 0 (headL (oc s) n.toNat).length = st (headL (oc s) n.toNat) := oc_inj (by rw [oc_extract, oc_st]; simp [head_take])
    have HX := Lib.hid hx
    clear hI b2 hx
    go_wp2
    go_ret
    exact ⟨ret_str HX.out, hb⟩

theorem signR_of (r : Rn) : (r.odd = true → signR r = false) ∧ (r.odd = false → signR r = signZ (runeOf r)) := by
  constructor
  · intro h; simp [signR, h]
  · intro h; simp [signR, signZ, runeOf, h]

set_option maxHeartbeats 1000000 in
theorem cut1_any (r : Rn) (own : ByteArray) (a b : Nat) (x : Nat) (q : ByteArray) (w : World) (hab : a ≠ b)
    (ha : w.cell? ⟨a, 0, none⟩ = some (.int .i64 x)) (hb : w.cell? ⟨b, 0, none⟩ = some (.string q)) (fa : w.frozen? ⟨a, 0, none⟩ = false) (fb : w.frozen? ⟨b, 0, none⟩ = false)
    (hx : x ≤ 16) (hq : q.size ≤ 24) (ho : own.size ≤ 1000000) :
    Calls Try.prog 39 #[.int .i32 (runeOf r), .string own, .bool r.odd, .pointer (some ⟨a, 0, none⟩), .pointer (some ⟨b, 0, none⟩)] w fun e w' =>
      e = .returned (.bool (!signR r || decide (¬ (x = 16 ∨ 24 < q.size + own.size)))) ∧
      w' = if signR r = false then w else if x = 16 ∨ 24 < q.size + own.size then w else (w.setCell ⟨a, 0, none⟩ (.int .i64 ((x : Int) + 1))).setCell ⟨b, 0, none⟩ (.string (q ++ own)) := by
  have hso := signR_of r
  cases hodd : r.odd with
  | true =>
    rw [hso.1 hodd, if_pos rfl]
    clear hso
    go_enter Try.func39, Try.ntmps39
    go_wp2
    go_ret
    exact ⟨rfl, rfl⟩
  | false =>
    rw [hso.2 hodd]
    clear hso
    generalize runeOf r = c at *
    cases hsg : signZ c with
    | false =>
      rw [if_pos rfl]
      have HS := Lib.hid hsg
      go_enter Try.func39, Try.ntmps39
      go_wp2_with (go_at_call 29; refine (sign_any _ _).mono ?_; rintro e w' ⟨rfl, rfl⟩; rw [HS.out])
      go_ret
      exact ⟨rfl, rfl⟩
    | true =>
      rw [if_neg (by simp)]
      have HS := Lib.hid hsg
      by_cases h16 : x = 16
      · subst h16
        rw [if_pos (.inl rfl), decide_eq_false (by simp)]
        go_enter Try.func39, Try.ntmps39
        go_wp2_with (go_at_call 29; refine (sign_any _ _).mono ?_; rintro e w' ⟨rfl, rfl⟩; rw [HS.out])
        go_ret
        exact ⟨rfl, rfl⟩
      · have h16' : ((x : Int) == 16) = false := by simp; omega
        by_cases h24 : 24 < q.size + own.size
        · rw [if_pos (.inr h24), decide_eq_false (by simp [h24])]
          go_enter Try.func39, Try.ntmps39
          go_wp2_with (go_at_call 29; refine (sign_any _ _).mono ?_; rintro e w' ⟨rfl, rfl⟩; rw [HS.out])
          go_ret
          exact ⟨rfl, rfl⟩
        · rw [if_neg (by omega), decide_eq_true (by omega)]
          have c2 : (w.setCell ⟨a, 0, none⟩ (.int .i64 ((x : Int) + 1))).cell? ⟨b, 0, none⟩ = some (.string q) := by
            rw [World.cell?_setCell_other _ _ _ _ (by intro e; injection e with e1 _ _; omega)]; exact hb
          have f2 : (w.setCell ⟨a, 0, none⟩ (.int .i64 ((x : Int) + 1))).frozen? ⟨b, 0, none⟩ = false := by
            rw [World.frozen?_of_block (Below.heap_setCell _ _ _ _ (by dsimp only; omega))]; exact fb
          go_enter Try.func39, Try.ntmps39
          go_wp2_with (go_at_call 29; refine (sign_any _ _).mono ?_; rintro e w' ⟨rfl, rfl⟩; rw [HS.out])
          go_ret
          exact ⟨rfl, rfl⟩

set_option maxHeartbeats 1000000 in
theorem cut_any (s : ByteArray) (w : World) (hs : s.size ≤ 1000000) :
    Calls Try.prog 32 #[.string s] w fun e w' => e = .returned (.string (st (cutL (oc s)))) ∧ Below w.heap.size w w' := by
  have hrl := runes_len_le (oc s)
  rw [oc_len] at hrl
  go_enter Try.func32, Try.ntmps32
  go_wp2_with fail
  refine (each_any s hs 39 #[.pointer (some ⟨w.heap.size + 1, 0, none⟩), .pointer (some ⟨w.heap.size, 0, none⟩)] enters_cut1 _
    (fun m W => ∃ (j : Nat) (q : List UInt8), Blk W (w.heap.size + 1) 3 (0, 0) #[.int .i64 j] ∧ Blk W w.heap.size 9 (0, 0) #[.string (st q)] ∧ j ≤ 16 ∧ q.length ≤ 24 ∧ cutL (oc s) = cutGo j q ((runes (oc s)).drop m) ∧ Below w.heap.size w W)
    (fun W => Blk W w.heap.size 9 (0, 0) #[.string (st (cutL (oc s)))] ∧ Below w.heap.size w W) ?_ ?_ ?_ ?_).mono ?_
  · exact ⟨0, [], by simpa using Blk.new (w.alloc _) 3 (0, 0) #[.int .i64 0], (Blk.new w 9 (0, 0) #[.string ⟨#[]⟩]).alloc _, by omega, by simp, rfl, ((Below.refl _ _).alloc (Nat.le_refl _) _).alloc (by simp) _⟩
  · rintro m W W' ⟨j, q, b1, b2, h1, h2, h3, hb⟩ hbl
    simp only [World.size_alloc] at hbl
    exact ⟨j, q, b1.below hbl (by omega), b2.below hbl (by omega), h1, h2, h3, hb.trans (hbl.mono (by omega))⟩
  · rintro W W' ⟨b2, hb⟩ hbl
    simp only [World.size_alloc] at hbl
    exact ⟨b2.below hbl (by omega), hb.trans (hbl.mono (by omega))⟩
  · rintro m r W hr ⟨j, q, b1, b2, h1, h2, h3, hb⟩ hsz
    have hot := octs_take_snoc (oc s) m r hr
    rw [oc_len] at hot
    have hros := st_size r.o
    have hqs := st_size q
    have hd := cutGo_done j q _ r m hr
    rw [← h3] at hd
    refine (cut1_any r (st r.o) (w.heap.size + 1) w.heap.size j (st q) W (by omega) (b1.cell 0) (b2.cell 0) (b1.frozen 0) (b2.frozen 0) h1 (by omega) (by omega)).mono ?_
    rintro e W' ⟨rfl, rfl⟩
    rw [hqs, hros]
    cases hsg : signR r with
    | false =>
      rw [if_pos rfl]
      rw [if_pos hsg] at hd
      exact ⟨_, rfl, rfl, Nat.le_refl _, fun _ => ⟨j, q, b1, b2, h1, h2, hd, hb⟩, fun h => by simp at h⟩
    | true =>
      rw [if_neg (by simp)]
      rw [if_neg (by rw [hsg]; simp)] at hd
      by_cases hx : j = 16 ∨ 24 < q.length + r.o.length
      · rw [if_pos hx]
        rw [if_pos hx] at hd
        refine ⟨_, rfl, rfl, Nat.le_refl _, fun h => ?_, fun _ => ⟨by rw [hd]; exact b2, hb⟩⟩
        simp only [Bool.not_true, Bool.false_or, decide_eq_true_eq] at h
        exact absurd hx h
      · rw [if_neg hx]
        rw [if_neg hx] at hd
        refine ⟨_, rfl, ?_, by simp [World.setCell], fun _ => ⟨j + 1, q ++ r.o, ?_, ?_, by omega, by rw [List.length_append]; omega, hd, (hb.setCell (by dsimp only; omega) _).setCell (by dsimp only; omega) _⟩, fun h => ?_⟩
        · simp only [World.size_alloc]
          exact (Below.heap_setCell _ _ _ _ (by dsimp only; omega)).trans (Below.heap_setCell _ _ _ _ (by dsimp only; omega))
        · have := (b1.set_ 0 (.int .i64 ((j : Int) + 1))).far (p := ⟨w.heap.size, 0, none⟩) (by dsimp only; omega) (.string (st q ++ st r.o))
          simpa using this
        · have := (b2.far (p := ⟨w.heap.size + 1, 0, none⟩) (by dsimp only; omega) (.int .i64 ((j : Int) + 1))).set_ 0 (.string (st q ++ st r.o))
          rw [st_append]; simpa using this
        · rw [decide_eq_true hx] at h; simp at h
  · rintro e W ⟨rfl, hI⟩
    have key : Blk W w.heap.size 9 (0, 0) #[.string (st (cutL (oc s)))] ∧ Below w.heap.size w W := by
      rcases hI with ⟨j, q, b1, b2, h1, h2, h3, hb⟩ | h
      · refine ⟨?_, hb⟩
        rw [h3, List.drop_eq_nil_of_le (Nat.le_refl _)]; exact b2
      · exact h
    obtain ⟨b2, hb⟩ := key
    have c2 : W.cell? ⟨w.heap.size, 0, none⟩ = some (.string (st (cutL (oc s)))) := b2.cell 0
    clear hI b2
    go_wp2
    go_ret
    exact ⟨rfl, hb⟩
end Go.Proofs.Ytnbjfhmajaiokaa

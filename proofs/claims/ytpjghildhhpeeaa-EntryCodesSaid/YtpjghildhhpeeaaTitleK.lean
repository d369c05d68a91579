/-
  Walks: the program's counts, heads and cuts.
-/
import Derived.Test.YtpjghildhhpeeaaTitleJ
import Derived.Shelf.Abstract
namespace Go.Proofs.Ytpjghildhhpeeaa
open Go.RowKit

set_option maxHeartbeats 400000 in
/-- Count's closure. -/
theorem count1_any (c : Int) (own : ByteArray) (odd : Bool) (a b : Nat) (x y : Int) (w : World)
    (ha : w.cell? ⟨a, 0, none⟩ = some (.int .i64 x)) (hb : w.cell? ⟨b, 0, none⟩ = some (.int .i64 y)) (fa : w.frozen? ⟨a, 0, none⟩ = false) (fb : w.frozen? ⟨b, 0, none⟩ = false)
    (hx : 0 ≤ x ∧ x ≤ 1000000) (hy : 0 ≤ y ∧ y ≤ 1000000) :
    Calls Try.prog 53 #[.int .i32 c, .string own, .bool odd, .pointer (some ⟨a, 0, none⟩), .pointer (some ⟨b, 0, none⟩)] w fun e w' =>
      e = .returned (.bool true) ∧ w' = if odd then w.setCell ⟨a, 0, none⟩ (.int .i64 (x + 1)) else w.setCell ⟨b, 0, none⟩ (.int .i64 (y + 1)) := by
  cases odd with
  | true =>
    go_enter Try.func53, Try.ntmps53
    go_wp2
    go_ret
    exact ⟨rfl, rfl⟩
  | false =>
    go_enter Try.func53, Try.ntmps53
    go_wp2
    go_ret
    exact ⟨rfl, rfl⟩

theorem enters_count1 : ∀ args w, (callFunc 53 args).run Try.prog w = .ok (.enter 53 args) w := enters_of Try.func53 (by kernel_rfl) rfl
theorem wholeN (l : List Rn) : (l.filter (fun r => !r.odd)).length + oddN l = l.length := by
  unfold oddN
  induction l with
  | nil => rfl
  | cons r rs ih => cases h : r.odd <;> simp [h] <;> omega

set_option maxHeartbeats 1000000 in
theorem Count_any (s : ByteArray) (w : World) (hs : s.size ≤ 1000000) :
    Calls Try.prog 40 #[.string s] w fun e w' => e = .returned (.tuple #[.int .i64 (wholes (oc s)), .int .i64 (strays (oc s))]) ∧ Below w.heap.size w w' := by
  have hrl := runes_len_le (oc s)
  rw [oc_len] at hrl
  have hcn := counts (oc s)
  have hst : strays (oc s) = oddN (runes (oc s)) := rfl
  have HC := Lib.hid hcn
  have HT := Lib.hid hst
  clear hcn hst
  go_enter Try.func40, Try.ntmps40
  go_wp2_with fail
  refine (each_any s hs 53 #[.pointer (some ⟨w.heap.size + 1, 0, none⟩), .pointer (some ⟨w.heap.size, 0, none⟩)] enters_count1 _
    (fun m W => ∃ x y : Int, Blk W (w.heap.size + 1) 3 (0, 0) #[.int .i64 x] ∧ Blk W w.heap.size 3 (0, 0) #[.int .i64 y] ∧ x = oddN ((runes (oc s)).take m) ∧ x + y = m ∧ m ≤ (runes (oc s)).length ∧ Below w.heap.size w W) (fun _ => False) ?_ ?_ ?_ ?_).mono ?_
  · exact ⟨0, 0, by simpa using Blk.new (w.alloc _) 3 (0, 0) #[.int .i64 0], (Blk.new w 3 (0, 0) #[.int .i64 0]).alloc _, by simp [oddN], by omega, Nat.zero_le _, ((Below.refl _ _).alloc (Nat.le_refl _) _).alloc (by simp) _⟩
  · rintro m W W' ⟨x, y, b1, b2, h1, h2, h3, hb⟩ hbl
    simp only [World.size_alloc] at hbl
    exact ⟨x, y, b1.below hbl (by omega), b2.below hbl (by omega), h1, h2, h3, hb.trans (hbl.mono (by omega))⟩
  · intro W W' h; exact h.elim
  · rintro m r W hr ⟨x, y, b1, b2, h1, h2, h3, hb⟩ hsz
    have hml := get_lt hr
    have hos := oddN_snoc ((runes (oc s)).take m) r
    rw [← take_snoc _ m r hr] at hos
    have hol := oddN_le ((runes (oc s)).take m)
    rw [List.length_take] at hol
    refine (count1_any (runeOf r) (st r.o) r.odd (w.heap.size + 1) w.heap.size x y W (b1.cell 0) (b2.cell 0) (b1.frozen 0) (b2.frozen 0) (by omega) (by omega)).mono ?_
    rintro e W' ⟨rfl, rfl⟩
    refine ⟨true, rfl, ?_, ?_, fun _ => ?_, fun h => by cases h⟩
    · simp only [World.size_alloc]
      cases r.odd
      · exact Below.heap_setCell _ _ _ _ (by dsimp only; omega)
      · exact Below.heap_setCell _ _ _ _ (by dsimp only; omega)
    · cases r.odd <;> simp [World.setCell]
    · cases ho : r.odd with
      | true =>
        rw [ho] at hos
        exact ⟨x + 1, y, b1.set_ 0 _, b2.far (by dsimp only; omega) _, by rw [hos, h1]; rfl, by omega, hml, hb.setCell (by dsimp only; omega) _⟩
      | false =>
        rw [ho] at hos
        exact ⟨x, y + 1, b1.far (by dsimp only; omega) _, b2.set_ 0 _, by rw [hos, h1]; simp, by omega, hml, hb.setCell (by dsimp only; omega) _⟩
  · rintro e W ⟨rfl, hI | hF⟩
    · obtain ⟨x, y, b1, b2, h1, h2, h3, hb⟩ := hI
      rw [List.take_of_length_le (Nat.le_refl _)] at h1
      have hx : x = (strays (oc s) : Int) := by rw [h1, HT.out]
      have hy : y = (wholes (oc s) : Int) := by have := HC.out; omega
      subst hx hy
      have c1 : W.cell? ⟨w.heap.size + 1, 0, none⟩ = some (.int .i64 (strays (oc s))) := b1.cell 0
      have c2 : W.cell? ⟨w.heap.size, 0, none⟩ = some (.int .i64 (wholes (oc s))) := b2.cell 0
      clear b1 b2 h1 h2
      go_wp2
      go_quiet (fail)
      go_wp2
      go_ret2
      exact ⟨rfl, below_drewN hb _⟩
    · exact hF.elim
end Go.Proofs.Ytpjghildhhpeeaa

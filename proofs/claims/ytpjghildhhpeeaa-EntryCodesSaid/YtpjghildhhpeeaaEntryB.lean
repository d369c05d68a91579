/-
  Entries in memory; walks: a text cut short, a list cut short, may an entry's number and type be.
-/
import Derived.Test.YtpjghildhhpeeaaEntryA
import Derived.Test.YtpjghildhhpeeaaRowV
import Derived.Test.YtpjghildhhpeeaaTitleN
namespace Go.Proofs.Ytpjghildhhpeeaa
open Go.RowKit

def fE (x : Ent) : List Value := [.string (st x.1), .int .i64 x.2.1, .int .i64 x.2.2]
def vE (x : Ent) : Value := .agg #[.string (st x.1), .int .i64 x.2.1, .int .i64 x.2.2]
abbrev rowE (l : List Ent) : List Value := rowV fE l
theorem fE_len (x : Ent) : (fE x).length = 3 := rfl
theorem rowE_one (l : List Ent) : ∀ u ∈ rowE l, u.oneCell' = true := rowV_mem (fun a u hu => by
  unfold fE at hu
  simp only [List.mem_cons, List.not_mem_nil, or_false] at hu
  rcases hu with rfl | rfl | rfl <;> rfl) l
/-- An entry of a row: its cells. -/
theorem ent_at {w : World} {B n : Nat} {A : Option Addr} {l : List Ent} (h : Rd w B 3 A n (rowE l)) {k : Nat} (hk : k < n) :
    ∃ g o x, A = some ⟨g, o, none⟩ ∧ g < B ∧ l[k]? = some x ∧ w.cell? ⟨g, o + k * 3, none⟩ = some (.string (st x.1)) ∧ w.cell? ⟨g, o + k * 3 + 1, none⟩ = some (.int .i64 x.2.1) ∧ w.cell? ⟨g, o + k * 3 + 2, none⟩ = some (.int .i64 x.2.2) := by
  obtain ⟨g, o, x, e, hb, hx, hc⟩ := rowV_at fE_len h hk (by omega)
  exact ⟨g, o, x, e, hb, hx, by simpa using hc 0 _ rfl, by rw [Nat.add_assoc]; exact hc 1 _ rfl, by rw [Nat.add_assoc]; exact hc 2 _ rfl⟩
theorem Try.info24 : (Try.prog.info? 24).map (fun i => (i.zero, i.size, i.bytes)) = some (some (.agg #[.string ⟨#[]⟩, .int .i64 0, .int .i64 0]), 3, 32) := by kernel_rfl

def OwnE (w w' : World) (v : Value) (l : List Ent) : Prop := w'.ownsRow w.heap.size 24 3 v l.length (rowE l)

def fewS (s : List UInt8) : List UInt8 := s.take 60
def fewE (l : List Ent) : List Ent := (l.take 33).map fun x => (fewS x.1, x.2)
theorem fewE_snoc (l : List Ent) (k : Nat) (x : Ent) (h : l[k]? = some x) : (l.take (k + 1)).map (fun x => (fewS x.1, x.2)) = (l.take k).map (fun x => (fewS x.1, x.2)) ++ [(fewS x.1, x.2)] := by
  rw [take_snoc l k x h, List.map_append]; rfl

set_option maxHeartbeats 400000 in
theorem few_any (s : ByteArray) (w : World) :
    Calls Try.prog 8 #[.string s] w fun e w' => e = .returned (.string (st (fewS (oc s)))) ∧ w = w' := by
  by_cases h : 60 < s.size
  · have he : s.extract 0 60 = st (fewS (oc s)) := oc_inj (by rw [oc_extract, oc_st]; simp [fewS])
    have HE := Lib.hid he
    clear he
    go_enter Try.func8, Try.ntmps8
    go_wp2
    go_ret
    exact ⟨ret_str HE.out, rfl⟩
  · have he : s = st (fewS (oc s)) := oc_inj (by rw [oc_st]; unfold fewS; rw [List.take_of_length_le (by rw [oc_len]; omega)])
    have HE := Lib.hid he
    clear he
    go_enter Try.func8, Try.ntmps8
    go_wp2
    go_ret
    exact ⟨ret_str HE.out, rfl⟩

set_option maxHeartbeats 400000 in
theorem right_any (x : Ent) (w : World) :
    Calls Try.prog 27 #[vE x] w fun e w' => e = .returned (.bool (rightE x)) ∧ Below w.heap.size w w' := by
  obtain ⟨nm, i, t⟩ := x
  show Calls _ _ #[.agg #[.string (st nm), .int .i64 i, .int .i64 t]] _ _
  have hr : rightE (nm, i, t) = (decide (1 ≤ i) && decide (i ≤ 39) && (decide (t = 1) || decide (t = 2))) := rfl
  obtain ⟨s, hs⟩ : ∃ s, st nm = s := ⟨_, rfl⟩
  rw [hs]
  have HR := Lib.hid hr
  clear hr hs
  by_cases h1 : 1 ≤ i
  · by_cases h2 : i ≤ 39
    · by_cases h3 : t = 1
      · subst h3
        go_enter Try.func27, Try.ntmps27
        go_wp2
        go_ret
        exact ⟨ret_bool (by rw [HR.out]; simp [h1, h2]), (Below.refl _ _).alloc (Nat.le_refl _) _⟩
      · have e3 : (t == 1) = false := beq_false_of_ne h3
        by_cases h4 : t = 2
        · subst h4
          go_enter Try.func27, Try.ntmps27
          go_wp2
          go_ret
          exact ⟨ret_bool (by rw [HR.out]; simp [h1, h2]), (Below.refl _ _).alloc (Nat.le_refl _) _⟩
        · have e4 : (t == 2) = false := beq_false_of_ne h4
          go_enter Try.func27, Try.ntmps27
          go_wp2
          go_ret
          exact ⟨ret_bool (by rw [HR.out]; simp [h3, h4]), (Below.refl _ _).alloc (Nat.le_refl _) _⟩
    · go_enter Try.func27, Try.ntmps27
      go_wp2
      go_ret
      exact ⟨ret_bool (by rw [HR.out]; simp; omega), (Below.refl _ _).alloc (Nat.le_refl _) _⟩
  · go_enter Try.func27, Try.ntmps27
    go_wp2
    go_ret
    exact ⟨ret_bool (by rw [HR.out]; simp; omega), (Below.refl _ _).alloc (Nat.le_refl _) _⟩
set_option maxHeartbeats 400000 in
theorem rright_any (x : Ent) (w : World) :
    Calls Try.prog 30 #[vE x] w fun e w' => e = .returned (.bool (rightE x)) ∧ Below w.heap.size w w' := by
  obtain ⟨nm, i, t⟩ := x
  show Calls _ _ #[.agg #[.string (st nm), .int .i64 i, .int .i64 t]] _ _
  have hr : rightE (nm, i, t) = (decide (1 ≤ i) && decide (i ≤ 39) && (decide (t = 1) || decide (t = 2))) := rfl
  obtain ⟨s, hs⟩ : ∃ s, st nm = s := ⟨_, rfl⟩
  rw [hs]
  have HR := Lib.hid hr
  clear hr hs
  by_cases h1 : 1 ≤ i
  · by_cases h2 : i ≤ 39
    · by_cases h3 : t = 1
      · subst h3
        go_enter Try.func30, Try.ntmps30
        go_wp2
        go_ret
        exact ⟨ret_bool (by rw [HR.out]; simp [h1, h2]), (Below.refl _ _).alloc (Nat.le_refl _) _⟩
      · have e3 : (t == 1) = false := beq_false_of_ne h3
        by_cases h4 : t = 2
        · subst h4
          go_enter Try.func30, Try.ntmps30
          go_wp2
          go_ret
          exact ⟨ret_bool (by rw [HR.out]; simp [h1, h2]), (Below.refl _ _).alloc (Nat.le_refl _) _⟩
        · have e4 : (t == 2) = false := beq_false_of_ne h4
          go_enter Try.func30, Try.ntmps30
          go_wp2
          go_ret
          exact ⟨ret_bool (by rw [HR.out]; simp [h3, h4]), (Below.refl _ _).alloc (Nat.le_refl _) _⟩
    · go_enter Try.func30, Try.ntmps30
      go_wp2
      go_ret
      exact ⟨ret_bool (by rw [HR.out]; simp; omega), (Below.refl _ _).alloc (Nat.le_refl _) _⟩
  · go_enter Try.func30, Try.ntmps30
    go_wp2
    go_ret
    exact ⟨ret_bool (by rw [HR.out]; simp; omega), (Below.refl _ _).alloc (Nat.le_refl _) _⟩

set_option maxHeartbeats 2000000 in
set_option maxRecDepth 100000 in
theorem Few_any (A : Option Addr) (n c : Nat) (l : List Ent) (w : World) (hr : Rd w w.heap.size 3 A n (rowE l)) (hn : n ≤ c) (hc : c ≤ maxLen) (hsz : ∀ x ∈ l, x.1.length ≤ 9223372036854775807) :
    Calls Try.prog 7 #[.slice A n c] w fun e w' => (∃ v, e = .returned v ∧ OwnE w w' v (fewE l)) ∧ Below w.heap.size w w' := by
  obtain ⟨i0, hi, hz0, hz1, hz2⟩ := info_parts Try.info24
  obtain ⟨m, hm⟩ : ∃ m, min n 33 = m := ⟨_, rfl⟩
  have hln := rowV_count fE_len hr (by omega)
  have hr2 := rd_takeV hr (show m ≤ n by omega)
  rw [rowV_take fE_len] at hr2
  have hlm : (l.take m) = l.take 33 := by
    rw [← hm]
    by_cases h : n ≤ 33
    · rw [Nat.min_eq_left h, List.take_of_length_le (by omega), List.take_of_length_le (by omega)]
    · rw [Nat.min_eq_right (by omega)]
  have hml : (l.take m).length = m := by rw [List.length_take]; omega
  have hfew : fewE l = (l.take m).map (fun x => (fewS x.1, x.2)) := by unfold fewE; rw [hlm]
  rw [hfew]
  obtain ⟨L, hL⟩ : ∃ L, l.take m = L := ⟨_, rfl⟩
  have hsz2 : ∀ x ∈ L, x.1.length ≤ 9223372036854775807 := fun x hx => hsz x (by rw [← hL] at hx; exact List.mem_of_mem_take hx)
  rw [hL] at hr2 hml ⊢
  have HR := Lib.hid hr2
  have HS := Lib.hid hsz2
  obtain ⟨F, hF⟩ : ∃ F, L.map (fun x => (fewS x.1, x.2)) = F := ⟨_, rfl⟩
  have hfl : F.length = m := by rw [← hF, List.length_map, hml]
  have hfx : ∀ (k : Nat) (x : Ent), L[k]? = some x → F[k]? = some (fewS x.1, x.2) := fun k x h => by rw [← hF, List.getElem?_map, h]; rfl
  rw [hF]
  have HFL := Lib.hid hfl
  have HFX := Lib.hid hfx
  have hm33 : m ≤ 33 := by omega
  unfold maxLen at hc
  clear hr hr2 hln hsz hsz2 hfew hlm hml hL hF hfl hfx
  by_cases h33 : 33 < n
  · obtain rfl : m = 33 := by omega
    have hd : decide ((33 : Int) < (n : Int)) = true := decide_eq_true (by omega)
    clear hm
    go_enter Try.func7, Try.ntmps7
    go_wp2
    go_loopw [3, 4] (fun v i wr => ∃ k : Nat, k ≤ 33 ∧ i = .int .i64 k ∧ wr.ownsRow w.heap.size 24 3 v k (rowE (F.take k)) ∧ Below w.heap.size w wr) (fun _ i _ => 33 - (intOf i).toNat)
    case atStart => exact ⟨0, Nat.zero_le _, rfl, ⟨rfl, .inl ⟨rfl, rfl⟩⟩, Below.refl _ _⟩
    case round =>
      obtain ⟨k, hk, rfl, hown, hbw⟩ := hrel
      by_cases hlt : k < 33
      · obtain ⟨g, o, x, rfl, hg, hx, hc0, hc1, hc2⟩ := ent_at ((HR.out.below hbw).more hbw.size) hlt
        have hxs := HS.out x (List.mem_iff_getElem?.2 ⟨k, hx⟩)
        have hsn := take_snoc F k _ (HFX.out k x hx)
        obtain ⟨nm, ino, ty⟩ := x
        obtain ⟨s, hs⟩ : ∃ s, st nm = s := ⟨_, rfl⟩
        have hos : oc s = nm := by rw [← hs, oc_st]
        simp only [hs] at hc0 hc1 hc2
        have hfw : ∀ W, Calls Try.prog 8 #[.string s] W fun e w' => e = .returned (.string (st (fewS nm))) ∧ W = w' := fun W => by have := few_any s W; rw [hos] at this; exact this
        obtain ⟨s2, hs2⟩ : ∃ s2, st (fewS nm) = s2 := ⟨_, rfl⟩
        simp only [hs2] at hfw
        have HF := Lib.hid hfw
        have HSN := Lib.hid hsn
        have HS2 := Lib.hid hs2
        clear hxs hsn hx hs hos hs2 hfw
        go_wp2_with fail
        refine (HF.out _).mono ?_
        rintro e w0 ⟨rfl, rfl⟩
        go_wp2_with (at_builtin; refine wpList_append_own _ rfl (.tmp 25) (.tmp 27) 22 rfl w.heap.size 24 i0 _ 3 32 Try.underlying22 hi hz0 hz1 hz2 rfl (by decide) _ _ _ rfl ((hown.alloc _).alloc _) ⟨wr.heap.size + 1, 0, none⟩ 1 1 [.string s2, .int .i64 ino, .int .i64 ty] (by rfl) (by rfl) (fun j u hj => new_cells (wr.alloc _) _ _ _ (by simp) j u hj) (by intro u hu; simp at hu; rcases hu with rfl | rfl | rfl <;> rfl) (by unfold maxLen; omega) (by omega) (base_alloc (base_alloc hbw.size _) _) ?_)
        intro v' w' hown' hgrow _
        have hbw' : Below w.heap.size w w' := ((hbw.alloc hbw.size _).alloc (base_alloc hbw.size _) _).grown hgrow (base_alloc (base_alloc hbw.size _) _) (fun k hk => (hown.lt k hk).1)
        have HO : Hid (w'.ownsRow w.heap.size 24 3 v' (k + 1) (rowE (F.take (k + 1)))) := Lib.hid (by
          rw [HSN.out]
          show w'.ownsRow _ _ _ _ _ (rowV fE _)
          rw [rowV_snoc]
          show w'.ownsRow _ _ _ _ _ (rowV fE _ ++ [.string (st (fewS nm)), .int .i64 ino, .int .i64 ty])
          rw [HS2.out]
          exact hown')
        clear hown' hown hgrow
        go_wp2
        go_roundw
        case rel => exact ⟨k + 1, by omega, by go_num, HO.out, hbw'⟩
        case measure => simp [intOf]; omega
      · obtain rfl : k = 33 := by omega
        have hle : F.length ≤ 33 := by rw [HFL.out]; exact Nat.le_refl _
        rw [List.take_of_length_le hle] at hown
        have HO : Hid (OwnE w wr _ F) := Lib.hid (by
          unfold OwnE
          rw [HFL.out]
          exact hown)
        clear hown hle
        go_wp2
        go_ret
        exact ⟨⟨_, rfl, HO.out⟩, hbw⟩
  · obtain rfl : m = n := by omega
    have hd : decide ((33 : Int) < (m : Int)) = false := decide_eq_false (by omega)
    clear hm
    go_enter Try.func7, Try.ntmps7
    go_wp2
    go_loopw [3, 4] (fun v i wr => ∃ k : Nat, k ≤ m ∧ i = .int .i64 k ∧ wr.ownsRow w.heap.size 24 3 v k (rowE (F.take k)) ∧ Below w.heap.size w wr) (fun _ i _ => m - (intOf i).toNat)
    case atStart => exact ⟨0, Nat.zero_le _, rfl, ⟨rfl, .inl ⟨rfl, rfl⟩⟩, Below.refl _ _⟩
    case round =>
      obtain ⟨k, hk, rfl, hown, hbw⟩ := hrel
      by_cases hlt : k < m
      · obtain ⟨g, o, x, rfl, hg, hx, hc0, hc1, hc2⟩ := ent_at ((HR.out.below hbw).more hbw.size) hlt
        have hxs := HS.out x (List.mem_iff_getElem?.2 ⟨k, hx⟩)
        have hsn := take_snoc F k _ (HFX.out k x hx)
        obtain ⟨nm, ino, ty⟩ := x
        obtain ⟨s, hs⟩ : ∃ s, st nm = s := ⟨_, rfl⟩
        have hos : oc s = nm := by rw [← hs, oc_st]
        simp only [hs] at hc0 hc1 hc2
        have hfw : ∀ W, Calls Try.prog 8 #[.string s] W fun e w' => e = .returned (.string (st (fewS nm))) ∧ W = w' := fun W => by have := few_any s W; rw [hos] at this; exact this
        obtain ⟨s2, hs2⟩ : ∃ s2, st (fewS nm) = s2 := ⟨_, rfl⟩
        simp only [hs2] at hfw
        have HF := Lib.hid hfw
        have HSN := Lib.hid hsn
        have HS2 := Lib.hid hs2
        clear hxs hsn hx hs hos hs2 hfw
        go_wp2_with fail
        refine (HF.out _).mono ?_
        rintro e w0 ⟨rfl, rfl⟩
        go_wp2_with (at_builtin; refine wpList_append_own _ rfl (.tmp 25) (.tmp 27) 22 rfl w.heap.size 24 i0 _ 3 32 Try.underlying22 hi hz0 hz1 hz2 rfl (by decide) _ _ _ rfl ((hown.alloc _).alloc _) ⟨wr.heap.size + 1, 0, none⟩ 1 1 [.string s2, .int .i64 ino, .int .i64 ty] (by rfl) (by rfl) (fun j u hj => new_cells (wr.alloc _) _ _ _ (by simp) j u hj) (by intro u hu; simp at hu; rcases hu with rfl | rfl | rfl <;> rfl) (by unfold maxLen; omega) (by omega) (base_alloc (base_alloc hbw.size _) _) ?_)
        intro v' w' hown' hgrow _
        have hbw' : Below w.heap.size w w' := ((hbw.alloc hbw.size _).alloc (base_alloc hbw.size _) _).grown hgrow (base_alloc (base_alloc hbw.size _) _) (fun k hk => (hown.lt k hk).1)
        have HO : Hid (w'.ownsRow w.heap.size 24 3 v' (k + 1) (rowE (F.take (k + 1)))) := Lib.hid (by
          rw [HSN.out]
          show w'.ownsRow _ _ _ _ _ (rowV fE _)
          rw [rowV_snoc]
          show w'.ownsRow _ _ _ _ _ (rowV fE _ ++ [.string (st (fewS nm)), .int .i64 ino, .int .i64 ty])
          rw [HS2.out]
          exact hown')
        clear hown' hown hgrow
        go_wp2
        go_roundw
        case rel => exact ⟨k + 1, by omega, by go_num, HO.out, hbw'⟩
        case measure => simp [intOf]; omega
      · obtain rfl : k = m := by omega
        have hle : F.length ≤ k := by rw [HFL.out]; exact Nat.le_refl _
        rw [List.take_of_length_le hle] at hown
        have HO : Hid (OwnE w wr _ F) := Lib.hid (by
          unfold OwnE
          rw [HFL.out]
          exact hown)
        clear hown hle
        go_wp2
        go_ret
        exact ⟨⟨_, rfl, HO.out⟩, hbw⟩
end Go.Proofs.Ytpjghildhhpeeaa

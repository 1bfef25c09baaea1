/- NameMost: the walk. -/
import Derived.Test.YtapkmgmcccgejaaPost
import Derived.Laws.IdiomStrings
namespace Go.Proofs.Ytapkmgmcccgejaa
open Go.RowKit Go.Shelf

theorem conv_byte (w : World) (c : UInt8) (z : Int) (hz : z = (c.toNat : Int)) :
    (convert 34 9 (.slice (some ⟨w.heap.size, 0, none⟩) 1 1)).run Try.prog (w.alloc (Obj.cells #[.int .u8 z] 5)) = .ok (.string ⟨#[c]⟩) (w.alloc (Obj.cells #[.int .u8 z] 5)) := by
  subst hz
  have hh := (MapKept.heap_alloc w (Obj.cells #[.int .u8 (c.toNat : Int)] 5)).1
  exact run_convert_bytes_back (P := Try.prog) _ 34 9 5 ⟨w.heap.size, 0, none⟩ 1 [c] Try.underlying34 Try.underlying5 Try.underlying9 (fun j hj => by
    have e : j = 0 := by simpa using hj
    subst e
    exact World.news_of_block hh 0 _ rfl)

set_option maxRecDepth 100000 in
set_option maxHeartbeats 2000000 in
theorem mostWalk (n : Nat) (hn : n ≤ 255) (w : World) :
    Calls Try.prog 3 #[.int .u8 n] w fun e w' => e = .returned (.bool true) ∧ Tur None' w w' := by
  obtain ⟨k, K, hk, hKk, hk7⟩ : ∃ (k : Nat) (K : Int), k < 7 ∧ K = (k : Int) ∧ Int.tmod (n : Int) 7 = K := ⟨n % 7, _, Nat.mod_lt _ (by decide), rfl, rfl⟩
  have HK := Lib.hid hKk
  have Hk := Lib.hid hk
  clear hKk hk
  go_enter Try.func3, Try.ntmps3
  go_wp2_with (first | (go_at_call 7; go_must (refine (logNew _).mono ?_; rintro e w1 ⟨rfl, hl1, t1⟩)) | (go_at_call 8; go_must (refine (namesNew _).mono ?_; rintro e w2 ⟨rfl, hn2, t2⟩; have hs : St w w2 w.heap.size (w1.heap.size + 1) w1.heap.size LogM.empty NM.empty := ⟨hl1.tur t2 (fun h => h), hn2, t1.none_trans t2, Nat.le_refl _, t1.size⟩; clear hl1 hn2 t2)) | (go_at_call 9; go_must (refine (begin_any hs.log false).mono ?_; rintro e w3 ⟨rfl, hl3, t3⟩; have hs' := hs.turn hl3 t3; clear hs hl3 t3; have hs := hs'; clear hs')))
  have H0 := Lib.hid (show St w w3 w.heap.size (w1.heap.size + 1) w1.heap.size log2 NM.empty from hs)
  clear hs hk7
  go_loopw [6, 7] (fun i _ wr => ∃ (j : Nat) (N : NM), j ≤ 6 ∧ i = .int .i64 j ∧ St w wr w.heap.size (w1.heap.size + 1) w1.heap.size log2 N ∧ Fresh N (firsts k j) ∧ N.Ok j) (fun i _ _ => 6 - (intOf i).toNat)
  case atStart => exact ⟨0, NM.empty, by omega, rfl, H0.out, Fresh.empty, NM.Ok.empty⟩
  case round =>
    obtain ⟨j, N, hj, rfl, hs, hf, hok⟩ := hrel
    have Hf := Lib.hid hf
    clear hf
    by_cases hlt : j < 6
    · have hokp : ∀ x, (N.put log2 x (tabA (nm j) 1)).1.Ok (j + 1) := fun x => hok.put (L := log2) (LogM.Ok.begin (LogM.Ok.begin LogM.Ok.empty false) false) x _
      have Hokp := Lib.hid hokp
      have Hj := Lib.hid (show j ≤ 100000 from by omega)
      clear hokp
      have hput := most_put Hk.out hlt Hf.out
      by_cases hkj : k ≤ j
      · rw [if_pos hkj] at hput
        have Hput := Lib.hid hput
        clear hput
        rcases (by omega : j = 0 ∨ j = 1 ∨ j = 2 ∨ j = 3 ∨ j = 4 ∨ j = 5) with rfl | rfl | rfl | rfl | rfl | rfl
        · have hge : K ≤ 0 := by have := HK.out; omega
          clear hkj
          have hconv := conv_byte wr (UInt8.ofNat (97 + 0)) 97 (by decide)
          go_wp2_with (first | (go_at_call 11; go_must (refine (tab_any _ (nm 0) _).mono ?_; rintro e w4 ⟨cv, blk, rfl, hc, hk4, t4⟩; have hs' : St w w4 _ _ _ log2 N := (hs.quiet ((Tur.refl None' _).alloc _)).quiet t4; clear hs t4; have hs := hs'; clear hs')) | (go_at_call 10; go_must (refine (put_any hs.log hs.nam hok Hj.out 2 (tabA (nm 0) 1) hc (by decide) (fun e => by have := hk4.fn e.2; omega)).mono ?_; rintro e w5 ⟨rfl, hn5, hl5, t5⟩; rw [Hput.out.1]; have hs' := hs.put hn5 hl5 t5; clear hs t5 hn5 hl5 hc hk4; have hs := hs'; clear hs')))
          go_roundw
          case rel => exact ⟨1, _, by omega, by rfl, hs, Hput.out.2, Hokp.out _⟩
          case measure => simp [intOf]
        · have hge : K ≤ 1 := by have := HK.out; omega
          clear hkj
          have hconv := conv_byte wr (UInt8.ofNat (97 + 1)) 98 (by decide)
          go_wp2_with (first | (go_at_call 11; go_must (refine (tab_any _ (nm 1) _).mono ?_; rintro e w4 ⟨cv, blk, rfl, hc, hk4, t4⟩; have hs' : St w w4 _ _ _ log2 N := (hs.quiet ((Tur.refl None' _).alloc _)).quiet t4; clear hs t4; have hs := hs'; clear hs')) | (go_at_call 10; go_must (refine (put_any hs.log hs.nam hok Hj.out 2 (tabA (nm 1) 1) hc (by decide) (fun e => by have := hk4.fn e.2; omega)).mono ?_; rintro e w5 ⟨rfl, hn5, hl5, t5⟩; rw [Hput.out.1]; have hs' := hs.put hn5 hl5 t5; clear hs t5 hn5 hl5 hc hk4; have hs := hs'; clear hs')))
          go_roundw
          case rel => exact ⟨2, _, by omega, by rfl, hs, Hput.out.2, Hokp.out _⟩
          case measure => simp [intOf]
        · have hge : K ≤ 2 := by have := HK.out; omega
          clear hkj
          have hconv := conv_byte wr (UInt8.ofNat (97 + 2)) 99 (by decide)
          go_wp2_with (first | (go_at_call 11; go_must (refine (tab_any _ (nm 2) _).mono ?_; rintro e w4 ⟨cv, blk, rfl, hc, hk4, t4⟩; have hs' : St w w4 _ _ _ log2 N := (hs.quiet ((Tur.refl None' _).alloc _)).quiet t4; clear hs t4; have hs := hs'; clear hs')) | (go_at_call 10; go_must (refine (put_any hs.log hs.nam hok Hj.out 2 (tabA (nm 2) 1) hc (by decide) (fun e => by have := hk4.fn e.2; omega)).mono ?_; rintro e w5 ⟨rfl, hn5, hl5, t5⟩; rw [Hput.out.1]; have hs' := hs.put hn5 hl5 t5; clear hs t5 hn5 hl5 hc hk4; have hs := hs'; clear hs')))
          go_roundw
          case rel => exact ⟨3, _, by omega, by rfl, hs, Hput.out.2, Hokp.out _⟩
          case measure => simp [intOf]
        · have hge : K ≤ 3 := by have := HK.out; omega
          clear hkj
          have hconv := conv_byte wr (UInt8.ofNat (97 + 3)) 100 (by decide)
          go_wp2_with (first | (go_at_call 11; go_must (refine (tab_any _ (nm 3) _).mono ?_; rintro e w4 ⟨cv, blk, rfl, hc, hk4, t4⟩; have hs' : St w w4 _ _ _ log2 N := (hs.quiet ((Tur.refl None' _).alloc _)).quiet t4; clear hs t4; have hs := hs'; clear hs')) | (go_at_call 10; go_must (refine (put_any hs.log hs.nam hok Hj.out 2 (tabA (nm 3) 1) hc (by decide) (fun e => by have := hk4.fn e.2; omega)).mono ?_; rintro e w5 ⟨rfl, hn5, hl5, t5⟩; rw [Hput.out.1]; have hs' := hs.put hn5 hl5 t5; clear hs t5 hn5 hl5 hc hk4; have hs := hs'; clear hs')))
          go_roundw
          case rel => exact ⟨4, _, by omega, by rfl, hs, Hput.out.2, Hokp.out _⟩
          case measure => simp [intOf]
        · have hge : K ≤ 4 := by have := HK.out; omega
          clear hkj
          have hconv := conv_byte wr (UInt8.ofNat (97 + 4)) 101 (by decide)
          go_wp2_with (first | (go_at_call 11; go_must (refine (tab_any _ (nm 4) _).mono ?_; rintro e w4 ⟨cv, blk, rfl, hc, hk4, t4⟩; have hs' : St w w4 _ _ _ log2 N := (hs.quiet ((Tur.refl None' _).alloc _)).quiet t4; clear hs t4; have hs := hs'; clear hs')) | (go_at_call 10; go_must (refine (put_any hs.log hs.nam hok Hj.out 2 (tabA (nm 4) 1) hc (by decide) (fun e => by have := hk4.fn e.2; omega)).mono ?_; rintro e w5 ⟨rfl, hn5, hl5, t5⟩; rw [Hput.out.1]; have hs' := hs.put hn5 hl5 t5; clear hs t5 hn5 hl5 hc hk4; have hs := hs'; clear hs')))
          go_roundw
          case rel => exact ⟨5, _, by omega, by rfl, hs, Hput.out.2, Hokp.out _⟩
          case measure => simp [intOf]
        · have hge : K ≤ 5 := by have := HK.out; omega
          clear hkj
          have hconv := conv_byte wr (UInt8.ofNat (97 + 5)) 102 (by decide)
          go_wp2_with (first | (go_at_call 11; go_must (refine (tab_any _ (nm 5) _).mono ?_; rintro e w4 ⟨cv, blk, rfl, hc, hk4, t4⟩; have hs' : St w w4 _ _ _ log2 N := (hs.quiet ((Tur.refl None' _).alloc _)).quiet t4; clear hs t4; have hs := hs'; clear hs')) | (go_at_call 10; go_must (refine (put_any hs.log hs.nam hok Hj.out 2 (tabA (nm 5) 1) hc (by decide) (fun e => by have := hk4.fn e.2; omega)).mono ?_; rintro e w5 ⟨rfl, hn5, hl5, t5⟩; rw [Hput.out.1]; have hs' := hs.put hn5 hl5 t5; clear hs t5 hn5 hl5 hc hk4; have hs := hs'; clear hs')))
          go_roundw
          case rel => exact ⟨6, _, by omega, by rfl, hs, Hput.out.2, Hokp.out _⟩
          case measure => simp [intOf]
      · rw [if_neg hkj] at hput
        have Hput := Lib.hid hput
        clear hput
        rcases (by omega : j = 0 ∨ j = 1 ∨ j = 2 ∨ j = 3 ∨ j = 4 ∨ j = 5) with rfl | rfl | rfl | rfl | rfl | rfl
        · have hge : ¬ K ≤ 0 := by have := HK.out; omega
          clear hkj
          have hconv := conv_byte wr (UInt8.ofNat (97 + 0)) 97 (by decide)
          go_wp2_with (first | (go_at_call 11; go_must (refine (tab_any _ (nm 0) _).mono ?_; rintro e w4 ⟨cv, blk, rfl, hc, hk4, t4⟩; have hs' : St w w4 _ _ _ log2 N := (hs.quiet ((Tur.refl None' _).alloc _)).quiet t4; clear hs t4; have hs := hs'; clear hs')) | (go_at_call 10; go_must (refine (put_any hs.log hs.nam hok Hj.out 1 (tabA (nm 0) 1) hc (by decide) (fun e => by have := hk4.fn e.2; omega)).mono ?_; rintro e w5 ⟨rfl, hn5, hl5, t5⟩; rw [Hput.out.1]; have hs' := hs.put hn5 hl5 t5; clear hs t5 hn5 hl5 hc hk4; have hs := hs'; clear hs')))
          go_roundw
          case rel => exact ⟨1, _, by omega, by rfl, hs, Hput.out.2, Hokp.out _⟩
          case measure => simp [intOf]
        · have hge : ¬ K ≤ 1 := by have := HK.out; omega
          clear hkj
          have hconv := conv_byte wr (UInt8.ofNat (97 + 1)) 98 (by decide)
          go_wp2_with (first | (go_at_call 11; go_must (refine (tab_any _ (nm 1) _).mono ?_; rintro e w4 ⟨cv, blk, rfl, hc, hk4, t4⟩; have hs' : St w w4 _ _ _ log2 N := (hs.quiet ((Tur.refl None' _).alloc _)).quiet t4; clear hs t4; have hs := hs'; clear hs')) | (go_at_call 10; go_must (refine (put_any hs.log hs.nam hok Hj.out 1 (tabA (nm 1) 1) hc (by decide) (fun e => by have := hk4.fn e.2; omega)).mono ?_; rintro e w5 ⟨rfl, hn5, hl5, t5⟩; rw [Hput.out.1]; have hs' := hs.put hn5 hl5 t5; clear hs t5 hn5 hl5 hc hk4; have hs := hs'; clear hs')))
          go_roundw
          case rel => exact ⟨2, _, by omega, by rfl, hs, Hput.out.2, Hokp.out _⟩
          case measure => simp [intOf]
        · have hge : ¬ K ≤ 2 := by have := HK.out; omega
          clear hkj
          have hconv := conv_byte wr (UInt8.ofNat (97 + 2)) 99 (by decide)
          go_wp2_with (first | (go_at_call 11; go_must (refine (tab_any _ (nm 2) _).mono ?_; rintro e w4 ⟨cv, blk, rfl, hc, hk4, t4⟩; have hs' : St w w4 _ _ _ log2 N := (hs.quiet ((Tur.refl None' _).alloc _)).quiet t4; clear hs t4; have hs := hs'; clear hs')) | (go_at_call 10; go_must (refine (put_any hs.log hs.nam hok Hj.out 1 (tabA (nm 2) 1) hc (by decide) (fun e => by have := hk4.fn e.2; omega)).mono ?_; rintro e w5 ⟨rfl, hn5, hl5, t5⟩; rw [Hput.out.1]; have hs' := hs.put hn5 hl5 t5; clear hs t5 hn5 hl5 hc hk4; have hs := hs'; clear hs')))
          go_roundw
          case rel => exact ⟨3, _, by omega, by rfl, hs, Hput.out.2, Hokp.out _⟩
          case measure => simp [intOf]
        · have hge : ¬ K ≤ 3 := by have := HK.out; omega
          clear hkj
          have hconv := conv_byte wr (UInt8.ofNat (97 + 3)) 100 (by decide)
          go_wp2_with (first | (go_at_call 11; go_must (refine (tab_any _ (nm 3) _).mono ?_; rintro e w4 ⟨cv, blk, rfl, hc, hk4, t4⟩; have hs' : St w w4 _ _ _ log2 N := (hs.quiet ((Tur.refl None' _).alloc _)).quiet t4; clear hs t4; have hs := hs'; clear hs')) | (go_at_call 10; go_must (refine (put_any hs.log hs.nam hok Hj.out 1 (tabA (nm 3) 1) hc (by decide) (fun e => by have := hk4.fn e.2; omega)).mono ?_; rintro e w5 ⟨rfl, hn5, hl5, t5⟩; rw [Hput.out.1]; have hs' := hs.put hn5 hl5 t5; clear hs t5 hn5 hl5 hc hk4; have hs := hs'; clear hs')))
          go_roundw
          case rel => exact ⟨4, _, by omega, by rfl, hs, Hput.out.2, Hokp.out _⟩
          case measure => simp [intOf]
        · have hge : ¬ K ≤ 4 := by have := HK.out; omega
          clear hkj
          have hconv := conv_byte wr (UInt8.ofNat (97 + 4)) 101 (by decide)
          go_wp2_with (first | (go_at_call 11; go_must (refine (tab_any _ (nm 4) _).mono ?_; rintro e w4 ⟨cv, blk, rfl, hc, hk4, t4⟩; have hs' : St w w4 _ _ _ log2 N := (hs.quiet ((Tur.refl None' _).alloc _)).quiet t4; clear hs t4; have hs := hs'; clear hs')) | (go_at_call 10; go_must (refine (put_any hs.log hs.nam hok Hj.out 1 (tabA (nm 4) 1) hc (by decide) (fun e => by have := hk4.fn e.2; omega)).mono ?_; rintro e w5 ⟨rfl, hn5, hl5, t5⟩; rw [Hput.out.1]; have hs' := hs.put hn5 hl5 t5; clear hs t5 hn5 hl5 hc hk4; have hs := hs'; clear hs')))
          go_roundw
          case rel => exact ⟨5, _, by omega, by rfl, hs, Hput.out.2, Hokp.out _⟩
          case measure => simp [intOf]
        · have hge : ¬ K ≤ 5 := by have := HK.out; omega
          clear hkj
          have hconv := conv_byte wr (UInt8.ofNat (97 + 5)) 102 (by decide)
          go_wp2_with (first | (go_at_call 11; go_must (refine (tab_any _ (nm 5) _).mono ?_; rintro e w4 ⟨cv, blk, rfl, hc, hk4, t4⟩; have hs' : St w w4 _ _ _ log2 N := (hs.quiet ((Tur.refl None' _).alloc _)).quiet t4; clear hs t4; have hs := hs'; clear hs')) | (go_at_call 10; go_must (refine (put_any hs.log hs.nam hok Hj.out 1 (tabA (nm 5) 1) hc (by decide) (fun e => by have := hk4.fn e.2; omega)).mono ?_; rintro e w5 ⟨rfl, hn5, hl5, t5⟩; rw [Hput.out.1]; have hs' := hs.put hn5 hl5 t5; clear hs t5 hn5 hl5 hc hk4; have hs := hs'; clear hs')))
          go_roundw
          case rel => exact ⟨6, _, by omega, by rfl, hs, Hput.out.2, Hokp.out _⟩
          case measure => simp [intOf]
    · have ej : j = 6 := by omega
      subst ej
      by_cases h6 : k < 6
      · have e3 : (N.put log2a 1 (tabA more 1)).2 = 0 := by rw [most_last Hk.out Hf.out, if_pos h6]
        have hK6 : K < 6 := by have := HK.out; omega
        clear h6
        have m1 : 1 = 1 := rfl
        have m2 : 2 = 2 := rfl
        go_wp2_with (first | (go_at_call 11; go_must (refine (tab_any _ more _).mono ?_; rintro e w4 ⟨cv, blk, rfl, hc, hk4, t4⟩; have hs' := hs.quiet t4; clear hs t4; have hs := hs'; clear hs')) | (go_at_call 10; clear m1; go_must (refine (put_any hs.log hs.nam hok (by decide) 1 (tabA more 1) hc (by decide) (fun e => by have := hk4.fn e.2; omega)).mono ?_; rintro e w5 ⟨rfl, hn5, hl5, t5⟩; rw [most_no Hk.out Hf.out 1 rfl] at hn5 ⊢; have hs' := hs.put hn5 hl5 t5; clear hs t5 hn5 hl5 hc hk4; have hs := hs'; clear hs')) | (go_at_call 10; clear m2; go_must (refine (put_any hs.log hs.nam hok (by decide) 2 (tabA more 1) hc (by decide) (fun e => by have := hk4.fn e.2; omega)).mono ?_; rintro e w5 ⟨rfl, hn5, hl5, t5⟩; rw [most_no Hk.out Hf.out 2 rfl] at hn5 ⊢; have hs' := hs.put hn5 hl5 t5; clear hs t5 hn5 hl5 hc hk4; have hs := hs'; clear hs')) | (go_at_call 12; go_must (refine (abort_any hs.log 2).mono ?_; rintro e w6 ⟨rfl, hl6, t6⟩; have hs' : St w w6 _ _ _ log2a N := hs.turn hl6 t6; clear hs t6 hl6; have hs := hs'; clear hs')) | (go_at_call 10; go_must (refine (put_any hs.log hs.nam hok (by decide) 1 (tabA more 1) hc (by decide) (fun e => by have := hk4.fn e.2; omega)).mono ?_; rintro e w7 ⟨rfl, hn7, hl7, t7⟩; rw [e3]; have hs' := hs.put hn7 hl7 t7; clear hs t7 hn7 hl7 hc hk4; have hs := hs'; clear hs')) | (go_at_call 13; go_must (refine (wakes_any _).mono ?_; rintro e w8 ⟨rfl, t8⟩)))
        go_ret
        exact ⟨by first | rfl | exact ret_bool (by simp; omega), hs.tur.none_trans t8⟩
      · have e3 : (N.put log2a 1 (tabA more 1)).2 = 3 := by rw [most_last Hk.out Hf.out, if_neg h6]
        have hK6 : ¬ K < 6 := by have := HK.out; omega
        clear h6
        have m1 : 1 = 1 := rfl
        have m2 : 2 = 2 := rfl
        go_wp2_with (first | (go_at_call 11; go_must (refine (tab_any _ more _).mono ?_; rintro e w4 ⟨cv, blk, rfl, hc, hk4, t4⟩; have hs' := hs.quiet t4; clear hs t4; have hs := hs'; clear hs')) | (go_at_call 10; clear m1; go_must (refine (put_any hs.log hs.nam hok (by decide) 1 (tabA more 1) hc (by decide) (fun e => by have := hk4.fn e.2; omega)).mono ?_; rintro e w5 ⟨rfl, hn5, hl5, t5⟩; rw [most_no Hk.out Hf.out 1 rfl] at hn5 ⊢; have hs' := hs.put hn5 hl5 t5; clear hs t5 hn5 hl5 hc hk4; have hs := hs'; clear hs')) | (go_at_call 10; clear m2; go_must (refine (put_any hs.log hs.nam hok (by decide) 2 (tabA more 1) hc (by decide) (fun e => by have := hk4.fn e.2; omega)).mono ?_; rintro e w5 ⟨rfl, hn5, hl5, t5⟩; rw [most_no Hk.out Hf.out 2 rfl] at hn5 ⊢; have hs' := hs.put hn5 hl5 t5; clear hs t5 hn5 hl5 hc hk4; have hs := hs'; clear hs')) | (go_at_call 12; go_must (refine (abort_any hs.log 2).mono ?_; rintro e w6 ⟨rfl, hl6, t6⟩; have hs' : St w w6 _ _ _ log2a N := hs.turn hl6 t6; clear hs t6 hl6; have hs := hs'; clear hs')) | (go_at_call 10; go_must (refine (put_any hs.log hs.nam hok (by decide) 1 (tabA more 1) hc (by decide) (fun e => by have := hk4.fn e.2; omega)).mono ?_; rintro e w7 ⟨rfl, hn7, hl7, t7⟩; rw [e3]; have hs' := hs.put hn7 hl7 t7; clear hs t7 hn7 hl7 hc hk4; have hs := hs'; clear hs')) | (go_at_call 13; go_must (refine (wakes_any _).mono ?_; rintro e w8 ⟨rfl, t8⟩)))
        go_ret
        exact ⟨by first | rfl | exact ret_bool (by simp; omega), hs.tur.none_trans t8⟩

end Go.Proofs.Ytapkmgmcccgejaa

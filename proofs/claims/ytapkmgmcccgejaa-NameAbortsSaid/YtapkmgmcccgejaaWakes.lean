/- Two that begin, one that names: 'wakes'. -/
import Derived.Test.YtapkmgmcccgejaaFresh
import Derived.Test.YtapkmgmcccgejaaClogW
import Derived.Deep.DeepMust
namespace Go.Proofs.Ytapkmgmcccgejaa
open Go.RowKit Go.Shelf

/-- A log and names of our own, behind w. -/
structure St (w wr : World) (lb nb B : Nat) (L : LogM) (N : NM) : Prop where
  log : LogAt wr lb L
  nam : NamesIn wr nb B N
  tur : Tur None' w wr
  hlb : w.heap.size ≤ lb
  hB : w.heap.size ≤ B

section
variable {w wr w' : World} {lb nb B : Nat} {L L' : LogM} {N N' : NM}

theorem St.quiet (h : St w wr lb nb B L N) (t : Tur None' wr w') : St w w' lb nb B L N :=
  ⟨h.log.tur t (fun h => h), h.nam.tur0 t, h.tur.none_trans t, h.hlb, h.hB⟩

theorem St.turn (h : St w wr lb nb B L N) (hl : LogAt w' lb L') (t : Tur (· = lb) wr w') : St w w' lb nb B L' N :=
  ⟨hl, h.nam.log h.log t, h.tur.trans t (fun j hj e => by have e : j = lb := e; have := h.hlb; omega), h.hlb, h.hB⟩

theorem St.put (h : St w wr lb nb B L N) (hn : NamesIn w' nb B N') (hl : LogAt w' lb L) (t : Tur (PutS wr B) wr w') : St w w' lb nb B L N' :=
  ⟨hl, hn, h.tur.trans t (fun j hj e => by have e1 : B ≤ j := e.1; have := h.hB; omega), h.hlb, h.hB⟩
end

theorem made1 (w : World) (z : Int) : IntsAt (w.alloc (Obj.cells #[.int .i64 z] 3)) 0 (.slice (some ⟨w.heap.size, 0, none⟩) 1 1) [z] := by
  have hh := (MapKept.heap_alloc w (Obj.cells #[.int .i64 z] 3)).1
  exact ⟨rfl, .inr ⟨w.heap.size, 1, #[.int .i64 z], rfl, Nat.zero_le _, hh, by simp, by decide, rfl, rfl⟩⟩

theorem TabsAt.form1 {w : World} {B : Nat} {v : Value} {t : Tab} {cvs : List Value} (h : TabsAt w B v [t] cvs) : ∃ a cap, v = .slice a 1 cap := by
  rcases ownsRow_shape h.own with ⟨rfl, h0⟩ | ⟨g, cap, rfl, _⟩
  · simp at h0
  · exact ⟨_, _, rfl⟩

theorem ok1 : names1.Ok 1 := NM.Ok.empty.put (L := log2) (LogM.Ok.begin (LogM.Ok.begin LogM.Ok.empty false) false) 1 (tabA sT 3)

set_option maxRecDepth 100000 in
set_option maxHeartbeats 2000000 in
theorem wakes_any (w : World) : Calls Try.prog 13 #[] w fun e w' => e = .returned (.bool true) ∧ Tur None' w w' := by
  have f0 := NM.Ok.empty
  have hfirst : 1 = 1 := rfl
  have hf1 := names1_f
  have h64 : ∀ v ∈ names1.f sT, Is64 v.xmin ∧ Is64 v.xmax := fun v hv => ⟨(ok1.ver sT v hv).1, (ok1.ver sT v hv).2.1⟩
  have hlen : (names1.f sT).length ≤ 100000 := by have := ok1.len sT; omega
  have hsz : ∀ v ∈ names1.f sT, v.t.cols.length * 72 ≤ 140737488355328 := fun v hv => by have := (ok1.ver sT v hv).2.2; omega
  have H64 := Lib.hid h64
  have Hlen := Lib.hid hlen
  have Hsz := Lib.hid hsz
  clear h64 hlen hsz hf1
  go_enter Try.func13, Try.ntmps13
  go_wp2_with (first | (go_at_call 7; go_must (refine (logNew _).mono ?_; rintro e w1 ⟨rfl, hl1, t1⟩)) | (go_at_call 8; go_must (refine (namesNew _).mono ?_; rintro e w2 ⟨rfl, hn2, t2⟩; have hs : St w w2 w.heap.size (w1.heap.size + 1) w1.heap.size LogM.empty NM.empty := ⟨hl1.tur t2 (fun h => h), hn2, t1.none_trans t2, Nat.le_refl _, t1.size⟩; clear hl1 hn2 t2)) | (go_at_call 9; go_must (refine (begin_any hs.log false).mono ?_; rintro e w3 ⟨rfl, hl3, t3⟩; have hs' := hs.turn hl3 t3; clear hs hl3 t3; have hs := hs'; clear hs')) | (go_at_call 11; go_must (refine (tab_any _ _ _).mono ?_; rintro e w4 ⟨cv, blk, rfl, hc, hk, t4⟩; have hs' : St w w4 _ _ _ log2 NM.empty := hs.quiet t4; clear hs t4; have hs := hs'; clear hs')) | (go_at_call 10; go_must (refine (put_any hs.log hs.nam f0 (by decide) 1 (tabA sT 3) hc (by decide) (fun e => by have := hk.fn e.2; omega)).mono ?_; rintro e w5 ⟨rfl, hn5, hl5, t5⟩; rw [fresh1.1]; have hs' : St w w5 _ _ _ log2 names1 := hs.put hn5 hl5 t5; clear hs t5 hn5 hl5 hc hk; have hs := hs'; clear hs')) | (go_at_call 21; go_must (refine (may_any hs.log hs.nam 2 sT H64.out Hlen.out).mono ?_; rintro e w6 ⟨rfl, t6⟩; rw [may1]; have hs' := hs.quiet t6; clear hs t6; have hs := hs'; clear hs')) | (go_at_call 29; clear hfirst; (refine (see_any hs.log hs.nam 2 sT Hsz.out).mono ?_); rintro e w7 ⟨t7, h7⟩; rw [ver2] at h7; simp only at h7; subst h7; have hs' := hs.quiet t7; clear hs t7; have hs := hs'; clear hs') | (go_at_call 29; (refine (see_any (hs.quiet ((Tur.refl None' _).alloc _)).log (hs.quiet ((Tur.refl None' _).alloc _)).nam 1 sT Hsz.out).mono ?_); rintro e w8 ⟨t8, h8⟩; rw [ver1] at h8; simp only at h8; obtain ⟨cv, rfl, hoc⟩ := h8; obtain ⟨a2, n2, c2, rfl⟩ := hoc.slice; have hs' := (hs.quiet ((Tur.refl None' _).alloc _)).quiet t8; clear hs t8 hoc; have hs := hs'; clear hs') | (go_at_call 22; refine (unseen_any (hs.quiet ((Tur.refl None' _).alloc _)).log (hs.quiet ((Tur.refl None' _).alloc _)).nam 2 sT H64.out Hlen.out).mono ?_; rintro e w9 ⟨v9, rfl, hrow, t9⟩; rw [unseen1] at hrow; have hi : IntsAt w9 _ v9 [1] := hrow; have hs' := (hs.quiet ((Tur.refl None' _).alloc _)).quiet t9; clear hs t9 hrow; have hs := hs'; clear hs') | (go_at_call 30; refine (ints_any (hi.tur0 ((Tur.refl None' _).alloc _)) (made1 _ 1)).mono ?_; rintro e w10 ⟨rfl, t10⟩; have hs' := (hs.quiet ((Tur.refl None' _).alloc _)).quiet t10; clear hs t10 hi; have hs := hs'; clear hs'; rw [show (([1] : List Int) == [1]) = true from rfl]) | (go_at_call 18; refine (all_one hs.log hs.nam 1 ok1 (by decide) (by rw [all1]; decide)).mono ?_; rintro e w11 ⟨v11, cvs, rfl, hta, t11⟩; rw [all1] at hta; have hs' := hs.quiet t11; clear hs t11; have hs := hs'; clear hs'; obtain ⟨g11, cap11, rfl⟩ := hta.form1; clear hta))
  all_goals (go_ret; exact ⟨rfl, hs.tur⟩)

end Go.Proofs.Ytapkmgmcccgejaa

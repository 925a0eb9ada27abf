/- The heads of the laws of inbox: shown, kind. -/
import Derived.Test.YtjjiemicacbmaaaIn7
namespace Go.Proofs.Ytjjiemicacbmaaa
open Go.RowKit Go.Shelf

set_option maxHeartbeats 1000000 in
theorem kind19 (c n : Int) (w : World) (h1 : -9223372036854775808 ≤ c ∧ c ≤ 9223372036854775807) (hn : 0 < n ∧ n ≤ 9223372036854775807) :
    Calls Try.prog 36 #[.int .i64 c, .int .i64 n] w fun e w' => e = .returned (.int .i64 (kindZ c n)) ∧ Upd none_ w w' := by
  have f0 : (n == 0) = false := by simp; omega
  by_cases hc : c < 0
  · have f1 : IntKind.i64.wrap (c + 1) = c + 1 := IntWalk.i64_in _ (by omega)
    have f2 : IntKind.i64.wrap (-(c + 1)) = -(c + 1) := IntWalk.i64_in _ (by omega)
    go_enter Try.func36, Try.ntmps36
    go_wp2
    go_ret
    refine ⟨?_, Upd.refl _ _⟩
    unfold kindZ
    rw [if_pos hc, ← Int.tmod_eq_emod_of_nonneg (by omega), Int.neg_tmod]
    rfl
  · go_enter Try.func36, Try.ntmps36
    go_wp2
    go_ret
    refine ⟨?_, Upd.refl _ _⟩
    unfold kindZ
    rw [if_neg (by omega), ← Int.tmod_eq_emod_of_nonneg (by omega)]
    rfl

/-- A new row of bytes, for Take. -/
theorem rd_new {w : World} {F : Nat → Prop} {w0 : World} {bx : Nat} {size done : Int} {buf : List UInt8} {l : List (Int × Int)} (h : IS w0 w bx F size done buf l) (bs : List UInt8) (C : Array Value) (fr : Nat × Nat) (hC : C = (u8s bs).toArray) :
    Rd (fun k => k = w.heap.size) (w.alloc (.cells C 5 fr)) (some ⟨w.heap.size, 0, none⟩) bs.length 1 (u8s bs) ∧ ∀ k, k = w.heap.size → ¬ F k := by
  subst hC
  refine ⟨⟨by rw [u8s_length, Nat.mul_one], .inr ⟨w.heap.size, 0, rfl, rfl, fun j u hj => ?_⟩⟩, fun k hk e => by have := h.lt k e; omega⟩
  rw [cell_of_row _ w.heap.size _ _ _ _ (heapA_at _ _ _ rfl), Nat.zero_add]
  simpa using hj
/-- []byte of a literal's row: the run-time's mark is laid behind it. -/
theorem conv_mark (w : World) (C : Array Value) (n c : Nat) : (convert 47 47 (.slice (some ⟨w.heap.size, 0, none⟩) n c)).run Try.prog (w.alloc (.cells C 5)) = .ok (.slice (some ⟨w.heap.size, 0, none⟩) n c) (w.alloc (.cells C 5 (C.size, C.size + 1))) := by
  have hsh : (w.alloc (.cells C 5)).shape? w.heap.size = some (5, C.size) := by
    have : (w.alloc (.cells C 5)).heap[w.heap.size]? = some (.cells C 5) := heapA_at _ _ _ rfl
    unfold World.shape?
    rw [this]
  have hfr : ∀ (n : Nat), (w.alloc (.cells C 5)).freeze ⟨w.heap.size, n, none⟩ 1 = w.alloc (.cells C 5 (n, n + 1)) := fun n => by
    have hm : ∀ (a : Array Obj) (x : Obj) (f : Obj → Obj), (a.push x).modify a.size f = a.push (f x) := by
      intro a x f
      apply Array.ext
      · simp
      · intro i h1 h2
        simp only [Array.getElem_modify, Array.getElem_push]
        by_cases h : a.size = i
        · subst h
          simp
        · have hi : i < a.size := by simp at h1; omega
          simp [h, hi]
    unfold World.freeze
    rw [if_neg (by decide)]
    show ({ w.alloc (.cells C 5) with heap := (w.heap.push (.cells C 5)).modify w.heap.size _ } : World) = _
    rw [hm]
    rfl
  simp [convert, run_underlying Try.underlying47, run_underlying Try.underlying5, markStringish, hsh]
  exact hfr _
theorem i64_small {n : Int} (h : -1000000 ≤ n ∧ n ≤ 1000000) : I64 n := ⟨by omega, by omega⟩
/-- Take of bytes that the law writes out. -/
theorem take_lit {w0 w : World} {bx : Nat} {F : Nat → Prop} {size done : Int} {buf : List UInt8} {l : List (Int × Int)} (h : IS w0 w bx F size done buf l) (at_ : Int) (hat : I64 at_) (bs : List UInt8) (C : Array Value) (fr : Nat × Nat) (hC : C = (u8s bs).toArray) (m : Nat) (hm : m = bs.length) (hm2 : m ≤ 1000) (hn : l.length ≤ 1000000) :
    Calls Try.prog 37 #[.pointer (some ⟨bx, 0, none⟩), .int .i64 at_, .slice (some ⟨w.heap.size, 0, none⟩) m m] (w.alloc (.cells C 5 fr)) fun e w' => ∃ F' bk, e = .returned (.int .i64 (takeR size done at_ m l).1) ∧ IS w0 w' bx F' size done bk (takeR size done at_ m l).2 ∧
      Vals done at_ bs buf l (takeR size done at_ m l).2 bk ∧ IMv w w' F F' := by
  subst hm
  obtain ⟨hr, hG⟩ := rd_new h bs C fr hC
  have hu : Upd none_ w (w.alloc (.cells C 5 fr)) := (Upd.refl _ _).alloc _
  refine (take_is (h.keep hu) at_ hat _ _ _ bs hr hG (by omega) (Nat.le_refl _) hn).mono ?_
  rintro e w' ⟨F', bk, q1, q2, q3, q4⟩
  exact ⟨F', bk, q1, q2, q3, (hu.mono (fun _ _ h => h.elim)).trans q4.1, fun k hk => (q4.2 k hk).imp id (fun h => Nat.le_trans hu.size h)⟩

set_option maxRecDepth 20000 in
set_option maxHeartbeats 8000000 in
theorem shown19 (w : World) : Calls Try.prog 34 #[] w fun e w' => e = .returned (.bool true) ∧ Upd none_ w w' := by
  have hcv := conv_mark
  go_enter Try.func34, Try.ntmps34
  go_wp2_with fail
  refine (new_is w w (Upd.refl _ _) 6).mono ?_
  rintro e w1 ⟨bx, F1, rfl, h1, -⟩
  rw [show max 1 (min (6 : Int) 1048576) = 6 by decide] at h1
  go_wp2_with fail
  have c := take_lit h1 2 (i64_small (by omega)) [99, 100] #[.int .u8 99, .int .u8 100] (2, 3) rfl 2 rfl (by decide) (by decide)
  rw [show takeR 6 0 2 2 [] = (2, [(2, 4)]) by decide +kernel] at c
  refine c.mono ?_
  clear c
  rintro e w2 ⟨F2, bk2, rfl, h2, v2, -⟩
  clear h1
  go_wp2_with fail
  refine (here_is h2 (by decide)).mono ?_
  rintro e w3 ⟨rfl, hu3⟩
  have h3 := h2.keep hu3
  rw [show nextL [(2, 4)] 0 = 0 by decide +kernel]
  clear h2 hu3
  go_wp2_with fail
  refine (beyond_is h3 (by decide)).mono ?_
  rintro e w4 ⟨a4, c4, m4, rfl, hm4, ho4, hu4, hk4⟩
  rw [show beyondL [(2, 4)] 0 = [(2, 4)] by decide +kernel] at hm4 ho4
  obtain rfl : m4 = 1 := hm4
  have h4 := h3.keep hu4
  clear h3 hu4
  go_wp2_with fail
  refine (read_is h4 9 (by decide) (by decide) 0 (by decide +kernel)).mono ?_
  rintro e w5 ⟨F5, a5, c5, rfl, -, h5, hm5, -⟩
  have ho5 := hm5.own ho4 hk4
  have hk5 := hk4.mv hm5
  rw [show (0 : Int) + ((0 : Nat) : Int) = 0 by decide, List.drop_zero] at h5
  clear h4 hm5 ho4 hk4
  go_wp2_with fail
  have c := take_lit h5 0 (i64_small (by omega)) [97, 98, 88, 89, 101] #[.int .u8 97, .int .u8 98, .int .u8 88, .int .u8 89, .int .u8 101] (5, 6) rfl 5 rfl (by decide) (by decide)
  rw [show takeR 6 0 0 5 [(2, 4)] = (3, [(0, 5)]) by decide +kernel] at c
  refine c.mono ?_
  clear c
  rintro e w6 ⟨F6, bk6, rfl, h6, v6, hm6⟩
  have ho6 := hm6.own ho5 hk5
  have hk6 := hk5.mv hm6
  have hb3 : bk6.take 3 = [97, 98, 99] := by
    have n0 : InS [((2 : Int), (4 : Int))] 2 := ⟨(2, 4), by simp, by decide, by decide⟩
    have i5 : ∀ n : Int, 0 ≤ n → n < 5 → InS [((0 : Int), (5 : Int))] n := fun n h1 h2 => ⟨(0, 5), by simp, h1, h2⟩
    have i2 : ∀ n : Int, n < 2 → ¬ InS [((2 : Int), (4 : Int))] n := fun n h1 ⟨x, hx, h2, h3⟩ => by simp at hx; subst hx; simp only at h2; omega
    have e0 : bk6[0]? = some 97 := (v6 0 (by decide) (i5 0 (by decide) (by decide))).2 (i2 0 (by decide))
    have e1 : bk6[1]? = some 98 := (v6 1 (by decide) (i5 1 (by decide) (by decide))).2 (i2 1 (by decide))
    have e2 : bk6[2]? = some 99 := ((v6 2 (by decide) (i5 2 (by decide) (by decide))).1 n0).trans ((v2 2 (by decide) n0).2 InS.nil)
    match bk6, e0, e1, e2 with
    | a :: b :: c :: r, e0, e1, e2 =>
      simp at e0 e1 e2
      simp [e0, e1, e2]
  clear h5 hm6 ho5 hk5 v2 v6
  go_wp2_with fail
  refine (read_is h6 3 (by decide) (by decide) 3 (by decide +kernel)).mono ?_
  rintro e w7 ⟨F7, a7, c7, rfl, hs7, h7, hm7, hks7⟩
  have ho7 := hm7.own ho6 hk6
  have hk7 := hk6.mv hm7
  rw [hb3] at hs7
  rw [show (0 : Int) + ((3 : Nat) : Int) = 3 by decide] at h7
  clear h6 hm7 ho6 hk6 hb3
  go_wp2_with fail
  refine (limit_is h7).mono ?_
  rintro e w8 ⟨rfl, hu8⟩
  have h8 := h7.keep hu8
  have ho8 := hu8.own ho7 (fun _ _ => id)
  have hs8 := hu8.own hs7 (fun _ _ => id)
  have hk8 := hk7.upd hu8
  have hks8 := hks7.upd hu8
  rw [show (3 : Int) + 6 = 9 by decide]
  clear h7 hu8 ho7 hs7 hk7 hks7
  go_wp2_with fail
  have c := take_lit h8 8 (i64_small (by omega)) [122, 122] #[.int .u8 122, .int .u8 122] (2, 3) rfl 2 rfl (by decide) (by decide)
  rw [show takeR 6 3 8 2 [(0, 5)] = (1, [(0, 5), (8, 9)]) by decide +kernel] at c
  refine c.mono ?_
  clear c
  rintro e w9 ⟨F9, bk9, rfl, h9, -, hm9⟩
  have ho9 := hm9.own ho8 hk8
  have hs9 := hm9.own hs8 hks8
  have hk9 := hk8.mv hm9
  have hks9 := hks8.mv hm9
  clear h8 hm9 ho8 hs8 hk8 hks8
  go_wp2_with fail
  have c := take_lit h9 0 (i64_small (by omega)) [97, 98, 99] #[.int .u8 97, .int .u8 98, .int .u8 99] (3, 4) rfl 3 rfl (by decide) (by decide)
  rw [show takeR 6 3 0 3 [(0, 5), (8, 9)] = (0, [(0, 5), (8, 9)]) by decide +kernel] at c
  refine c.mono ?_
  clear c
  rintro e w10 ⟨F10, bk10, rfl, h10, -, hm10⟩
  have ho10 := hm10.own ho9 hk9
  have hs10 := hm10.own hs9 hks9
  clear h9 hm10 ho9 hs9 hk9 hks9
  obtain ⟨gb, rfl, -, hcb, -⟩ := own_at2 ho10 (by decide)
  have b1 := hcb 0 (.int .i64 2) rfl
  have b2 := hcb 1 (.int .i64 4) rfl
  have hst := run_str w10 _ a7 c7 [97, 98, 99] (rd_own' hs10).2
  have hst2 : (convert 47 9 (.slice a7 3 c7)).run Try.prog w10 = .ok (.string ⟨#[97, 98, 99]⟩) w10 := hst
  have HU := hide h10.upd
  have hhe := held_is h10 (by decide)
  rw [show tot [((0 : Int), (5 : Int)), (8, 9)] - 3 = 3 by decide +kernel] at hhe
  clear h10 ho10 hs10 hcb hst
  go_wp2_with (go_at_call 39; refine hhe.mono ?_; rintro e w11 ⟨rfl, hu11⟩; have HU11 := hide hu11; clear hu11)
  go_ret
  exact ⟨rfl, HU.out.trans HU11.out⟩
end Go.Proofs.Ytjjiemicacbmaaa

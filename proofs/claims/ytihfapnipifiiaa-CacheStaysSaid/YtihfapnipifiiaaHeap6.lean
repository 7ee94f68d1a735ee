/- The walk of container/heap's Remove. -/
import Derived.Test.YtihfapnipifiiaaHeap5
namespace Go.Proofs.Ytihfapnipifiiaa
open Go Go.RowKit Go.Shelf

/-- What 'Remove' makes of a row ahead of its last step. -/
def remL (its : List It) (i : Nat) : List It :=
  if i = its.length - 1 then its
  else if i < (downL (swapL its i (its.length - 1)) i (its.length - 1)).2 then (downL (swapL its i (its.length - 1)) i (its.length - 1)).1
  else upL (downL (swapL its i (its.length - 1)) i (its.length - 1)).1 i
theorem remL_perm (its : List It) (i : Nat) : (remL its i).Perm its := by
  unfold remL
  split
  · exact List.Perm.refl _
  · split
    · exact (downL_perm _ _ _ _ rfl).trans (swapL_perm _ _ _)
    · exact (upL_perm _ _).trans ((downL_perm _ _ _ _ rfl).trans (swapL_perm _ _ _))

theorem split_last {l : List It} (h : 0 < l.length) : ∃ a x, l = a ++ [x] := ⟨l.dropLast, l.getLast (by intro e; rw [e] at h; simp at h), (List.dropLast_concat_getLast _).symm⟩

set_option maxRecDepth 100000 in
set_option maxHeartbeats 1000000 in
theorem heapRemove_any (base : Nat) (v : Value) (i : Nat) (sa : Addr) (its : List It) (w : World) (h : Stale w base sa v its) (hi : i < its.length) (hlen : its.length ≤ 1099511627776) :
    Calls Try.prog 93 #[.iface 106 (.pointer (some sa)), .int .i64 i] w fun e w' => (∃ u, e = .returned u) ∧
      ∃ v', Stale w' base sa v' (remL its i).dropLast ∧ ModS (staleS sa v its) w w' ∧ v'.ownBlock = v.ownBlock ∧ SaBlk w w' sa v' := by
  obtain ⟨h1, h2, h3, h4, h5⟩ := h
  obtain ⟨g, cap, rfl, hb, hr⟩ : ∃ g cap, v = .slice (some ⟨g, 0, none⟩) its.length cap ∧ base ≤ g ∧ HeapRow w g cap its := by
    rcases h3 with ⟨_, h⟩ | h
    · subst h; simp at hi
    · exact h
  have ml := method_val find_len sa _ _ _ w h1
  have hnS : ¬ heapS g its sa.block := by
    rintro (h | h)
    · omega
    · exact h4 h
  obtain ⟨n, hn⟩ : ∃ n, n = its.length - 1 := ⟨_, rfl⟩
  have hn1 : its.length = n + 1 := by omega
  -- the last step, from whatever row stands there
  have last : ∀ (xs : List It) (wr : World), xs.Perm its → HeapRow wr g cap xs → ModS (heapS g its) w wr → xs = remL its i →
      Calls Try.prog 160 #[.pointer (some sa)] wr fun e w' => (∃ u, e = .returned u) ∧ ∃ v', Stale w' base sa v' (remL its i).dropLast ∧ ModS (staleS sa (.slice (some ⟨g, 0, none⟩) its.length cap) its) w w' ∧ v'.ownBlock = (Value.slice (some ⟨g, 0, none⟩) its.length cap).ownBlock ∧ SaBlk w w' sa v' := by
    intro xs wr hp hr' hm hx
    obtain ⟨ys, y, rfl⟩ := split_last (l := xs) (by rw [hp.length_eq]; omega)
    have hl : its.length = ys.length + 1 := by rw [← hp.length_eq]; simp
    have hmem : sa.block ∉ (ys ++ [y]).map It.blk := fun h => h4 (((hp.map It.blk).mem_iff).1 h)
    refine (hpop_any base g cap sa ys y wr hr' hb ((hm.cell h1 hnS).trans (by rw [hl])) ((hm.frozen (blk_of_cell h1) hnS).trans h2) (by omega) hmem).mono ?_
    rintro e w' ⟨rfl, c, f, hr2, m2, sb⟩
    refine ⟨⟨_, rfl⟩, _, ⟨c, f, .inr ⟨g, cap, ?_, hb, ?_⟩, ?_, h5⟩, ?_, rfl, sb.before (hm.block _ (blk_of_cell h1) hnS)⟩
    · rw [← hx]; simp
    · rw [← hx]; simpa using hr2
    · rw [← hx]; simp only [List.dropLast_concat]; intro h; apply hmem; rw [List.map_append, List.mem_append]; exact .inl h
    · refine (hm.mono ?_).trans (m2.mono ?_)
      · rintro k (h | h)
        · exact .inr (.inl (by rw [h]; rfl))
        · exact .inr (.inr h)
      · rintro k h; exact .inl h
  have Last := Lib.hid last
  have HR := Lib.hid hr
  have H1 := Lib.hid h1
  have Hn := Lib.hid hn
  have Hn1 := Lib.hid hn1
  have mp := method_ptr find_pop sa
  have hnb : n ≤ 1099511627776 := by omega
  have hib : i ≤ 1099511627776 := by omega
  rw [hn1] at ml
  clear last hr h3 hn
  go_enter Try.func93, Try.ntmps93
  clear hn1
  go_wp2_with fail
  refine (hlen_any _ _ _ _).mono ?_
  rintro e w1 ⟨rfl, rfl⟩
  by_cases hin : i = n
  · subst hin
    go_wp2_with fail
    refine (Last.out its _ (List.Perm.refl _) HR.out (ModS.refl _ _) (by unfold remL; rw [if_pos Hn.out])).mono ?_
    rintro e w2 ⟨⟨u, rfl⟩, v', s2, m2, o2, sb2⟩
    go_wp2
    go_ret
    exact ⟨⟨_, rfl⟩, v', s2, m2, o2, sb2⟩
  · have hb1 : ((n : Int) != (i : Int)) = true := by rw [bne_iff_ne]; omega
    have ms := method_val find_swap sa _ _ _ w H1.out
    go_wp2_with fail
    refine (hswap_any g cap i n its w HR.out hi (by have := Hn1.out; omega) hin).mono ?_
    rintro e w2 ⟨rfl, r2, m2⟩
    have hp2 := swapL_perm its i n
    have c2 := m2.cell H1.out hnS
    have R2 := Lib.hid r2
    have M2 := Lib.hid m2
    clear r2 m2
    generalize hX : swapL its i n = xs at *
    have HX := Lib.hid hX
    have hS2 : ¬ heapS g xs sa.block := fun h => hnS (heapS_perm hp2 _ h)
    have hxl : xs.length = its.length := hp2.length_eq
    have Hxl := Lib.hid hxl
    clear hX hxl
    go_wp2_with fail
    refine (hdown_any g cap i n sa xs w2 R2.out (by rw [Hxl.out, Hn1.out]; omega) (by rw [Hxl.out]; exact hi) (by rw [Hxl.out]; exact hlen) (by rw [Hxl.out]; exact c2) hS2).mono ?_
    rintro e w3 ⟨rfl, r3, m3⟩
    have hp3 := (downL_perm (n - i) i n xs rfl).trans hp2
    have hm3 : ModS (heapS g its) w w3 := M2.out.trans (m3.mono (fun k hk => heapS_perm hp2 k hk))
    have c3 := hm3.cell H1.out hnS
    generalize hY : (downL xs i n).1 = ys at *
    generalize hK : (downL xs i n).2 = k at *
    have HY := Lib.hid hY
    have HK := Lib.hid hK
    have R3 := Lib.hid r3
    clear hY hK r3 m3
    by_cases hik : i < k
    · have hd : decide (i < k) = true := decide_eq_true hik
      have Hik := Lib.hid hik
      clear hik
      go_wp2_with fail
      refine (Last.out ys w3 hp3 R3.out hm3 (by unfold remL; rw [if_neg (by rw [← Hn.out]; exact hin), ← Hn.out, HX.out, HK.out, if_pos Hik.out, HY.out])).mono ?_
      rintro e w4 ⟨⟨u, rfl⟩, v', s4, m4, o4, sb4⟩
      go_wp2
      go_ret
      exact ⟨⟨_, rfl⟩, v', s4, m4, o4, sb4⟩
    · have hd : decide (i < k) = false := decide_eq_false hik
      have Hik := Lib.hid hik
      clear hik
      have hyl : ys.length = its.length := hp3.length_eq
      have Hyl := Lib.hid hyl
      have hS3 : ¬ heapS g ys sa.block := fun h => hnS (heapS_perm hp3 _ h)
      clear hyl
      go_wp2_with fail
      refine (hup_any g cap i sa ys w3 R3.out (by rw [Hyl.out]; exact hi) (by rw [Hyl.out]; exact c3) hS3).mono ?_
      rintro e w4 ⟨rfl, r4, m4⟩
      have hp4 := (upL_perm i ys).trans hp3
      have hm4 : ModS (heapS g its) w w4 := hm3.trans (m4.mono (fun k hk => heapS_perm hp3 k hk))
      have R4 := Lib.hid r4
      clear r4 m4
      go_wp2_with fail
      refine (Last.out (upL ys i) w4 hp4 R4.out hm4 (by unfold remL; rw [if_neg (by rw [← Hn.out]; exact hin), ← Hn.out, HX.out, HK.out, if_neg (by have := Hik.out; omega), HY.out])).mono ?_
      rintro e w5 ⟨⟨u, rfl⟩, v', s5, m5, o5⟩
      go_wp2
      go_ret
      exact ⟨⟨_, rfl⟩, v', s5, m5, o5⟩
end Go.Proofs.Ytihfapnipifiiaa

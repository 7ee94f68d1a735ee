/- What calls of a cache do, told by the list of its entries, from the one that was used longest ago on. Plain facts on the statements' own entries: an A of a name of one letter. -/
import Derived.Test.YtihfapnipifiiaaPut
set_option linter.unusedVariables false
set_option linter.unusedSimpArgs false
/- What calls of a cache do, told by the list of its entries, from the one that was used longest ago on. -/
namespace Go.Proofs.Ytihfapnipifiiaa
open Go Go.RowKit Go.Shelf

theorem RecsOwn.below {W W' : World} {b : Nat} {v : Value} {rs : List RRec} (h : RecsOwn W b v rs) (hb : Below W.heap.size W W') : RecsOwn W' b v rs :=
  h.same (fun k _ _ hc => hb.block k (Array.getElem?_eq_some_iff.1 hc).1)

/-- What a cache has, by use. -/
def Ca.L (c : Ca) : List Ent := c.ord.map It.ent
theorem CaAt.lenL {W : World} {c : Ca} (h : CaAt W c) : c.L.length = c.its.length := by unfold Ca.L; rw [List.length_map, h.len]
theorem CaAt.keysL {W : World} {c : Ca} (h : CaAt W c) : (c.L.map Ent.key).Nodup := by
  unfold Ca.L
  rw [List.map_map]
  rcases h.map with ⟨_, e⟩ | ⟨mb, _, _, hm⟩
  · have hp := h.perm
    rw [e] at hp
    rw [List.Perm.eq_nil hp]; exact List.nodup_nil
  · exact (h.perm.map (Ent.key ∘ It.ent)).nodup_iff.2 hm.nodup

/-- What is told of a key. -/
def getE (k : List UInt8) (now : Int) (L : List Ent) : Option Ent := L.find? (fun e => e.key == k && decide (now ≤ e.til))
def getL (k : List UInt8) (now : Int) (L : List Ent) : List Ent := match getE k now L with
  | none => L
  | some e => L.filter (fun y => y.key != k) ++ [e]
theorem getE_none {k : List UInt8} {now : Int} {L : List Ent} (h : ∀ x ∈ L, x.key = k → x.til < now) : getE k now L = none := by
  unfold getE
  rw [List.find?_eq_none]
  intro x hx
  by_cases e : x.key = k
  · have := h x hx e
    simp; intro _; omega
  · simp [e]
theorem getE_some {k : List UInt8} {now : Int} {L : List Ent} (hn : (L.map Ent.key).Nodup) {x : Ent} (hx : x ∈ L) (hk : x.key = k) (ht : now ≤ x.til) : getE k now L = some x := by
  unfold getE
  induction L with
  | nil => cases hx
  | cons y L ih =>
    rw [List.map_cons, List.nodup_cons] at hn
    rcases List.mem_cons.1 hx with rfl | hx
    · rw [List.find?_cons_of_pos (by simp [hk, ht])]
    · have : y.key ≠ k := fun e => hn.1 (List.mem_map.2 ⟨x, hx, hk.trans e.symm⟩)
      rw [List.find?_cons_of_neg (by simp [this])]
      exact ih hn.2 hx
/-- What a call of Get or of Name does. -/
def ToldL (w : World) (c : Ca) (k : List UInt8) (now : Int) (r : Ending) (w' : World) : Prop :=
  ∃ c' rv', After w c w' c' ∧ c.uses ≤ c'.uses ∧ c'.uses ≤ c.uses + 1 ∧ c'.L = getL k now c.L ∧ r = .returned (.tuple #[((getE k now c.L).getD zeroE).val rv', .bool (getE k now c.L).isSome]) ∧ RecsOwn w' w.heap.size rv' ((getE k now c.L).getD zeroE).recs ∧ ∀ k, c'.own k → c.own k
theorem Told.L {w w' : World} {c : Ca} {k : List UInt8} {now : Int} {r : Ending} (h : CaAt w c) (ht : Told w c k now r w') : ToldL w c k now r w' := by
  rcases ht with ⟨hno, hr, hB⟩ | ⟨x, hx, hk, hn, rv', hr, ho, hca, hm⟩
  · have hg : getE k now c.L = none := getE_none (fun y hy => by
      obtain ⟨x, hx, rfl⟩ := List.mem_map.1 hy
      exact hno x hx)
    refine ⟨c, .slice none 0 0, After.below h hB, Int.le_refl _, by omega, by unfold getL; rw [hg], by rw [hg]; exact hr, by rw [hg]; exact ⟨rfl, .inl ⟨rfl, rfl⟩⟩, fun _ hk => hk⟩
  · have hg : getE k now c.L = some x.ent := getE_some h.keysL (List.mem_map.2 ⟨x, hx, rfl⟩) hk hn
    refine ⟨c.use x, rv', ⟨hca, rfl, rfl, hm, fun k hk => .inl (use_own hk)⟩, by show c.uses ≤ c.uses + 1; omega, by show c.uses + 1 ≤ c.uses + 1; omega, ?_, by rw [hg]; exact hr, by rw [hg]; exact ho, fun _ hk => use_own hk⟩
    unfold getL; rw [hg]
    show (c.ord.filter (fun (y : It) => y.blk != x.blk) ++ [{ x with used := c.uses + 1 }]).map It.ent = (c.ord.map It.ent).filter (fun (y : Ent) => y.key != k) ++ [x.ent]
    rw [List.map_append, filter_key h (h.perm.mem_iff.1 hx), hk, List.filter_map]
    rfl

/-- Does a put go through? -/
def putB (e : Ent) (now : Int) (L : List Ent) : Bool := decide (cchk e = 0) && decide (now ≤ e.til) && !(L.any fun x => x.key == e.key && decide (now ≤ x.til) && decide (e.rank < x.rank))
def putR (most now : Int) (e : Ent) (L : List Ent) : List Ent := if putB e now L = true then putL most now e L else L
theorem putOk_L (c : Ca) (e : Ent) (now : Int) : putOk c e now = putB e now c.L := by
  unfold putOk putB Ca.L
  rw [List.any_map]
  rfl
/-- What a call of Put does. -/
def PutL (w : World) (c : Ca) (e : Ent) (now : Int) (r : Ending) (w' : World) : Prop :=
  ∃ c', r = .returned (.bool (putB e now c.L)) ∧ After w c w' c' ∧ c.uses ≤ c'.uses ∧ c'.uses ≤ c.uses + 1 ∧ c'.L = putR c.most now e c.L
theorem Putted.L {w w' : World} {c : Ca} {e : Ent} {now : Int} {r : Ending} (h : Putted w c e now r w') : PutL w c e now r w' := by
  obtain ⟨c', hr, ha, h1, h2, h3⟩ := h
  rw [putOk_L] at hr h3
  exact ⟨c', hr, ha, h1, h2, h3⟩

/-- A cache of a law's own: all that is its own lies from B on; so many calls were made; nothing below B has turned. -/
structure Mine (B : Nat) (w0 : World) (b : Nat) (most : Int) (n : Nat) (L : List Ent) (w : World) (c : Ca) : Prop where
  at' : CaAt w c
  own : ∀ k, c.own k → B ≤ k
  cb : c.cb = b
  most : c.most = most
  eqL : c.L = L
  lo : 0 ≤ c.uses
  hi : c.uses ≤ n
  few : L.length ≤ n
  below : Below B w0 w
  size : B ≤ w.heap.size
variable {B b : Nat} {w0 w w1 w' : World} {most : Int} {n : Nat} {L : List Ent} {c c' : Ca}
theorem Mine.after {L' : List Ent} (h : Mine B w0 b most n L w c) (a : After w c w' c') (u1 : c.uses ≤ c'.uses) (u2 : c'.uses ≤ c.uses + 1) (hL : c'.L = L') (hf : L'.length ≤ L.length + 1) : Mine B w0 b most (n + 1) L' w' c' where
  at' := a.at'
  own := fun k hk => (a.own k hk).elim (h.own k) (fun e => by have := h.size; omega)
  cb := a.cb.trans h.cb
  most := a.most.trans h.most
  eqL := hL
  lo := by have := h.lo; omega
  hi := by have := h.hi; omega
  few := by have := h.few; omega
  below := ModS.below_of h.below a.mod h.size (fun k hk => h.own k hk)
  size := by have := h.size; have := a.mod.size; omega
theorem Mine.turn (h : Mine B w0 b most n L w c) {S : Nat → Prop} (m : ModS S w w') (hS : ∀ k, S k → B ≤ k ∧ ¬ c.own k) : Mine B w0 b most n L w' c where
  at' := h.at'.same (fun k hk => m.block k (h.at'.own_lt hk).2 (fun e => (hS k e).2 hk))
  own := h.own
  cb := h.cb
  most := h.most
  eqL := h.eqL
  lo := h.lo
  hi := h.hi
  few := h.few
  below := ModS.below_of h.below m h.size (fun k hk => (hS k hk).1)
  size := by have := h.size; have := m.size; omega
theorem Mine.step (h : Mine B w0 b most n L w c) (hb : Below w.heap.size w w') : Mine B w0 b most n L w' c :=
  h.turn (S := fun _ => False) ⟨hb.os, hb.tape, hb.output, hb.size, fun k hk _ => hb.block k hk⟩ (fun _ hk => hk.elim)
theorem Mine.far (h : Mine B w0 b most n L w c) {k : Nat} (hk : w.heap.size ≤ k) : ¬ c.own k := fun e => by have := (h.at'.own_lt e).2; omega
theorem Mine.keys (h : Mine B w0 b most n L w c) : (L.map Ent.key).Nodup := by rw [← h.eqL]; exact h.at'.keysL
theorem Mine.len (h : Mine B w0 b most n L w c) : c.its.length = L.length := by rw [← h.eqL, h.at'.lenL]

theorem getL_len {k : List UInt8} {now : Int} {L : List Ent} (hn : (L.map Ent.key).Nodup) : (getL k now L).length = L.length := by
  unfold getL
  cases hg : getE k now L with
  | none => rfl
  | some e =>
    have h1 := List.mem_of_find?_eq_some hg
    have h2 := List.find?_some hg
    simp only [Bool.and_eq_true, beq_iff_eq] at h2
    obtain ⟨s, t, rfl⟩ := List.append_of_mem h1
    rw [List.map_append, List.map_cons, List.nodup_append] at hn
    obtain ⟨n1, n2, n3⟩ := hn
    rw [List.nodup_cons] at n2
    have f : ∀ l : List Ent, e.key ∉ l.map Ent.key → l.filter (fun y => y.key != k) = l := by
      intro l hl
      rw [List.filter_eq_self]
      intro y hy
      rw [← h2.1, bne_iff_ne]
      exact fun q => hl (List.mem_map.2 ⟨y, hy, q⟩)
    show ((s ++ e :: t).filter (fun y => y.key != k) ++ [e]).length = _
    rw [List.filter_append, List.filter_cons_of_neg (by simp [h2.1]), f s (fun q => n3 _ q _ (List.mem_cons_self) rfl), f t n2.1]
    simp
theorem putL_len (most now : Int) (e : Ent) (L : List Ent) : (putL most now e L).length ≤ L.length + 1 := by
  have h1 : (put1 e L).length ≤ L.length + 1 := by
    unfold put1
    have := List.length_filter_le (fun y : Ent => y.key != e.key) L
    simp; omega
  have h2 : ∀ M : List Ent, (put2 most now M).length ≤ M.length := by
    intro M; unfold put2; split
    · exact List.length_filter_le _ _
    · exact Nat.le_refl _
  have h3 : ∀ M : List Ent, (put3 most M).length ≤ M.length := by
    intro M; unfold put3; split
    · simp
    · exact Nat.le_refl _
  have := h2 (put1 e L)
  have := h3 (put2 most now (put1 e L))
  unfold putL; omega
theorem putR_len (most now : Int) (e : Ent) (L : List Ent) : (putR most now e L).length ≤ L.length + 1 := by
  unfold putR; split
  · exact putL_len _ _ _ _
  · omega

/-- A block that is none of the cache's lies still. -/
theorem After.still (a : After w c w' c') {k : Nat} (hk : k < w.heap.size) (hn : ¬ c.own k) : w'.heap[k]? = w.heap[k]? ∧ ¬ c'.own k ∧ k < w'.heap.size :=
  ⟨a.mod.block k hk hn, fun e => (a.own k e).elim hn (fun h => by omega), by have := a.mod.size; omega⟩
/-- Records in a row that is none of the cache's lie still behind a call. -/
theorem RecsOwn.past {S : Nat} {rv : Value} {rs : List RRec} (ho : RecsOwn w S rv rs) (a : After w c w' c') (hn : ∀ k, rv.ownBlock = some k → ¬ c.own k) : RecsOwn w' S rv rs ∧ ∀ k, rv.ownBlock = some k → ¬ c'.own k := by
  refine ⟨ho.same (fun k cur hk hc => a.mod.block k (Array.getElem?_eq_some_iff.1 hc).1 (hn k hk)), fun k hk => ?_⟩
  obtain ⟨_, cur, hc⟩ := own_cells ho k hk
  exact (a.still (Array.getElem?_eq_some_iff.1 hc).1 (hn k hk)).2.1
/-- Put, at a cache of a law's own. -/
theorem put_mine' (h : Mine B w0 b most n L w c) (e : Ent) (rv : Value) (now : Int) (w1 : World) (a : Value) (ha : a = e.val rv) {ok : Bool} (hok : putB e now L = ok) (hb : Below w.heap.size w w1) (he : EntIn e) (hrv : RecsAt w1 rv e.recs) (hro : ∀ k, rv.ownBlock = some k → ¬ c.own k) (hn : n < 1000000) :
    Calls Try.prog 20 #[.pointer (some ⟨b, 0, none⟩), a, .int .i64 now] w1 fun r w' => r = .returned (.bool ok) ∧ ∃ c', Mine B w0 b most (n + 1) (putR most now e L) w' c' ∧ After w1 c w' c' := by
  subst ha
  have h1 := h.step hb
  have hlen := h.len
  have hf := h.few
  have hl := h.lo
  have hh := h.hi
  have hp := put_any c e rv now w1 h1.at' he hrv hro ⟨by omega, by omega⟩ (by omega)
  rw [h.cb] at hp
  refine hp.mono ?_
  intro r w' hq
  obtain ⟨c', rfl, ha, u1, u2, hL⟩ := hq.L
  rw [h.eqL] at hL ⊢
  rw [h.most] at hL
  exact ⟨by rw [hok], c', h1.after ha u1 u2 hL (putR_len _ _ _ _), ha⟩
theorem put_mine (h : Mine B w0 b most n L w c) (e : Ent) (rv : Value) (now : Int) (w1 : World) (a : Value) (ha : a = e.val rv) {ok : Bool} (hok : putB e now L = ok) {S : Nat} (hb : Below w.heap.size w w1) (he : EntIn e) (hrv : RecsOwn w1 S rv e.recs) (hS : w.heap.size ≤ S) (hn : n < 1000000) :
    Calls Try.prog 20 #[.pointer (some ⟨b, 0, none⟩), a, .int .i64 now] w1 fun r w' => r = .returned (.bool ok) ∧ ∃ c', Mine B w0 b most (n + 1) (putR most now e L) w' c' ∧ After w1 c w' c' :=
  put_mine' h e rv now w1 a ha hok hb he hrv.at (fun k hk q => by have := (own_cells hrv k hk).1; have := (h.at'.own_lt q).2; omega) hn
/-- Get, at a cache of a law's own. -/
theorem get_mine (h : Mine B w0 b most n L w c) (nm : ByteArray) (t q : Int) (now : Int) (w1 : World) (hb : Below w.heap.size w w1) (hs : nm.size ≤ 1048576) (t0 : 0 ≤ t) (t1 : t ≤ 65535) (q0 : 0 ≤ q) (q1 : q ≤ 65535) (hn : n < 1000000) :
    Calls Try.prog 22 #[.pointer (some ⟨b, 0, none⟩), .string nm, .int .u16 t, .int .u16 q, .int .i64 now] w1 fun r w' => ∃ c' rv', Mine B w0 b most (n + 1) (getL (keyL 0 (lst nm) t q) now L) w' c' ∧ (After w1 c w' c' ∧ ∀ k, c'.own k → c.own k) ∧
      r = .returned (.tuple #[((getE (keyL 0 (lst nm) t q) now L).getD zeroE).val rv', .bool (getE (keyL 0 (lst nm) t q) now L).isSome]) ∧ RecsOwn w' w1.heap.size rv' ((getE (keyL 0 (lst nm) t q) now L).getD zeroE).recs := by
  have h1 := h.step hb
  have hl := h.lo
  have hh := h.hi
  have hp := get_any c nm t q now w1 h1.at' ⟨by omega, by omega⟩ hs t0 t1 q0 q1
  rw [h.cb] at hp
  refine hp.mono ?_
  intro r w' hq
  obtain ⟨c', rv', ha, u1, u2, hL, hr, ho, hown⟩ := hq.L h1.at'
  rw [h.eqL] at hL hr ho
  exact ⟨c', rv', h1.after ha u1 u2 hL (by rw [getL_len h.keys]; omega), ⟨ha, hown⟩, hr, ho⟩
theorem name_mine (h : Mine B w0 b most n L w c) (nm : ByteArray) (q : Int) (now : Int) (w1 : World) (hb : Below w.heap.size w w1) (hs : nm.size ≤ 1048576) (q0 : 0 ≤ q) (q1 : q ≤ 65535) (hn : n < 1000000) :
    Calls Try.prog 25 #[.pointer (some ⟨b, 0, none⟩), .string nm, .int .u16 q, .int .i64 now] w1 fun r w' => ∃ c' rv', Mine B w0 b most (n + 1) (getL (keyL 1 (lst nm) 0 q) now L) w' c' ∧ (After w1 c w' c' ∧ ∀ k, c'.own k → c.own k) ∧
      r = .returned (.tuple #[((getE (keyL 1 (lst nm) 0 q) now L).getD zeroE).val rv', .bool (getE (keyL 1 (lst nm) 0 q) now L).isSome]) ∧ RecsOwn w' w1.heap.size rv' ((getE (keyL 1 (lst nm) 0 q) now L).getD zeroE).recs := by
  have h1 := h.step hb
  have hl := h.lo
  have hh := h.hi
  have hp := name_any c nm q now w1 h1.at' ⟨by omega, by omega⟩ hs q0 q1
  rw [h.cb] at hp
  refine hp.mono ?_
  intro r w' hq
  obtain ⟨c', rv', ha, u1, u2, hL, hr, ho, hown⟩ := hq.L h1.at'
  rw [h.eqL] at hL hr ho
  exact ⟨c', rv', h1.after ha u1 u2 hL (by rw [getL_len h.keys]; omega), ⟨ha, hown⟩, hr, ho⟩
theorem get_some (h : Mine B w0 b most n L w c) (nm : ByteArray) (t q : Int) (now : Int) (w1 : World) {e : Ent} {k : List UInt8} (hk : keyL 0 (lst nm) t q = k) (hg : getE k now L = some e) (hb : Below w.heap.size w w1) (hs : nm.size ≤ 1048576) (t0 : 0 ≤ t) (t1 : t ≤ 65535) (q0 : 0 ≤ q) (q1 : q ≤ 65535) (hn : n < 1000000) :
    Calls Try.prog 22 #[.pointer (some ⟨b, 0, none⟩), .string nm, .int .u16 t, .int .u16 q, .int .i64 now] w1 fun r w' => ∃ c' rv', Mine B w0 b most (n + 1) (getL k now L) w' c' ∧ (After w1 c w' c' ∧ ∀ k, c'.own k → c.own k) ∧
      r = .returned (.tuple #[e.val rv', .bool true]) ∧ RecsOwn w' w1.heap.size rv' e.recs := by
  subst hk
  refine (get_mine h nm t q now w1 hb hs t0 t1 q0 q1 hn).mono ?_
  rintro r w' ⟨c', rv', h1, h2, h3, h4⟩
  rw [hg] at h3 h4
  exact ⟨c', rv', h1, h2, h3, h4⟩
theorem get_none (h : Mine B w0 b most n L w c) (nm : ByteArray) (t q : Int) (now : Int) (w1 : World) {k : List UInt8} (hk : keyL 0 (lst nm) t q = k) (hg : getE k now L = none) (hb : Below w.heap.size w w1) (hs : nm.size ≤ 1048576) (t0 : 0 ≤ t) (t1 : t ≤ 65535) (q0 : 0 ≤ q) (q1 : q ≤ 65535) (hn : n < 1000000) :
    Calls Try.prog 22 #[.pointer (some ⟨b, 0, none⟩), .string nm, .int .u16 t, .int .u16 q, .int .i64 now] w1 fun r w' => ∃ c' rv', Mine B w0 b most (n + 1) L w' c' ∧ (After w1 c w' c' ∧ ∀ k, c'.own k → c.own k) ∧
      r = .returned (.tuple #[zeroE.val rv', .bool false]) ∧ RecsOwn w' w1.heap.size rv' zeroE.recs := by
  subst hk
  refine (get_mine h nm t q now w1 hb hs t0 t1 q0 q1 hn).mono ?_
  rintro r w' ⟨c', rv', h1, h2, h3, h4⟩
  unfold getL at h1
  rw [hg] at h1 h3 h4
  exact ⟨c', rv', h1, h2, h3, h4⟩
theorem len_mine (h : Mine B w0 b most n L w c) (w1 : World) (hb : Below w.heap.size w w1) :
    Calls Try.prog 23 #[.pointer (some ⟨b, 0, none⟩)] w1 fun r w' => r = .returned (.int .i64 L.length) ∧ w1 = w' := by
  have hp := len_any c w1 (h.step hb).at'
  rw [h.cb, h.len] at hp
  exact hp
theorem new_mine (k : Int) (w1 : World) {w : World} (hb : Below w.heap.size w w1) :
    Calls Try.prog 19 #[.int .i64 k] w1 fun r w' => r = .returned (.pointer (some ⟨w1.heap.size, 0, none⟩)) ∧ Below w1.heap.size w1 w' ∧ Mine w.heap.size w w1.heap.size (capOf k) 0 [] w' (Ca.new w1.heap.size (capOf k)) := by
  refine (new_any k w1).mono ?_
  rintro r w' ⟨rfl, h1, h2⟩
  have hz := hb.size
  have hz2 := h2.size
  refine ⟨rfl, h2, h1, ?_, rfl, rfl, rfl, Int.le_refl _, Int.le_refl _, Nat.le_refl _, hb.trans (h2.mono hz), by omega⟩
  rintro k (e | e | e | e | ⟨x, hx, _⟩)
  · have e' : k = w1.heap.size := e
    omega
  · cases e
  · cases e
  · cases e
  · cases hx
end Go.Proofs.Ytihfapnipifiiaa
/- Plain facts on the statements' own entries: an A of a name of one letter. -/
namespace Go.Proofs.Ytihfapnipifiiaa
open Go Go.RowKit Go.Shelf

/-- An A of a name of one letter. -/
def rrE (b : UInt8) : RRec := ⟨[1, b, 0], 1, 1, 0, [1, 2, 3, 4]⟩
def entE (b : UInt8) (til rank source : Int) : Ent := ⟨1, [1, b, 0], 1, 1, [rrE b], til, rank, 0, source⟩

theorem lab_one (b : UInt8) : lab [1, b, 0] = some [[b]] := by
  rw [lab, if_neg (by simp), if_neg (by simp)]
  show Option.map _ (lab ([b, 0].drop 1)) = _
  show Option.map _ (lab [0]) = _
  rw [lab, if_pos rfl, if_pos rfl]
  rfl
theorem chk_one (b : UInt8) : chk [1, b, 0] = 0 := chk_ok (lab_one b) (by simp)
theorem same_one (b : UInt8) : sameN [1, b, 0] [1, b, 0] = true := by unfold sameN; rw [chk_one]; simp
theorem rchk_one (b : UInt8) : rchk [1, b, 0] 1 [1, 2, 3, 4] = 0 := by
  unfold rchk
  rw [chk_one, if_neg (by simp), if_neg (by decide)]
  rfl
theorem cchk_one (b : UInt8) {til rank source : Int} (h0 : 0 ≤ til) (h1 : til ≤ 1125899906842624) (r0 : 1 ≤ rank) (r1 : rank ≤ 4) : cchk (entE b til rank source) = 0 := by
  have e1 : headOk (entE b til rank source) = true := by
    unfold headOk within entE
    dsimp only
    rw [chk_one, decide_eq_true h0, decide_eq_true h1, decide_eq_true r0, decide_eq_true r1]
    simp
  have e2 : lenOk (entE b til rank source) = true := by
    unfold lenOk within entE
    dsimp only [List.length_cons, List.length_nil]
    simp
  have e3 : (entE b til rank source).recs.all (recOk (entE b til rank source)) = true := by
    show ([rrE b].all (recOk (entE b til rank source))) = true
    rw [List.all_cons, List.all_nil, Bool.and_true]
    unfold recOk mayR entE rrE
    dsimp only
    rw [rchk_one, same_one]
    simp
  unfold cchk
  rw [e1, e2, e3]; rfl
theorem key_one' (b : UInt8) (til rank source : Int) : (entE b til rank source).key = keyL 0 [1, b, 0] 1 1 := by
  unfold Ent.key
  exact if_neg (show ¬ ((1 : Int) = 3) by decide)
theorem keyL_one {a b : UInt8} : keyL 0 [1, a, 0] 1 1 = keyL 0 [1, b, 0] 1 1 ↔ lowB a = lowB b := by
  unfold keyL low
  constructor
  · intro h
    have h1 : (([0] ++ [1, a, 0].map lowB ++ two8 1 ++ two8 1) : List UInt8)[2]? = (([0] ++ [1, b, 0].map lowB ++ two8 1 ++ two8 1) : List UInt8)[2]? := by rw [h]
    exact Option.some.inj h1
  · intro h
    simp only [List.map_cons, h]
theorem entIn_one (b : UInt8) (til rank source : Int) : EntIn (entE b til rank source) where
  name := by show 3 ≤ 1048576; decide
  recs := by
    intro r hr
    have : r = rrE b := by simpa [entE] using hr
    subst this
    refine ⟨?_, by show 3 ≤ 1048576; decide, by show 4 ≤ 1048576; decide⟩
    constructor <;> (show _ ≤ _; simp [rrE])
  t0 := by show (0 : Int) ≤ 1; decide
  t1 := by show (1 : Int) ≤ 65535; decide
  c0 := by show (0 : Int) ≤ 1; decide
  c1 := by show (1 : Int) ≤ 65535; decide
/-- An entry that may be goes in where none stands in its way. -/
theorem putB_true {e : Ent} {now : Int} {L : List Ent} (hc : cchk e = 0) (ht : now ≤ e.til) (h : ∀ x ∈ L, x.key = e.key → now ≤ x.til → x.rank ≤ e.rank) : putB e now L = true := by
  unfold putB
  rw [decide_eq_true hc, decide_eq_true ht]
  have : (L.any fun x => x.key == e.key && decide (now ≤ x.til) && decide (e.rank < x.rank)) = false := by
    rw [List.any_eq_false]
    intro x hx
    by_cases h1 : x.key = e.key
    · by_cases h2 : now ≤ x.til
      · have := h x hx h1 h2
        simp [h1, h2]; omega
      · simp [h2]
    · simp [h1]
  rw [this]; rfl
theorem putB_false {e : Ent} {now : Int} {L : List Ent} {x : Ent} (hx : x ∈ L) (hk : x.key = e.key) (ht : now ≤ x.til) (hr : e.rank < x.rank) : putB e now L = false := by
  unfold putB
  have : (L.any fun x => x.key == e.key && decide (now ≤ x.til) && decide (e.rank < x.rank)) = true := by
    rw [List.any_eq_true]
    exact ⟨x, hx, by simp [hk, ht, hr]⟩
  rw [this]; simp
/-- Never more than there may be. -/
theorem putL_most {most now : Int} {e : Ent} {L : List Ent} (h : (L.length : Int) ≤ max most 1) : ((putL most now e L).length : Int) ≤ max most 1 := by
  have h1 : (put1 e L).length ≤ L.length + 1 := by
    unfold put1
    have := List.length_filter_le (fun y : Ent => y.key != e.key) L
    simp; omega
  have h2 : ∀ M : List Ent, (put2 most now M).length ≤ M.length := by
    intro M; unfold put2; split
    · exact List.length_filter_le _ _
    · exact Nat.le_refl _
  have := h2 (put1 e L)
  unfold putL put3
  split
  · rw [List.length_tail]; omega
  · omega
theorem putR_most {most now : Int} {e : Ent} {L : List Ent} (h : (L.length : Int) ≤ max most 1) : ((putR most now e L).length : Int) ≤ max most 1 := by
  unfold putR; split
  · exact putL_most h
  · exact h
theorem getE_nil {k : List UInt8} {now : Int} {L : List Ent} (h : ∀ x ∈ L, x.key ≠ k ∨ x.til < now) : getE k now L = none := getE_none (fun x hx e => (h x hx).elim (fun q => absurd e q) id)
theorem lstA : keyL 0 (lst (⟨#[1, 65, 0]⟩ : ByteArray)) 1 1 = keyL 0 [1, 97, 0] 1 1 := rfl
theorem lsta : keyL 0 (lst (⟨#[1, 97, 0]⟩ : ByteArray)) 1 1 = keyL 0 [1, 97, 0] 1 1 := rfl
theorem key_ne {a b : UInt8} (h : lowB a ≠ lowB b) (t1 r1 s1 t2 r2 s2 : Int) : (entE a t1 r1 s1).key ≠ (entE b t2 r2 s2).key := by
  rw [key_one', key_one']
  exact fun q => h (keyL_one.1 q)
theorem key_ne' {a b : UInt8} (h : lowB a ≠ lowB b) (t1 r1 s1 : Int) : (entE a t1 r1 s1).key ≠ keyL 0 [1, b, 0] 1 1 := by
  rw [key_one']
  exact fun q => h (keyL_one.1 q)
/-- A put of an entry of another key, where there is room. -/
theorem putR_room {most now : Int} {e : Ent} {L : List Ent} (hp : putB e now L = true) (hk : ∀ x ∈ L, x.key ≠ e.key) (hl : (L.length : Int) < max most 1) : putR most now e L = L ++ [e] := by
  have h1 : put1 e L = L ++ [e] := by
    unfold put1
    rw [List.filter_eq_self.2 (fun x hx => bne_iff_ne.2 (hk x hx))]
  have h2 : ¬ max most 1 < ((L ++ [e]).length : Int) := by simp; omega
  unfold putR putL put3 put2
  rw [if_pos hp, h1, if_neg h2, if_neg h2]
/-- .. where there is none, and nothing is stale. -/
theorem putR_full {most now : Int} {e : Ent} {L : List Ent} (hp : putB e now L = true) (hk : ∀ x ∈ L, x.key ≠ e.key) (hl : (L.length : Int) = max most 1) (ht : ∀ x ∈ L, now ≤ x.til) (he : now ≤ e.til) : putR most now e L = (L ++ [e]).tail := by
  have h1 : put1 e L = L ++ [e] := by
    unfold put1
    rw [List.filter_eq_self.2 (fun x hx => bne_iff_ne.2 (hk x hx))]
  have h2 : max most 1 < ((L ++ [e]).length : Int) := by simp; omega
  have h3 : (L ++ [e]).filter (fun y => decide (now ≤ y.til)) = L ++ [e] := by
    rw [List.filter_eq_self]
    intro x hx
    rw [List.mem_append] at hx
    rcases hx with hx | hx
    · exact decide_eq_true (ht x hx)
    · rw [List.mem_singleton.1 hx]; exact decide_eq_true he
  unfold putR putL put3 put2
  rw [if_pos hp, h1, if_pos h2, h3, if_pos h2]
theorem putR_no {most now : Int} {e : Ent} {L : List Ent} (hp : putB e now L = false) : putR most now e L = L := by
  unfold putR; rw [if_neg (by rw [hp]; simp)]
theorem getE_at {k : List UInt8} {now : Int} {e : Ent} {s t : List Ent} (hs : ∀ x ∈ s, x.key ≠ k) (hk : e.key = k) (ht : now ≤ e.til) : getE k now (s ++ e :: t) = some e := by
  unfold getE
  rw [List.find?_append]
  have h1 : s.find? (fun e => e.key == k && decide (now ≤ e.til)) = none := by
    rw [List.find?_eq_none]
    intro x hx
    simp [hs x hx]
  rw [h1, List.find?_cons_of_pos (by simp [hk, ht])]; rfl
theorem getL_at {k : List UInt8} {now : Int} {e : Ent} {s t : List Ent} (hs : ∀ x ∈ s, x.key ≠ k) (hk : e.key = k) (ht : now ≤ e.til) (hq : ∀ x ∈ t, x.key ≠ k) : getL k now (s ++ e :: t) = s ++ t ++ [e] := by
  unfold getL
  rw [getE_at hs hk ht]
  show (s ++ e :: t).filter (fun y => y.key != k) ++ [e] = _
  rw [List.filter_append, List.filter_cons_of_neg (by simp [hk]), List.filter_eq_self.2 (fun x hx => bne_iff_ne.2 (hs x hx)), List.filter_eq_self.2 (fun x hx => bne_iff_ne.2 (hq x hx))]
end Go.Proofs.Ytihfapnipifiiaa

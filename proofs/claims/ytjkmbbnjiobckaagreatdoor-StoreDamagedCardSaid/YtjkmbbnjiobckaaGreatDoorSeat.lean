/-
  The words of Base at this program's own types: []uint8 (22, of 5).
-/
import Derived.Test.YtjkmbbnjiobckaaGreatDoorProg
import Derived.Test.YtjkmbbnjiobckaaGreatDoorBase
import Derived.Test.YtjkmbbnjiobckaaGreatDoorZeros
namespace Go.Proofs.YtjkmbbnjiobckaaGreatDoor
open Go.RowKit

theorem Tryz.info5 : (Tryz.prog.info? 5).map (fun i => (i.zero, i.size, i.bytes)) = some (some (.int .u8 0), 1, 1) := by kernel_rfl

/-- A slice of bytes that reads as l. -/
def Slc (w : World) (v : Value) (l : List UInt8) : Prop := ∃ a cap, v = .slice a l.length cap ∧ Row w a l.length cap (bytesV l)
/-- A slice of bytes, of the call's own (its blocks from base on), that holds l. -/
def OwnB (w : World) (base : Nat) (v : Value) (l : List UInt8) : Prop := ∃ a cap, v = .slice a l.length cap ∧ w.ownsRow base 5 1 (.slice a l.length cap) l.length (bytesV l)
/-- What a function that hands back new bytes does. -/
def NewB (w : World) (l : List UInt8) (e : Ending) (w' : World) : Prop := ∃ v, e = .returned v ∧ OwnB w' w.heap.size v l ∧ Below w.heap.size w w'
theorem OwnB.slc {w : World} {base : Nat} {v : Value} {l : List UInt8} (h : OwnB w base v l) : Slc w v l := by
  obtain ⟨a, cap, rfl, h⟩ := h
  exact ⟨a, cap, rfl, ownsRow_row h⟩
theorem Slc.mono {w w' : World} {v : Value} {l : List UInt8} (h : Slc w v l) (hb : Below w.heap.size w w') : Slc w' v l := by
  obtain ⟨a, cap, rfl, h⟩ := h
  exact ⟨a, cap, rfl, h.mono hb⟩
theorem Slc.alloc {w : World} {v : Value} {l : List UInt8} (h : Slc w v l) (o : Obj) : Slc (w.alloc o) v l := h.mono ((Below.refl _ _).alloc (Nat.le_refl _) o)
theorem Slc.drew {w : World} {v : Value} {l : List UInt8} (h : Slc w v l) : Slc w.drew v l := h.mono (Below.refl _ _).drew
theorem OwnB.mono {w w' : World} {base : Nat} {v : Value} {l : List UInt8} (h : OwnB w base v l) (hb : Below w.heap.size w w') : OwnB w' base v l := by
  obtain ⟨a, cap, rfl, h⟩ := h
  exact ⟨a, cap, rfl, ownsRow_below h hb⟩
theorem OwnB.lower {w : World} {base base' : Nat} {v : Value} {l : List UInt8} (h : OwnB w base v l) (hb : base' ≤ base) : OwnB w base' v l := by
  obtain ⟨a, cap, rfl, h⟩ := h
  exact ⟨a, cap, rfl, ownsRow_lower h hb⟩
theorem OwnB.nil (w : World) (base : Nat) : OwnB w base (.slice none 0 0) [] := ⟨none, 0, rfl, World.ownsRow_nil _ _ _ _⟩
theorem Slc.nil (w : World) : Slc w (.slice none 0 0) [] := (OwnB.nil w 0).slc
theorem bytesV_append (l m : List UInt8) : bytesV (l ++ m) = bytesV l ++ bytesV m := by simp [bytesV]
theorem bytesV_one (l : List UInt8) : ∀ u ∈ bytesV l, u.oneCell' = true := by
  intro u hu
  obtain ⟨_, _, rfl⟩ := List.mem_map.1 hu
  rfl

/-- 'append(x, src...)' of bytes onto a slice of the call's own. -/
theorem append_bytes {w : World} {ops : Array Oper} {rest : List Oper} {o : Oper} {ac : Act} {Q : Exit → Act → World → Prop} (hgd : o.guard = none) {s x : Operand}
    (ho : o.op = .call { callee := .builtin .append, args := #[s, x], argTypes := #[22, 22] }) {base : Nat} {v y : Value} {l m : List UInt8}
    (hs : ac.eval s = v) (hx : ac.eval x = y) (hown : OwnB w base v l) (hsrc : Slc w y m) (hlen : l.length + m.length ≤ 140737488355328) (hbase : base ≤ w.heap.size)
    (h : ∀ a' cap' w', w'.ownsRow base 5 1 (.slice a' (l.length + m.length) cap') (l.length + m.length) (bytesV (l ++ m)) → w.grownBy w' v.ownBlock → wpList Tryz.prog ops Q rest (ac.put o.dst (.slice a' (l.length + m.length) cap')) w') :
    wpList Tryz.prog ops Q (o :: rest) ac w := by
  obtain ⟨a, cap, rfl, hown⟩ := hown
  obtain ⟨a2, cap2, rfl, hsrc⟩ := hsrc
  obtain ⟨i0, hi, hz0, hz1, hz2⟩ := info_parts Tryz.info5
  refine wpList_append_fresh w hgd s x 22 ho base 5 i0 (.int .u8 0) 1 1 Tryz.underlying22 hi hz0 hz1 hz2 rfl (by decide) hs hx hown hsrc (by simp [bytesV_length]) (bytesV_one m) (by unfold maxLen; omega) (by omega) hbase ?_
  intro a' cap' w' h1 h2
  rw [← bytesV_append] at h1
  exact h a' cap' w' h1 h2
theorem OwnB.mk {w : World} {base : Nat} {a : Option Addr} {n cap : Nat} {l : List UInt8} (h : w.ownsRow base 5 1 (.slice a n cap) n (bytesV l)) (hn : l.length = n) : OwnB w base (.slice a n cap) l := by
  subst hn; exact ⟨a, cap, rfl, h⟩
/-- The one-cell slice that an appended element lies in. -/
theorem slc_one {w : World} {x : UInt8} {n : Int} (hx : n = (x.toNat : Int)) : Slc (w.alloc (.cells #[.int .u8 n] 5)) (.slice (some ⟨w.heap.size, 0, none⟩) 1 1) [x] := by
  subst hx
  refine ⟨_, 1, rfl, ⟨Nat.le_refl _, by decide, fun j y hj => ⟨_, 0, rfl, ?_⟩⟩⟩
  match j, hj with
  | 0, hj =>
    have : Value.int .u8 (x.toNat : Int) = y := by simpa [bytesV] using hj
    subst this
    rw [World.cell?_alloc_at _ _ _ _ rfl]; rfl
/-- Behind an append: nothing below the base has turned. -/
theorem below_append {B : Nat} {a w w' : World} {base : Nat} {v : Value} {l : List UInt8} (h : Below B a w) (hg : w.grownBy w' v.ownBlock) (hown : OwnB w base v l) (hB : B ≤ w.heap.size) (hb : B ≤ base) : Below B a w' := by
  obtain ⟨a, cap, rfl, hown⟩ := hown
  exact h.grown hg hB (fun k hk => Nat.le_trans hb (hown.lt k hk).1)

/-- The k bytes of a number, the most significant one first. -/
def be (n : Nat) : Nat → List UInt8
  | 0 => []
  | k + 1 => UInt8.ofNat (n / 256 ^ k) :: be n k
theorem be_length (n : Nat) : ∀ k, (be n k).length = k
  | 0 => rfl
  | k + 1 => by rw [be, List.length_cons, be_length n k]
theorem be_get (n : Nat) : ∀ (k i : Nat), i < k → (be n k)[i]? = some (UInt8.ofNat (n / 256 ^ (k - 1 - i)))
  | 0, _, h => by omega
  | k + 1, 0, _ => by simp [be]
  | k + 1, i + 1, h => by
    rw [be, List.getElem?_cons_succ, be_get n k i (by omega)]
    rw [show k + 1 - 1 - (i + 1) = k - 1 - i by omega]
theorem be_take (n k i : Nat) (h : i < k) : (be n k).take (i + 1) = (be n k).take i ++ [UInt8.ofNat (n / 256 ^ (k - 1 - i))] := by
  rw [List.take_add_one, be_get n k i h]; rfl
theorem be_all (n k : Nat) : (be n k).take k = be n k := List.take_of_length_le (by rw [be_length]; exact Nat.le_refl _)
theorem byte_ofNat {n : Int} {x : Nat} (h : n = ((x % 256 : Nat) : Int)) : n = ((UInt8.ofNat x).toNat : Int) := by
  subst h
  simp
/-- A whole block of bytes as a slice. -/
theorem slc_block {w : World} {b n cap : Nat} {cs : Array Value} {T : TypeId} {fr : Nat × Nat} {l : List UInt8} (hb : w.heap[b]? = some (.cells cs T fr)) (hc : cs.toList = bytesV l) (hn : l.length = n) (h1 : n ≤ cap) (h2 : cap ≤ maxLen) :
    Slc w (.slice (some ⟨b, 0, none⟩) n cap) l := by
  subst hn
  refine ⟨_, cap, rfl, ⟨h1, h2, fun j y hj => ⟨b, 0, rfl, ?_⟩⟩⟩
  rw [Nat.zero_add]
  refine cell_of_block hb ?_
  rw [← hc] at hj
  simpa using hj
/-- A new literal of bytes. -/
theorem own_lit {w : World} {n : Nat} {cs : Array Value} {l : List UInt8} (hc : cs.toList = bytesV l) (hn : l.length = n) (h2 : n ≤ maxLen) : OwnB (w.alloc (.cells cs 5)) w.heap.size (.slice (some ⟨w.heap.size, 0, none⟩) n n) l := by
  subst hn
  have hs : cs.size = l.length * 1 := by
    have := congrArg List.length hc
    rw [bytesV_length] at this
    simpa using this
  have := World.ownsRow_lit (base := w.heap.size) (e := 5) (size := 1) w cs l.length (Nat.le_refl _) h2 hs
  rw [hc] at this
  exact ⟨_, _, rfl, this⟩
/-- A slice of slices of bytes. -/
def Slcs (w : World) (v : Value) (ll : List (List UInt8)) : Prop :=
  ∃ (a : Option Addr) (cap : Nat) (vs : List Value), v = .slice a ll.length cap ∧ Row w a ll.length cap vs ∧ vs.length = ll.length ∧ ∀ (i : Nat) (x : Value), vs[i]? = some x → ∃ l : List UInt8, ll[i]? = some l ∧ Slc w x l
theorem Slcs.mono {w w' : World} {v : Value} {ll : List (List UInt8)} (h : Slcs w v ll) (hb : Below w.heap.size w w') : Slcs w' v ll := by
  obtain ⟨a, cap, vs, rfl, hr, hl, hx⟩ := h
  exact ⟨a, cap, vs, rfl, hr.mono hb, hl, fun i x hi => let ⟨l, h1, h2⟩ := hx i x hi; ⟨l, h1, h2.mono hb⟩⟩
theorem Slcs.get {w : World} {a : Option Addr} {n cap : Nat} {ll : List (List UInt8)} (h : Slcs w (.slice a n cap) ll) (i : Nat) (hi : i < ll.length) :
    ∃ b o a' c', a = some ⟨b, o, none⟩ ∧ w.cell? ⟨b, o + i, none⟩ = some (.slice a' ll[i].length c') ∧ Row w a' ll[i].length c' (bytesV ll[i]) := by
  obtain ⟨a, cap, vs, hv, hr, hl, hx⟩ := h
  cases hv
  have hi' : i < vs.length := by omega
  obtain ⟨l, h1, h2⟩ := hx i vs[i] (List.getElem?_eq_getElem hi')
  obtain ⟨b, o, ha, hc⟩ := hr.at' i _ (List.getElem?_eq_getElem hi')
  rw [List.getElem?_eq_getElem hi] at h1
  cases h1
  obtain ⟨a', c', hv, hr'⟩ := h2
  exact ⟨b, o, a', c', ha, by rw [hc, hv], hr'⟩
theorem slcs_two {w : World} {x y : Value} {l m : List UInt8} {T : TypeId} (hx : Slc w x l) (hy : Slc w y m) : Slcs (w.alloc (.cells #[x, y] T)) (.slice (some ⟨w.heap.size, 0, none⟩) 2 2) [l, m] := by
  have hb := heap_alloc_new w (.cells #[x, y] T)
  refine ⟨_, 2, [x, y], rfl, ⟨Nat.le_refl _, by decide, fun j u hj => ⟨_, 0, rfl, ?_⟩⟩, rfl, fun i u hi => ?_⟩
  · rw [Nat.zero_add]; exact cell_of_block hb (by simpa using hj)
  · match i, hi with
    | 0, hi => cases hi; exact ⟨l, rfl, hx.alloc _⟩
    | 1, hi => cases hi; exact ⟨m, rfl, hy.alloc _⟩
def str (l : List UInt8) : ByteArray := ⟨l.toArray⟩
theorem conv_string {w : World} {a : Option Addr} {n cap : Nat} {l : List UInt8} (h : Row w a n cap (bytesV l)) (hn : l.length = n) : (convert 22 9 (.slice a n cap)).run Tryz.prog w = .ok (.string (str l)) w := by
  subst hn
  rcases Nat.eq_zero_or_pos l.length with h0 | h0
  · obtain rfl := List.length_eq_zero_iff.1 h0
    rw [run_convert_bytes_string w 22 9 5 a _ cap Tryz.underlying22 Tryz.underlying5 Tryz.underlying9]
    cases a <;> simp [Conv.bytesToString, loadCells, loadCellsFrom] <;> rfl
  · obtain ⟨b, o, rfl, hc⟩ := h.addr (by rw [bytesV_length]; exact h0)
    have := run_convert_bytes_arg (P := Tryz.prog) w 22 5 Tryz.underlying22 Tryz.underlying5 b o l.length cap (l.map fun x => (x.toNat : Int)) (by simp) (fun i hi => by
      rw [hc i _ (bytesV_get hi)]
      simp [hi]) 9 Tryz.underlying9
    rw [this, show strOfNums (l.map fun x => (x.toNat : Int)) = str l from ?_]
    unfold strOfNums str
    simp
    exact (List.map_congr_left (g := id) (fun x _ => by simp)).trans (List.map_id l)
@[go_sem, simp] theorem str_toList (l : List UInt8) : (str l).toList = l := by rw [ByteArray.toList_eq]; rfl
theorem str_inj {l m : List UInt8} (h : str l = str m) : l = m := by
  have := congrArg (fun s : ByteArray => s.data.toList) h
  simpa [str] using this
theorem Slc.row {w : World} {a : Option Addr} {n cap : Nat} {l : List UInt8} (h : Slc w (.slice a n cap) l) : l.length = n ∧ Row w a n cap (bytesV l) := by
  obtain ⟨a', cap', hv, hr⟩ := h
  cases hv
  exact ⟨rfl, hr⟩
theorem Slc.mk {w : World} {a : Option Addr} {n cap : Nat} {l : List UInt8} (hn : l.length = n) (h : Row w a n cap (bytesV l)) : Slc w (.slice a n cap) l := by
  subst hn; exact ⟨a, cap, rfl, h⟩
theorem Slc.sub {w : World} {a : Option Addr} {n cap : Nat} {l : List UInt8} (h : Slc w (.slice a n cap) l) {lo hi mx : Nat} (h1 : lo ≤ hi) (h2 : hi ≤ n) (h3 : hi ≤ mx) (h4 : mx ≤ cap) :
    Slc w (.slice (subAddr a mx lo 1) (hi - lo) (mx - lo)) ((l.drop lo).take (hi - lo)) := by
  obtain ⟨rfl, hr⟩ := h.row
  refine Slc.mk (by simp; omega) ?_
  have := hr.sub (lo := lo) (sz := 1) h1 h3 h4
  simpa [bytesV] using this
theorem Slc.drop {w : World} {a : Option Addr} {n cap : Nat} {l : List UInt8} (h : Slc w (.slice a n cap) l) {lo : Nat} (h1 : lo ≤ n) :
    Slc w (.slice (subAddr a cap lo 1) (n - lo) (cap - lo)) (l.drop lo) := by
  have := h.sub h1 (Nat.le_refl n) h.row.2.le (Nat.le_refl cap)
  rwa [List.take_of_length_le (by rw [List.length_drop, h.row.1]; exact Nat.le_refl _)] at this

theorem OwnB.own {w : World} {base : Nat} {a : Option Addr} {n cap : Nat} {l : List UInt8} (h : OwnB w base (.slice a n cap) l) : l.length = n ∧ w.ownsRow base 5 1 (.slice a n cap) n (bytesV l) := by
  obtain ⟨a', cap', hv, hr⟩ := h
  cases hv
  exact ⟨rfl, hr⟩
/-- 'append(x, make([]byte, k)...)'. -/
theorem append_zeros {w : World} {ops : Array Oper} {rest : List Oper} {o : Oper} {ac : Act} {Q : Exit → Act → World → Prop} (hgd : o.guard = none) {s x : Operand}
    (ho : o.op = .call { callee := .builtin .append, args := #[s, x], argTypes := #[22, 3] }) {base : Nat} {a : Option Addr} {n cap : Nat} {l : List UInt8} {kk : Int} (k : Nat)
    (hs : ac.eval s = .slice a n cap) (hx : ac.eval x = .int .i64 kk) (hown : OwnB w base (.slice a n cap) l) (hkk : kk = (k : Int)) (hlen : n + k ≤ 140737488355328) (hbase : base ≤ w.heap.size)
    (h : ∀ a' cap' w', w'.ownsRow base 5 1 (.slice a' (n + k) cap') (n + k) (bytesV (l ++ List.replicate k 0)) → w.grownBy w' (Value.slice a n cap).ownBlock → wpList Tryz.prog ops Q rest (ac.put o.dst (.slice a' (n + k) cap')) w') :
    wpList Tryz.prog ops Q (o :: rest) ac w := by
  obtain ⟨i0, hi, hz0, hz1, hz2⟩ := info_parts Tryz.info5
  refine wpList_append_zeros w hgd s x 22 3 ho base 5 i0 (.int .u8 0) 1 .i64 .i64 Tryz.underlying22 Tryz.underlying3 hi hz0 hz1 hz2 rfl rfl hs hx hkk hown.own.2 (by unfold maxLen; omega) (by omega) hbase ?_
  intro a' cap' w' h1 h2
  rw [show bytesV l ++ List.replicate k (.int .u8 0) = bytesV (l ++ List.replicate k 0) by simp [bytesV]] at h1
  exact h a' cap' w' h1 h2
/-- A block of another type stands while bytes are appended. -/
theorem blk_kept {w w' : World} {base p : Nat} {v : Value} {l : List UInt8} {cs : Array Value} {T : TypeId} {fr : Nat × Nat} (hb : w.heap[p]? = some (.cells cs T fr)) (hT : T ≠ 5) (h : OwnB w base v l) (hg : w.grownBy w' v.ownBlock) : w'.heap[p]? = some (.cells cs T fr) := by
  rw [hg.block p (Array.getElem?_eq_some_iff.1 hb).1 ?_]
  · exact hb
  · obtain ⟨a, cap, rfl, h⟩ := h
    rcases h.2 with ⟨hn, _⟩ | ⟨g, c, cur, hn, _, hh, _⟩
    · rw [hn]; simp [Value.ownBlock]
    · rw [hn]
      simp only [Value.ownBlock, ne_eq, Option.some.injEq]
      intro e
      subst e
      rw [hb] at hh
      simp at hh
      exact hT hh.2.1
/-- A slice of bytes in a block of bytes, from base on: it is read, not appended to. -/
def FrB (w : World) (base : Nat) (v : Value) (l : List UInt8) : Prop :=
  ∃ a cap, v = .slice a l.length cap ∧ Row w a l.length cap (bytesV l) ∧ ∀ b o, a = some ⟨b, o, none⟩ → base ≤ b ∧ ∃ cur fr, w.heap[b]? = some (.cells cur 5 fr)
theorem OwnB.fr {w : World} {base : Nat} {v : Value} {l : List UInt8} (h : OwnB w base v l) : FrB w base v l := by
  obtain ⟨a, cap, rfl, h⟩ := h
  refine ⟨a, cap, rfl, ownsRow_row h, fun b o ha => ⟨(ownsRow_block h b o ha).1, ?_⟩⟩
  rcases h.2 with ⟨hn, _⟩ | ⟨g, c, cur, hn, _, hh, _⟩
  · simp only [Value.slice.injEq] at hn
    rw [hn.1] at ha; cases ha
  · simp only [Value.slice.injEq] at hn
    rw [hn.1] at ha; cases ha; exact ⟨cur, _, hh⟩
theorem FrB.slc {w : World} {base : Nat} {v : Value} {l : List UInt8} (h : FrB w base v l) : Slc w v l := by
  obtain ⟨a, cap, rfl, h, _⟩ := h
  exact ⟨a, cap, rfl, h⟩
theorem FrB.mono {w w' : World} {base : Nat} {v : Value} {l : List UInt8} (h : FrB w base v l) (hb : Below w.heap.size w w') : FrB w' base v l := by
  obtain ⟨a, cap, rfl, h, k⟩ := h
  refine ⟨a, cap, rfl, h.mono hb, fun b o ha => ?_⟩
  obtain ⟨h1, cur, fr, h2⟩ := k b o ha
  exact ⟨h1, cur, fr, block_below hb h2 (Array.getElem?_eq_some_iff.1 h2).1⟩
theorem FrB.lower {w : World} {base base' : Nat} {v : Value} {l : List UInt8} (h : FrB w base v l) (hb : base' ≤ base) : FrB w base' v l := by
  obtain ⟨a, cap, rfl, h, k⟩ := h
  exact ⟨a, cap, rfl, h, fun b o ha => let ⟨h1, h2⟩ := k b o ha; ⟨Nat.le_trans hb h1, h2⟩⟩
/-! ### Slices of slices of bytes, of the call's own -/
theorem Tryz.info22 : (Tryz.prog.info? 22).map (fun i => (i.zero, i.size, i.bytes)) = some (some (.slice none 0 0), 1, 24) := by kernel_rfl
def OwnVs (w : World) (base : Nat) (v : Value) (vs : List Value) : Prop := ∃ a cap, v = .slice a vs.length cap ∧ w.ownsRow base 22 1 (.slice a vs.length cap) vs.length vs
def OwnSs (w : World) (base : Nat) (v : Value) (ll : List (List UInt8)) : Prop :=
  ∃ vs : List Value, OwnVs w base v vs ∧ vs.length = ll.length ∧ ∀ (i : Nat) (x : Value), vs[i]? = some x → ∃ l : List UInt8, ll[i]? = some l ∧ FrB w base x l
def NewSs (w : World) (ll : List (List UInt8)) (e : Ending) (w' : World) : Prop := ∃ v, e = .returned v ∧ OwnSs w' w.heap.size v ll ∧ Below w.heap.size w w'
theorem OwnVs.mono {w w' : World} {base : Nat} {v : Value} {vs : List Value} (h : OwnVs w base v vs) (hb : Below w.heap.size w w') : OwnVs w' base v vs := by
  obtain ⟨a, cap, rfl, h⟩ := h
  exact ⟨a, cap, rfl, ownsRow_below h hb⟩
theorem OwnVs.lower {w : World} {base base' : Nat} {v : Value} {vs : List Value} (h : OwnVs w base v vs) (hb : base' ≤ base) : OwnVs w base' v vs := by
  obtain ⟨a, cap, rfl, h⟩ := h
  exact ⟨a, cap, rfl, ownsRow_lower h hb⟩
theorem OwnSs.mono {w w' : World} {base : Nat} {v : Value} {ll : List (List UInt8)} (h : OwnSs w base v ll) (hb : Below w.heap.size w w') : OwnSs w' base v ll := by
  obtain ⟨vs, h1, h2, h3⟩ := h
  exact ⟨vs, h1.mono hb, h2, fun i x hi => let ⟨l, a, b⟩ := h3 i x hi; ⟨l, a, b.mono hb⟩⟩
theorem OwnSs.lower {w : World} {base base' : Nat} {v : Value} {ll : List (List UInt8)} (h : OwnSs w base v ll) (hb : base' ≤ base) : OwnSs w base' v ll := by
  obtain ⟨vs, h1, h2, h3⟩ := h
  exact ⟨vs, h1.lower hb, h2, fun i x hi => let ⟨l, a, b⟩ := h3 i x hi; ⟨l, a, b.lower hb⟩⟩
theorem OwnSs.nil (w : World) (base : Nat) : OwnSs w base (.slice none 0 0) [] := ⟨[], ⟨none, 0, rfl, World.ownsRow_nil _ _ _ _⟩, rfl, fun i x hi => by simp at hi⟩
theorem OwnSs.slcs {w : World} {base : Nat} {v : Value} {ll : List (List UInt8)} (h : OwnSs w base v ll) : Slcs w v ll := by
  obtain ⟨vs, ⟨a, cap, rfl, h1⟩, h2, h3⟩ := h
  rw [h2] at h1 ⊢
  exact ⟨a, cap, vs, rfl, ownsRow_row h1, h2, fun i x hi => let ⟨l, a, b⟩ := h3 i x hi; ⟨l, a, b.slc⟩⟩
/-- What holds bytes is not written where slices are. -/
theorem OwnB.kept {w w' : World} {base base' : Nat} {v y : Value} {vs : List Value} {m : List UInt8} (h : OwnB w base y m) (hv : OwnVs w base' v vs) (hg : w.grownBy w' v.ownBlock) : OwnB w' base y m := by
  obtain ⟨a, cap, rfl, h⟩ := h
  refine ⟨a, cap, rfl, h.kept hg ?_⟩
  obtain ⟨a', cap', rfl, hv⟩ := hv
  rcases h.2 with ⟨hn, _⟩ | ⟨g, c, cur, hn, _, hh, _⟩
  · left; rw [hn]; rfl
  · rcases hv.2 with ⟨hn', _⟩ | ⟨g', c', cur', hn', _, hh', _⟩
    · right; rw [hn, hn']; simp [Value.ownBlock]
    · right
      rw [hn, hn']
      simp only [Value.ownBlock, ne_eq, Option.some.injEq]
      intro e
      subst e
      rw [hh] at hh'
      simp at hh'
theorem FrB.kept {w w' : World} {base base' : Nat} {v y : Value} {vs : List Value} {m : List UInt8} (h : FrB w base y m) (hv : OwnVs w base' v vs) (hg : w.grownBy w' v.ownBlock) : FrB w' base y m := by
  obtain ⟨a, cap, rfl, h, k⟩ := h
  have hne : ∀ b o, a = some ⟨b, o, none⟩ → some b ≠ v.ownBlock := by
    intro b o ha
    obtain ⟨_, cur, fr, hh⟩ := k b o ha
    obtain ⟨a', cap', rfl, hv⟩ := hv
    rcases hv.2 with ⟨hn', _⟩ | ⟨g', c', cur', hn', _, hh', _⟩
    · rw [hn']; simp [Value.ownBlock]
    · rw [hn']
      simp only [Value.ownBlock, ne_eq, Option.some.injEq]
      intro e
      subst e
      rw [hh] at hh'
      simp at hh'
  refine ⟨a, cap, rfl, h.kept hg hne, fun b o ha => ?_⟩
  obtain ⟨h1, cur, fr, hh⟩ := k b o ha
  exact ⟨h1, cur, fr, by rw [hg.block b (Array.getElem?_eq_some_iff.1 hh).1 (hne b o ha)]; exact hh⟩
theorem append_vs {w : World} {ops : Array Oper} {rest : List Oper} {o : Oper} {ac : Act} {Q : Exit → Act → World → Prop} (hgd : o.guard = none) {s x : Operand}
    (ho : o.op = .call { callee := .builtin .append, args := #[s, x], argTypes := #[25, 25] }) {base : Nat} {v : Value} {vs news : List Value} {sa : Option Addr} {m c : Nat}
    (hs : ac.eval s = v) (hx : ac.eval x = .slice sa m c) (hown : OwnVs w base v vs) (hsrc : Row w sa m c news) (hl : news.length = m) (h1 : ∀ u ∈ news, u.oneCell' = true) (hlen : vs.length + m ≤ 5864062014805) (hbase : base ≤ w.heap.size)
    (h : ∀ a' cap' w', w'.ownsRow base 22 1 (.slice a' (vs.length + m) cap') (vs.length + m) (vs ++ news) → w.grownBy w' v.ownBlock → wpList Tryz.prog ops Q rest (ac.put o.dst (.slice a' (vs.length + m) cap')) w') :
    wpList Tryz.prog ops Q (o :: rest) ac w := by
  obtain ⟨a, cap, rfl, hown⟩ := hown
  obtain ⟨i0, hi, hz0, hz1, hz2⟩ := info_parts Tryz.info22
  exact wpList_append_fresh w hgd s x 25 ho base 22 i0 (.slice none 0 0) 1 24 Tryz.underlying25 hi hz0 hz1 hz2 rfl (by decide) hs hx hown hsrc (by omega) h1 (by unfold maxLen; omega) (by omega) hbase h
theorem OwnVs.mk {w : World} {base : Nat} {a : Option Addr} {n cap : Nat} {l : List Value} (h : w.ownsRow base 22 1 (.slice a n cap) n l) (hn : l.length = n) : OwnVs w base (.slice a n cap) l := by
  subst hn; exact ⟨a, cap, rfl, h⟩
/-- The one-cell slice that an appended slice lies in. -/
theorem row_one {w : World} {x : Value} {T : TypeId} : Row (w.alloc (.cells #[x] T)) (some ⟨w.heap.size, 0, none⟩) 1 1 [x] :=
  ⟨Nat.le_refl _, by decide, fun j y hj => ⟨_, 0, rfl, by
    match j, hj with
    | 0, hj =>
      have : x = y := by simpa using hj
      subst this
      rw [World.cell?_alloc_at _ _ _ _ rfl]; rfl⟩⟩
theorem below_append_vs {B : Nat} {a w w' : World} {base : Nat} {v : Value} {l : List Value} (h : Below B a w) (hg : w.grownBy w' v.ownBlock) (hown : OwnVs w base v l) (hB : B ≤ w.heap.size) (hb : B ≤ base) : Below B a w' := by
  obtain ⟨a, cap, rfl, hown⟩ := hown
  exact h.grown hg hB (fun k hk => Nat.le_trans hb (hown.lt k hk).1)
/-- One more row behind the others. -/
theorem OwnSs.snoc {w w' : World} {base : Nat} {v v' x : Value} {vs : List Value} {ll : List (List UInt8)} {l : List UInt8} (hv : OwnVs w base v vs) (hl : vs.length = ll.length)
    (hx : ∀ (i : Nat) (x : Value), vs[i]? = some x → ∃ l : List UInt8, ll[i]? = some l ∧ FrB w base x l) (hx1 : FrB w base x l) (hv' : OwnVs w' base v' (vs ++ [x])) (hg : w.grownBy w' v.ownBlock) : OwnSs w' base v' (ll ++ [l]) := by
  refine ⟨vs ++ [x], hv', by simp [hl], fun i y hi => ?_⟩
  rcases Nat.lt_or_ge i vs.length with h | h
  · rw [List.getElem?_append_left h] at hi
    obtain ⟨m, h1, h2⟩ := hx i y hi
    exact ⟨m, by rw [List.getElem?_append_left (by omega)]; exact h1, h2.kept hv hg⟩
  · rw [List.getElem?_append_right h] at hi
    obtain rfl : i = vs.length := by
      rcases Nat.lt_or_ge (i - vs.length) 1 with h' | h'
      · omega
      · rw [List.getElem?_eq_none (by simpa using h')] at hi; cases hi
    rw [Nat.sub_self] at hi
    cases hi
    exact ⟨l, by rw [hl]; simp, hx1.kept hv hg⟩
end Go.Proofs.YtjkmbbnjiobckaaGreatDoor

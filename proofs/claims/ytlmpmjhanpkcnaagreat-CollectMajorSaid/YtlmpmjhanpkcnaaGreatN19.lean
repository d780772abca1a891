/-
  Slices that came in, as lists; words appended to a row of one's own.
  For LookParts: a term that was read into a variable, rows that grow.
-/
import Derived.Test.YtlmpmjhanpkcnaaGreatN13
import Derived.Below
import Derived.Laws.OwnMore
import Derived.Deep.AppendLies
import Derived.Deep.Draws
import Derived.Maps.AppendAt
import Derived.RegionTactic
import Derived.OwnWalk
import Derived.Test.YtlmpmjhanpkcnaaGreatN17
import Derived.Laws.BitsAllLaws
set_option linter.unusedVariables false
set_option linter.unusedSimpArgs false
namespace Go.Proofs.YtlmpmjhanpkcnaaGreat
open Go.RowKit

theorem block_of_add (a : Addr) (n : Nat) : (a.add n).block = a.block := by unfold Addr.add; split <;> rfl
theorem add_of_add (a : Addr) (i j : Nat) : (a.add i).add j = a.add (i + j) := by
  unfold Addr.add
  by_cases hi : i = 0 <;> by_cases hj : j = 0 <;> simp [hi, hj, Nat.add_assoc]

def Reads (w : World) (B size : Nat) (A : Option Addr) (n : Nat) (xs : List Value) : Prop :=
  xs.length = n * size ∧ (0 < n → ∃ ad, A = some ad ∧ ad.block < B ∧ ∀ j u, xs[j]? = some u → w.cell? (ad.add j) = some u)

section
variable {w w' : World} {B B' size n : Nat} {A : Option Addr} {xs : List Value}
theorem Reads.none_ : Reads w B size A 0 [] := ⟨by simp, fun h => absurd h (by omega)⟩
theorem Reads.at_ {k : Nat} (h : Reads w B 1 A n xs) (hk : k < n) : ∃ ad u, A = some ad ∧ ad.block < B ∧ xs[k]? = some u ∧ w.cell? (ad.add k) = some u := by
  obtain ⟨ad, e, hb, hc⟩ := h.2 (by omega)
  have hl : k < xs.length := by have := h.1; omega
  exact ⟨ad, xs[k], e, hb, List.getElem?_eq_getElem hl, hc k _ (List.getElem?_eq_getElem hl)⟩
theorem Reads.keep (h : Reads w B size A n xs) (hk : ∀ p : Addr, p.block < B → w'.cell? p = w.cell? p) : Reads w' B size A n xs :=
  ⟨h.1, fun hn => by
    obtain ⟨ad, e, hb, hc⟩ := h.2 hn
    exact ⟨ad, e, hb, fun j u hu => (hk _ (by rw [block_of_add]; exact hb)).trans (hc j u hu)⟩⟩
theorem Reads.more (h : Reads w B size A n xs) (hB : B ≤ B') : Reads w B' size A n xs :=
  ⟨h.1, fun hn => by
    obtain ⟨ad, e, hb, hc⟩ := h.2 hn
    exact ⟨ad, e, by omega, hc⟩⟩
theorem Reads.below (h : Reads w B size A n xs) (hb : Below B w w') : Reads w' B size A n xs := h.keep fun _ hp => hb.cell hp
theorem Reads.drew (h : Reads w B size A n xs) : Reads w.drew B size A n xs := h
theorem Reads.drewN (h : Reads w B size A n xs) (k : Nat) : Reads (w.drewN k) B size A n xs := h
theorem Reads.alloc (h : Reads w B size A n xs) (hB : B ≤ w.heap.size) (o : Obj) : Reads (w.alloc o) B size A n xs := h.keep fun p hp => World.cell?_alloc_lt w o p (by omega)
theorem Reads.setCell (h : Reads w B size A n xs) {p : Addr} (hB : B ≤ p.block) (u : Value) : Reads (w.setCell p u) B size A n xs :=
  h.keep fun q hq => World.cell?_setCell_other w p q u (fun e => by subst e; omega)
theorem Reads.grown (h : Reads w B size A n xs) {row : Option Nat} (hg : w.grownBy w' row) (hB : B ≤ w.heap.size) (hr : ∀ g, row = some g → B ≤ g) : Reads w' B size A n xs :=
  h.keep fun p hp => World.cell?_of_block (hg.block p.block (by omega) (fun e => by have := hr _ e.symm; omega))
theorem Reads.cut (h : Reads w B size A n xs) {k cap : Nat} (hk : k ≤ n) (hc : n ≤ cap) :
    Reads w B size (if cap = k then A else A.map (·.add (k * size))) (n - k) (xs.drop (k * size)) := by
  refine ⟨by rw [List.length_drop, h.1, Nat.sub_mul], fun hn => ?_⟩
  obtain ⟨ad, rfl, hb, hcell⟩ := h.2 (by omega)
  rw [if_neg (by omega)]
  refine ⟨ad.add (k * size), rfl, by rw [block_of_add]; exact hb, fun j u hu => ?_⟩
  rw [add_of_add]
  exact hcell _ u (by rw [← hu, List.getElem?_drop])
theorem Reads.of_own {base : Nat} {e : TypeId} {c : Nat} (h : w.ownsRow base e size (.slice A n c) n xs) : Reads w w.heap.size size A n xs := by
  refine ⟨h.1, fun hn => ?_⟩
  obtain ⟨g, cap, hv, _, hlt⟩ := h.form hn
  have hA : A = some ⟨g, 0, none⟩ := by injection hv
  subst hA
  exact ⟨_, rfl, hlt, h.cells (g := g) rfl⟩
end

section
variable {P : Program} (w : World)

theorem run_append_of_nil (base : Nat) (t ty e : TypeId) (i : TypeInfo) (size : Nat) (ht : P.underlying t = some (.slice e)) (hi : P.info? e = some i)
    (v : Value) (n : Nat) (xs : List Value) (hown : w.ownsRow base e size v n xs) (c : Nat) : (Builtin.append_ #[t, t] ty #[v, .slice none 0 c]).run P w = .ok v w := by
  rcases hown.2 with ⟨rfl, rfl⟩ | ⟨g, cap, cur, rfl, _, _, hnc, _⟩
  · simp [Builtin.append_, run_underlying ht, sizeOf, typeInfo, hi, Builtin.lenOf, Builtin.firstCells]
  · simp [Builtin.append_, run_underlying ht, sizeOf, typeInfo, hi, Builtin.lenOf, Builtin.firstCells, hnc, storeCells]

theorem run_append_any (base : Nat) (t ty e : TypeId) (i : TypeInfo) (z : Value) (size bytes : Nat) (ht : P.underlying t = some (.slice e)) (hi : P.info? e = some i) (hz : i.zero = some z)
    (hsize : i.size = size) (hby : i.bytes = bytes) (hzs : z.cells.size = size) (hsz : 0 < size)
    (v : Value) (n : Nat) (xs : List Value) (hown : w.ownsRow base e size v n xs)
    (B : Nat) (A : Option Addr) (m c : Nat) (news : List Value) (hr : Reads w B size A m news) (h1 : ∀ u ∈ news, u.oneCell' = true)
    (h63 : n + m ≤ maxLen) (hbytes : (n + m) * bytes ≤ 140737488355328) (hbase : base ≤ w.heap.size) :
    ∃ v' w', (Builtin.append_ #[t, t] ty #[v, .slice A m c]).run P w = .ok v' w' ∧ w'.ownsRow base e size v' (n + m) (xs ++ news) ∧ w.grownBy w' v.ownBlock ∧
      (v'.ownBlock = v.ownBlock ∨ v'.ownBlock = some w.heap.size) := by
  rcases A with _ | ad
  · have hm : m = 0 := by
      rcases Nat.eq_zero_or_pos m with h0 | h0
      · exact h0
      · obtain ⟨ad, h, _⟩ := hr.2 h0
        cases h
    subst hm
    have hn : news = [] := List.eq_nil_of_length_eq_zero (by simpa using hr.1)
    subst hn
    exact ⟨v, w, run_append_of_nil w base t ty e i size ht hi v n xs hown c, by simpa using hown, World.grownBy.refl w _, .inl rfl⟩
  · have hcells : ∀ j u, news[j]? = some u → w.cell? (ad.add j) = some u := by
      intro j u hu
      rcases Nat.eq_zero_or_pos m with h0 | h0
      · subst h0
        have hn : news = [] := List.eq_nil_of_length_eq_zero (by simpa using hr.1)
        subst hn
        simp at hu
      · obtain ⟨ad', h, _, hc⟩ := hr.2 h0
        injection h with h
        subst h
        exact hc j u hu
    obtain ⟨v', w', hrun, h2, h3, _, h5⟩ := run_append_own_at (P := P) w base t ty e i z size bytes ht hi hz hsize hby hzs hsz v n xs hown ad m c news hr.1 hcells h1 h63 hbytes hbase
    exact ⟨v', w', hrun, h2, h3, h5⟩

theorem wp_append_any {o : Oper} {a : Act} {K : Act → World → Prop} {Q : Exit → Act → World → Prop} (s x : Operand) (t : TypeId)
    (ho : o.op = .call { callee := .builtin .append, args := #[s, x], argTypes := #[t, t] })
    (base : Nat) (e : TypeId) (i : TypeInfo) (z : Value) (size bytes : Nat) (ht : P.underlying t = some (.slice e)) (hi : P.info? e = some i) (hz : i.zero = some z)
    (hsize : i.size = size) (hby : i.bytes = bytes) (hzs : z.cells.size = size) (hsz : 0 < size)
    (v : Value) (n : Nat) (xs : List Value) (hs : a.eval s = v) (hown : w.ownsRow base e size v n xs)
    (B : Nat) (A : Option Addr) (m c : Nat) (news : List Value) (hx : a.eval x = .slice A m c) (hr : Reads w B size A m news) (h1 : ∀ u ∈ news, u.oneCell' = true)
    (h63 : n + m ≤ maxLen) (hbytes : (n + m) * bytes ≤ 140737488355328) (hbase : base ≤ w.heap.size)
    (h : ∀ v' w', w'.ownsRow base e size v' (n + m) (xs ++ news) → w.grownBy w' v.ownBlock → (v'.ownBlock = v.ownBlock ∨ v'.ownBlock = some w.heap.size) → K (a.put o.dst v') w') : o.wp P a w K Q := by
  obtain ⟨v', w', hrun, h2, h3, h4⟩ := run_append_any (P := P) w base t o.type e i z size bytes ht hi hz hsize hby hzs hsz v n xs hown B A m c news hr h1 h63 hbytes hbase
  unfold Oper.wp execOp
  simp only [ho, resolve, invoke, builtin, Sem.run_bind, Sem.run_pure, Result.andThen_ok, List.map_toArray, List.map_cons, List.map_nil, hs, hx, hrun]
  exact h v' w' h2 h3 h4

theorem wpList_append_any {ops : Array Oper} {rest : List Oper} {o : Oper} {a : Act} {Q : Exit → Act → World → Prop} (hgd : o.guard = none) (s x : Operand) (t : TypeId)
    (ho : o.op = .call { callee := .builtin .append, args := #[s, x], argTypes := #[t, t] })
    (base : Nat) (e : TypeId) (i : TypeInfo) (z : Value) (size bytes : Nat) (ht : P.underlying t = some (.slice e)) (hi : P.info? e = some i) (hz : i.zero = some z)
    (hsize : i.size = size) (hby : i.bytes = bytes) (hzs : z.cells.size = size) (hsz : 0 < size)
    (v : Value) (n : Nat) (xs : List Value) (hs : a.eval s = v) (hown : w.ownsRow base e size v n xs)
    (B : Nat) (A : Option Addr) (m c : Nat) (news : List Value) (hx : a.eval x = .slice A m c) (hr : Reads w B size A m news) (h1 : ∀ u ∈ news, u.oneCell' = true)
    (h63 : n + m ≤ maxLen) (hbytes : (n + m) * bytes ≤ 140737488355328) (hbase : base ≤ w.heap.size)
    (h : ∀ v' w', w'.ownsRow base e size v' (n + m) (xs ++ news) → w.grownBy w' v.ownBlock → (v'.ownBlock = v.ownBlock ∨ v'.ownBlock = some w.heap.size) → wpList P ops Q rest (a.put o.dst v') w') : wpList P ops Q (o :: rest) a w :=
  wpList_plain hgd fun _ hK => wp_append_any w s x t ho base e i z size bytes ht hi hz hsize hby hzs hsz v n xs hs hown B A m c news hx hr h1 h63 hbytes hbase fun v' w' h2 h3 h4 => hK _ _ (h v' w' h2 h3 h4)

theorem step_append_any {ops : Array Oper} {o : Oper} {a : Act} {K : Act → World → Prop} {Q : Exit → Act → World → Prop} {E : Prop} (hgd : o.guard = none) (s x : Operand) (t : TypeId)
    (ho : o.op = .call { callee := .builtin .append, args := #[s, x], argTypes := #[t, t] })
    (base : Nat) (e : TypeId) (i : TypeInfo) (z : Value) (size bytes : Nat) (ht : P.underlying t = some (.slice e)) (hi : P.info? e = some i) (hz : i.zero = some z)
    (hsize : i.size = size) (hby : i.bytes = bytes) (hzs : z.cells.size = size) (hsz : 0 < size)
    (v : Value) (n : Nat) (xs : List Value) (hs : a.eval s = v) (hown : w.ownsRow base e size v n xs)
    (B : Nat) (A : Option Addr) (m c : Nat) (news : List Value) (hx : a.eval x = .slice A m c) (hr : Reads w B size A m news) (h1 : ∀ u ∈ news, u.oneCell' = true)
    (h63 : n + m ≤ maxLen) (hbytes : (n + m) * bytes ≤ 140737488355328) (hbase : base ≤ w.heap.size)
    (h : ∀ v' w', w'.ownsRow base e size v' (n + m) (xs ++ news) → w.grownBy w' v.ownBlock → (v'.ownBlock = v.ownBlock ∨ v'.ownBlock = some w.heap.size) → K (a.put o.dst v') w') :
    if Region.wanted o (yielded ops a.tmps) = true then Oper.wp P o a w K Q else E := by
  have hw : Region.wanted o (yielded ops a.tmps) = true := by simp [Region.wanted, hgd]
  rw [if_pos hw]
  exact wp_append_any w s x t ho base e i z size bytes ht hi hz hsize hby hzs hsz v n xs hs hown B A m c news hx hr h1 h63 hbytes hbase h
end

/-! ### Words -/

theorem info37 : (Tryz.prog.info? 47).map (fun i => (i.zero, i.size, i.bytes)) = some (some (.int .u64 0), 1, 8) := by kernel_rfl

/-- Words as cells. -/
def csW (l : List Nat) : List Value := l.map fun (x : Nat) => .int .u64 (x : Int)

theorem csW_one (l : List Nat) : ∀ u ∈ csW l, u.oneCell' = true := by
  intro u hu
  obtain ⟨x, _, rfl⟩ := List.mem_map.1 hu
  rfl

theorem csW_append (l m : List Nat) : csW (l ++ m) = csW l ++ csW m := by simp [csW]

theorem Ws.reads {w : World} {a : Option Addr} {n c : Nat} {l : List Nat} (h : Ws w (.slice a n c) l) : Reads w w.heap.size 1 a n (csW l) := by
  have hn := h.value
  obtain ⟨-, -, a', c', he, -, -, hx⟩ := h
  simp only [Value.slice.injEq] at he
  obtain ⟨rfl, -, -⟩ := he
  refine ⟨by simp [csW, hn], fun h0 => ?_⟩
  obtain ⟨g, o, rfl, k0⟩ := hx 0 (by omega)
  refine ⟨_, rfl, World.block_lt_of_cell? w _ k0, fun j u hu => ?_⟩
  have hj : j < l.length := by
    rcases Nat.lt_or_ge j l.length with q | q
    · exact q
    · rw [List.getElem?_eq_none (by simp [csW]; omega)] at hu; cases hu
  obtain ⟨g', o', e, kj⟩ := hx j hj
  cases e
  simp [csW, List.getElem?_eq_getElem hj] at hu
  subst hu
  simpa [Addr.add] using (by
    by_cases h0 : j = 0
    · subst h0; simpa using kj
    · simpa [h0] using kj)

theorem Ws.of_own {w : World} {base : Nat} {v : Value} {l : List Nat} (h : w.ownsRow base 47 1 v l.length (csW l)) (hl : l.length ≤ 1000000) (hb : ∀ x ∈ l, x < 18446744073709551616) : Ws w v l := by
  refine ⟨by unfold maxLen; omega, hb, ?_⟩
  rcases h.2 with ⟨rfl, h0⟩ | ⟨g, cap, cur, rfl, hbg, hg, hnc, hcm, hcs, htake⟩
  · exact ⟨none, 0, by rw [h0], by omega, by unfold maxLen; omega, fun j hj => by omega⟩
  · refine ⟨some ⟨g, 0, none⟩, cap, rfl, hnc, hcm, fun j hj => ⟨g, 0, rfl, ?_⟩⟩
    have hk : (csW l)[j]? = some (.int .u64 l[j]) := by simp [csW, List.getElem?_eq_getElem hj]
    rw [← htake, List.getElem?_take] at hk
    have hk' : cur[j]? = some (.int .u64 l[j]) := by
      split at hk
      · simpa using hk
      · cases hk
    simp [World.cell?, hg, hk']

end Go.Proofs.YtlmpmjhanpkcnaaGreat

namespace Go.Proofs.YtlmpmjhanpkcnaaGreat
open Go.RowKit

theorem str_ne {s : ByteArray} (h : s ≠ ⟨#[]⟩) : (!s.toList.isEmpty) = true := by
  have h2 : s.data.toList ≠ [] := fun q => h (by
    obtain ⟨⟨l⟩⟩ := s
    simp at q
    subst q; rfl)
  rw [Lib.toList_data]
  cases hs : s.data.toList with
  | nil => exact absurd hs h2
  | cons a r => rfl

theorem keep6 {W V : World} {b g o : Nat} {a0 a1 a2 a3 a4 a5 a6 a7 a8 a9 : Value} {t : TypeId} (h : W.heap[b]? = some (.cells #[a0, a1, a2, a3, a4, a5, a6, a7, a8] t (0, 0))) (k : W.cell? ⟨g, o, none⟩ = some a9) (hb : Below W.heap.size W V) :
    V.cell? ⟨b, 0, none⟩ = some a0 ∧ V.cell? ⟨b, 1, none⟩ = some a1 ∧ V.cell? ⟨b, 2, none⟩ = some a2 ∧ V.cell? ⟨b, 3, none⟩ = some a3 ∧ V.cell? ⟨b, 4, none⟩ = some a4 ∧ V.cell? ⟨b, 5, none⟩ = some a5 ∧ V.cell? ⟨b, 6, none⟩ = some a6 ∧ V.cell? ⟨b, 7, none⟩ = some a7 ∧ V.cell? ⟨b, 8, none⟩ = some a8 ∧
      V.cell? ⟨g, o, none⟩ = some a9 ∧ Below W.heap.size W V := by
  have h2 := (hb.block b (lt_of_block h)).trans h
  exact ⟨cell_of h2 0, cell_of h2 1, cell_of h2 2, cell_of h2 3, cell_of h2 4, cell_of h2 5, cell_of h2 6, cell_of h2 7, cell_of h2 8, (hb.cell (World.block_lt_of_cell? W _ k)).trans k, hb⟩

def RdCut (wr wx : World) (t : Tm) (p : Value) : Prop := ∃ nb k n neg ma ml mc bits bytes a len cap, p = .pointer (some ⟨nb, 0, none⟩) ∧ wx.heap[nb]? = some (.cells #[.int .i64 k, .int .i64 n, .bool neg, .slice ma ml mc, .int .u64 bits, .string bytes, .slice a len cap] 81 (0, 0)) ∧
  TmAt (fun k => wr.heap.size ≤ k) wx (.agg #[.int .i64 k, .int .i64 n, .bool neg, .slice ma ml mc, .int .u64 bits, .string bytes, .slice a len cap]) t ∧ wr.heap.size ≤ nb ∧ Below wr.heap.size wr wx

theorem rd_behind {wr w6 : World} {t : Tm} {k n : Int} {neg : Bool} {ma : Option Addr} {ml mc : Nat} {bits : Int} {bytes : ByteArray} {a : Option Addr} {len cap : Nat}
    (ht : TmAt (fun k => wr.drew.heap.size ≤ k) w6 (.agg #[.int .i64 k, .int .i64 n, .bool neg, .slice ma ml mc, .int .u64 bits, .string bytes, .slice a len cap]) t) (hb : Below wr.drew.heap.size wr.drew w6) :
    RdCut wr (w6.alloc (.cells #[.int .i64 k, .int .i64 n, .bool neg, .slice ma ml mc, .int .u64 bits, .string bytes, .slice a len cap] 81)) t (.pointer (some ⟨w6.heap.size, 0, none⟩)) := by
  have hb' : Below wr.heap.size wr w6 := (Below.refl wr.heap.size wr).drew.trans hb
  exact ⟨_, _, _, _, _, _, _, _, _, _, _, _, rfl, World.alloc_heap_new w6 _, ht.lift (fun k _ hk => Below.heap_alloc _ _ _ hk), hb'.size, hb'.alloc hb'.size _⟩

theorem rd_ahead {wr w6 : World} {c : Array Value} {t : Tm} {k n : Int} {neg : Bool} {ma : Option Addr} {ml mc : Nat} {bits : Int} {bytes : ByteArray} {a : Option Addr} {len cap : Nat} {z0 z1 z2 z3 z4 z5 z6 : Value} (hc : c = #[z0, z1, z2, z3, z4, z5, z6])
    (ht : TmAt (fun k => (wr.alloc (.cells c 81)).drew.heap.size ≤ k) w6 (.agg #[.int .i64 k, .int .i64 n, .bool neg, .slice ma ml mc, .int .u64 bits, .string bytes, .slice a len cap]) t) (hb : Below (wr.alloc (.cells c 81)).drew.heap.size (wr.alloc (.cells c 81)).drew w6) :
    RdCut wr (set7 w6 wr.heap.size (.int .i64 k) (.int .i64 n) (.bool neg) (.slice ma ml mc) (.int .u64 bits) (.string bytes) (.slice a len cap)) t (.pointer (some ⟨wr.heap.size, 0, none⟩)) := by
  have hs : (wr.alloc (.cells c 81)).drew.heap.size = wr.heap.size + 1 := by simp
  have hb' : Below wr.heap.size wr w6 := ((Below.refl wr.heap.size wr).alloc (Nat.le_refl _) _).drew.trans (hb.mono (by rw [hs]; omega))
  have hh := held_new hb
  subst hc
  refine ⟨_, _, _, _, _, _, _, _, _, _, _, _, rfl, set7_heap hh _ _ _ _ _ _ _, ?_, Nat.le_refl _, set7_below hb' (Nat.le_refl _) _ _ _ _ _ _ _⟩
  refine (ht.lift (fun k hk _ => set7_off _ _ _ _ _ _ _ _ _ (by rw [hs] at hk; omega))).mono (fun k hk _ => ?_)
  rw [hs] at hk
  omega

theorem full_readEnd {w w' : World} {r : Option Tm} {e : Ending} (h : ReadEnd w w' r e) {t : Tm} (hr : r = some t) :
    ∃ k n neg ma ml mc bits bytes a len cap, e = .returned (.tuple #[.agg #[.int .i64 k, .int .i64 n, .bool neg, .slice ma ml mc, .int .u64 bits, .string bytes, .slice a len cap], .bool true]) ∧
      TmAt (fun k => w.heap.size ≤ k) w' (.agg #[.int .i64 k, .int .i64 n, .bool neg, .slice ma ml mc, .int .u64 bits, .string bytes, .slice a len cap]) t ∧ Below w.heap.size w w' := by
  obtain ⟨tv, t', rfl, ht, hp, hb⟩ := h
  have e := hp _ hr
  subst e
  obtain ⟨k, n, neg, ma, ml, mc, bits, bytes, a, len, cap, rfl⟩ := ht.shape
  exact ⟨k, n, neg, ma, ml, mc, bits, bytes, a, len, cap, by rw [hr]; rfl, ht, hb⟩

theorem push_below {wd w9 : World} {o : Obj} {base e size n : Nat} {v : Value} {xs : List Value} (hown : wd.ownsRow base e size v n xs) (hb : base ≤ wd.heap.size) (hg : (wd.alloc o).grownBy w9 v.ownBlock) : Below base wd w9 :=
  ((Below.refl base wd).alloc hb o).grown hg (by simp; omega) (fun k hk => (hown.lt k hk).1)

theorem own_set {w : World} {base g i e size n : Nat} {v : Value} {xs : List Value} (h : w.ownsRow base e size v n xs) (hg : g < base) (u : Value) : (w.setCell ⟨g, i, none⟩ u).ownsRow base e size v n xs := by
  refine h.kept (row := some g) ⟨rfl, rfl, rfl, by simp [World.setCell], fun k hk hne => Below.heap_setCell w _ u k (fun q => hne (by rw [q]))⟩ ?_
  cases hv : v.ownBlock with
  | none => exact .inl rfl
  | some k => exact .inr (fun q => by cases q; have := (h.lt _ hv).1; omega)

theorem csW_snoc (l : List Nat) (x : Nat) : csW (l ++ [x]) = csW l ++ [.int .u64 (x : Int)] := by simp [csW]

theorem push_drew {wd w9 : World} {o : Obj} {base e size n : Nat} {v : Value} {xs : List Value} (hown : wd.ownsRow base e size v n xs) (hb : base ≤ wd.heap.size) (hg : ((wd.alloc o).drew).grownBy w9 v.ownBlock) : Below base wd w9 :=
  ((Below.refl base wd).alloc hb o).drew.grown hg (by simp; omega) (fun k hk => (hown.lt k hk).1)

theorem one_u64 (x : Int) : ∀ u ∈ [Value.int .u64 x], u.oneCell' = true := by
  intro u hu
  rw [List.mem_singleton] at hu
  subst hu; rfl

theorem size_push {wr : World} {n : Nat} (h : n ≤ wr.heap.size) (o : Obj) : n ≤ ((wr.alloc o).drew).heap.size := by
  show n ≤ (wr.alloc o).heap.size
  simp
  omega

/-- A list's first words as a row of words. -/
theorem news_many (wr : World) (xs : List Value) (t : TypeId) : ∀ i u, xs[i]? = some u → (wr.alloc (.cells xs.toArray t)).cell? ((⟨wr.heap.size, 0, none⟩ : Addr).add i) = some u := by
  intro i u hi
  have h : (wr.alloc (.cells xs.toArray t)).heap[wr.heap.size]? = some (.cells xs.toArray t (0, 0)) := World.alloc_heap_new wr _
  have h2 := cell_of h i
  rw [Go.WideShapes.add_plain, Nat.zero_add, h2]
  simpa using hi

theorem reads_many (wr : World) (xs : List Value) (t : TypeId) (n : Nat) (hn : xs.length = n) : Reads (wr.alloc (.cells xs.toArray t)) (wr.heap.size + 1) 1 (some ⟨wr.heap.size, 0, none⟩) n xs :=
  ⟨by omega, fun _ => ⟨_, rfl, Nat.lt_succ_self _, news_many wr xs t⟩⟩

end Go.Proofs.YtlmpmjhanpkcnaaGreat

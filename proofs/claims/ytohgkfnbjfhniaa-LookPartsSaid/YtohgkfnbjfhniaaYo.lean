/-
  For LookParts: a term that was read into a variable, rows that grow.
-/
import Derived.Test.YtohgkfnbjfhniaaYj
import Derived.Test.YtohgkfnbjfhniaaYe
import Derived.Laws.BitsAllLaws
namespace Go.Proofs.Ytohgkfnbjfhniaa
open Go.RowKit

theorem str_ne {s : ByteArray} (h : s ≠ ⟨#[]⟩) : (!s.toList.isEmpty) = true := by
  have h2 : s.data.toList ≠ [] := fun q => h (by
    obtain ⟨⟨l⟩⟩ := s
    simp at q
    subst q; rfl)
  rw [Lib.toList_data]
  cases hs : s.data.toList with
  | nil => exact absurd hs h2
  | cons a r => rfl

theorem keep6 {W V : World} {b g o : Nat} {a0 a1 a2 a3 a4 a5 a6 a7 a8 a9 : Value} {t : TypeId} (h : W.heap[b]? = some (.cells #[a0, a1, a2, a3, a4, a5, a6, a7, a8] t (0, 0))) (k : W.cell? ⟨g, o, none⟩ = some a9) (hb : Below W.heap.size W V) :
    V.cell? ⟨b, 0, none⟩ = some a0 ∧ V.cell? ⟨b, 1, none⟩ = some a1 ∧ V.cell? ⟨b, 2, none⟩ = some a2 ∧ V.cell? ⟨b, 3, none⟩ = some a3 ∧ V.cell? ⟨b, 4, none⟩ = some a4 ∧ V.cell? ⟨b, 5, none⟩ = some a5 ∧ V.cell? ⟨b, 6, none⟩ = some a6 ∧ V.cell? ⟨b, 7, none⟩ = some a7 ∧ V.cell? ⟨b, 8, none⟩ = some a8 ∧
      V.cell? ⟨g, o, none⟩ = some a9 ∧ Below W.heap.size W V := by
  have h2 := (hb.block b (lt_of_block h)).trans h
  exact ⟨cell_of h2 0, cell_of h2 1, cell_of h2 2, cell_of h2 3, cell_of h2 4, cell_of h2 5, cell_of h2 6, cell_of h2 7, cell_of h2 8, (hb.cell (World.block_lt_of_cell? W _ k)).trans k, hb⟩

def RdCut (wr wx : World) (t : Tm) (p : Value) : Prop := ∃ nb k n neg ma ml mc bits bytes a len cap, p = .pointer (some ⟨nb, 0, none⟩) ∧ wx.heap[nb]? = some (.cells #[.int .i64 k, .int .i64 n, .bool neg, .slice ma ml mc, .int .u64 bits, .string bytes, .slice a len cap] 40 (0, 0)) ∧
  TmAt (fun k => wr.heap.size ≤ k) wx (.agg #[.int .i64 k, .int .i64 n, .bool neg, .slice ma ml mc, .int .u64 bits, .string bytes, .slice a len cap]) t ∧ wr.heap.size ≤ nb ∧ Below wr.heap.size wr wx

theorem rd_behind {wr w6 : World} {t : Tm} {k n : Int} {neg : Bool} {ma : Option Addr} {ml mc : Nat} {bits : Int} {bytes : ByteArray} {a : Option Addr} {len cap : Nat}
    (ht : TmAt (fun k => wr.drew.heap.size ≤ k) w6 (.agg #[.int .i64 k, .int .i64 n, .bool neg, .slice ma ml mc, .int .u64 bits, .string bytes, .slice a len cap]) t) (hb : Below wr.drew.heap.size wr.drew w6) :
    RdCut wr (w6.alloc (.cells #[.int .i64 k, .int .i64 n, .bool neg, .slice ma ml mc, .int .u64 bits, .string bytes, .slice a len cap] 40)) t (.pointer (some ⟨w6.heap.size, 0, none⟩)) := by
  have hb' : Below wr.heap.size wr w6 := (Below.refl wr.heap.size wr).drew.trans hb
  exact ⟨_, _, _, _, _, _, _, _, _, _, _, _, rfl, World.alloc_heap_new w6 _, ht.lift (fun k _ hk => Below.heap_alloc _ _ _ hk), hb'.size, hb'.alloc hb'.size _⟩

theorem rd_ahead {wr w6 : World} {c : Array Value} {t : Tm} {k n : Int} {neg : Bool} {ma : Option Addr} {ml mc : Nat} {bits : Int} {bytes : ByteArray} {a : Option Addr} {len cap : Nat} {z0 z1 z2 z3 z4 z5 z6 : Value} (hc : c = #[z0, z1, z2, z3, z4, z5, z6])
    (ht : TmAt (fun k => (wr.alloc (.cells c 40)).drew.heap.size ≤ k) w6 (.agg #[.int .i64 k, .int .i64 n, .bool neg, .slice ma ml mc, .int .u64 bits, .string bytes, .slice a len cap]) t) (hb : Below (wr.alloc (.cells c 40)).drew.heap.size (wr.alloc (.cells c 40)).drew w6) :
    RdCut wr (set7 w6 wr.heap.size (.int .i64 k) (.int .i64 n) (.bool neg) (.slice ma ml mc) (.int .u64 bits) (.string bytes) (.slice a len cap)) t (.pointer (some ⟨wr.heap.size, 0, none⟩)) := by
  have hs : (wr.alloc (.cells c 40)).drew.heap.size = wr.heap.size + 1 := by simp
  have hb' : Below wr.heap.size wr w6 := ((Below.refl wr.heap.size wr).alloc (Nat.le_refl _) _).drew.trans (hb.mono (by rw [hs]; omega))
  have hh := held_new hb
  subst hc
  refine ⟨_, _, _, _, _, _, _, _, _, _, _, _, rfl, set7_heap hh _ _ _ _ _ _ _, ?_, Nat.le_refl _, set7_below hb' (Nat.le_refl _) _ _ _ _ _ _ _⟩
  refine (ht.lift (fun k hk _ => set7_off _ _ _ _ _ _ _ _ _ (by rw [hs] at hk; omega))).mono (fun k hk _ => ?_)
  rw [hs] at hk
  omega

theorem full_readEnd {w w' : World} {r : Option Tm} {e : Ending} (h : ReadEnd w w' r e) {t : Tm} (hr : r = some t) :
    ∃ k n neg ma ml mc bits bytes a len cap, e = .returned (.tuple #[.agg #[.int .i64 k, .int .i64 n, .bool neg, .slice ma ml mc, .int .u64 bits, .string bytes, .slice a len cap], .bool true]) ∧
      TmAt (fun k => w.heap.size ≤ k) w' (.agg #[.int .i64 k, .int .i64 n, .bool neg, .slice ma ml mc, .int .u64 bits, .string bytes, .slice a len cap]) t ∧ Below w.heap.size w w' := by
  obtain ⟨tv, t', rfl, ht, hp, hb⟩ := h
  have e := hp _ hr
  subst e
  obtain ⟨k, n, neg, ma, ml, mc, bits, bytes, a, len, cap, rfl⟩ := ht.shape
  exact ⟨k, n, neg, ma, ml, mc, bits, bytes, a, len, cap, by rw [hr]; rfl, ht, hb⟩

theorem push_below {wd w9 : World} {o : Obj} {base e size n : Nat} {v : Value} {xs : List Value} (hown : wd.ownsRow base e size v n xs) (hb : base ≤ wd.heap.size) (hg : (wd.alloc o).grownBy w9 v.ownBlock) : Below base wd w9 :=
  ((Below.refl base wd).alloc hb o).grown hg (by simp; omega) (fun k hk => (hown.lt k hk).1)

theorem own_set {w : World} {base g i e size n : Nat} {v : Value} {xs : List Value} (h : w.ownsRow base e size v n xs) (hg : g < base) (u : Value) : (w.setCell ⟨g, i, none⟩ u).ownsRow base e size v n xs := by
  refine h.kept (row := some g) ⟨rfl, rfl, rfl, by simp [World.setCell], fun k hk hne => Below.heap_setCell w _ u k (fun q => hne (by rw [q]))⟩ ?_
  cases hv : v.ownBlock with
  | none => exact .inl rfl
  | some k => exact .inr (fun q => by cases q; have := (h.lt _ hv).1; omega)

theorem csW_snoc (l : List Nat) (x : Nat) : csW (l ++ [x]) = csW l ++ [.int .u64 (x : Int)] := by simp [csW]

theorem push_drew {wd w9 : World} {o : Obj} {base e size n : Nat} {v : Value} {xs : List Value} (hown : wd.ownsRow base e size v n xs) (hb : base ≤ wd.heap.size) (hg : ((wd.alloc o).drew).grownBy w9 v.ownBlock) : Below base wd w9 :=
  ((Below.refl base wd).alloc hb o).drew.grown hg (by simp; omega) (fun k hk => (hown.lt k hk).1)

theorem news_one (wr : World) (x : Value) (t : TypeId) : ∀ i u, [x][i]? = some u → ((wr.alloc (.cells #[x] t)).drew).cell? ((⟨wr.heap.size, 0, none⟩ : Addr).add i) = some u := by
  intro i u hi
  match i with
  | 0 =>
    simp at hi
    subst hi
    have h : ((wr.alloc (.cells #[x] t)).drew).heap[wr.heap.size]? = some (.cells #[x] t (0, 0)) := World.alloc_heap_new wr _
    exact cell_of h 0
  | i + 1 => simp at hi

theorem one_u64 (x : Int) : ∀ u ∈ [Value.int .u64 x], u.oneCell' = true := by
  intro u hu
  rw [List.mem_singleton] at hu
  subst hu; rfl

theorem size_push {wr : World} {n : Nat} (h : n ≤ wr.heap.size) (o : Obj) : n ≤ ((wr.alloc o).drew).heap.size := by
  show n ≤ (wr.alloc o).heap.size
  simp
  omega

theorem reads_one (wr : World) (x : Value) (t : TypeId) : Reads ((wr.alloc (.cells #[x] t)).drew) (wr.heap.size + 1) 1 (some ⟨wr.heap.size, 0, none⟩) 1 [x] :=
  ⟨rfl, fun _ => ⟨_, rfl, Nat.lt_succ_self _, news_one wr x t⟩⟩

theorem own_keep {w w' : World} {B base e size n : Nat} {v : Value} {xs : List Value} (h : w.ownsRow base e size v n xs) (hlt : ∀ k, v.ownBlock = some k → k < B) (hb : Below B w w') : w'.ownsRow base e size v n xs := by
  refine ⟨h.1, ?_⟩
  rcases h.2 with hn | ⟨g, cap, cur, rfl, hbb, hgg, rest⟩
  · exact .inl hn
  · exact .inr ⟨g, cap, cur, rfl, hbb, by rw [hb.block g (hlt g rfl)]; exact hgg, rest⟩

/-- A list's first words as a row of words. -/
theorem news_many (wr : World) (xs : List Value) (t : TypeId) : ∀ i u, xs[i]? = some u → (wr.alloc (.cells xs.toArray t)).cell? ((⟨wr.heap.size, 0, none⟩ : Addr).add i) = some u := by
  intro i u hi
  have h : (wr.alloc (.cells xs.toArray t)).heap[wr.heap.size]? = some (.cells xs.toArray t (0, 0)) := World.alloc_heap_new wr _
  have h2 := cell_of h i
  rw [Go.WideShapes.add_plain, Nat.zero_add, h2]
  simpa using hi

theorem reads_many (wr : World) (xs : List Value) (t : TypeId) (n : Nat) (hn : xs.length = n) : Reads (wr.alloc (.cells xs.toArray t)) (wr.heap.size + 1) 1 (some ⟨wr.heap.size, 0, none⟩) n xs :=
  ⟨by omega, fun _ => ⟨_, rfl, Nat.lt_succ_self _, news_many wr xs t⟩⟩

end Go.Proofs.Ytohgkfnbjfhniaa

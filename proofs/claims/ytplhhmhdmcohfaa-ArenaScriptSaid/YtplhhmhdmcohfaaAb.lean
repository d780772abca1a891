/-
  ArenaApart: its walk.
-/
import Derived.Test.YtplhhmhdmcohfaaAw
import Derived.Maps.AppendAt
import Derived.WalkSmall
import Derived.Deep.LoopGhost
namespace Go.Proofs.Ytplhhmhdmcohfaa
open Go.RowKit Go.Maps

theorem Try.info3 : (Try.prog.info? 3).map (fun i => (i.zero, i.size, i.bytes)) = some (some (.int .i64 0), 1, 8) := by kernel_rfl

set_option maxHeartbeats 400000 in
theorem low_any (x n : Int) (w : World) (h1 : 1 ≤ n) (h2 : n ≤ 1000000) :
    Calls Try.prog 6 #[.int .i64 x, .int .i64 n] w fun e w' => ∃ r : Int, 0 ≤ r ∧ r < n ∧ e = .returned (.int .i64 r) ∧ w = w' := by
  have hn : ¬ n = 0 := by omega
  go_enter Try.func6, Try.ntmps6
  go_wp2
  go_ret
  have e0 : IntKind.u64.wrap x = x % 18446744073709551616 := IntKind.wrap_u64 x
  have h0 : 0 ≤ IntKind.u64.wrap x := by rw [e0]; omega
  have e1 : (IntKind.u64.wrap x).tmod n = (IntKind.u64.wrap x) % n := Int.tmod_eq_emod_of_nonneg h0
  have h3 : 0 ≤ (IntKind.u64.wrap x) % n := Int.emod_nonneg _ (by omega)
  have h4 : (IntKind.u64.wrap x) % n < n := Int.emod_lt_of_pos _ (by omega)
  refine ⟨(IntKind.u64.wrap x).tmod n, by rw [e1]; exact h3, by rw [e1]; exact h4, ?_, rfl⟩
  have e2 : wrap64 ((IntKind.u64.wrap x).tmod n) = (IntKind.u64.wrap x).tmod n := by rw [e1]; exact IntWalk.wrap64_in _ (by omega)
  show Ending.returned (.int .i64 (wrap64 _)) = _
  rw [e2]

/-- A room that is asked for, whatever comes. -/
theorem room_any (b : Nat) (B u c n : Int) (w : World)
    (c0 : w.cell? ⟨b, 0, none⟩ = some (.int .i64 B)) 
    (c2 : w.cell? ⟨b, 2, none⟩ = some (.int .i64 u)) (c3 : w.cell? ⟨b, 3, none⟩ = some (.int .i64 c))
    (hu : 0 ≤ u) (hu' : u ≤ 1099511627776) (hc : 0 ≤ c) (hc' : c ≤ 1099511627776) (hn : 0 ≤ n) (hn' : n ≤ 16777216) (r : Bool) (hr : r = decide (B = 0 ∨ u + c + n ≤ B)) :
    Calls Try.prog 22 #[.pointer (some ⟨b, 0, none⟩), .int .i64 n] w fun e w' => e = .returned (.bool r) ∧ ∃ n, w' = w.drewN n := by
  by_cases h : B = 0
  · subst h
    have : r = true := by simp [hr]
    rw [this]; exact room_zero b n w c0
  · have : r = decide (u + c + n ≤ B) := by rw [hr]; congr 1; simp [h]
    rw [this]; exact room_pos b B u c n w c0 c2 c3 (by simpa using h) hu hu' hc hc' hn hn'


/-- The two slices of the loop: what they own, apart from one another and from the arena. -/
structure RS (w0 : World) (b bm : Nat) (ats ns : List Int) (va vm : Value) (w : World) : Prop where
  nb : w0.heap.size ≤ b
  nm : w0.heap.size ≤ bm
  bw : b < w.heap.size
  mw : bm < w.heap.size
  oa : w.ownsRow w0.heap.size 3 1 va ats.length (ats.map (Value.int .i64))
  om : w.ownsRow w0.heap.size 3 1 vm ns.length (ns.map (Value.int .i64))
  da : va.ownBlock ≠ some b ∧ va.ownBlock ≠ some bm
  dm : vm.ownBlock ≠ some b ∧ vm.ownBlock ≠ some bm
  dd : va.ownBlock = none ∨ va.ownBlock ≠ vm.ownBlock
  bel : Below w0.heap.size w0 w

theorem own_fr {S : Nat → Prop} {w w' : World} {base : Nat} {v : Value} {n : Nat} {xs : List Value} (h : w.ownsRow base 3 1 v n xs) (f : Fr S w w') (hs : ∀ k, v.ownBlock = some k → ¬ S k) : w'.ownsRow base 3 1 v n xs := by
  obtain ⟨h1, h2⟩ := h
  refine ⟨h1, ?_⟩
  rcases h2 with h2 | ⟨g, cap, cur, rfl, hb, hg, r⟩
  · exact .inl h2
  · refine .inr ⟨g, cap, cur, rfl, hb, ?_, r⟩
    rw [f.block g (Array.getElem?_eq_some_iff.1 hg).1 (hs g rfl)]; exact hg

theorem RS.fr {w0 : World} {b bm : Nat} {ats ns : List Int} {va vm : Value} {w w' : World} (h : RS w0 b bm ats ns va vm w) (f : Fr (fun k => k = b ∨ k = bm) w w') : RS w0 b bm ats ns va vm w' :=
  ⟨h.nb, h.nm, Nat.lt_of_lt_of_le h.bw f.size, Nat.lt_of_lt_of_le h.mw f.size, own_fr h.oa f (fun k e q => by rcases q with rfl | rfl; exact h.da.1 e; exact h.da.2 e), own_fr h.om f (fun k e q => by rcases q with rfl | rfl; exact h.dm.1 e; exact h.dm.2 e), h.da, h.dm, h.dd,
    f.below h.bel (fun i q => by rcases q with rfl | rfl; exact h.nb; exact h.nm) h.bel.size⟩

theorem RS.app1 {w0 : World} {b bm : Nat} {ats ns : List Int} {va vm va' : Value} {w w' : World} {o : Obj} {x : Int} {N : Nat} {xs : List Value} (h : RS w0 b bm ats ns va vm w)
    (ho : w'.ownsRow w0.heap.size 3 1 va' N xs) (hN : N = ats.length + 1) (hxs : xs = ats.map (Value.int .i64) ++ [.int .i64 x]) (hg : (w.alloc o).grownBy w' va.ownBlock)
    (hl : va'.ownBlock = va.ownBlock ∨ va'.ownBlock = some (w.alloc o).heap.size) :
    RS w0 b bm (ats ++ [x]) ns va' vm w' ∧ Fr (fun k => va.ownBlock = some k) w w' := by
  have f : Fr (fun k => va.ownBlock = some k) w w' := ((Fr.refl _ w).alloc o).grown hg (fun k e _ => e)
  have hb := h.bw
  have hm := h.mw
  refine ⟨⟨h.nb, h.nm, Nat.lt_of_lt_of_le h.bw f.size, Nat.lt_of_lt_of_le h.mw f.size, ?_, ?_, ?_, h.dm, ?_, ?_⟩, f⟩
  · subst hN hxs; simpa using ho
  · exact own_fr h.om f (fun k e q => by rcases h.dd with d | d; rw [d] at q; cases q; exact d (q.trans e.symm))
  · rcases hl with e | e
    · rw [e]; exact h.da
    · rw [e]; simp; omega
  · rcases hl with e | e
    · rw [e]; exact h.dd
    · refine .inr ?_
      rw [e]; intro q
      have := (h.om.lt _ q.symm).2
      simp at this; omega
  · exact f.below h.bel (fun i q => (h.oa.lt i q).1) h.bel.size

theorem RS.app2 {w0 : World} {b bm : Nat} {ats ns : List Int} {va vm vm' : Value} {w w' : World} {o : Obj} {x : Int} {N : Nat} {xs : List Value} (h : RS w0 b bm ats ns va vm w)
    (ho : w'.ownsRow w0.heap.size 3 1 vm' N xs) (hN : N = ns.length + 1) (hxs : xs = ns.map (Value.int .i64) ++ [.int .i64 x]) (hg : (w.alloc o).grownBy w' vm.ownBlock)
    (hl : vm'.ownBlock = vm.ownBlock ∨ vm'.ownBlock = some (w.alloc o).heap.size) :
    RS w0 b bm ats (ns ++ [x]) va vm' w' ∧ Fr (fun k => vm.ownBlock = some k) w w' := by
  have f : Fr (fun k => vm.ownBlock = some k) w w' := ((Fr.refl _ w).alloc o).grown hg (fun k e _ => e)
  have hb := h.bw
  have hm := h.mw
  refine ⟨⟨h.nb, h.nm, Nat.lt_of_lt_of_le h.bw f.size, Nat.lt_of_lt_of_le h.mw f.size, ?_, ?_, h.da, ?_, ?_, ?_⟩, f⟩
  · exact own_fr h.oa f (fun k e q => by rcases h.dd with d | d; rw [d] at e; cases e; exact d (e.trans q.symm))
  · subst hN hxs; simpa using ho
  · rcases hl with e | e
    · rw [e]; exact h.dm
    · rw [e]; simp; omega
  · rcases hl with e | e
    · rw [e]; exact h.dd
    · refine .inr ?_
      rw [e]; intro q
      have := (h.oa.lt _ q).2
      simp at this; omega
  · exact f.below h.bel (fun i q => (h.om.lt i q).1) h.bel.size

/-- What the loop keeps: regions that stand, the slices that say so. -/
structure R1 (w0 : World) (b bm : Nat) (B : Int) (k : Nat) (x last : Int) (ats ns : List Int) (va vm : Value) (w : World) : Prop where
  m : ∃ u m, m ≤ k ∧ ArAt w b bm B x u 0 (ats.zip ns) m ∧ u = ns.sum ∧ (B = 0 ∨ u ≤ B)
  len : ats.length = ns.length
  ns1 : ∀ n ∈ ns, 1 ≤ n ∧ n ≤ 100
  lt : ∀ a ∈ ats, a < x
  ge : ∀ a ∈ ats, 1 ≤ a
  last : last < x
  x1 : 1 ≤ x
  x2 : x ≤ 1 + 101 * k
  lk : ats.length ≤ k
  rs : RS w0 b bm ats ns va vm w

theorem used0 (b : Nat) (u : Int) (w : World)
    (c2 : w.cell? ⟨b, 2, none⟩ = some (.int .i64 u)) (c3 : w.cell? ⟨b, 3, none⟩ = some (.int .i64 0))
    (hu : 0 ≤ u) (hu' : u ≤ 1099511627776) :
    Calls Try.prog 9 #[.pointer (some ⟨b, 0, none⟩)] w fun e w' => e = .returned (.int .i64 u) ∧ ∃ n, w' = w.drewN n := by
  have := used_any b u 0 w c2 c3 hu hu' (by omega) (by omega)
  rw [Int.add_zero] at this; exact this

theorem rm_of_not {L : List (Int × Int)} {x : Int} (h : hs L x = false) : rm L x = L := by
  rw [rm, List.filter_eq_self]; intro p hp
  rw [hs, List.any_eq_false] at h
  simpa using h p hp

theorem give_last {b bm : Nat} {B x u n c : Int} {L : List (Int × Int)} {m : Nat} (k : Int) (w : World) (h : ArAt w b bm B x (u + n) c (L ++ [(k, n)]) m)
    (hk : (Lit.int .i64 k).wf = true) (hu : 0 ≤ u) (hn : 0 ≤ n) (hu' : u + n ≤ 1099511627776) (hL : hs L k = false) :
    Calls Try.prog 11 #[.pointer (some ⟨b, 0, none⟩), .int .i64 k] w fun e w' => e = .returned (.bool true) ∧
      ArAt w' b bm B x u c L m ∧ Fr (fun k => k = b ∨ k = bm) w w' := by
  have e1 : lk (L ++ [(k, n)]) k = n := lk_snoc_same hL
  have e2 : hs (L ++ [(k, n)]) k = true := by rw [hs_snoc]; simp
  have e3 : rm (L ++ [(k, n)]) k = L := by
    have := rm_of_not hL
    simp only [rm, List.filter_append] at this ⊢
    rw [this]; simp
  have := give_is k true w h hk (by rw [e1]; omega) (by rw [e1]; omega) hu' e2
  rw [e1, e3, Int.add_sub_cancel] at this
  exact this

theorem rs_pop {w0 : World} {b bm : Nat} {ats ns : List Int} {x n : Int} {va vm : Value} {w : World} (h : RS w0 b bm (ats ++ [x]) (ns ++ [n]) va vm w) :
    ∃ g cap g' cap' : Nat, va = .slice (some ⟨g, 0, none⟩) (ats.length + 1) cap ∧ vm = .slice (some ⟨g', 0, none⟩) (ns.length + 1) cap' ∧ ats.length + 1 ≤ cap ∧ ns.length + 1 ≤ cap' ∧
      RS w0 b bm ats ns (.slice (some ⟨g, 0, none⟩) ats.length cap) (.slice (some ⟨g', 0, none⟩) ns.length cap') w := by
  obtain ⟨nb, nm, bw, mw, oa, om, da, dm, dd, bel⟩ := h
  rcases oa.2 with ⟨_, q⟩ | ⟨g, cap, cur, rfl, hb, hg, hn, hr⟩
  · simp at q
  rcases om.2 with ⟨_, q⟩ | ⟨g', cap', cur', rfl, hb', hg', hn', hr'⟩
  · simp at q
  refine ⟨g, cap, g', cap', by simp, by simp, by simpa using hn, by simpa using hn', nb, nm, bw, mw, ?_, ?_, da, dm, dd, bel⟩
  · exact ownsRow_pop (last := [.int .i64 x]) (by simp) (by simpa using oa)
  · exact ownsRow_pop (last := [.int .i64 n]) (by simp) (by simpa using om)

theorem R1.start {w0 w1 : World} {b bm : Nat} {B : Int} (a1 : ArAt w1 b bm B 1 0 0 [] 0) (hB : 0 ≤ B) (hb : w0.heap.size ≤ b) (hm : w0.heap.size ≤ bm) (f : Below w0.heap.size w0 w1) :
    R1 w0 b bm B 0 1 0 [] [] (.slice none 0 0) (.slice none 0 0) w1 :=
  ⟨⟨0, 0, by omega, a1, rfl, by omega⟩, rfl, by simp, by simp, by simp, by omega, by omega, by omega, by simp, hb, hm, a1.lt, a1.ltm, World.ownsRow_nil _ _ _ _, World.ownsRow_nil _ _ _ _, by simp [Value.ownBlock], by simp [Value.ownBlock], by simp [Value.ownBlock], f⟩

theorem sum_nonneg {ns : List Int} (h : ∀ n ∈ ns, 1 ≤ n ∧ n ≤ 100) : 0 ≤ ns.sum ∧ ns.sum ≤ 100 * ns.length := by
  induction ns with
  | nil => simp
  | cons a r ih =>
    have := ih (fun n hn => h n (by simp [hn])); have := h a (by simp)
    simp only [List.sum_cons, List.length_cons]; omega

theorem hs_zip_lt {ats ns : List Int} {x : Int} (h : ∀ a ∈ ats, a < x) : hs (ats.zip ns) x = false := by
  rw [hs, List.any_eq_false]; intro p hp
  have := h p.1 (List.of_mem_zip hp).1
  simp; omega

theorem own_slice {w : World} {base : Nat} {v : Value} {ns : List Int} (h : w.ownsRow base 3 1 v ns.length (ns.map (Value.int .i64))) :
    ∃ a cap, v = .slice a ns.length cap ∧ ∀ j, j < ns.length → ∃ p : Addr, a = some p ∧ w.cell? (p.add j) = some (.int .i64 (ns.getD j 0)) := by
  rcases h.2 with ⟨rfl, q⟩ | ⟨g, cap, cur, rfl, hb, hg, hn, hr⟩
  · exact ⟨none, 0, by rw [q], fun j hj => by omega⟩
  · refine ⟨_, _, rfl, fun j hj => ⟨_, rfl, ?_⟩⟩
    exact h.cells rfl j _ (by simp [List.getD_eq_getElem?_getD, hj])

theorem own_slice2 {w0 : World} {b bm : Nat} {ats ns : List Int} {va vm : Value} {w : World} (h : RS w0 b bm ats ns va vm w) :
    ∃ a cap, va = .slice a ats.length cap ∧ ∀ j, j < ats.length → ∃ p : Addr, a = some p ∧ ∀ W, Fr (fun k => k = b ∨ k = bm) w W → W.cell? (p.add j) = some (.int .i64 (ats.getD j 0)) := by
  rcases h.oa.2 with ⟨rfl, q⟩ | ⟨g, cap, cur, rfl, hb, hg, hn, hr⟩
  · exact ⟨none, 0, by rw [q], fun j hj => by omega⟩
  · refine ⟨_, _, rfl, fun j hj => ⟨_, rfl, fun W f => ?_⟩⟩
    exact (h.fr f).oa.cells rfl j _ (by simp [List.getD_eq_getElem?_getD, hj])

theorem regions_is {b bm : Nat} {B x u c : Int} {L : List (Int × Int)} {m : Nat} (w : World) (h : ArAt w b bm B x u c L m) (n : Nat) (hn : L.length = n) :
    Calls Try.prog 12 #[.pointer (some ⟨b, 0, none⟩)] w fun e w' => e = .returned (.int .i64 n) ∧ w' = w := by
  subst hn; exact regions_any w h

theorem give_head {b bm : Nat} {B x u n c : Int} {L : List (Int × Int)} {m : Nat} (k : Int) (w : World) (h : ArAt w b bm B x u c ((k, n) :: L) m)
    (hk : (Lit.int .i64 k).wf = true) (hn : 0 ≤ n) (hu : n ≤ u) (hu' : u ≤ 1099511627776) :
    Calls Try.prog 11 #[.pointer (some ⟨b, 0, none⟩), .int .i64 k] w fun e w' => e = .returned (.bool true) ∧
      ArAt w' b bm B x (u - n) c L m ∧ Fr (fun k => k = b ∨ k = bm) w w' := by
  obtain ⟨D, _, hrep⟩ := h.own
  have hno : hs L k = false := by
    rw [hs, List.any_eq_false]; intro q hq
    have := (List.pairwise_cons.1 hrep.nod).1 q hq
    simp; exact fun z => this z.symm
  have e1 : lk ((k, n) :: L) k = n := by simp [lk]
  have e2 : hs ((k, n) :: L) k = true := by simp [hs]
  have e3 : rm ((k, n) :: L) k = L := by
    have := rm_of_not hno
    simp only [rm] at this ⊢
    simp [this]
  have := give_is k true w h hk (by rw [e1]; exact hu) (by rw [e1]; exact hn) hu' e2
  rw [e1, e3] at this
  exact this

theorem drop_zip {ats ns : List Int} {j : Nat} (h : ats.length = ns.length) (hj : j < ats.length) : (ats.zip ns).drop j = (ats[j], ns[j]'(h ▸ hj)) :: (ats.zip ns).drop (j + 1) := by
  rw [List.drop_eq_getElem_cons (by simp; omega)]; simp

theorem sum_drop_succ {ns : List Int} {j : Nat} (h : j < ns.length) : (ns.drop j).sum = ns[j] + (ns.drop (j + 1)).sum := by
  rw [List.drop_eq_getElem_cons h, List.sum_cons]

theorem sum_drop_le {ns : List Int} (h : ∀ n ∈ ns, 1 ≤ n ∧ n ≤ 100) (j : Nat) : 0 ≤ (ns.drop j).sum ∧ (ns.drop j).sum ≤ 100 * ns.length := by
  have := sum_nonneg (ns := ns.drop j) (fun n hn => h n (List.mem_of_mem_drop hn))
  have h2 : (ns.drop j).length ≤ ns.length := by simp
  omega

theorem sum_take_succ {ns : List Int} {j : Nat} (h : j < ns.length) : (ns.take (j + 1)).sum = (ns.take j).sum + ns[j] := by
  rw [List.take_succ_eq_append_getElem h, List.sum_append]; simp

theorem sum_take_le {ns : List Int} (h : ∀ n ∈ ns, 1 ≤ n ∧ n ≤ 100) (j : Nat) : 0 ≤ (ns.take j).sum ∧ (ns.take j).sum ≤ 100 * ns.length := by
  have := sum_nonneg (ns := ns.take j) (fun n hn => h n (List.mem_of_mem_take hn))
  have h2 : (ns.take j).length ≤ ns.length := by simp; omega
  omega

theorem getD_rng {ns : List Int} (h : ∀ n ∈ ns, 1 ≤ n ∧ n ≤ 100) {j : Nat} (hj : j < ns.length) : 1 ≤ ns[j] ∧ ns[j] ≤ 100 :=
  h ns[j] (List.getElem_mem hj)

theorem zip_snoc {ats ns : List Int} {x n : Int} (h : ats.length = ns.length) : (ats ++ [x]).zip (ns ++ [n]) = ats.zip ns ++ [(x, n)] := by
  rw [List.zip_append h]; rfl

theorem R1.keep {w0 : World} {b bm : Nat} {B : Int} {k : Nat} {x last n0 u : Int} {ats ns : List Int} {va vm va1 vm1 : Value} {w w4 : World} {m : Nat} (h : R1 w0 b bm B k x last ats ns va vm w)
    (hm : m ≤ k) (hu : u = ns.sum) (h0 : 0 ≤ n0) (h1 : n0 < 100) (hok : B = 0 ∨ u + 0 + (1 + n0) ≤ B)
    (a : ArAt w4 b bm B (x + (1 + n0 + 1)) (u + (1 + n0)) 0 (ats.zip ns ++ [(x, 1 + n0)]) (m + 1)) (rs : RS w0 b bm (ats ++ [x]) (ns ++ [1 + n0]) va1 vm1 w4) :
    R1 w0 b bm B (k + 1) (x + (1 + n0 + 1)) (x + (1 + n0) - 1) (ats ++ [x]) (ns ++ [1 + n0]) va1 vm1 w4 := by
  have hx2 := h.x2
  have hx1 := h.x1
  have hlk := h.lk
  refine ⟨⟨u + (1 + n0), m + 1, by omega, ?_, by simp [hu], by omega⟩, by simp [h.len], ?_, ?_, ?_, by omega, by omega, by push_cast; omega, by simp; omega, rs⟩
  · rw [zip_snoc h.len]; exact a
  · intro n hn
    rcases List.mem_append.1 hn with q | q
    · exact h.ns1 n q
    · simp at q; omega
  · intro n hn
    rcases List.mem_append.1 hn with q | q
    · have := h.lt n q; omega
    · simp at q; omega
  · intro n hn
    rcases List.mem_append.1 hn with q | q
    · have := h.ge n q; omega
    · simp at q; omega

theorem R1.drop {w0 : World} {b bm : Nat} {B : Int} {k : Nat} {x last n0 u : Int} {ats ns : List Int} {va vm va1 vm1 : Value} {w w5 : World} {m : Nat} (h : R1 w0 b bm B k x last ats ns va vm w)
    (hm : m ≤ k) (hu : u = ns.sum) (h0 : 0 ≤ n0) (h1 : n0 < 100) (hub : B = 0 ∨ u ≤ B)
    (a : ArAt w5 b bm B (x + (1 + n0 + 1)) u 0 (ats.zip ns) (m + 1)) (rs : RS w0 b bm ats ns va1 vm1 w5) :
    R1 w0 b bm B (k + 1) (x + (1 + n0 + 1)) (x + (1 + n0) - 1) ats ns va1 vm1 w5 := by
  have hx2 := h.x2
  have hx1 := h.x1
  have hlk := h.lk
  refine ⟨⟨u, m + 1, by omega, a, hu, hub⟩, h.len, h.ns1, ?_, h.ge, by omega, by omega, by push_cast; omega, by omega, rs⟩
  intro n hn
  have := h.lt n hn; omega

theorem R1.stay {w0 : World} {b bm : Nat} {B : Int} {k : Nat} {x last : Int} {ats ns : List Int} {va vm : Value} {w : World} (h : R1 w0 b bm B k x last ats ns va vm w) (j : Nat) :
    R1 w0 b bm B (k + 1) x last ats ns va vm (w.drewN j) := by
  have hx2 := h.x2
  have hlk := h.lk
  obtain ⟨u, m, hm, ar, hu⟩ := h.m
  exact ⟨⟨u, m, by omega, ar.drewN j, hu⟩, h.len, h.ns1, h.lt, h.ge, h.last, h.x1, by push_cast; omega, by omega, h.rs.fr ((Fr.refl _ _).drewN j)⟩

set_option maxRecDepth 100000 in
set_option maxHeartbeats 1000000 in
theorem apart_any (budget bits : Int) (a0 : Option Addr) (len cap : Nat) (zs : List Int) (w : World) (hreach : len ≤ 9223372036854775807)
    (hc : ∀ j, j < len → ∀ W, Below w.heap.size w W → ∃ p, a0 = some p ∧ W.cell? (p.add j) = some (.int .i64 (zs.getD j 0))) :
    Calls Try.prog 3 #[.int .i64 budget, .slice a0 len cap, .int .i64 bits] w fun e w' => e = .returned (.bool true) ∧ Below w.heap.size w w' := by
  by_cases hlen : 60 < len
  · have hl : (60 : Int) < len := by omega
    go_enter Try.func3, Try.ntmps3
    go_wp2_with fail
    refine (low_any _ _ _ (by omega) (by omega)).mono ?_
    rintro e w' ⟨B, hB0, hB1, rfl, rfl⟩
    go_wp2_with (go_at_call 7; refine (awake_any _).mono ?_; rintro e w1 ⟨rfl, hf⟩)
    go_ret
    exact ⟨rfl, hf.below0⟩
  have hl : ¬ (60 : Int) < len := by omega
  obtain ⟨i0, hi, hz0, hz1, hz2⟩ := info_parts Try.info3
  go_enter Try.func3, Try.ntmps3
  go_wp2_with fail
  refine (low_any _ _ _ (by omega) (by omega)).mono ?_
  rintro e w' ⟨B, hB0, hB1, rfl, rfl⟩
  go_wp2_with fail
  refine (new_ok B _ (by omega) (by omega)).mono ?_
  rintro e w1 ⟨b, bm, rfl, hb, hm, a1, fr1⟩
  have A1 := Lib.hid a1
  have HB := Lib.hid hb
  have HM := Lib.hid hm
  have FR1 := Lib.hid fr1.below0
  clear a1 fr1 hb hm
  go_wp2_with fail
  go_loopw [8, 9, 10, 11] (fun va vm la i wr => ∃ (k : Nat) (x lastv : Int) (ats ns : List Int), k ≤ len ∧ i = .int .i64 k ∧ la = .int .i64 lastv ∧ R1 w b bm B k x lastv ats ns va vm wr) (fun _ _ _ i _ => len - (intOf i).toNat)
  case atStart => exact ⟨0, 1, 0, [], [], by omega, rfl, rfl, R1.start A1.out hB0 HB.out HM.out FR1.out⟩
  case round =>
    obtain ⟨k, x, lastv, ats, ns, hk, rfl, rfl, R⟩ := hrel
    obtain ⟨u, m, hm, ar, hu, hub⟩ := R.m
    have hsn := sum_nonneg R.ns1
    have hll := R.lk
    have hle := R.len
    have HX := Lib.hid (hs_zip_lt (ns := ns) R.lt)
    have hu0 : 0 ≤ u := by omega
    have hu1 : u ≤ 100 * 60 := by omega
    clear hsn
    have hx1 := R.x1
    have hx2 := R.x2
    have hla := R.last
    have AR := Lib.hid ar
    have HU := Lib.hid hu
    have HUB := Lib.hid hub
    have HLE := Lib.hid hle
    clear hu hub ar hle
    by_cases hlt : k < len
    · obtain ⟨p, rfl, hcell⟩ := hc k hlt wr R.rs.bel
      have HR := Lib.hid R
      have HC := Lib.hid hc
      clear R hc
      obtain ⟨r, hBb, hBp, hB⟩ : ∃ r : Bool, (B == 0) = r ∧ decide (0 < B) = !r ∧ (r = true ↔ B = 0) := by
        by_cases h : B = 0
        · exact ⟨true, by simp [h], by simp [h], by simp [h]⟩
        · exact ⟨false, by simp [h], by simp; omega, by simp [h]⟩
      have HBZ := Lib.hid hB
      clear hB
      go_wp2_with fail
      refine (low_any _ _ _ (by omega) (by omega)).mono ?_
      rintro e w' ⟨n0, hn0, hn1, rfl, rfl⟩
      go_wp2_with fail
      refine (used0 b u _ AR.out.c2 AR.out.c3 hu0 (by omega)).mono ?_
      rintro e w' ⟨rfl, k9, rfl⟩
      go_wp2_with fail
      by_cases hok : B = 0 ∨ u + 0 + (1 + n0) ≤ B
      · refine (take_ok (1 + n0) _ (AR.out.drewN k9) (by omega) (by omega) (by omega) (by omega) (by omega) (by omega) (by omega) HX.out
          (room_any b B u 0 (1 + n0) _ (AR.out.drewN k9).c0 (AR.out.drewN k9).c2 (AR.out.drewN k9).c3 (by omega) (by omega) (by omega) (by omega) (by omega) (by omega) true (by simp only [hok, decide_true]))).mono ?_
        rintro e w2 ⟨rfl, a2, fr2⟩
        have A2 := Lib.hid a2
        have FR2 := Lib.hid fr2
        clear a2 fr2
        have RS2 := Lib.hid ((HR.out.rs.fr ((Fr.refl _ wr).drewN k9)).fr FR2.out)
        have hoa := RS2.out.oa
        have hom := RS2.out.om
        have hle : r = false → u + (1 + n0) ≤ B := by intro e; rcases hok with h | h; exact absurd (HBZ.out.2 h) (by simp [e]); omega
        have HOK := Lib.hid hok
        clear hok
        cases r
        all_goals
          first
            | replace hle := hle rfl
            | clear hle
          go_wp2_with (first
            | (go_at_call 11; refine (give_last x _ A4.out (WalkArith.wf_i64 (by omega)) hu0 (by omega) (by omega) HX.out).mono ?_; rintro e w5 ⟨rfl, a5, fr5⟩; have A5 := Lib.hid a5; have FR5 := Lib.hid fr5; clear a5 fr5)
            | (go_at_call 9; refine (used0 b u _ A5.out.c2 A5.out.c3 (by omega) (by omega)).mono ?_; rintro e w' ⟨rfl, k6, rfl⟩)
            | (go_at_call 9; refine (used0 b (u + (1 + n0)) _ A2.out.c2 A2.out.c3 (by omega) (by omega)).mono ?_; rintro e w' ⟨rfl, k3, rfl⟩)
            | (at_builtin; refine wpList_append_own_at _ rfl (.tmp 86) (.tmp 88) 22 rfl w.heap.size 3 i0 (.int .i64 0) 1 8 Try.underlying22 hi hz0 hz1 hz2 rfl (by decide) u8 _ _ rfl (World.ownsRow.alloc hoa _) _ 1 1 [.int .i64 x] rfl rfl (cell_one_new _ _ _) (ints_oneCell .i64 [x]) (by unfold maxLen; omega) (by omega) (by have := RS2.out.bel.size; simp; omega) ?_; intro va1 w3 hown1 hgrow1 _ hloc1
               have R3 : RS w b bm (ats ++ [x]) ns va1 u9 w3 ∧ Fr (fun k => u8.ownBlock = some k) w2 w3 := (by first | exact RS.app1 RS2.out hown1 rfl rfl hgrow1 hloc1 | exact (fun r => ⟨r.1, ((Fr.refl _ w2).drewN _).trans r.2⟩) (RS.app1 (RS2.out.fr ((Fr.refl _ _).drewN _)) hown1 rfl rfl hgrow1 hloc1))
               have RS3 := Lib.hid R3.1
               have A3 := Lib.hid (A2.out.fr R3.2 HR.out.rs.da.1 HR.out.rs.da.2)
               clear hown1 hgrow1 hloc1 R3)
            | (at_builtin; refine wpList_append_own_at _ rfl (.tmp 90) (.tmp 92) 22 rfl w.heap.size 3 i0 (.int .i64 0) 1 8 Try.underlying22 hi hz0 hz1 hz2 rfl (by decide) u9 _ _ rfl (World.ownsRow.alloc RS3.out.om _) _ 1 1 [.int .i64 (1 + n0)] rfl rfl (cell_one_new _ _ _) (ints_oneCell .i64 [1 + n0]) (by have := HLE.out; unfold maxLen; omega) (by have := HLE.out; omega) (by have := RS3.out.bel.size; simp; omega) ?_; intro vm1 w4 hown2 hgrow2 _ hloc2
               have R4 : RS w b bm (ats ++ [x]) (ns ++ [1 + n0]) va1 vm1 w4 ∧ Fr (fun k => u9.ownBlock = some k) w3 w4 := RS.app2 RS3.out hown2 rfl rfl hgrow2 hloc2
               have RS4 := Lib.hid R4.1
               have A4 := Lib.hid (A3.out.fr R4.2 HR.out.rs.dm.1 HR.out.rs.dm.2)
               obtain ⟨g, cap1, g', cap1', hva, hvm, hcap, hcap', rsp⟩ := rs_pop R4.1
               have HVA := Lib.hid hva
               have HVM := Lib.hid hvm
               have RSP := Lib.hid rsp
               clear hown2 hgrow2 hloc2 R4 hva hvm rsp))
        · rw [HVA.out, HVM.out]
          have q1 : (ats.length : Int) ≤ (cap1 : Int) := by omega
          have q2 : (ns.length : Int) ≤ (cap1' : Int) := by omega
          have q3 : (ats.length : Int) ≤ 60 := by omega
          have q4 : (ns.length : Int) ≤ 60 := by have := HLE.out; omega
          go_quiet (fail)
          go_wp2
          go_roundw
          case rel => exact ⟨k + 1, _, _, _, _, by omega, by go_num, rfl, R1.drop HR.out hm HU.out (by omega) (by omega) HUB.out (A5.out.drewN _) (RSP.out.fr (FR5.out.drewN _))⟩
          case measure => simp [intOf]; omega
        · go_roundw
          case rel => exact ⟨k + 1, _, _, _, _, by omega, by go_num, rfl, R1.keep HR.out hm HU.out (by omega) (by omega) HOK.out A4.out RS4.out⟩
          case measure => simp [intOf]; omega
        · rw [HVA.out, HVM.out]
          have q1 : (ats.length : Int) ≤ (cap1 : Int) := by omega
          have q2 : (ns.length : Int) ≤ (cap1' : Int) := by omega
          have q3 : (ats.length : Int) ≤ 60 := by omega
          have q4 : (ns.length : Int) ≤ 60 := by have := HLE.out; omega
          go_quiet (fail)
          go_wp2
          go_roundw
          case rel => exact ⟨k + 1, _, _, _, _, by omega, by go_num, rfl, R1.drop HR.out hm HU.out (by omega) (by omega) HUB.out (A5.out.drewN _) (RSP.out.fr (FR5.out.drewN _))⟩
          case measure => simp [intOf]; omega
        · go_roundw
          case rel => exact ⟨k + 1, _, _, _, _, by omega, by go_num, rfl, R1.keep HR.out hm HU.out (by omega) (by omega) HOK.out A4.out RS4.out⟩
          case measure => simp [intOf]; omega
      · have hnB : r = false := by
          cases r
          · rfl
          · exact absurd (.inl (HBZ.out.1 rfl)) hok
        subst hnB
        have hgt : B < u + (1 + n0) := by omega
        refine (take_room (1 + n0) _ (AR.out.drewN k9) (by omega) (by omega) hBb hu0 (by omega) (by omega) (by omega) (by simp; omega)).mono ?_
        rintro e w' ⟨rfl, k2, rfl⟩
        have hle : u ≤ B := by
          rcases HUB.out with h | h
          · exact absurd (.inl h) hok
          · exact h
        clear hok
        go_wp2_with (go_at_call 9; refine (used0 b u _ (AR.out.drewN _).c2 (AR.out.drewN _).c3 (by omega) (by omega)).mono ?_; rintro e w' ⟨rfl, k3, rfl⟩)
        go_roundw
        case rel => exact ⟨k + 1, _, _, _, _, by omega, by go_num, rfl, R1.stay HR.out _⟩
        case measure => simp [intOf]; omega
    · go_wp2_with fail
      have HR := Lib.hid R
      obtain ⟨am, cm, hum, hcm⟩ := own_slice R.rs.om
      obtain ⟨aa, ca, hua, hca⟩ := own_slice2 R.rs
      have HC := Lib.hid hc
      have HUM := Lib.hid hum
      have HUA := Lib.hid hua
      have HCM := Lib.hid hcm
      have HCA := Lib.hid hca
      clear R hc hum hcm hua hca
      rw [HUM.out, HUA.out]
      go_loop [16, 17] (fun t i => ∃ j : Nat, j ≤ ns.length ∧ i = .int .i64 j ∧ t = .int .i64 (ns.take j).sum) (fun _ i => ns.length - (intOf i).toNat)
      case atStart => exact ⟨0, by omega, rfl, rfl⟩
      case round =>
        obtain ⟨j, hj, rfl, rfl⟩ := hrel
        have hs1 := sum_take_le HR.out.ns1 j
        have hnl := HLE.out
        have hnl' : ns.length ≤ 60 := by omega
        clear hnl
        by_cases hjl : j < ns.length
        · obtain ⟨p, rfl, hcell⟩ := HCM.out j hjl
          have HST := Lib.hid (sum_take_succ hjl)
          have hgd := getD_rng HR.out.ns1 hjl
          go_wp2_with fail
          go_round
          case rel => exact ⟨j + 1, by omega, by go_num, by rw [HST.out]⟩
          case measure => simp [intOf]; omega
        · obtain rfl : j = ns.length := by omega
          go_wp2_with fail
          refine (used0 b u _ AR.out.c2 AR.out.c3 hu0 (by omega)).mono ?_
          rintro e w' ⟨rfl, k2, rfl⟩
          have hsum : (u != (List.take ns.length ns).sum) = false := by rw [List.take_length, HU.out]; simp
          have HZL := Lib.hid (show (ats.zip ns).length = ats.length by rw [List.length_zip, HLE.out]; simp)
          go_wp2_with (go_at_call 12; refine (regions_is _ (AR.out.drewN _) _ HZL.out).mono ?_; rintro e w' ⟨rfl, rfl⟩)
          go_loopw [18] (fun i W' => ∃ (j : Nat) (u' : Int), j ≤ ats.length ∧ i = .int .i64 j ∧ ArAt W' b bm B x u' 0 ((ats.zip ns).drop j) m ∧ u' = (ns.drop j).sum ∧ Fr (fun k => k = b ∨ k = bm) wr W') (fun i _ => ats.length - (intOf i).toNat)
          case atStart => exact ⟨0, u, by omega, rfl, AR.out.drewN _, HU.out, (Fr.refl _ _).drewN _⟩
          case round =>
            obtain ⟨j, u', hj, rfl, a3, hu3, f3⟩ := hrel
            have HU3 := Lib.hid hu3
            have A3 := Lib.hid a3
            have F3 := Lib.hid f3
            have hs3 := sum_drop_le HR.out.ns1 j
            rw [← hu3] at hs3
            clear hu3 a3 f3
            by_cases hjl : j < ats.length
            · obtain ⟨p, rfl, hcell⟩ := HCA.out j hjl
              have hcell' := hcell _ F3.out
              clear hcell
              have hj2 : j < ns.length := by have := HLE.out; omega
              have hgd := getD_rng HR.out.ns1 hj2
              have HSD := Lib.hid (sum_drop_succ hj2)
              have hpos := (sum_drop_le HR.out.ns1 (j + 1)).1
              have hatj : ats[j] < x := HR.out.lt _ (List.getElem_mem hjl)
              have hatj1 : 1 ≤ ats[j] := HR.out.ge _ (List.getElem_mem hjl)
              have A4 : Hid (ArAt wr b bm B x u' 0 ((ats[j], ns[j]) :: (ats.zip ns).drop (j + 1)) m) := by
                have := A3.out
                rw [drop_zip HLE.out hjl] at this
                exact Lib.hid this
              have hun : ns[j] ≤ u' := by have := HU3.out; have := HSD.out; omega
              have HU4 := Lib.hid (show u' - ns[j] = (ns.drop (j + 1)).sum by have := HU3.out; have := HSD.out; omega)
              go_wp2_with fail
              refine (give_head ats[j] _ A4.out (WalkArith.wf_i64 (by omega)) (by omega) (by omega) (by omega)).mono ?_
              rintro e w5 ⟨rfl, a5, f5⟩
              have A5 := Lib.hid a5
              have F5 := Lib.hid f5
              clear a5 f5
              go_wp2_with fail
              go_roundw
              case rel => exact ⟨j + 1, _, by omega, by go_num, A5.out, HU4.out, F3.out.trans F5.out⟩
              case measure => simp [intOf]; omega
            · obtain rfl : j = ats.length := by omega
              have hu0' : u' = 0 := HU3.out.trans (by rw [List.drop_of_length_le (Nat.le_of_eq HLE.out.symm), List.sum_nil])
              subst hu0'
              have HZ0 := Lib.hid (show ((ats.zip ns).drop ats.length).length = 0 by simp; omega)
              go_wp2_with (first
                | (go_at_call 9; refine (used0 b 0 _ A3.out.c2 A3.out.c3 (by omega) (by omega)).mono ?_; rintro e w' ⟨rfl, k4, rfl⟩)
                | (go_at_call 12; refine (regions_is _ (A3.out.drewN _) _ HZ0.out).mono ?_; rintro e w' ⟨rfl, rfl⟩)
                | (go_at_call 7; refine (awake_any _).mono ?_; rintro e w6 ⟨rfl, hf⟩))
              go_ret
              refine ⟨rfl, ?_⟩
              have h1 := F3.out.below HR.out.rs.bel (fun i q => by rcases q with rfl | rfl; exact HR.out.rs.nb; exact HR.out.rs.nm) HR.out.rs.bel.size
              exact (hf.below ((below_drewN h1 _)) (fun i q => q.elim) (below_drewN h1 _).size)
def takeRes (ok : Bool) (x : Int) : Value := if ok then .tuple #[.int .i64 x, .int .i64 0] else .tuple #[.int .i64 0, .int .i64 7]

end Go.Proofs.Ytplhhmhdmcohfaa

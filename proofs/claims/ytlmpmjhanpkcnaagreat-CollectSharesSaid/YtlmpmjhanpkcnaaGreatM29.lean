/-
  Collect: moved.
-/
import Derived.Test.YtlmpmjhanpkcnaaGreatM28
set_option linter.unusedVariables false
set_option linter.unusedSimpArgs false
namespace Go.Proofs.YtlmpmjhanpkcnaaGreat
open Go.RowKit Go.Maps

/-- A row's block among those that are kept. -/
def Kout (v : Value) (w : World) (K : List (Nat × Obj)) : List (Nat × Obj) := match v.ownBlock with
  | none => K
  | some b => match w.heap[b]? with | some o => (b, o) :: K | none => K

theorem Kout_none {v : Value} {w : World} {K : List (Nat × Obj)} (h : v.ownBlock = none) : Kout v w K = K := by unfold Kout; rw [h]
theorem Kout_some {v : Value} {w : World} {K : List (Nat × Obj)} {b : Nat} {o : Obj} (h : v.ownBlock = some b) (ho : w.heap[b]? = some o) : Kout v w K = (b, o) :: K := by unfold Kout; rw [h]; simp only; rw [ho]

theorem Kout_sub {v : Value} {w : World} {K : List (Nat × Obj)} : ∀ p ∈ K, p ∈ Kout v w K := by
  intro p hp
  unfold Kout
  split
  · exact hp
  · split
    · exact List.mem_cons_of_mem _ hp
    · exact hp

/-- A row that is kept. -/
theorem own_stays {w w' : World} {base e size n : Nat} {v : Value} {xs : List Value} {K : List (Nat × Obj)} (h : w.ownsRow base e size v n xs) (hk : ∀ p ∈ Kout v w K, w'.heap[p.1]? = some p.2) : w'.ownsRow base e size v n xs ∧ Kout v w' K = Kout v w K := by
  refine ⟨⟨h.1, ?_⟩, ?_⟩
  · rcases h.2 with e | ⟨g, cap, cur, e, hb, hg, r⟩
    · exact .inl e
    · have := hk (g, _) (by rw [Kout_some (by rw [e]; rfl) hg]; exact List.mem_cons_self)
      exact .inr ⟨g, cap, cur, e, hb, this, r⟩
  · rcases h.2 with ⟨e, _⟩ | ⟨g, cap, cur, e, hb, hg, r⟩
    · rw [Kout_none (by rw [e]; rfl), Kout_none (by rw [e]; rfl)]
    · have := hk (g, _) (by rw [Kout_some (by rw [e]; rfl) hg]; exact List.mem_cons_self)
      rw [Kout_some (by rw [e]; rfl) hg, Kout_some (by rw [e]; rfl) this]

/-- Behind an append to a row that is kept. -/
theorem MvSt.append {W0 w w1 w9 : World} {Y F a B e size n n9 : Nat} {mv : Value} {caps : Array Value} {K : List (Nat × Obj)} {st : Mv} {v v9 : Value} {xs xs9 : List Value} (hY : Y < W0.heap.size) (h : MvSt W0 Y mv F caps (Kout v w K) a st w)
    (hown : w.ownsRow B e size v n xs) (hB : W0.heap.size + 2 ≤ B) (hK : ∀ p ∈ K, v.ownBlock ≠ some p.1) (h1 : Below w.heap.size w w1) (hg : w1.grownBy w9 v.ownBlock) (hown9 : w9.ownsRow B e size v9 n9 xs9) (hq : v9.ownBlock = v.ownBlock ∨ v9.ownBlock = some w1.heap.size) :
    MvSt W0 Y mv F caps (Kout v9 w9 K) a st w9 ∧ ∀ p ∈ K, v9.ownBlock ≠ some p.1 := by
  have hL := h.lift hY h1
  obtain ⟨g1, g2, ⟨v', q', s1, s2, s3, s4, s5, s6⟩, g4⟩ := hL
  have hvB : ∀ b, v.ownBlock = some b → B ≤ b := fun b e => (hown.lt b e).1
  have hne : ∀ i, i < B → some i ≠ v.ownBlock := fun i hi e => by have := hvB i e.symm; omega
  have hvk : ∀ b, v.ownBlock = some b → v'.ownBlock ≠ some b ∧ q'.ownBlock ≠ some b := by
    intro b e
    have hb := (hown.lt b e).2
    obtain ⟨o, ho⟩ : ∃ o, w.heap[b]? = some o := ⟨_, Array.getElem?_eq_getElem hb⟩
    exact (s6 (b, o) (by rw [Kout_some e ho]; exact List.mem_cons_self)).2.2
  have r2' := s2.kept hg (by
    by_cases e : v'.ownBlock = none
    · exact .inl e
    · exact .inr (fun q => by obtain ⟨b, hb⟩ := Option.ne_none_iff_exists'.1 e; exact (hvk b (by first | rw [← q, hb] | rw [q, hb])).1 hb))
  have r4' := s4.kept hg (by
    by_cases e : q'.ownBlock = none
    · exact .inl e
    · exact .inr (fun q => by obtain ⟨b, hb⟩ := Option.ne_none_iff_exists'.1 e; exact (hvk b (by first | rw [← q, hb] | rw [q, hb])).2 hb))
  have hsz := hg.size
  have k6 : ∀ p ∈ K, w9.heap[p.1]? = some p.2 ∧ W0.heap.size + 2 ≤ p.1 ∧ v'.ownBlock ≠ some p.1 ∧ q'.ownBlock ≠ some p.1 := by
    intro p hp
    have s := s6 p (Kout_sub p hp)
    exact ⟨(hg.block p.1 (lt_of_block s.1) (fun e => hK p hp e.symm)).trans s.1, s.2⟩
  refine ⟨?_, fun p hp e => ?_⟩
  rotate_left
  · rcases hq with hq | hq
    · exact hK p hp (by rw [← hq]; exact e)
    · rw [hq] at e
      have := lt_of_block (s6 p (Kout_sub p hp)).1
      simp at e
      omega
  refine ⟨⟨hg.os.trans g1.os, hg.tape.trans g1.tape, hg.output.trans g1.output, Nat.le_trans g1.size hg.size, fun i hi hn => (hg.block i (by have := g1.size; omega) (hne i (by omega))).trans (g1.block i hi hn)⟩, by omega,
    ⟨v', q', (hg.block Y (by omega) (hne Y (by omega))).trans s1, r2', (hg.block _ (by omega) (hne _ (by omega))).trans s3, r4', s5, fun p hp => ?_⟩, g4.block (hg.block _ (by omega) (hne _ (by omega)))⟩
  cases e9 : v9.ownBlock with
  | none => rw [Kout_none e9] at hp; exact k6 p hp
  | some b =>
    have hb := hown9.lt b e9
    obtain ⟨o, ho⟩ : ∃ o, w9.heap[b]? = some o := ⟨_, Array.getElem?_eq_getElem hb.2⟩
    rw [Kout_some e9 ho] at hp
    rcases List.mem_cons.1 hp with rfl | hp
    · refine ⟨ho, by simp only; omega, ?_⟩
      rcases hq with hq | hq
      · exact hvk b (by rw [← hq]; exact e9)
      · rw [hq] at e9
        cases e9
        exact ⟨fun e => by have := (s2.lt _ e).2; simp only at this; omega, fun e => by have := (s4.lt _ e).2; simp only at this; omega⟩
    · exact k6 p hp

/-- Roots behind a collection. -/
def movesP (m : List Frg) (a : Nat) : List Nat → Mv → List Nat × Mv
  | [], st => ([], st)
  | x :: r, st => ((moveP m a st x).1 :: (movesP m a r (moveP m a st x).2).1, (movesP m a r (moveP m a st x).2).2)

theorem movesP_snoc (m : List Frg) (a : Nat) (x : Nat) : ∀ (L : List Nat) (st : Mv), movesP m a (L ++ [x]) st = ((movesP m a L st).1 ++ [(moveP m a (movesP m a L st).2 x).1], (moveP m a (movesP m a L st).2 x).2)
  | [], st => rfl
  | y :: r, st => by simp only [List.cons_append, movesP, movesP_snoc m a x r]

def MovedEnd (W0 : World) (Y : Nat) (mv : Value) (F : Nat) (caps : Array Value) (K : List (Nat × Obj)) (a : Nat) (out : List Nat) (st : Mv) (e : Ending) (w' : World) : Prop :=
  ∃ v, e = .returned v ∧ w'.ownsRow (W0.heap.size + 2) 47 1 v out.length (csW out) ∧ MvSt W0 Y mv F caps (Kout v w' K) a st w' ∧ ∀ p ∈ K, v.ownBlock ≠ some p.1

set_option maxHeartbeats 16000000 in
set_option maxRecDepth 100000 in
theorem moved_any (Wm W0 : World) (Y : Nat) (m : List Frg) (mv : Value) (F : Nat) (caps : Array Value) (K : List (Nat × Obj)) (a : Nat) (R : List Spt) (st0 : Mv) (rv : Value) (roots : List Nat) (w : World) (E : MvEnv Wm W0 Y m mv F caps) (h : MvSt W0 Y mv F caps K a st0 w)
    (hI : MInv m a R st0) (hR : R.length ≤ 10000) (hC : Closed m R) (hok : ∀ s ∈ R, (s.2 = 4 ∨ s.2 = 5) ∧ In64 s.1) (ha : a ≤ 1125899906842624) (hr : Ws Wm rv roots) (hrl : roots.length ≤ 1000) (hin : ∀ x ∈ roots, ∀ s, toP x = some s → s ∈ R) :
    Calls Tryz.prog 30 #[.pointer (some ⟨W0.heap.size + 1, 0, none⟩), rv] w fun e w' => MovedEnd W0 Y mv F caps K a (movesP m a roots st0).1 (scanP m a (R.length + 1) 0 (movesP m a roots st0).2) e w' := by
  have HE := Lib.hid E
  have HS := Lib.hid h
  have HI := Lib.hid hI
  have HC := Lib.hid hC
  have HOK := Lib.hid hok
  have HIN := Lib.hid hin
  have hYh := E.yh
  have hsz := h.sz
  have HKB := Lib.hid (show ∀ p ∈ K, p.1 < w.heap.size from fun p hp => lt_of_block (h.kept hp))
  obtain ⟨-, hru, ra, rc, rfl, hrc, hrm, hrx⟩ := hr
  have HRU := Lib.hid hru
  have HRX := Lib.hid hrx
  obtain ⟨i0, hi, hz0, hz1, hz2⟩ := info_parts info37
  clear E h hI hC hok hru hrx hin
  go_enter Tryz.func30, Tryz.ntmps30
  go_wp2_with fail
  go_loopw [5, 10] (fun o i wr => ∃ (k : Nat) (out : List Nat) (st : Mv), k ≤ roots.length ∧ i = .int .i64 k ∧ Hid (movesP m a (roots.take k) st0 = (out, st)) ∧ Hid (wr.ownsRow (W0.heap.size + 2) 47 1 o out.length (csW out)) ∧ Hid (MvSt W0 Y mv F caps (Kout o wr K) a st wr) ∧ Hid (MInv m a R st) ∧ Hid (out.length = k) ∧ Hid (∀ p ∈ K, o.ownBlock ≠ some p.1)) (fun _ i _ => roots.length - (intOf i).toNat)
  case atStart => exact ⟨0, [], st0, by omega, rfl, Lib.hid rfl, Lib.hid (World.ownsRow_nil _ _ _ _), Lib.hid HS.out, HI, Lib.hid rfl, Lib.hid (fun p _ e => by cases e)⟩
  case round =>
    obtain ⟨k, out, st, hk, rfl, L1, L2, L3, L4, L5, L6⟩ := hrel
    by_cases hlt : k < roots.length
    · obtain ⟨g, o, rfl, kw⟩ := HRX.out k hlt
      have kw1 := ((HE.out.below L3.out.base).cell (World.block_lt_of_cell? _ _ kw)).trans kw
      have hxu := HRU.out _ (List.getElem_mem hlt)
      have HXR := Lib.hid (HIN.out _ (List.getElem_mem hlt))
      have HTK := Lib.hid (List.take_succ_eq_append_getElem hlt)
      obtain ⟨x, hxx⟩ : ∃ x, roots[k] = x := ⟨_, rfl⟩
      rw [hxx] at kw1 hxu HXR HTK
      have p1 : (k : Int) < (roots.length : Int) := by omega
      have p2 : (0 : Int) ≤ (k : Int) := by omega
      have p5 : IntKind.i64.wrap ((k : Int) + 1) = (k : Int) + 1 := IntWalk.i64_in _ (by omega)
      have hcn := L4.out.count
      have hwn := L4.out.words
      have hol := L5.out
      clear kw hxx
      go_wp2_with fail
      refine (move_any Wm W0 Y m mv F caps _ a st x wr HE.out L3.out hxu (fun s hs => by obtain ⟨k', l', ho', _⟩ := HC.out s (HXR.out s hs); rw [ho']; rfl) ha (by omega) (by omega)).mono ?_
      rintro e w6 ⟨rfl, hms⟩
      have M1 := Lib.hid (show movesP m a (roots.take (k + 1)) st0 = (out ++ [(moveP m a st x).1], (moveP m a st x).2) by rw [HTK.out, movesP_snoc, L1.out])
      have M4 := Lib.hid (L4.out.move HXR.out).1
      generalize moveP m a st x = mr at *
      obtain ⟨y, s2⟩ := mr
      simp only at hms M1 M4
      obtain ⟨ho6, hk6⟩ := own_stays L2.out (fun p hp => hms.kept hp)
      rw [← hk6] at hms
      have O6 := Lib.hid ho6
      have S6 := Lib.hid hms
      have hs6 := hms.sz
      have B7 := Lib.hid ((Below.refl w6.heap.size w6).alloc (Nat.le_refl _) (.cells #[.int .u64 y] 47))
      clear ho6 hk6 hms kw1
      go_wp2_with (at_builtin; refine wpList_append_own_at _ rfl (.tmp 14) (.tmp 18) 22 rfl (W0.heap.size + 2) 47 i0 _ 1 8 Tryz.underlying22 hi hz0 hz1 hz2 rfl (by decide) _ out.length (csW out) rfl (World.ownsRow.alloc O6.out _) _ 1 1 [.int .u64 y] rfl rfl (fun i u hi => by
            match i with
            | 0 => simp at hi; subst hi; simp [Addr.add_lit]
            | i + 1 => simp at hi) (fun u hu => by simp at hu; subst hu; rfl) (by unfold maxLen; omega) (by omega) (by simp; omega) ?_; intro v9 w9 hown9 hgrow9 _ hloc9
                   have O9 := Lib.hid (show w9.ownsRow (W0.heap.size + 2) 47 1 v9 (out ++ [y]).length (csW (out ++ [y])) by rw [csW_snoc, List.length_append]; exact hown9)
                   have AP := Lib.hid (S6.out.append hYh O6.out (Nat.le_refl _) L6.out B7.out hgrow9 hown9 hloc9)
                   clear hown9 hgrow9 hloc9)
      go_roundw
      case rel => exact ⟨k + 1, out ++ [y], s2, by omega, by go_num, M1, O9, Lib.hid AP.out.1, M4, Lib.hid (by rw [List.length_append, hol]; rfl), Lib.hid AP.out.2⟩
      case measure => simp [intOf]; omega
    · obtain rfl : k = roots.length := by omega
      have p1 : ¬ (roots.length : Int) < (roots.length : Int) := by omega
      have HFI := Lib.hid (show movesP m a roots st0 = (out, st) by have := L1.out; rwa [List.take_length] at this)
      go_wp2_with fail
      refine (scan_any Wm W0 Y m mv F caps _ a R st wr HE.out L3.out L4.out hR HC.out HOK.out ha).mono ?_
      rintro e w6 ⟨rfl, hms⟩
      obtain ⟨ho6, hk6⟩ := own_stays L2.out (fun p hp => hms.kept hp)
      rw [← hk6] at hms
      have O6 := Lib.hid ho6
      have S6 := Lib.hid hms
      clear ho6 hk6 hms
      go_wp2_with fail
      go_ret
      refine ⟨_, rfl, ?_, ?_, L6.out⟩
      · rw [HFI.out]; exact O6.out
      · rw [HFI.out]; exact S6.out

end Go.Proofs.YtlmpmjhanpkcnaaGreat

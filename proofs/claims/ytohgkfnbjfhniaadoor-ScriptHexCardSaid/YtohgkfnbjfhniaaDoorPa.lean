/-
  script.Parse: what it says of a text.
-/
import Derived.Test.YtohgkfnbjfhniaaDoorLn
namespace Go.Proofs.YtohgkfnbjfhniaaDoor
open Go.RowKit Sp

theorem size_toList (s : ByteArray) : s.toList.length = s.size := by rw [Lib.toList_data, ← Lib.size_eq]
theorem toList_mk (l : List UInt8) : (⟨l.toArray⟩ : ByteArray).toList = l := by rw [Lib.toList_data]

theorem cut_any (s : ByteArray) (hs : s.size < 4294967281) (hne : s.toList ≠ []) (w : World) (g : GW w) :
    Calls Tryd.prog 32 #[.string s, .string ⟨#[10]⟩] w fun e w' => ∃ (one rest : ByteArray) (b : Bool) (n : Nat), Hid (linesP s.toList = one.toList :: linesP rest.toList) ∧ one.size + rest.size ≤ s.size ∧ rest.size < s.size ∧
      e = .returned (.tuple #[.string one, .string rest, .bool b]) ∧ w' = w.drewN n := by
  obtain ⟨m, hm⟩ := g.c0
  refine (Tryd.strings_Cut s ⟨#[10]⟩ m w hs hm).mono ?_
  rintro e w' ⟨rfl, n, rfl⟩
  have h1 := linesP_cut hne
  have h2 := cut_shorter hne
  rw [Lib.toList_data] at h1 h2
  refine ⟨⟨(Lib.cut s.data.toList [10]).1.toArray⟩, ⟨(Lib.cut s.data.toList [10]).2.1.toArray⟩, _, n, Lib.hid ?_, ?_, ?_, rfl, rfl⟩
  · rw [toList_mk, toList_mk, Lib.toList_data]; exact h1
  · rw [Lib.size_eq, Lib.size_eq, Lib.size_eq s]
    unfold Lib.cut
    split
    · simp; omega
    · simp
  · rw [Lib.size_eq, Lib.size_eq s]; exact h2

theorem bytesP_length {s x : List UInt8} (h : bytesP s = some x) : x.length ≤ s.length := by
  unfold bytesP at h
  split at h
  · cases h; simp
  · split at h
    · cases h
    · exact pairsP_length h

theorem lineP_grows {st st' : St} {l : List UInt8} (h : lineP st l = some st') : st'.b.length ≤ st.b.length + l.length ∧ st'.es.length ≤ st.es.length + l.length := by
  have hle := splitC_le 32 l
  unfold lineP at h
  cases hq : splitC 32 l with
  | nil => rw [hq] at h; cases h
  | cons a r =>
    rw [hq] at h hle
    simp only at h
    split at h
    · rename_i hc
      cases hb : bytesP (r.getD 0 []) with
      | none => rw [hb] at h; cases h
      | some x =>
        rw [hb] at h
        simp at h; subst h
        have h1 := bytesP_length hb
        match r, hc.2 with
        | [p], _ =>
          have := hle p (by simp)
          simp at h1 ⊢; omega
    · split at h
      · cases h
      · split at h
        · cases h; simp
        · split at h
          · rename_i he
            cases h
            have := hle a (by simp)
            rw [he] at this
            simp at this ⊢; omega
          · cases h

/-- How Parse ends. -/
def ParseEnd (w : World) (r : Sum Nat St) (e : Ending) (w' : World) : Prop :=
  (match r with
    | .inl k => e = .returned (.tuple #[.slice none 0 0, .agg #[.int .i64 0, .int .i64 0, .int .i64 0], .slice none 0 0, .int .i64 k, .int .i64 8])
    | .inr st => ∃ vb ve, e = .returned (.tuple #[vb, .agg #[.int .i64 st.c.1, .int .i64 st.c.2.1, .int .i64 st.c.2.2], ve, .int .i64 0, .int .i64 0]) ∧
        w'.ownsRow w.heap.size 5 1 vb st.b.length (cs8 st.b) ∧ w'.ownsRow w.heap.size 61 3 ve st.es.length (flat3 st.es) ∧ (vb.ownBlock = none ∨ vb.ownBlock ≠ ve.ownBlock)) ∧ Below w.heap.size w w'

theorem own_less {w : World} {b b' e size : Nat} {v : Value} {n : Nat} {xs : List Value} (h : w.ownsRow b e size v n xs) (hb : b' ≤ b) : w.ownsRow b' e size v n xs := by
  obtain ⟨h1, h2⟩ := h
  refine ⟨h1, ?_⟩
  rcases h2 with h2 | ⟨g, cap, cur, rfl, hg, r⟩
  · exact .inl h2
  · exact .inr ⟨g, cap, cur, rfl, Nat.le_trans hb hg, r⟩

structure PS (w0 : World) (s : ByteArray) (r : ByteArray) (k : Nat) (st : St) (vb ve : Value) (w : World) : Prop where
  t : TxAt w (w0.heap.size + 1) (w0.heap.size + 1) st vb ve
  run : parseP s.toList = runP k st (linesP r.toList)
  bel : Below w0.heap.size w0 w
  r0 : w.cell? ⟨w0.heap.size, 0, none⟩ = some (.int .i64 0)
  r1 : w.cell? ⟨w0.heap.size, 1, none⟩ = some (.int .i64 0)
  r2 : w.cell? ⟨w0.heap.size, 2, none⟩ = some (.int .i64 0)
  s0 : w.frozen? ⟨w0.heap.size, 0, none⟩ = false
  s1 : w.frozen? ⟨w0.heap.size, 1, none⟩ = false
  s2 : w.frozen? ⟨w0.heap.size, 2, none⟩ = false
  hb : st.b.length + r.size ≤ s.size
  he : st.es.length + r.size ≤ s.size
  hk : k + r.size ≤ s.size + 1

theorem PS.drewN {w0 : World} {s r : ByteArray} {k : Nat} {st : St} {vb ve : Value} {w : World} (h : PS w0 s r k st vb ve w) (n : Nat) : PS w0 s r k st vb ve (w.drewN n) :=
  ⟨h.t.fr ((Fr.refl (fun _ => False) w).drewN n) (fun q => q) (fun _ _ q => q) (fun _ _ q => q), h.run, below_drewN h.bel _, by simpa using h.r0, by simpa using h.r1, by simpa using h.r2, by simpa using h.s0, by simpa using h.s1, by simpa using h.s2, h.hb, h.he, h.hk⟩

theorem PS.start (w : World) (s : ByteArray) : PS w s s 1 St.zero (.slice none 0 0) (.slice none 0 0) ((w.alloc (.cells #[.int .i64 0, .int .i64 0, .int .i64 0] 38)).alloc (.cells #[.slice none 0 0, .int .i64 0, .int .i64 0, .int .i64 0, .slice none 0 0] 71)) := by
  have hz : ∀ (base e size : Nat), ((w.alloc (.cells #[.int .i64 0, .int .i64 0, .int .i64 0] 38)).alloc (.cells #[.slice none 0 0, .int .i64 0, .int .i64 0, .int .i64 0, .slice none 0 0] 71)).ownsRow base e size (.slice none 0 0) 0 [] := fun _ _ _ => World.ownsRow_nil _ _ _ _
  refine ⟨⟨?_, ?_, ?_, ?_, ?_, ?_, ?_, ?_, ?_, ?_, Nat.le_refl _, by simp, hz _ _ _, hz _ _ _, by simp [Value.ownBlock], by simp [Value.ownBlock], .inl rfl⟩, rfl, ((Below.refl _ _).alloc (Nat.le_refl _) _).alloc (by simp) _, ?_, ?_, ?_, ?_, ?_, ?_, by simp [St.zero], by simp [St.zero], by omega⟩
  all_goals simp [go_sem, St.zero]

theorem PS.step {w0 : World} {s r one rest : ByteArray} {k : Nat} {st st' : St} {vb ve vb' ve' : Value} {w w' : World} (h : PS w0 s r k st vb ve w) (hl : linesP r.toList = one.toList :: linesP rest.toList) (hq : lineP st one.toList = some st')
    (hsz : one.size + rest.size ≤ r.size) (hlt : rest.size < r.size) (ht : TxAt w' (w0.heap.size + 1) (w0.heap.size + 1) st' vb' ve') (hbel : Below (w0.heap.size + 1) w w') : PS w0 s rest (k + 1) st' vb' ve' w' := by
  have hg := lineP_grows hq
  rw [size_toList] at hg
  have h1 := h.hb
  have h2 := h.he
  have h3 := h.hk
  refine ⟨ht, ?_, h.bel.trans (hbel.mono (by omega)), ?_, ?_, ?_, ?_, ?_, ?_, by omega, by omega, by omega⟩
  · rw [h.run, hl]; simp only [runP]; rw [hq]
  · rw [hbel.cell (by simp)]; exact h.r0
  · rw [hbel.cell (by simp)]; exact h.r1
  · rw [hbel.cell (by simp)]; exact h.r2
  · rw [hbel.frozen (by simp)]; exact h.s0
  · rw [hbel.frozen (by simp)]; exact h.s1
  · rw [hbel.frozen (by simp)]; exact h.s2

set_option maxRecDepth 100000 in
set_option maxHeartbeats 4000000 in
theorem parse_any (s : ByteArray) (hs : s.size ≤ 131072) (w : World) (g : GW w) (h20 : 9 ≤ w.heap.size) :
    Calls Tryd.prog 17 #[.string s] w (ParseEnd w (parseP s.toList)) := by
  have HG := Lib.hid g
  clear g
  have q0 : ¬ (131072 : Int) < (s.size : Int) := by omega
  go_enter Tryd.func17, Tryd.ntmps17
  go_wp2_with fail
  go_loopw [0, 8] (fun r i wr => ∃ (r' : ByteArray) (k : Nat) (st : St) (vb ve : Value), r = .string r' ∧ i = .int .i64 k ∧ Hid (PS w s r' k st vb ve wr)) (fun r _ _ => match r with | .string r' => r'.size | _ => 0)
  case atStart => exact ⟨s, 1, _, _, _, rfl, rfl, Lib.hid (PS.start w s)⟩
  case round =>
    obtain ⟨r, k, st, vb, ve, rfl, rfl, HP⟩ := hrel
    by_cases hr : r.toList = []
    · have qr : (r.toList == []) = true := by simpa using hr
      have qr' : r.toList.isEmpty = true := by simpa using hr
      have HE := Lib.hid hr
      clear hr
      have HEND := Lib.hid (show parseP s.toList = .inr st by rw [HP.out.run, HE.out]; rfl)
      have c0 := HP.out.t.c0
      have c1 := HP.out.t.c1
      have c2 := HP.out.t.c2
      have c3 := HP.out.t.c3
      have c4 := HP.out.t.c4
      have r0 := HP.out.r0
      have r1 := HP.out.r1
      have r2 := HP.out.r2
      have s0 := HP.out.s0
      have s1 := HP.out.s1
      have s2 := HP.out.s2
      go_wp2_with fail
      go_region_held3 (fun w' => w'.cell? ⟨w.heap.size + 1, 0, none⟩ = some vb ∧ w'.cell? ⟨w.heap.size + 1, 1, none⟩ = some (.int .i64 st.c.1) ∧ w'.cell? ⟨w.heap.size + 1, 2, none⟩ = some (.int .i64 st.c.2.1) ∧ w'.cell? ⟨w.heap.size + 1, 3, none⟩ = some (.int .i64 st.c.2.2) ∧ w'.cell? ⟨w.heap.size + 1, 4, none⟩ = some ve)
        (go_keep) (fail)
      go_wp2
      have f : Fr (fun k => k = w.heap.size) wr (((wr.setCell ⟨w.heap.size, 0, none⟩ (.int .i64 st.c.1)).setCell ⟨w.heap.size, 1, none⟩ (.int .i64 st.c.2.1)).setCell ⟨w.heap.size, 2, none⟩ (.int .i64 st.c.2.2)).drew :=
        Fr.drew (Fr.setCell (Fr.setCell (Fr.setCell (Fr.refl (fun k => k = w.heap.size) wr) (p := ⟨w.heap.size, 0, none⟩) rfl _) (p := ⟨w.heap.size, 1, none⟩) rfl _) (p := ⟨w.heap.size, 2, none⟩) rfl _)
      have ht := HP.out.t.fr f (by omega) (fun k e => by have := (HP.out.t.ob.lt k e).1; omega) (fun k e => by have := (HP.out.t.oe.lt k e).1; omega)
      refine bodyPost_ret (v := .tuple #[vb, .agg #[.int .i64 st.c.1, .int .i64 st.c.2.1, .int .i64 st.c.2.2], ve, .int .i64 0, .int .i64 0]) (by simp [results, Tryd.results17, go_sem, r0, r1, r2]) rfl ?_
      rw [HEND.out]
      exact ⟨⟨vb, ve, rfl, own_less ht.ob (Nat.le_succ _), own_less ht.oe (Nat.le_succ _), ht.dd⟩, Fr.below HP.out.bel f (fun i q => by omega) HP.out.bel.size⟩
    · have qr : (r.toList == []) = false := by simpa using hr
      have qr' : r.toList.isEmpty = false := by simpa using hr
      have HE := Lib.hid hr
      clear hr
      have hrs : r.size ≤ s.size := by have := HP.out.hb; omega
      have GR := Lib.hid (HG.out.below HP.out.bel h20)
      have SZ := Lib.hid (Nat.le_trans h20 HP.out.bel.size)
      go_wp2_with fail
      refine (cut_any r (by omega) HE.out _ GR.out).mono ?_
      rintro e w1 ⟨one, rest, b, n, HL, hsz, hlt, rfl, rfl⟩
      have HP1 := Lib.hid (HP.out.drewN n)
      have hsz1 := HP1.out.bel.size
      have htl := HP1.out.t.lt
      go_wp2_with fail
      refine (line_any one (by omega) _ HP1.out.t (HG.out.below HP1.out.bel h20) (by omega) (by omega) (by have := HP1.out.hb; omega) (by have := HP1.out.he; omega)).mono ?_
      rintro e w2 ⟨h1, h2⟩
      cases hq : lineP st one.toList with
      | none =>
        rw [hq] at h1
        obtain rfl := h1
        have HEND := Lib.hid (show parseP s.toList = .inl k by rw [HP1.out.run, HL.out]; simp only [runP]; rw [hq])
        have r0 : w2.cell? ⟨w.heap.size, 0, none⟩ = some (.int .i64 0) := by rw [h2.cell (by simp)]; exact HP1.out.r0
        have r1 : w2.cell? ⟨w.heap.size, 1, none⟩ = some (.int .i64 0) := by rw [h2.cell (by simp)]; exact HP1.out.r1
        have r2 : w2.cell? ⟨w.heap.size, 2, none⟩ = some (.int .i64 0) := by rw [h2.cell (by simp)]; exact HP1.out.r2
        have s0 : w2.frozen? ⟨w.heap.size, 0, none⟩ = false := by rw [h2.frozen (by simp)]; exact HP1.out.s0
        have s1 : w2.frozen? ⟨w.heap.size, 1, none⟩ = false := by rw [h2.frozen (by simp)]; exact HP1.out.s1
        have s2 : w2.frozen? ⟨w.heap.size, 2, none⟩ = false := by rw [h2.frozen (by simp)]; exact HP1.out.s2
        have B2 := Lib.hid (HP1.out.bel.trans (h2.mono (Nat.le_succ _)))
        clear h2 hq
        go_wp2_with fail
        refine bodyPost_ret (v := .tuple #[.slice none 0 0, .agg #[.int .i64 0, .int .i64 0, .int .i64 0], .slice none 0 0, .int .i64 k, .int .i64 8]) (by simp [results, Tryd.results17, go_sem, r0, r1, r2]) rfl ?_
        rw [HEND.out]
        exact ⟨rfl, ((B2.out.setCell (Nat.le_refl _) _).setCell (Nat.le_refl _) _).setCell (Nat.le_refl _) _⟩
      | some st' =>
        rw [hq] at h1
        obtain ⟨rfl, vb', ve', ht⟩ := h1
        have HP2 := Lib.hid (HP1.out.step HL.out hq hsz hlt ht h2)
        clear h2 ht hq
        have q1 : IntKind.i64.wrap ((k : Int) + 1) = (k : Int) + 1 := IntWalk.i64_in _ (by have := HP1.out.hk; omega)
        go_wp2_with fail
        go_roundw
        case rel => exact ⟨rest, k + 1, st', vb', ve', rfl, by go_num, HP2⟩
        case measure => exact hlt

end Go.Proofs.YtohgkfnbjfhniaaDoor

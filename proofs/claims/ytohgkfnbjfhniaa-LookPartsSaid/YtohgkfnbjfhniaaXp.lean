/-
  How many words are reached: look.Live.
-/
import Derived.Test.YtohgkfnbjfhniaaXn
namespace Go.Proofs.Ytohgkfnbjfhniaa
open Go.RowKit Go.Maps

/-- How many words stand at a spot. -/
def objW (m : List Frg) (s : Spt) : Nat := match objP m s.1 s.2 with
  | some o => o.2.length
  | none => 0

theorem objOK_le {m : List Frg} {k : Int} {l : List Nat} (h : ObjOK m k l) : l.length ≤ 10 := by
  rcases h with (⟨rfl, h1⟩ | ⟨rfl, h1, h2⟩) | ⟨rfl, h1, h2⟩ | ⟨rfl, h1⟩ | ⟨rfl, h1, h2, h3⟩ | ⟨rfl, h1⟩ | ⟨rfl, h1⟩
  · omega
  · omega
  · omega
  · omega
  · unfold bytesW at h3
    split at h3
    · cases h3
    · rename_i q; omega
  · have := flat4_parts h1; omega
  · have := right5_parts h1; omega

theorem sumP_le {m : List Frg} : ∀ (l : List Spt), sumP (objW m) l ≤ 10 * l.length
  | [] => Nat.zero_le _
  | s :: r => by
    have ih := sumP_le (m := m) r
    have h : objW m s ≤ 10 := by
      unfold objW
      cases ho : objP m s.1 s.2 with
      | none => simp
      | some o => obtain ⟨k, l⟩ := o; exact objOK_le (objP_ok ho)
    simp only [sumP, List.map_cons, List.sum_cons, List.length_cons] at ih ⊢
    omega

theorem sumP_snoc {m : List Frg} (l : List Spt) (s : Spt) : sumP (objW m) (l ++ [s]) = sumP (objW m) l + objW m s := by
  simp [sumP]

def LiveEnd (w w' : World) (m : List Frg) (roots : List Nat) (e : Ending) : Prop := ∃ l, e = .returned (.int .i64 ((sumP (objW m) l : Nat) : Int)) ∧ ReachL m roots l ∧ Below w.heap.size w w'

theorem one_at (w : World) (o : Obj) : (w.alloc o).heap[w.heap.size]? = some o ∧ w.heap.size + 1 = (w.alloc o).heap.size ∧ Below w.heap.size w (w.alloc o) :=
  ⟨World.alloc_heap_new w o, by simp, (Below.refl _ _).alloc (Nat.le_refl _) _⟩

set_option maxHeartbeats 8000000 in
set_option maxRecDepth 100000 in
theorem live_any (d : Dmp) (v : Value) (w : World) (hd : DmAt w v d) (hf : d.frags.length ≤ 100000) (hN : wordsN d.mem ≤ 5000) (hrl : d.roots.length ≤ 1000) :
    Calls Try.prog 12 #[v] w fun e w' => LiveEnd w w' d.mem d.roots e := by
  have HD := Lib.hid hd
  obtain ⟨a, b, a', b', f, r, h, rfl, ⟨-, rfl, wa1, wc1, rfl, -⟩, ⟨-, rfl, wa2, wc2, rfl, -⟩, -, -, ⟨-, fa, fc, rfl, -⟩, hro, ⟨-, -, ha, hc, rfl, -⟩⟩ := hd
  have HRO := Lib.hid hro
  obtain ⟨-, -, ra, rc, rfl, -⟩ := hro
  have T := one_at w (.cells #[.int .i64 d.young.1, .slice wa1 d.young.2.length wc1, .int .i64 d.old.1, .slice wa2 d.old.2.length wc2, .int .i64 d.size, .int .i64 d.mark, .slice fa d.frags.length fc, .slice ra d.roots.length rc, .slice ha d.handles.length hc] 28)
  go_enter Try.func12, Try.ntmps12
  go_wp2_with fail
  generalize w.alloc (.cells #[.int .i64 d.young.1, .slice wa1 d.young.2.length wc1, .int .i64 d.old.1, .slice wa2 d.old.2.length wc2, .int .i64 d.size, .int .i64 d.mark, .slice fa d.frags.length fc, .slice ra d.roots.length rc, .slice ha d.handles.length hc] 28) = W at *
  have X0 := Lib.hid T.1
  have XS := Lib.hid T.2.1
  have XB := Lib.hid T.2.2
  clear T
  refine (of_any d _ W (HD.out.below XB.out) hf).mono ?_
  rintro e w2 ⟨mv, rfl, hm, hb2⟩
  have Y0 := Lib.hid ((hb2.block w.heap.size (by have := XS.out; omega)).trans X0.out)
  have YB := Lib.hid (XB.out.trans (hb2.mono XB.out.size))
  have HM := Lib.hid hm
  obtain ⟨-, ma, mc, rfl, -⟩ := hm
  clear hb2
  have y5 := cell_of Y0.out 7
  simp at y5
  go_wp2_with fail
  refine (reached_any d.mem d.roots _ _ w2 HM.out (HRO.out.below YB.out) hN hrl).mono ?_
  rintro e w3 ⟨v, l, rfl, hsp, hre, htg, hle, hb3⟩
  obtain ⟨hsl, sa, sc, rfl, hsc⟩ := hsp
  have HSC := Lib.hid hsc
  have HRE := Lib.hid hre
  have HTG := Lib.hid htg
  have HB3 := Lib.hid hb3
  have HLE := Lib.hid hle
  have HLL := Lib.hid (show l.length ≤ 10000 by omega)
  have HZ := Lib.hid (YB.out.trans (hb3.mono YB.out.size))
  clear hsc hre htg hb3 hle y5 hN hsl
  go_wp2_with fail
  go_loopw [4, 16] (fun n i wr => ∃ (k : Nat), k ≤ l.length ∧ i = .int .i64 k ∧ n = .int .i64 ((sumP (objW d.mem) (l.take k) : Nat) : Int) ∧ Hid (Below w3.heap.size w3 wr)) (fun _ i _ => l.length - (intOf i).toNat)
  case atStart => exact ⟨0, by omega, rfl, rfl, Lib.hid (Below.refl _ _)⟩
  case round =>
    obtain ⟨k, hk, rfl, rfl, HB⟩ := hrel
    by_cases hlt : k < l.length
    · have p1 : (k : Int) < (l.length : Int) := by omega
      have p2 : (0 : Int) ≤ (k : Int) := by omega
      obtain ⟨gr, og, rfl, k0, k1⟩ := HSC.out k hlt
      have k0 := (HB.out.cell (World.block_lt_of_cell? w3 _ k0)).trans k0
      have k1 := (HB.out.cell (World.block_lt_of_cell? w3 _ k1)).trans k1
      have HTK := Lib.hid (List.take_succ_eq_append_getElem hlt)
      have HSL := Lib.hid (show l[k] ∈ l from List.getElem_mem hlt)
      obtain ⟨⟨a, t⟩, hat⟩ : ∃ s : Spt, l[k] = s := ⟨_, rfl⟩
      rw [hat] at k0 k1 HTK HSL
      simp only at k0 k1
      have HR := Lib.hid ((HRE.out.2 _).1 HSL.out)
      obtain ⟨⟨kd, ws⟩, hok'⟩ := Option.isSome_iff_exists.1 HR.out.ok
      simp only at hok'
      have HOB := Lib.hid hok'
      have ha : -9223372036854775808 ≤ a ∧ a ≤ 9223372036854775807 := (HTG.out _ HSL.out).2
      obtain ⟨n, hn⟩ : ∃ n, sumP (objW d.mem) (l.take k) = n := ⟨_, rfl⟩
      have HNL := Lib.hid (show n ≤ 100000 by
        have := sumP_le (m := d.mem) (l.take k)
        have h2 := List.length_take_le k l
        have := HLL.out
        omega)
      have HNX := Lib.hid (show sumP (objW d.mem) (l.take (k + 1)) = n + ws.length by
        rw [HTK.out, sumP_snoc, hn]
        congr 1
        unfold objW
        rw [HOB.out])
      rw [hn]
      clear hat hok' hn
      go_upto_region 6 with fail
      have T := one_at wr (.cells #[.int .i64 a, .int .i64 t] 68)
      generalize wr.alloc (.cells #[.int .i64 a, .int .i64 t] 68) = V at *
      have V0 := Lib.hid T.1
      have VB := Lib.hid (HB.out.trans (T.2.2.mono HB.out.size))
      clear T
      have c0 := cell_of V0.out 0
      have c1 := cell_of V0.out 1
      simp at c0 c1
      clear k0 k1
      go_wp2_with fail
      have HC := object_at d.mem _ a t w2 V HM.out (HB3.out.trans (VB.out.mono HB3.out.size)) ha
      with_reducible refine HC.mono ?_
      clear HC
      rintro e w6 ⟨⟨k', v', l', ok, rfl, hws, hok, hs⟩, hb6⟩
      rw [HOB.out] at hok
      subst hok
      obtain ⟨rfl, rfl⟩ := Prod.mk.inj (hs _ HOB.out)
      obtain ⟨-, -, va, vcc, rfl, -⟩ := id hws
      have HLW := Lib.hid (objOK_le (objP_ok HOB.out))
      have Q5 := Lib.hid (show -9223372036854775808 ≤ (k : Int) + 1 ∧ (k : Int) + 1 ≤ 9223372036854775807 by have := HLL.out; omega)
      have Q6 := Lib.hid (show -9223372036854775808 ≤ (n : Int) + (ws.length : Int) ∧ (n : Int) + (ws.length : Int) ≤ 9223372036854775807 by have := HNL.out; have := HLW.out; omega)
      have QK := Lib.hid (show k + 1 ≤ l.length by omega)
      have QM := Lib.hid (show l.length - (k + 1) < l.length - k by omega)
      have p5 : IntKind.i64.wrap ((k : Int) + 1) = (k : Int) + 1 := IntWalk.i64_in _ Q5.out
      have p6 : IntKind.i64.wrap ((n : Int) + (ws.length : Int)) = (n : Int) + (ws.length : Int) := IntWalk.i64_in _ Q6.out
      have HB6 := Lib.hid (VB.out.trans (hb6.mono VB.out.size))
      clear hb6 hws hs c0 c1
      go_wp2_with fail
      go_roundw
      case rel => exact ⟨k + 1, QK.out, by go_num, by rw [HNX.out]; go_num, Lib.hid (HB6.out.alloc HB6.out.size _)⟩
      case measure => clear p5 p6; simp [intOf]; omega
    · obtain rfl : k = l.length := by omega
      have p1 : ¬ (l.length : Int) < (l.length : Int) := by omega
      rw [List.take_length]
      go_wp2_with fail
      go_ret
      exact ⟨l, rfl, HRE.out, HZ.out.trans (HB.out.mono HZ.out.size)⟩

end Go.Proofs.Ytohgkfnbjfhniaa
